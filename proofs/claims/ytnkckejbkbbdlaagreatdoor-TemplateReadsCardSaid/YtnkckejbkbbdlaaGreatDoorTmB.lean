/- Merged: Trim, Number, AddrP, AddrT, AddrFrom, AddrGroup. -/
import Derived.Test.YtnkckejbkbbdlaaGreatDoorTmA
import Derived.Test.YtnkckejbkbbdlaaGreatDoorShelf
import Derived.Shelf.Strings.SlTrimAscii
import Derived.IntWalk
import Derived.Laws.BitsAllLaws
namespace Go.Proofs.YtnkckejbkbbdlaaGreatDoor
section
open Go Go.RowKit

def trimL (l : List UInt8) : List UInt8 := Lib.trimS l [32, 9]
def digitsCs : List UInt8 := [48, 49, 50, 51, 52, 53, 54, 55, 56, 57]
def digC (c : UInt8) : Bool := decide ((48 : Int) ≤ c.toNat) && decide ((c.toNat : Int) ≤ 57)
def digitsB (l : List UInt8) : Bool := !l.isEmpty && l.all digC
theorem digC_mem (c : UInt8) : digitsCs.contains c = digC c := by
  have h : ∀ n : Fin 256, digitsCs.contains (UInt8.ofNat n.val) = digC (UInt8.ofNat n.val) := by decide +kernel
  have := h ⟨c.toNat, c.toNat_lt⟩
  simpa using this
theorem dropWhile_nil {α : Type} (p : α → Bool) : ∀ l : List α, (l.dropWhile p).isEmpty = l.all p
  | [] => rfl
  | x :: l => by
    rw [List.dropWhile_cons, List.all_cons]
    cases p x
    · rfl
    · simpa using dropWhile_nil p l
theorem all_dropWhile {α : Type} (p : α → Bool) : ∀ l : List α, (l.dropWhile p).all p = l.all p
  | [] => rfl
  | x :: l => by
    rw [List.dropWhile_cons, List.all_cons]
    cases hx : p x
    · simp [hx]
    · simpa using all_dropWhile p l
theorem trimS_nil_iff (l cs : List UInt8) : (Lib.trimS l cs).isEmpty = l.all (cs.contains ·) := by
  rw [Lib.trimS, Lib.trimLeftS, dropWhile_nil, Lib.trimRightS, List.all_reverse, all_dropWhile, List.all_reverse]
theorem trim_digits (l : List UInt8) : (Lib.trimS l digitsCs).isEmpty = l.all digC := by
  rw [trimS_nil_iff]
  congr 1
  funext c
  exact digC_mem c

theorem digits_any (l : List UInt8) (hl : l.length ≤ maxLen) (w : World) :
    Calls Tryz.prog 121 #[.string ⟨l.toArray⟩] w fun e w' => e = .returned (.bool (digitsB l)) ∧ Below w.heap.size w w' := by
  have hs : (ByteArray.mk l.toArray).size ≤ 9223372036854775807 := by unfold maxLen at hl; simp [ByteArray.size]; omega
  clear hl
  rcases l with _ | ⟨c, l⟩
  · go_enter Tryz.func121, Tryz.ntmps121
    go_wp2
    go_ret
    exact ⟨rfl, (by repeat (first | exact Below.refl _ _ | assumption | refine below_grown ?_ (by first | omega | (simp [go_sem]; done) | (simp [go_sem] <;> omega)) _ | refine Below.alloc ?_ (by first | omega | (simp [go_sem]; done) | (simp [go_sem] <;> omega)) _ | refine below_bytesW ?_ (by first | omega | (simp [go_sem]; done) | (simp [go_sem] <;> omega)) _ | refine Below.drew ?_ | refine below_drewN ?_ _))⟩
  · have hd : digitsB (c :: l) = (c :: l).all digC := rfl
    have ht := trim_digits (c :: l)
    rw [← ht] at hd
    rw [hd]
    clear hd ht
    unfold digitsCs
    obtain ⟨t, ht⟩ : ∃ t, t = c :: l := ⟨_, rfl⟩
    have h0 : t.isEmpty = false := by rw [ht]; rfl
    have h1 : t ≠ [] := by rw [ht]; simp
    rw [← ht] at hs ⊢
    clear ht
    go_enter Tryz.func121, Tryz.ntmps121
    go_wp2_with (go_at_call 135; refine (Any.strings_Trim_laid Tryz.lays160 (by kernel_rfl) _ _ _ hs (by decide) (ascii_of_all (by decide))).mono ?_; rintro e w1 ⟨rfl, hb1⟩; obtain ⟨p1, rfl⟩ := grown_of hb1; clear hb1)
    go_ret
    exact ⟨rfl, (by repeat (first | exact Below.refl _ _ | assumption | refine below_grown ?_ (by first | omega | (simp [go_sem]; done) | (simp [go_sem] <;> omega)) _ | refine Below.alloc ?_ (by first | omega | (simp [go_sem]; done) | (simp [go_sem] <;> omega)) _ | refine below_bytesW ?_ (by first | omega | (simp [go_sem]; done) | (simp [go_sem] <;> omega)) _ | refine Below.drew ?_ | refine below_drewN ?_ _))⟩

theorem all_take (l : List UInt8) (k : Nat) (h : k < l.length) : (l.take (k + 1)).all digC = ((l.take k).all digC && digC (l[k]'h)) := by
  rw [List.take_succ_eq_append_getElem h, List.all_append]
  simp
theorem refDigits_any (l : List UInt8) (hl : l.length ≤ maxLen) (w : World) :
    Calls Tryz.prog 88 #[.string ⟨l.toArray⟩] w fun e w' => e = .returned (.bool (digitsB l)) ∧ w = w' := by
  unfold maxLen at hl
  go_enter Tryz.func88, Tryz.ntmps88
  go_wp2
  go_loop [3] (fun i => ∃ k : Nat, k ≤ l.length ∧ i = .int .i64 k ∧ Hid ((l.take k).all digC = true)) (fun i => l.length - (intOf i).toNat)
  case atStart => exact ⟨0, Nat.zero_le _, rfl, rfl⟩
  case round =>
    obtain ⟨k, hk, rfl, hall⟩ := hrel
    by_cases hlt : k < l.length
    · have e := all_take l k hlt
      have HN : Hid (digC (l[k]'hlt) = false → digitsB l = false) := fun h => by
        have : l.all digC = false := by
          rw [List.all_eq_false]
          exact ⟨l[k]'hlt, List.getElem_mem _, by simp [h]⟩
        simp [digitsB, this]
      obtain ⟨c, hc⟩ : ∃ c, l[k]'hlt = c := ⟨_, rfl⟩
      rw [hc] at e HN
      have hc' : ∀ h, l[k]'h = c := fun _ => hc
      clear hc
      have HE := Lib.hid e
      clear e
      by_cases h1 : (48 : Int) ≤ c.toNat
      · by_cases h2 : (c.toNat : Int) ≤ 57
        · have hd : Hid (digC c = true) := show digC c = true by simp [digC, h1, h2]
          go_wp2
          go_round
          case rel => exact ⟨k + 1, by omega, by go_num, show _ = true by rw [HE.out, hall.out, hd.out]; rfl⟩
          case measure => simp [intOf]; omega
        · have hd : Hid (digitsB l = false) := HN.out (by simp [digC, h1, h2])
          go_wp2
          go_ret
          exact ⟨ret_bool hd.out.symm, rfl⟩
      · have hd : Hid (digitsB l = false) := HN.out (by simp [digC, h1])
        go_wp2
        go_ret
        exact ⟨ret_bool hd.out.symm, rfl⟩
    · obtain rfl : k = l.length := by omega
      have hd : Hid (decide (0 < l.length) = digitsB l) := by
        have := hall.out
        rw [List.take_length] at this
        show _ = digitsB l
        rw [digitsB, this]
        cases l <;> simp
      go_wp2
      go_ret
      exact ⟨ret_bool (by rw [← hd.out]), rfl⟩

def blankB (c : UInt8) : Bool := c == 32 || c == 9
theorem blank_mem (c : UInt8) : ([32, 9] : List UInt8).contains c = blankB c := by
  show List.elem c [32, 9] = _
  simp only [List.elem, blankB]
  cases c == 32 <;> cases c == 9 <;> rfl
theorem dropWhile_snoc {α : Type} (p : α → Bool) (l : List α) (x : α) (h : p x = false) : (l ++ [x]).dropWhile p = l.dropWhile p ++ [x] := by
  induction l with
  | nil => simp [h]
  | cons y l ih =>
    rw [List.cons_append, List.dropWhile_cons, List.dropWhile_cons, ih]
    split <;> rfl
/-- Trimming at the front first, or at the end first, is one. -/
theorem trim_comm (l cs : List UInt8) : Lib.trimRightS (Lib.trimLeftS l cs) cs = Lib.trimLeftS (Lib.trimRightS l cs) cs := by
  have key : ∀ n, ∀ l : List UInt8, l.length = n → Lib.trimRightS (Lib.trimLeftS l cs) cs = Lib.trimLeftS (Lib.trimRightS l cs) cs := by
    intro n
    induction n with
    | zero => intro l h; rw [List.length_eq_zero_iff.1 h]; rfl
    | succ n ih =>
      intro l h
      rcases List.eq_nil_or_concat l with e | ⟨l', x, e⟩
      · rw [e]; rfl
      · rw [List.concat_eq_append] at e
        subst e
        have hl : l'.length = n := by simpa using h
        cases hx : cs.contains x
        · have e1 : Lib.trimRightS (l' ++ [x]) cs = l' ++ [x] := by simp only [Lib.trimRightS, List.reverse_append, List.reverse_cons, List.reverse_nil, List.nil_append, List.singleton_append, List.dropWhile_cons, hx]; simp
          have e2 : Lib.trimLeftS (l' ++ [x]) cs = Lib.trimLeftS l' cs ++ [x] := dropWhile_snoc _ l' x hx
          rw [e1, e2]
          simp only [Lib.trimRightS, List.reverse_append, List.reverse_cons, List.reverse_nil, List.nil_append, List.singleton_append, List.dropWhile_cons, hx]
          simp
        · have e1 : ∀ m : List UInt8, Lib.trimRightS (m ++ [x]) cs = Lib.trimRightS m cs := fun m => by simp only [Lib.trimRightS, List.reverse_append, List.reverse_cons, List.reverse_nil, List.nil_append, List.singleton_append, List.dropWhile_cons, hx]; simp
          rw [e1, ← ih l' hl]
          by_cases ha : l'.all (cs.contains ·) = true
          · have e3 : Lib.trimLeftS (l' ++ [x]) cs = [] := by
              have : (l' ++ [x]).all (cs.contains ·) = true := by rw [List.all_append, ha]; simpa using hx
              have := (dropWhile_nil (cs.contains ·) (l' ++ [x])).trans this
              exact List.isEmpty_iff.1 this
            have e4 : Lib.trimLeftS l' cs = [] := List.isEmpty_iff.1 ((dropWhile_nil (cs.contains ·) l').trans ha)
            rw [e3, e4]
          · have e5 : Lib.trimLeftS (l' ++ [x]) cs = Lib.trimLeftS l' cs ++ [x] := by
              have : ∀ m : List UInt8, ¬ m.all (cs.contains ·) = true → (m ++ [x]).dropWhile (cs.contains ·) = m.dropWhile (cs.contains ·) ++ [x] := by
                intro m
                induction m with
                | nil => intro h; simp at h
                | cons y m ihm =>
                  intro h
                  rw [List.cons_append, List.dropWhile_cons, List.dropWhile_cons]
                  split
                  · rename_i hy
                    exact ihm (fun h' => h (by rw [List.all_cons, hy, h']; rfl))
                  · rfl
              exact this l' ha
            rw [e5, e1]
  exact key _ l rfl

theorem trimLeft_cons (c : UInt8) (t cs : List UInt8) : Lib.trimLeftS (c :: t) cs = if cs.contains c then Lib.trimLeftS t cs else c :: t := by
  rw [Lib.trimLeftS, List.dropWhile_cons]
  split <;> rfl
theorem trimRight_snoc (c : UInt8) (t cs : List UInt8) : Lib.trimRightS (t ++ [c]) cs = if cs.contains c then Lib.trimRightS t cs else t ++ [c] := by
  rw [Lib.trimRightS, List.reverse_append, List.reverse_singleton, List.singleton_append, List.dropWhile_cons]
  split
  · rfl
  · simp
end

section
open Go Go.RowKit
set_option linter.unusedSimpArgs false
set_option linter.unusedVariables false

def decL (l : List UInt8) : Int := l.foldl (fun n c => 10 * n + ((c.toNat : Int) - 48)) 0
def numOk (l : List UInt8) : Bool := digitsB l && (decide (l.length ≤ 18) && !(l.headD 0 == 48 && decide (1 < l.length)))
def numV (l : List UInt8) : Int := if numOk l = true then decL l else 0
theorem dec_take (l : List UInt8) (k : Nat) (h : k < l.length) : decL (l.take (k + 1)) = 10 * decL (l.take k) + (((l[k]'h).toNat : Int) - 48) := by
  rw [decL, List.take_succ_eq_append_getElem h, List.foldl_append]; rfl
theorem digC_bd {c : UInt8} (h : digC c = true) : (48 : Int) ≤ c.toNat ∧ (c.toNat : Int) ≤ 57 := by
  simpa [digC] using h
theorem dec_bd (l : List UInt8) : ∀ k, k ≤ l.length → l.all digC = true → 0 ≤ decL (l.take k) ∧ decL (l.take k) < 10 ^ k := by
  intro k
  induction k with
  | zero => intro _ _; simp [decL]
  | succ k ih =>
    intro h ha
    obtain ⟨h1, h2⟩ := ih (by omega) ha
    have hc := digC_bd (List.all_eq_true.1 ha _ (List.getElem_mem (show k < l.length by omega)))
    rw [dec_take l k (by omega), Int.pow_succ]
    generalize (10 : Int) ^ k = z at *
    omega
theorem dec_17 (l : List UInt8) (k : Nat) (hk : k < l.length) (hl : l.length ≤ 18) (ha : l.all digC = true) : 0 ≤ decL (l.take k) ∧ decL (l.take k) < 100000000000000000 := by
  obtain ⟨h1, h2⟩ := dec_bd l k (by omega) ha
  refine ⟨h1, ?_⟩
  have h3 : (10 : Int) ^ k ≤ 10 ^ 17 := by
    have := Nat.pow_le_pow_right (show 10 > 0 by decide) (show k ≤ 17 by omega)
    exact_mod_cast this
  have h4 : (10 : Int) ^ 17 = 100000000000000000 := by decide
  omega
theorem digits_all {l : List UInt8} (h : digitsB l = true) : 0 < l.length ∧ l.all digC = true := by
  simp only [digitsB, Bool.and_eq_true, Bool.not_eq_true'] at h
  exact ⟨by cases l <;> simp_all, h.2⟩
theorem numOk_iff {l : List UInt8} (h0 : 0 < l.length) : numOk l = (digitsB l && (decide (l.length ≤ 18) && !(l[0]'h0 == 48 && decide (1 < l.length)))) := by
  cases l with
  | nil => simp at h0
  | cons c l => rfl
theorem num_no {l : List UInt8} (h : numOk l = false) : numV l = 0 := by simp [numV, h]
theorem num_yes {l : List UInt8} (h : numOk l = true) : numV l = decL l := by simp [numV, h]
/-- The cases that the test parts. -/
theorem num_cases (l : List UInt8) : (digitsB l = false ∧ numOk l = false) ∨ (digitsB l = true ∧ 18 < l.length ∧ numOk l = false) ∨
    (digitsB l = true ∧ l.length ≤ 18 ∧ 1 < l.length ∧ (∀ h, (((l[0]'h).toNat : Int) == 48) = true) ∧ numOk l = false) ∨
    (digitsB l = true ∧ l.length ≤ 18 ∧ 1 < l.length ∧ (∀ h, (((l[0]'h).toNat : Int) == 48) = false) ∧ numOk l = true) ∨
    (digitsB l = true ∧ l.length = 1 ∧ numOk l = true) := by
  cases hd : digitsB l
  · exact .inl ⟨rfl, by simp [numOk, hd]⟩
  · obtain ⟨h0, _⟩ := digits_all hd
    by_cases h18 : 18 < l.length
    · refine .inr (.inl ⟨rfl, h18, ?_⟩)
      simp [numOk, show ¬ l.length ≤ 18 by omega]
    · by_cases h1 : 1 < l.length
      · rw [numOk_iff h0, hd]
        have e : ∀ h, (((l[0]'h).toNat : Int) == 48) = (l[0]'h0 == 48) := fun h => u8_lit _ 48 48 rfl
        cases hc : l[0]'h0 == 48
        · exact .inr (.inr (.inr (.inl ⟨rfl, by omega, h1, fun h => by rw [e, hc], by simp [show l.length ≤ 18 by omega]⟩)))
        · exact .inr (.inr (.inl ⟨rfl, by omega, h1, fun h => by rw [e, hc], by simp [h1]⟩))
      · refine .inr (.inr (.inr (.inr ⟨rfl, by omega, ?_⟩)))
        simp [numOk, hd, h1, show l.length ≤ 18 by omega]

theorem bytesW_cell_after {w wr : World} {l : List UInt8} (hb : Below (bytesW w l).heap.size (bytesW w l) wr) {b : Nat} (hbk : b = w.heap.size) (k : Nat) (h : k < l.length) : wr.cell? ⟨b, k, none⟩ = some (.int .u8 ((l[k]'h).toNat : Int)) := by
  subst hbk
  rw [hb.cell (p := ⟨w.heap.size, k, none⟩) (by rw [bytesW_size]; exact Nat.lt_succ_self _)]
  exact cell_bytesW w l k h
set_option maxHeartbeats 1000000 in
theorem number_any (l : List UInt8) (hl : l.length ≤ 4294967280) (w : World) :
    Calls Tryz.prog 105 #[.string ⟨l.toArray⟩] w fun e w' => e = .returned (.tuple #[.int .i64 (numV l), .bool (numOk l)]) ∧ Below w.heap.size w w' := by
  have hm : l.length ≤ maxLen := by unfold maxLen; omega
  have hyes : numOk l = true → 0 < l.length → l.length ≤ 18 → digitsB l = true → ((∀ h, (((l[0]'h).toNat : Int) == 48) = false) ∨ ¬ 1 < l.length) →
      Calls Tryz.prog 105 #[.string ⟨l.toArray⟩] w fun e w' => e = .returned (.tuple #[.int .i64 (decL l), .bool true]) ∧ Below w.heap.size w w' := by
    intro hok h0 h18 hd hor
    have hall := (digits_all hd).2
    have HA := Lib.hid hall
    have HD := digits_any l hm
    rw [hd] at HD
    have HDD := Lib.hid HD
    clear HD hd hok hall
    rcases hor with hc | h1
    all_goals
      go_enter Tryz.func105, Tryz.ntmps105
      go_wp2_with (go_at_call 121; refine (HDD.out _).mono ?_; rintro e w1 ⟨rfl, hb1⟩; obtain ⟨p1, rfl⟩ := grown_of hb1; clear hb1)
      all_goals
        go_loopw [4, 28] (fun n i wr => ∃ k : Nat, k ≤ l.length ∧ i = .int .i64 k ∧ n = .int .i64 (decL (l.take k)) ∧ Below (bytesW (grown w p1) l).heap.size (bytesW (grown w p1) l) wr) (fun _ i _ => l.length - (intOf i).toNat)
        case atStart => exact ⟨0, Nat.zero_le _, rfl, rfl, Below.refl _ _⟩
        case round =>
          obtain ⟨k, hk, rfl, rfl, hb⟩ := hrel
          by_cases hlt : k < l.length
          · have hcell := bytesW_cell_after hb (b := w.heap.size + p1.os.size) (by simp [go_sem]) k hlt
            obtain ⟨hc1, hc2⟩ := digC_bd (List.all_eq_true.1 HA.out _ (List.getElem_mem hlt))
            obtain ⟨hn1, hn2⟩ := dec_17 l k hlt h18 HA.out
            have HE := Lib.hid (dec_take l k hlt)
            generalize l[k]'hlt = c at *
            generalize decL (l.take k) = n at *
            go_wp2
            go_roundw
            case rel => exact ⟨k + 1, by omega, by go_num, by rw [HE.out]; try go_num, hb⟩
            case measure => simp [intOf]; omega
          · obtain rfl : k = l.length := by omega
            rw [List.take_length]
            go_wp2
            go_ret2
            exact ⟨rfl, (below_bytesW (below_grown (Below.refl _ _) (Nat.le_refl _) _) (by simp [go_sem]) _).trans (hb.mono (by simp [go_sem]; omega))⟩
  rcases num_cases l with ⟨hd, hok⟩ | ⟨hd, h18, hok⟩ | ⟨hd, h18, h1, hc, hok⟩ | ⟨hd, h18, h1, hc, hok⟩ | ⟨hd, h1, hok⟩
  · rw [num_no hok, hok]
    have HD := digits_any l hm
    rw [hd] at HD
    have HDD := Lib.hid HD
    clear HD hd hok hyes
    go_enter Tryz.func105, Tryz.ntmps105
    go_wp2_with (go_at_call 121; refine (HDD.out _).mono ?_; rintro e w1 ⟨rfl, hb1⟩; obtain ⟨p1, rfl⟩ := grown_of hb1; clear hb1)
    go_ret2
    exact ⟨rfl, (by repeat (first | exact Below.refl _ _ | assumption | refine below_grown ?_ (by first | omega | (simp [go_sem]; done) | (simp [go_sem] <;> omega)) _ | refine Below.alloc ?_ (by first | omega | (simp [go_sem]; done) | (simp [go_sem] <;> omega)) _ | refine below_bytesW ?_ (by first | omega | (simp [go_sem]; done) | (simp [go_sem] <;> omega)) _ | refine Below.drew ?_ | refine below_drewN ?_ _))⟩
  · rw [num_no hok, hok]
    have HD := digits_any l hm
    rw [hd] at HD
    have HDD := Lib.hid HD
    clear HD hd hok hyes
    go_enter Tryz.func105, Tryz.ntmps105
    go_wp2_with (go_at_call 121; refine (HDD.out _).mono ?_; rintro e w1 ⟨rfl, hb1⟩; obtain ⟨p1, rfl⟩ := grown_of hb1; clear hb1)
    go_ret2
    exact ⟨rfl, (by repeat (first | exact Below.refl _ _ | assumption | refine below_grown ?_ (by first | omega | (simp [go_sem]; done) | (simp [go_sem] <;> omega)) _ | refine Below.alloc ?_ (by first | omega | (simp [go_sem]; done) | (simp [go_sem] <;> omega)) _ | refine below_bytesW ?_ (by first | omega | (simp [go_sem]; done) | (simp [go_sem] <;> omega)) _ | refine Below.drew ?_ | refine below_drewN ?_ _))⟩
  · rw [num_no hok, hok]
    have HD := digits_any l hm
    rw [hd] at HD
    have HDD := Lib.hid HD
    clear HD hd hok hyes
    go_enter Tryz.func105, Tryz.ntmps105
    go_wp2_with (go_at_call 121; refine (HDD.out _).mono ?_; rintro e w1 ⟨rfl, hb1⟩; obtain ⟨p1, rfl⟩ := grown_of hb1; clear hb1)
    go_ret2
    exact ⟨rfl, (by repeat (first | exact Below.refl _ _ | assumption | refine below_grown ?_ (by first | omega | (simp [go_sem]; done) | (simp [go_sem] <;> omega)) _ | refine Below.alloc ?_ (by first | omega | (simp [go_sem]; done) | (simp [go_sem] <;> omega)) _ | refine below_bytesW ?_ (by first | omega | (simp [go_sem]; done) | (simp [go_sem] <;> omega)) _ | refine Below.drew ?_ | refine below_drewN ?_ _))⟩
  · rw [num_yes hok, hok]
    exact hyes hok (by omega) h18 hd (.inl hc)
  · rw [num_yes hok, hok]
    exact hyes hok (by omega) (by omega) hd (.inr (by omega))

set_option maxHeartbeats 1000000 in
theorem refNumber_any (l : List UInt8) (hl : l.length ≤ 4294967280) (w : World) :
    Calls Tryz.prog 68 #[.string ⟨l.toArray⟩] w fun e w' => e = .returned (.tuple #[.int .i64 (numV l), .bool (numOk l)]) ∧ w = w' := by
  have hm : l.length ≤ maxLen := by unfold maxLen; omega
  have hyes : numOk l = true → 0 < l.length → l.length ≤ 18 → digitsB l = true → ((∀ h, (((l[0]'h).toNat : Int) == 48) = false) ∨ ¬ 1 < l.length) →
      Calls Tryz.prog 68 #[.string ⟨l.toArray⟩] w fun e w' => e = .returned (.tuple #[.int .i64 (decL l), .bool true]) ∧ w = w' := by
    intro hok h0 h18 hd hor
    have hall := (digits_all hd).2
    have HA := Lib.hid hall
    have HD := refDigits_any l hm
    rw [hd] at HD
    have HDD := Lib.hid HD
    clear HD hd hok hall
    rcases hor with hc | h1
    all_goals
      go_enter Tryz.func68, Tryz.ntmps68
      go_wp2_with (go_at_call 88; refine (HDD.out _).mono ?_; rintro e w' ⟨rfl, rfl⟩)
      all_goals
        go_loop [4, 5] (fun n i => ∃ k : Nat, k ≤ l.length ∧ i = .int .i64 k ∧ n = .int .i64 (decL (l.take k))) (fun _ i => l.length - (intOf i).toNat)
        case atStart => exact ⟨0, Nat.zero_le _, rfl, rfl⟩
        case round =>
          obtain ⟨k, hk, rfl, rfl⟩ := hrel
          by_cases hlt : k < l.length
          · obtain ⟨hc1, hc2⟩ := digC_bd (List.all_eq_true.1 HA.out _ (List.getElem_mem hlt))
            obtain ⟨hn1, hn2⟩ := dec_17 l k hlt h18 HA.out
            have HE := Lib.hid (dec_take l k hlt)
            obtain ⟨c, hcc⟩ : ∃ c, ∀ h, l[k]'h = c := ⟨l[k]'hlt, fun _ => rfl⟩
            rw [hcc] at hc1 hc2 HE
            generalize decL (l.take k) = n at *
            go_wp2
            go_round
            case rel => exact ⟨k + 1, by omega, by go_num, by rw [HE.out]; try go_num⟩
            case measure => simp [intOf]; omega
          · obtain rfl : k = l.length := by omega
            rw [List.take_length]
            go_wp2
            go_ret2
            exact ⟨rfl, rfl⟩
  rcases num_cases l with ⟨hd, hok⟩ | ⟨hd, h18, hok⟩ | ⟨hd, h18, h1, hc, hok⟩ | ⟨hd, h18, h1, hc, hok⟩ | ⟨hd, h1, hok⟩
  · rw [num_no hok, hok]
    have HD := refDigits_any l hm
    rw [hd] at HD
    have HDD := Lib.hid HD
    clear HD hd hok hyes
    go_enter Tryz.func68, Tryz.ntmps68
    go_wp2_with (go_at_call 88; refine (HDD.out _).mono ?_; rintro e w' ⟨rfl, rfl⟩)
    go_ret2
    exact ⟨rfl, rfl⟩
  · rw [num_no hok, hok]
    have HD := refDigits_any l hm
    rw [hd] at HD
    have HDD := Lib.hid HD
    clear HD hd hok hyes
    go_enter Tryz.func68, Tryz.ntmps68
    go_wp2_with (go_at_call 88; refine (HDD.out _).mono ?_; rintro e w' ⟨rfl, rfl⟩)
    go_ret2
    exact ⟨rfl, rfl⟩
  · rw [num_no hok, hok]
    have HD := refDigits_any l hm
    rw [hd] at HD
    have HDD := Lib.hid HD
    clear HD hd hok hyes
    go_enter Tryz.func68, Tryz.ntmps68
    go_wp2_with (go_at_call 88; refine (HDD.out _).mono ?_; rintro e w' ⟨rfl, rfl⟩)
    go_ret2
    exact ⟨rfl, rfl⟩
  · rw [num_yes hok, hok]
    exact hyes hok (by omega) h18 hd (.inl hc)
  · rw [num_yes hok, hok]
    exact hyes hok (by omega) (by omega) hd (.inr (by omega))
end

section
open Go
set_option linter.unusedSimpArgs false
set_option linter.unusedVariables false

/-! ### bytes and groups -/
def hiB (x : UInt16) : UInt8 := UInt8.ofNat (x.toNat / 256)
def loB (x : UInt16) : UInt8 := UInt8.ofNat (x.toNat % 256)
def w16 (a b : UInt8) : UInt16 := UInt16.ofNat (a.toNat * 256 + b.toNat)
theorem hiB_nat (x : UInt16) : (hiB x).toNat = x.toNat / 256 := by
  have := x.toNat_lt
  rw [hiB, UInt8.toNat_ofNat']; omega
theorem loB_nat (x : UInt16) : (loB x).toNat = x.toNat % 256 := by
  rw [loB, UInt8.toNat_ofNat']; omega
theorem w16_nat (a b : UInt8) : (w16 a b).toNat = a.toNat * 256 + b.toNat := by
  have := a.toNat_lt
  have := b.toNat_lt
  rw [w16, UInt16.toNat_ofNat']; omega
theorem w16_hi_lo (x : UInt16) : w16 (hiB x) (loB x) = x := by
  rw [← UInt16.toNat_inj, w16_nat, hiB_nat, loB_nat]; omega
theorem hi_w16 (a b : UInt8) : hiB (w16 a b) = a := by
  have := b.toNat_lt
  rw [← UInt8.toNat_inj, hiB_nat, w16_nat]; omega
theorem lo_w16 (a b : UInt8) : loB (w16 a b) = b := by
  have := b.toNat_lt
  rw [← UInt8.toNat_inj, loB_nat, w16_nat]; omega
def fromL : List UInt16 → List UInt8
  | [] => []
  | x :: l => hiB x :: loB x :: fromL l
def grpL : List UInt8 → List UInt16
  | a :: b :: l => w16 a b :: grpL l
  | _ => []
theorem fromL_length : ∀ l, (fromL l).length = 2 * l.length
  | [] => rfl
  | x :: l => by have := fromL_length l; simp [fromL, this]; omega
theorem grpL_length : ∀ l : List UInt8, (grpL l).length = l.length / 2
  | [] => rfl
  | [x] => by simp [grpL]
  | a :: b :: l => by have := grpL_length l; simp [grpL, this]; omega
theorem grp_from : ∀ l, grpL (fromL l) = l
  | [] => rfl
  | x :: l => by rw [fromL, grpL, w16_hi_lo, grp_from l]
theorem from_grp : ∀ l : List UInt8, l.length % 2 = 0 → fromL (grpL l) = l
  | [], _ => rfl
  | [_], h => by simp at h
  | a :: b :: l, h => by rw [grpL, fromL, hi_w16, lo_w16, from_grp l (by simp at h; omega)]
theorem fromL_append : ∀ l m, fromL (l ++ m) = fromL l ++ fromL m
  | [], m => rfl
  | x :: l, m => by rw [List.cons_append, fromL, fromL_append l m]; rfl
def fromTo (g : List UInt16) (k : Nat) : List UInt8 := fromL (g.take k) ++ List.replicate (16 - 2 * k) 0
theorem set_at (A R : List UInt8) (n : Nat) (h : A.length = n) (x y a b : UInt8) : ((A ++ x :: y :: R).set n a).set (n + 1) b = A ++ a :: b :: R := by
  subst h
  simp
theorem fromTo_succ (g : List UInt16) (hg : g.length = 8) (k : Nat) (hk : k < g.length) : fromTo g (k + 1) = ((fromTo g k).set (2 * k) (hiB (g[k]'hk))).set (2 * k + 1) (loB (g[k]'hk)) := by
  have h1 : (fromL (g.take k)).length = 2 * k := by rw [fromL_length, List.length_take]; omega
  have e : List.replicate (16 - 2 * k) (0 : UInt8) = 0 :: 0 :: List.replicate (16 - 2 * (k + 1)) 0 := by
    rw [show 16 - 2 * k = (16 - 2 * (k + 1)) + 1 + 1 by omega, List.replicate_succ, List.replicate_succ]
  rw [fromTo, fromTo, e, set_at _ _ _ h1, List.take_succ_eq_append_getElem hk, fromL_append, List.append_assoc]
  rfl
theorem fromTo_zero (g : List UInt16) : fromTo g 0 = List.replicate 16 0 := by simp [fromTo, fromL]
theorem fromTo_all (g : List UInt16) (hg : g.length = 8) : fromTo g 8 = fromL g := by
  rw [fromTo, List.take_of_length_le (by omega)]; simp
theorem fromTo_length (g : List UInt16) (hg : g.length = 8) (k : Nat) (hk : k ≤ 8) : (fromTo g k).length = 16 := by
  rw [fromTo, List.length_append, fromL_length, List.length_take, List.length_replicate]; omega
theorem grpL_get : ∀ (l : List UInt8) (k : Nat) (h : k < (grpL l).length) (h1 : 2 * k < l.length) (h2 : 2 * k + 1 < l.length), (grpL l)[k]'h = w16 (l[2 * k]'h1) (l[2 * k + 1]'h2)
  | [], k, h, _, _ => by simp [grpL] at h
  | [_], k, h, _, _ => by simp [grpL] at h
  | a :: b :: l, 0, _, _, _ => rfl
  | a :: b :: l, k + 1, h, h1, h2 => by
    have := grpL_get l k (by simpa [grpL] using h) (by simp at h1; omega) (by simp at h2; omega)
    simp only [grpL, List.getElem_cons_succ, this]
    congr 1
def grpTo (a : List UInt8) (k : Nat) : List UInt16 := (grpL a).take k ++ List.replicate (8 - k) 0
theorem set_mid (A R : List UInt16) (n : Nat) (h : A.length = n) (x a : UInt16) : (A ++ x :: R).set n a = A ++ a :: R := by
  subst h
  simp
theorem grpTo_succ (a : List UInt8) (ha : a.length = 16) (k : Nat) (hk : k < 8) : grpTo a (k + 1) = (grpTo a k).set k (w16 (a[2 * k]'(by omega)) (a[2 * k + 1]'(by omega))) := by
  have hl : (grpL a).length = 8 := by rw [grpL_length, ha]
  have e : List.replicate (8 - k) (0 : UInt16) = 0 :: List.replicate (8 - (k + 1)) 0 := by
    rw [show 8 - k = (8 - (k + 1)) + 1 by omega, List.replicate_succ]
  rw [grpTo, grpTo, e, set_mid _ _ _ (by rw [List.length_take]; omega), List.take_succ_eq_append_getElem (by omega), grpL_get a k (by omega) (by omega) (by omega), List.append_assoc]
  rfl
theorem grpTo_zero (a : List UInt8) : grpTo a 0 = List.replicate 8 0 := by simp [grpTo]
theorem grpTo_all (a : List UInt8) (ha : a.length = 16) : grpTo a 8 = grpL a := by
  rw [grpTo, List.take_of_length_le (by rw [grpL_length]; omega)]; simp
theorem grpTo_length (a : List UInt8) (ha : a.length = 16) (k : Nat) (hk : k ≤ 8) : (grpTo a k).length = 8 := by
  rw [grpTo, List.length_append, List.length_take, List.length_replicate, grpL_length]; omega

/-! ### digits of sixteen -/
def hexV (c : UInt8) : Int := Lib.indexByte [48, 49, 50, 51, 52, 53, 54, 55, 56, 57, 97, 98, 99, 100, 101, 102] c
/-- A digit's value, great letters too. -/
def hexD (c : UInt8) : Int := hexV (lowC c)
def hexAll (l : List UInt8) : Bool := l.all fun c => decide (0 ≤ hexD c)
def grpOk (l : List UInt8) : Bool := decide (1 ≤ l.length) && (decide (l.length ≤ 4) && hexAll l)
def hexN (l : List UInt8) : Nat := l.foldl (fun n c => 16 * n + (hexD c).toNat) 0
def grpV (l : List UInt8) : UInt16 := UInt16.ofNat (hexN l)
theorem hexD_lt (c : UInt8) : hexD c < 16 ∧ -1 ≤ hexD c := by
  have key : ∀ i : Fin 256, hexD (UInt8.ofNat i.val) < 16 ∧ -1 ≤ hexD (UInt8.ofNat i.val) := by decide +kernel
  have := key ⟨c.toNat, c.toNat_lt⟩
  simpa using this
theorem hexN_take (l : List UInt8) (k : Nat) (h : k < l.length) : hexN (l.take (k + 1)) = 16 * hexN (l.take k) + (hexD (l[k]'h)).toNat := by
  rw [hexN, List.take_succ_eq_append_getElem h, List.foldl_append]; rfl
theorem hexN_lt (l : List UInt8) : ∀ k, k ≤ l.length → hexN (l.take k) < 16 ^ k := by
  intro k
  induction k with
  | zero => intro _; simp [hexN]
  | succ k ih =>
    intro h
    have h1 := ih (by omega)
    have h2 := hexD_lt (l[k]'(by omega))
    rw [hexN_take l k (by omega), Nat.pow_succ]
    generalize 16 ^ k = z at *
    omega
theorem hexN_lt' (l : List UInt8) (h : l.length ≤ 4) : hexN l < 65536 := by
  have h1 := hexN_lt l l.length (Nat.le_refl _)
  rw [List.take_length] at h1
  have h2 : 16 ^ l.length ≤ 16 ^ 4 := Nat.pow_le_pow_right (by decide) h
  have h3 : (16 : Nat) ^ 4 = 65536 := by decide
  omega
theorem grpV_nat (l : List UInt8) (h : l.length ≤ 4) : (grpV l).toNat = hexN l := by
  rw [grpV, UInt16.toNat_ofNat']
  have := hexN_lt' l h
  omega

/-! ### rows of groups -/
/-- The groups of a text with colons between, if they are all that. -/
def rowL (s : List UInt8) : Option (List UInt16) :=
  if s = [] then some [] else if (splitL 58 s).all grpOk = true then some ((splitL 58 s).map grpV) else none
/-- The text ahead of two colons, and the one behind. -/
def gapAt (s : List UInt8) : Int := Lib.index s [58, 58]
def v6L (s : List UInt8) : Option (List UInt16) :=
  if gapAt s = -1 then (match rowL s with | some a => if a.length = 8 then some a else none | none => none)
  else match rowL (s.take (gapAt s).toNat), rowL (s.drop ((gapAt s).toNat + 2)) with
    | some a, some b => if a.length + b.length ≤ 7 then some (a ++ List.replicate (8 - a.length - b.length) 0 ++ b) else none
    | _, _ => none
theorem v6L_length (s : List UInt8) (g : List UInt16) (h : v6L s = some g) : g.length = 8 := by
  unfold v6L at h
  split at h
  · split at h
    · split at h
      · cases h; assumption
      · cases h
    · cases h
  · split at h
    · split at h
      · cases h
        simp; omega
      · cases h
    · cases h
def v4Ok (s : List UInt8) : Bool := (splitL 46 s).length == 4 && (splitL 46 s).all fun x => numOk x && decide (numV x ≤ 255)
def v4B (s : List UInt8) : List UInt8 := List.replicate 12 0 ++ (splitL 46 s).map fun x => UInt8.ofNat (numV x).toNat
theorem splitL_app (c : UInt8) : ∀ a b : List UInt8, splitL c (a ++ c :: b) = splitL c a ++ splitL c b
  | [], b => by simp [splitL]
  | x :: a, b => by
    have ih := splitL_app c a b
    by_cases hx : x = c
    · subst hx
      rw [List.cons_append, splitL, if_pos rfl, ih, splitL, if_pos rfl]; rfl
    · obtain ⟨p, ps, h1, h2⟩ := splitL_cons c x a hx
      rw [List.cons_append, splitL, if_neg hx, ih, h1, h2]; rfl

/-! ### where two colons stand -/
/-- No two colons in a row, nor one at the end. -/
def noCC : List UInt8 → Bool
  | [] => true
  | c :: x => !(c == 58 && x.headD 58 == 58) && noCC x
theorem gap_cons (c : UInt8) (l : List UInt8) : gapAt (c :: l) = if (c == 58 && l.head? == some 58) = true then 0 else if gapAt l = -1 then -1 else gapAt l + 1 := by
  unfold gapAt
  rw [Lib.index]
  have e : ([58, 58] : List UInt8).isPrefixOf (c :: l) = (c == 58 && l.head? == some 58) := by
    cases l with
    | nil => simp [List.isPrefixOf]
    | cons d l =>
      have : ((58 : UInt8) == c) = (c == 58) := by rw [Bool.eq_iff_iff, beq_iff_eq, beq_iff_eq]; exact eq_comm
      have h2 : ((58 : UInt8) == d) = (d == 58) := by rw [Bool.eq_iff_iff, beq_iff_eq, beq_iff_eq]; exact eq_comm
      simp [List.isPrefixOf, this, h2]
  rw [e]
  split
  · rfl
  · by_cases h : Lib.index l [58, 58] = -1
    · simp [h]
    · have : (Lib.index l [58, 58] == -1) = false := by simpa using h
      simp [h, this]
theorem gap_nil : gapAt [] = -1 := by simp [gapAt, Lib.index]
theorem gap_ge (l : List UInt8) : -1 ≤ gapAt l := Lib.index_ge l [58, 58]
theorem gap_app : ∀ x y : List UInt8, noCC x = true → gapAt (x ++ 58 :: 58 :: y) = x.length
  | [], y, _ => by rw [List.nil_append, gap_cons]; rfl
  | c :: x, y, h => by
    simp only [noCC, Bool.and_eq_true, Bool.not_eq_true'] at h
    have ih := gap_app x y h.2
    have e : (c == 58 && (x ++ 58 :: 58 :: y).head? == some 58) = false := by
      cases x with
      | nil => simpa using h.1
      | cons d x => simpa using h.1
    rw [List.cons_append, gap_cons, e, ih]
    simp
theorem gap_none : ∀ x : List UInt8, noCC x = true → gapAt x = -1
  | [], _ => gap_nil
  | c :: x, h => by
    simp only [noCC, Bool.and_eq_true, Bool.not_eq_true'] at h
    have e : (c == 58 && x.head? == some 58) = false := by
      cases x with
      | nil => simp
      | cons d x => simpa using h.1
    rw [gap_cons, e, gap_none x h.2]
    simp
theorem noCC_of : ∀ x : List UInt8, (∀ p ∈ (splitL 58 x).tail, p ≠ []) → noCC x = true
  | [], _ => rfl
  | c :: x, h => by
    by_cases hc : c = 58
    · subst hc
      rw [splitL, if_pos rfl, List.tail_cons] at h
      have ih := noCC_of x (fun p hp => h p (List.mem_of_mem_tail hp))
      rw [noCC, ih, Bool.and_true]
      cases x with
      | nil => exact absurd rfl (h [] (by simp [splitL]))
      | cons d x =>
        by_cases hd : d = 58
        · subst hd
          exact absurd rfl (h [] (by simp [splitL]))
        · simpa using hd
    · obtain ⟨p, ps, h1, h2⟩ := splitL_cons 58 c x hc
      have ih := noCC_of x (by rw [h1]; rw [h2] at h; exact h)
      rw [noCC, ih]
      simp [hc]
theorem grpOk_ne {p : List UInt8} (h : grpOk p = true) : p ≠ [] := by
  rintro rfl
  revert h; decide
theorem rowL_noCC {x : List UInt8} {a : List UInt16} (h : rowL x = some a) : noCC x = true := by
  unfold rowL at h
  split at h
  · rename_i h0; rw [h0]; rfl
  · split at h
    · rename_i hall
      exact noCC_of x fun p hp => grpOk_ne (List.all_eq_true.1 hall p (List.mem_of_mem_tail hp))
    · cases h
/-- Do two colons stand at a place? -/
def ccAt (s : List UInt8) (i : Nat) : Prop := ∃ y, s.drop i = 58 :: 58 :: y
theorem gap_first : ∀ (s : List UInt8) (i : Nat), gapAt s = i → ccAt s i ∧ ∀ j, j < i → ¬ ccAt s j
  | [], i, h => by rw [gap_nil] at h; omega
  | c :: l, i, h => by
    rw [gap_cons] at h
    split at h
    · rename_i hc
      obtain rfl : i = 0 := by omega
      simp only [Bool.and_eq_true, beq_iff_eq] at hc
      obtain ⟨rfl, h2⟩ := hc
      cases l with
      | nil => cases h2
      | cons d l => simp only [List.head?_cons, Option.some.injEq] at h2; subst h2; exact ⟨⟨l, rfl⟩, fun j hj => by omega⟩
    · rename_i hc
      split at h
      · omega
      · rename_i hn
        have := gap_ge l
        obtain ⟨k, rfl⟩ : ∃ k, i = k + 1 := ⟨i - 1, by omega⟩
        obtain ⟨⟨y, h1⟩, h2⟩ := gap_first l k (by omega)
        refine ⟨⟨y, by simpa using h1⟩, fun j hj => ?_⟩
        cases j with
        | zero =>
          rintro ⟨y', h'⟩
          simp only [List.drop_zero, List.cons.injEq] at h'
          obtain ⟨rfl, rfl⟩ := h'
          exact hc (by simp)
        | succ j =>
          rintro ⟨y', h'⟩
          exact h2 j (by omega) ⟨y', by simpa using h'⟩
theorem gap_no : ∀ (s : List UInt8), gapAt s = -1 → ∀ j, ¬ ccAt s j
  | [], h, j => by rintro ⟨y, h'⟩; simp at h'
  | c :: l, h, j => by
    rw [gap_cons] at h
    split at h
    · cases h
    · rename_i hc
      split at h
      · rename_i hn
        cases j with
        | zero =>
          rintro ⟨y', h'⟩
          simp only [List.drop_zero, List.cons.injEq] at h'
          obtain ⟨rfl, rfl⟩ := h'
          exact hc (by simp)
        | succ j =>
          rintro ⟨y', h'⟩
          exact gap_no l hn j ⟨y', by simpa using h'⟩
      · have := gap_ge l
        omega
/-- What stands about two colons at a place. -/
def v6At (s : List UInt8) (i : Nat) : Option (List UInt16) :=
  match rowL (s.take i), rowL (s.drop (i + 2)) with
  | some a, some b => if a.length + b.length ≤ 7 then some (a ++ List.replicate (8 - a.length - b.length) 0 ++ b) else none
  | _, _ => none
theorem rowL_empty {x : List UInt8} (h0 : x ≠ []) (h : [] ∈ splitL 58 x) : rowL x = none := by
  rw [rowL, if_neg h0, if_neg]
  intro hall
  exact grpOk_ne (List.all_eq_true.1 hall _ h) rfl
/-- Behind an elder pair of colons there is no row ahead. -/
theorem later_none {s : List UInt8} {p k : Nat} (hp : ccAt s p) (hk : p < k) : rowL (s.take k) = none := by
  obtain ⟨y, hy⟩ := hp
  have hpl : p < s.length := by
    rcases Nat.lt_or_ge p s.length with h | h
    · exact h
    · rw [List.drop_of_length_le h] at hy; cases hy
  have e : s = s.take p ++ 58 :: 58 :: y := by rw [← hy, List.take_append_drop]
  have e2 : s.take k = s.take p ++ (58 :: 58 :: y).take (k - p) := by
    conv => lhs; rw [e]
    rw [List.take_append, List.length_take, Nat.min_eq_left (by omega), List.take_of_length_le (by rw [List.length_take]; omega)]
  obtain ⟨j, hj⟩ : ∃ j, k - p = j + 1 := ⟨k - p - 1, by omega⟩
  rw [e2, hj, List.take_succ_cons]
  refine rowL_empty (by simp) ?_
  rw [splitL_app, List.mem_append]
  right
  cases j with
  | zero => simp [splitL]
  | succ j => rw [List.take_succ_cons, splitL, if_pos rfl]; simp
theorem v6_of_gap {s : List UInt8} {k : Nat} (hk : ccAt s k) {g : List UInt16} (h : v6At s k = some g) : v6L s = some g := by
  have hg : gapAt s ≠ -1 := fun e => gap_no s e k hk
  have hge := gap_ge s
  obtain ⟨i, hi⟩ : ∃ i : Nat, gapAt s = i := ⟨(gapAt s).toNat, by unfold gapAt at *; omega⟩
  obtain ⟨h1, h2⟩ := gap_first s i hi
  have : i = k := by
    rcases Nat.lt_trichotomy i k with h' | h' | h'
    · rw [v6At, later_none h1 h'] at h; cases h
    · exact h'
    · exact absurd hk (h2 k h')
  subst this
  rw [v6L, if_neg hg, hi, Int.toNat_natCast]
  exact h
theorem v6_none_of {s : List UInt8} (h8 : gapAt s = -1 → v6L s = none) (h : ∀ k, ccAt s k → v6At s k = none) : v6L s = none := by
  by_cases hg : gapAt s = -1
  · exact h8 hg
  · have hge := gap_ge s
    obtain ⟨i, hi⟩ : ∃ i : Nat, gapAt s = i := ⟨(gapAt s).toNat, by unfold gapAt at *; omega⟩
    have := h i (gap_first s i hi).1
    rw [v6L, if_neg hg, hi, Int.toNat_natCast]
    exact this
/-- Eight groups that all stand there. -/
def eightL (s : List UInt8) : Option (List UInt16) := if (splitL 58 s).length = 8 ∧ (splitL 58 s).all grpOk = true then some ((splitL 58 s).map grpV) else none
theorem rowL_some {s : List UInt8} (h0 : s ≠ []) (h : (splitL 58 s).all grpOk = true) : rowL s = some ((splitL 58 s).map grpV) := by
  rw [rowL, if_neg h0, if_pos h]
theorem eight_v6 {s : List UInt8} {g : List UInt16} (h : eightL s = some g) : v6L s = some g := by
  unfold eightL at h
  split at h
  · rename_i hh
    obtain ⟨h1, h2⟩ := hh
    have h0 : s ≠ [] := by rintro rfl; simp [splitL] at h1
    have hr := rowL_some h0 h2
    rw [v6L, if_pos (gap_none s (rowL_noCC hr)), hr]
    cases h
    simp [h1]
  · cases h
theorem eight_none {s : List UInt8} (h : eightL s = none) (hg : gapAt s = -1) : v6L s = none := by
  rw [v6L, if_pos hg]
  by_cases h0 : s = []
  · subst h0; rfl
  · unfold rowL
    rw [if_neg h0]
    by_cases h2 : (splitL 58 s).all grpOk = true
    · rw [if_pos h2]
      unfold eightL at h
      have h1 : ¬ (splitL 58 s).length = 8 := fun h1 => by rw [if_pos ⟨h1, h2⟩] at h; cases h
      simp [h1]
    · rw [if_neg h2]
/-- Noughts with colons between. -/
def zerosT : Nat → List UInt8
  | 0 => [48]
  | k + 1 => zerosT k ++ [58, 48]
def frontT (x : List UInt8) : List UInt8 := if x = [] then [] else x ++ [58]
def backT (x : List UInt8) : List UInt8 := if x = [] then [] else 58 :: x
theorem zerosT_split : ∀ k, splitL 58 (zerosT k) = List.replicate (k + 1) [48]
  | 0 => by decide
  | k + 1 => by
    have : zerosT (k + 1) = zerosT k ++ 58 :: [48] := by simp [zerosT]
    rw [this, splitL_app, zerosT_split k]
    have h2 : splitL 58 ([48] : List UInt8) = [[48]] := by decide
    rw [h2, List.replicate_succ' (n := k + 1)]
def partsL (x : List UInt8) : List (List UInt8) := if x = [] then [] else splitL 58 x
theorem tries_split (x y : List UInt8) (k : Nat) : splitL 58 (frontT x ++ zerosT k ++ backT y) = partsL x ++ List.replicate (k + 1) [48] ++ partsL y := by
  unfold frontT backT partsL
  by_cases hx : x = [] <;> by_cases hy : y = []
  · simp [hx, hy, zerosT_split]
  · rw [if_pos hx, if_neg hy, if_pos hx, if_neg hy, List.nil_append, List.nil_append, splitL_app, zerosT_split]
  · rw [if_neg hx, if_pos hy, if_neg hx, if_pos hy, List.append_nil, List.append_nil, List.append_assoc, List.singleton_append, splitL_app, zerosT_split]
  · rw [if_neg hx, if_neg hy, if_neg hx, if_neg hy, splitL_app, List.append_assoc x, List.singleton_append, splitL_app, zerosT_split]
theorem rowL_parts (x : List UInt8) : rowL x = if (partsL x).all grpOk = true then some ((partsL x).map grpV) else none := by
  unfold rowL partsL
  by_cases hx : x = []
  · simp [hx]
  · rw [if_neg hx, if_neg hx]
theorem tries (x y : List UInt8) (k : Nat) : eightL (frontT x ++ zerosT k ++ backT y) = match rowL x, rowL y with
    | some a, some b => if a.length + b.length + (k + 1) = 8 then some (a ++ List.replicate (k + 1) 0 ++ b) else none
    | _, _ => none := by
  unfold eightL
  rw [tries_split, rowL_parts, rowL_parts]
  have h48 : grpOk [48] = true := by decide
  have hv : grpV [48] = 0 := by decide
  have hr : (List.replicate (k + 1) ([48] : List UInt8)).all grpOk = true := by
    rw [List.all_eq_true]; intro z hz; rw [List.eq_of_mem_replicate hz]; exact h48
  rw [List.all_append, List.all_append, hr]
  by_cases hx : (partsL x).all grpOk = true <;> by_cases hy : (partsL y).all grpOk = true
  · simp only [hx, hy, if_true, Bool.and_self, and_true, List.length_append, List.length_replicate, List.length_map, List.map_append, List.map_replicate, hv]
    by_cases hl : (partsL x).length + (k + 1) + (partsL y).length = 8
    · rw [if_pos hl, if_pos (by omega)]
    · rw [if_neg hl, if_neg (by omega)]
  · simp [hx, hy]
  · simp [hx, hy]
  · simp [hx, hy]
end

section
open Go
set_option linter.unusedSimpArgs false
set_option linter.unusedVariables false

/-! ### digits -/
def hexd (i : Nat) : UInt8 := ([48, 49, 50, 51, 52, 53, 54, 55, 56, 57, 97, 98, 99, 100, 101, 102] : List UInt8).getD i 0
def hexL (n : Nat) : List UInt8 :=
  if n < 16 then [hexd n] else if n < 256 then [hexd (n / 16), hexd (n % 16)] else if n < 4096 then [hexd (n / 256), hexd (n / 16 % 16), hexd (n % 16)] else [hexd (n / 4096), hexd (n / 256 % 16), hexd (n / 16 % 16), hexd (n % 16)]
theorem hexD_d (i : Nat) (h : i < 16) : hexD (hexd i) = i := by
  have key : ∀ i : Fin 16, hexD (hexd i.val) = i.val := by decide +kernel
  exact key ⟨i, h⟩
theorem hexd_vis (i : Nat) (h : i < 16) : hexd i ≠ 58 ∧ hexd i ≠ 46 ∧ ¬ (65 ≤ (hexd i).toNat ∧ (hexd i).toNat ≤ 90) := by
  have key : ∀ i : Fin 16, hexd i.val ≠ 58 ∧ hexd i.val ≠ 46 ∧ ¬ (65 ≤ (hexd i.val).toNat ∧ (hexd i.val).toNat ≤ 90) := by decide +kernel
  exact key ⟨i, h⟩
theorem hexL_mem (n : Nat) (h : n < 65536) : ∀ c ∈ hexL n, ∃ i, i < 16 ∧ c = hexd i := by
  intro c hc
  unfold hexL at hc
  split at hc
  · simp only [List.mem_singleton] at hc; exact ⟨_, by omega, hc⟩
  · split at hc
    · simp only [List.mem_cons, List.not_mem_nil, or_false] at hc
      rcases hc with hc | hc <;> exact ⟨_, by omega, hc⟩
    · split at hc
      · simp only [List.mem_cons, List.not_mem_nil, or_false] at hc
        rcases hc with hc | hc | hc <;> exact ⟨_, by omega, hc⟩
      · simp only [List.mem_cons, List.not_mem_nil, or_false] at hc
        rcases hc with hc | hc | hc | hc <;> exact ⟨_, by omega, hc⟩
theorem hexL_len (n : Nat) : 1 ≤ (hexL n).length ∧ (hexL n).length ≤ 4 := by
  unfold hexL
  split
  · simp
  · split
    · simp
    · split <;> simp
theorem hexL_ok (n : Nat) (h : n < 65536) : grpOk (hexL n) = true := by
  have h1 := hexL_len n
  have h2 : hexAll (hexL n) = true := by
    rw [hexAll, List.all_eq_true]
    intro c hc
    obtain ⟨i, hi, rfl⟩ := hexL_mem n h c hc
    rw [hexD_d i hi]; simp
  rw [grpOk, h2]
  simp [h1.1, h1.2]
theorem hexL_val (n : Nat) (h : n < 65536) : hexN (hexL n) = n := by
  unfold hexL
  split
  · rename_i h1
    simp [hexN, hexD_d _ h1]
  · split
    · simp only [hexN, List.foldl_cons, List.foldl_nil, hexD_d (n / 16) (by omega), hexD_d (n % 16) (by omega), Int.toNat_natCast]; omega
    · split
      · simp only [hexN, List.foldl_cons, List.foldl_nil, hexD_d (n / 256) (by omega), hexD_d (n / 16 % 16) (by omega), hexD_d (n % 16) (by omega), Int.toNat_natCast]; omega
      · simp only [hexN, List.foldl_cons, List.foldl_nil, hexD_d (n / 4096) (by omega), hexD_d (n / 256 % 16) (by omega), hexD_d (n / 16 % 16) (by omega), hexD_d (n % 16) (by omega), Int.toNat_natCast]; omega
theorem grpV_hex (x : UInt16) : grpV (hexL x.toNat) = x := by
  rw [← UInt16.toNat_inj, grpV_nat _ (hexL_len _).2, hexL_val _ x.toNat_lt]
theorem split_join (c : UInt8) : ∀ L : List (List UInt8), L ≠ [] → (∀ p ∈ L, c ∉ p) → splitL c (joinL c L) = L
  | [], h, _ => absurd rfl h
  | [l], _, h => splitL_none c l (h l (by simp))
  | l :: m :: L, _, h => by
    rw [joinL, splitL_append c _ _ (h l (by simp)), split_join c (m :: L) (by simp) (fun p hp => h p (by simp only [List.mem_cons] at hp ⊢; exact .inr hp))]
def writtenL (g : List UInt16) : List UInt8 := joinL 58 (g.map fun x => hexL x.toNat)
theorem hexL_no (n : Nat) (h : n < 65536) : (58 : UInt8) ∉ hexL n := fun hc => by
  obtain ⟨i, hi, e⟩ := hexL_mem n h _ hc
  exact (hexd_vis i hi).1 e.symm
theorem written_split (g : List UInt16) (h : g ≠ []) : splitL 58 (writtenL g) = g.map fun x => hexL x.toNat :=
  split_join 58 _ (by simpa using h) (fun p hp => by
    simp only [List.mem_map] at hp
    obtain ⟨x, _, rfl⟩ := hp
    exact hexL_no _ x.toNat_lt)
theorem joinL_ne (c : UInt8) : ∀ L : List (List UInt8), L ≠ [] → (∀ p ∈ L, p ≠ []) → joinL c L ≠ []
  | [], h, _ => absurd rfl h
  | [l], _, h => h l (by simp)
  | l :: m :: L, _, h => by simp [joinL]
theorem rowL_written (g : List UInt16) : rowL (writtenL g) = some g := by
  by_cases h : g = []
  · subst h; rfl
  · have h0 : writtenL g ≠ [] := joinL_ne 58 _ (by simpa using h) (fun p hp => by
      simp only [List.mem_map] at hp
      obtain ⟨x, _, rfl⟩ := hp
      intro e
      have := (hexL_len x.toNat).1
      rw [e] at this; simp at this)
    rw [rowL_some h0, written_split g h, List.map_map]
    · congr 1
      conv => rhs; rw [← List.map_id g]
      apply List.map_congr_left
      intro x _
      exact grpV_hex x
    · rw [written_split g h, List.all_eq_true]
      intro p hp
      simp only [List.mem_map] at hp
      obtain ⟨x, _, rfl⟩ := hp
      exact hexL_ok _ x.toNat_lt

/-! ### the longest row of noughts -/
def zStep (st : Nat × Nat × Nat × Nat) (z : Bool) : Nat × Nat × Nat × Nat :=
  let r := if z then st.2.2.2 + 1 else 0
  if st.2.2.1 < r then (st.1 + 1, st.1 + 1 - r, r, r) else (st.1 + 1, st.2.1, st.2.2.1, r)
def zState (l : List Bool) : Nat × Nat × Nat × Nat := l.foldl zStep (0, 0, 0, 0)
def zAt (l : List Bool) : Nat := (zState l).2.1
def zLong (l : List Bool) : Nat := (zState l).2.2.1
def winB (z : List Bool) (a n : Nat) : Bool := ((z.drop a).take n).all id
def zGood (z : List Bool) : Bool :=
  if 2 ≤ zLong z then winB z (zAt z) (zLong z) && (decide (zAt z + zLong z ≤ 8) && ((List.range 9).all (fun n => decide (n ≤ zLong z) || (List.range 9).all fun a => decide (8 < a + n) || !winB z a n) && (List.range (zAt z)).all fun a => !winB z a (zLong z)))
  else (List.range 9).all fun n => decide (n < 2) || (List.range 9).all fun a => decide (8 < a + n) || !winB z a n
theorem zGood_all : ∀ a b c d e f g h : Bool, zGood [a, b, c, d, e, f, g, h] = true := by decide +kernel
theorem list8 {α : Type} (l : List α) (h : l.length = 8) : ∃ a b c d e f g i, l = [a, b, c, d, e, f, g, i] := by
  match l, h with
  | [a, b, c, d, e, f, g, i], _ => exact ⟨a, b, c, d, e, f, g, i, rfl⟩
theorem z_good (z : List Bool) (hz : z.length = 8) : zGood z = true := by
  obtain ⟨a, b, c, d, e, f, g, h, rfl⟩ := list8 z hz
  exact zGood_all a b c d e f g h
theorem z_long {z : List Bool} (hz : z.length = 8) (h2 : 2 ≤ zLong z) : winB z (zAt z) (zLong z) = true ∧ zAt z + zLong z ≤ 8 ∧ (∀ n a, zLong z < n → a + n ≤ 8 → winB z a n = false) ∧ ∀ a, a < zAt z → winB z a (zLong z) = false := by
  have h := z_good z hz
  rw [zGood, if_pos h2] at h
  simp only [Bool.and_eq_true, decide_eq_true_eq, List.all_eq_true, List.mem_range, Bool.or_eq_true, Bool.not_eq_true'] at h
  refine ⟨h.1, h.2.1, fun n a hn ha => ?_, h.2.2.2⟩
  rcases h.2.2.1 n (by omega) with h' | h'
  · omega
  · rcases h' a (by omega) with h' | h'
    · omega
    · exact h'
theorem z_short {z : List Bool} (hz : z.length = 8) (h2 : zLong z < 2) (n a : Nat) (hn : 2 ≤ n) (ha : a + n ≤ 8) : winB z a n = false := by
  have h := z_good z hz
  rw [zGood, if_neg (by omega)] at h
  simp only [decide_eq_true_eq, List.all_eq_true, List.mem_range, Bool.or_eq_true, Bool.not_eq_true'] at h
  rcases h n (by omega) with h' | h'
  · omega
  · rcases h' a (by omega) with h' | h'
    · omega
    · exact h'
/-- The first window, the long ones first, is the row that is told. -/
theorem z_first {z : List Bool} (hz : z.length = 8) {n a : Nat} (hn : 2 ≤ n) (ha : a + n ≤ 8) (hw : winB z a n = true) (hlong : ∀ n' a', n < n' → a' + n' ≤ 8 → winB z a' n' = false) (hat : ∀ a', a' < a → winB z a' n = false) : zLong z = n ∧ zAt z = a := by
  by_cases h2 : zLong z < 2
  · rw [z_short hz h2 n a hn ha] at hw; cases hw
  · obtain ⟨w1, w2, w3, w4⟩ := z_long hz (by omega)
    have e : zLong z = n := by
      rcases Nat.lt_trichotomy (zLong z) n with h | h | h
      · rw [w3 n a h ha] at hw; cases hw
      · exact h
      · rw [hlong _ _ h w2] at w1; cases w1
    refine ⟨e, ?_⟩
    rw [e] at w1 w4
    rcases Nat.lt_trichotomy (zAt z) a with h | h | h
    · rw [hat _ h] at w1; cases w1
    · exact h
    · rw [w4 a h] at hw; cases hw
def nulls (g : List UInt16) : List Bool := g.map fun x => x == 0
def text6G (g : List UInt16) : List UInt8 :=
  if zLong (nulls g) < 2 then writtenL g else writtenL (g.take (zAt (nulls g))) ++ [58, 58] ++ writtenL (g.drop (zAt (nulls g) + zLong (nulls g)))
def text6L (a : List UInt8) : List UInt8 := text6G (grpL a)
theorem win_zeros (g : List UInt16) (a n : Nat) (hw : winB (nulls g) a n = true) (ha : a + n ≤ g.length) : g = g.take a ++ List.replicate n 0 ++ g.drop (a + n) := by
  have e : (g.drop a).take n = List.replicate n 0 := by
    rw [List.eq_replicate_iff]
    refine ⟨by rw [List.length_take, List.length_drop]; omega, fun x hx => ?_⟩
    unfold winB nulls at hw
    rw [← List.map_drop, ← List.map_take, List.all_eq_true] at hw
    have := hw (x == 0) (List.mem_map_of_mem hx)
    simpa using this
  have h1 : g = g.take a ++ ((g.drop a).take n ++ (g.drop a).drop n) := by rw [List.take_append_drop, List.take_append_drop]
  rw [e, List.drop_drop] at h1
  rw [List.append_assoc]
  exact h1
theorem v6_text (g : List UInt16) (hg : g.length = 8) : v6L (text6G g) = some g := by
  have hz : (nulls g).length = 8 := by simp [nulls, hg]
  unfold text6G
  split
  · have hr := rowL_written g
    rw [v6L, if_pos (gap_none _ (rowL_noCC hr)), hr]
    simp [hg]
  · rename_i h2
    obtain ⟨w1, w2, _, _⟩ := z_long hz (by omega)
    have hr1 := rowL_written (g.take (zAt (nulls g)))
    have hr2 := rowL_written (g.drop (zAt (nulls g) + zLong (nulls g)))
    have e : writtenL (g.take (zAt (nulls g))) ++ [58, 58] ++ writtenL (g.drop (zAt (nulls g) + zLong (nulls g))) = writtenL (g.take (zAt (nulls g))) ++ 58 :: 58 :: writtenL (g.drop (zAt (nulls g) + zLong (nulls g))) := by simp
    rw [e]
    have hgap := gap_app (writtenL (g.take (zAt (nulls g)))) (writtenL (g.drop (zAt (nulls g) + zLong (nulls g)))) (rowL_noCC hr1)
    rw [v6L, if_neg (by omega), hgap, Int.toNat_natCast, List.take_left, hr1]
    have e2 : (writtenL (g.take (zAt (nulls g))) ++ 58 :: 58 :: writtenL (g.drop (zAt (nulls g) + zLong (nulls g)))).drop ((writtenL (g.take (zAt (nulls g)))).length + 2) = writtenL (g.drop (zAt (nulls g) + zLong (nulls g))) := by
      rw [List.drop_append, List.drop_of_length_le (by omega)]
      simp
    rw [e2, hr2]
    simp only [List.length_take, List.length_drop, hg]
    rw [if_pos (by omega)]
    congr 1
    have := win_zeros g _ _ w1 (by omega)
    conv => rhs; rw [this]
    congr 2
    congr 1
    omega
theorem text6_inj (a b : List UInt8) (ha : a.length = 16) (hb : b.length = 16) (h : text6L a = text6L b) : a = b := by
  have h1 := v6_text (grpL a) (by rw [grpL_length, ha])
  have h2 := v6_text (grpL b) (by rw [grpL_length, hb])
  rw [text6L, text6L] at h
  rw [h, h2] at h1
  have : grpL b = grpL a := Option.some.inj h1
  rw [← from_grp a (by omega), ← from_grp b (by omega), this]

/-! ### four numbers -/
def decT (n : Nat) : List UInt8 :=
  if n < 10 then [UInt8.ofNat (48 + n)] else if n < 100 then [UInt8.ofNat (48 + n / 10), UInt8.ofNat (48 + n % 10)] else [UInt8.ofNat (48 + n / 100), UInt8.ofNat (48 + n / 10 % 10), UInt8.ofNat (48 + n % 10)]
def text4L (a : List UInt8) : List UInt8 := joinL 46 ((a.drop 12).map fun c => decT c.toNat)
theorem decT_ok (c : UInt8) : numOk (decT c.toNat) = true ∧ numV (decT c.toNat) = c.toNat ∧ (46 : UInt8) ∉ decT c.toNat ∧ (decT c.toNat).length ≤ 3 := by
  have key : ∀ i : Fin 256, numOk (decT i.val) = true ∧ numV (decT i.val) = i.val ∧ (46 : UInt8) ∉ decT i.val ∧ (decT i.val).length ≤ 3 := by decide +kernel
  exact key ⟨c.toNat, c.toNat_lt⟩
theorem text4_split (a : List UInt8) (ha : a.length = 16) : splitL 46 (text4L a) = (a.drop 12).map fun c => decT c.toNat :=
  split_join 46 _ (fun e => by have := congrArg List.length e; simp [ha] at this) (fun p hp => by
    simp only [List.mem_map] at hp
    obtain ⟨x, _, rfl⟩ := hp
    exact (decT_ok x).2.2.1)
theorem v4_text (a : List UInt8) (ha : a.length = 16) : v4Ok (text4L a) = true ∧ v4B (text4L a) = List.replicate 12 0 ++ a.drop 12 := by
  rw [v4Ok, v4B, text4_split a ha]
  constructor
  · rw [Bool.and_eq_true, List.all_eq_true]
    refine ⟨by simp [ha], fun p hp => ?_⟩
    simp only [List.mem_map] at hp
    obtain ⟨x, _, rfl⟩ := hp
    obtain ⟨h1, h2, _, _⟩ := decT_ok x
    have := x.toNat_lt
    rw [h1, h2]
    simp
    omega
  · congr 1
    rw [List.map_map]
    conv => rhs; rw [← List.map_id (a.drop 12)]
    apply List.map_congr_left
    intro x _
    simp [(decT_ok x).2.1]

/-! ### how long, and which signs -/
theorem joinL_mem (c : UInt8) : ∀ (L : List (List UInt8)) (x : UInt8), x ∈ joinL c L → x = c ∨ ∃ p ∈ L, x ∈ p
  | [], x, h => by simp [joinL] at h
  | [l], x, h => .inr ⟨l, by simp, h⟩
  | l :: m :: L, x, h => by
    rw [joinL, List.mem_append, List.mem_cons] at h
    rcases h with h | h | h
    · exact .inr ⟨l, by simp, h⟩
    · exact .inl h
    · rcases joinL_mem c (m :: L) x h with h | ⟨p, hp, hx⟩
      · exact .inl h
      · exact .inr ⟨p, by simp only [List.mem_cons] at hp ⊢; exact .inr hp, hx⟩
theorem written_low (g : List UInt16) (x : UInt8) (h : x ∈ writtenL g) : ¬ (65 ≤ x.toNat ∧ x.toNat ≤ 90) := by
  rcases joinL_mem 58 _ x h with rfl | ⟨p, hp, hx⟩
  · decide
  · simp only [List.mem_map] at hp
    obtain ⟨y, _, rfl⟩ := hp
    obtain ⟨i, hi, rfl⟩ := hexL_mem _ y.toNat_lt x hx
    exact (hexd_vis i hi).2.2
theorem text6_low (g : List UInt16) (x : UInt8) (h : x ∈ text6G g) : ¬ (65 ≤ x.toNat ∧ x.toNat ≤ 90) := by
  unfold text6G at h
  split at h
  · exact written_low g x h
  · simp only [List.mem_append, List.mem_cons, List.not_mem_nil, or_false] at h
    rcases h with (h | rfl | rfl) | h
    · exact written_low _ x h
    · decide
    · decide
    · exact written_low _ x h
theorem written_len : ∀ g : List UInt16, (writtenL g).length ≤ 5 * g.length ∧ (g ≠ [] → (writtenL g).length + 1 ≤ 5 * g.length ∧ 2 * g.length ≤ (writtenL g).length + 1)
  | [] => ⟨by simp [writtenL, joinL], fun h => absurd rfl h⟩
  | [x] => by
    have := hexL_len x.toNat
    have e : writtenL [x] = hexL x.toNat := rfl
    rw [e]; simp; omega
  | x :: y :: g => by
    have ih := (written_len (y :: g)).2 (by simp)
    have := hexL_len x.toNat
    have e : writtenL (x :: y :: g) = hexL x.toNat ++ 58 :: writtenL (y :: g) := rfl
    rw [e]
    simp only [List.length_append, List.length_cons] at *
    omega
theorem text6_len (g : List UInt16) (hg : g.length = 8) : 2 ≤ (text6G g).length ∧ (text6G g).length ≤ 39 := by
  have hz : (nulls g).length = 8 := by simp [nulls, hg]
  unfold text6G
  split
  · have := (written_len g).2 (by rintro rfl; simp at hg)
    omega
  · rename_i h2
    obtain ⟨_, w2, _, _⟩ := z_long hz (by omega)
    have h1 := (written_len (g.take (zAt (nulls g)))).1
    have h3 := (written_len (g.drop (zAt (nulls g) + zLong (nulls g)))).1
    simp only [List.length_take, List.length_drop, hg] at h1 h3
    simp only [List.length_append, List.length_cons, List.length_nil]
    omega
end

section
open Go Go.RowKit
set_option maxRecDepth 20000
set_option linter.unusedSimpArgs false
set_option linter.unusedVariables false

def fromG (g : GGroups) : GAddr := ⟨fromL g.g, by rw [fromL_length, g.len]⟩
def grpG (a : GAddr) : GGroups := ⟨grpL a.b, by rw [grpL_length, a.len]⟩
theorem hi_int (x : UInt16) : (x.toNat : Int) / 256 % 256 = ((hiB x).toNat : Int) := by
  have := x.toNat_lt
  rw [hiB_nat]; omega
theorem lo_int (x : UInt16) : (x.toNat : Int) % 256 = ((loB x).toNat : Int) := by
  rw [loB_nat]; omega
theorem from_any (g : GGroups) (w : World) :
    Calls Tryz.prog 134 #[.agg (groupsC g)] w fun e w' => e = .returned (.agg (addrC (fromG g))) ∧ Below w.heap.size w w' := by
  go_enter Tryz.func134, Tryz.ntmps134
  go_wp2
  go_loopw [5] (fun i wr => ∃ k : Nat, k ≤ 8 ∧ i = .int .i64 k ∧ Below w.heap.size w wr ∧ Var wr w.heap.size (groupsL g) ∧ Var wr (w.heap.size + 1) (u8Cod.encs (List.replicate 16 0)) ∧ Var wr (w.heap.size + 1 + 1) (u8Cod.encs (fromTo g.g k))) (fun i _ => 8 - (intOf i).toNat)
  case atStart => exact ⟨0, by omega, rfl, (by repeat (first | exact Below.refl _ _ | assumption | refine below_grown ?_ (by first | omega | (simp [go_sem]; done) | (simp [go_sem] <;> omega)) _ | refine Below.alloc ?_ (by first | omega | (simp [go_sem]; done) | (simp [go_sem] <;> omega)) _ | refine below_bytesW ?_ (by first | omega | (simp [go_sem]; done) | (simp [go_sem] <;> omega)) _ | refine Below.drew ?_ | refine below_drewN ?_ _)), ((Var.new _ _ _ rfl rfl).alloc _).alloc _, (Var.new _ _ _ rfl (by simp)).alloc _, Var.new _ _ _ rfl (by simp)⟩
  case round =>
    obtain ⟨k, hk, rfl, hb, hg, hr, ha⟩ := hrel
    have hlen := g.len
    by_cases hlt : k < 8
    · have hc := u16At hg.list k (by omega)
      rw [Nat.zero_add] at hc
      have hl16 := fromTo_length g.g hlen k hk
      have h1 := ha.cell (2 * k) (by rw [u8Len, hl16]; omega)
      have h2 := ha.cell (2 * k + 1) (by rw [u8Len, hl16]; omega)
      have f1 := ha.free (2 * k)
      have f2 := ha.free (2 * k + 1)
      have HE := Lib.hid (fromTo_succ g.g hlen k (by omega))
      generalize (u8Cod.encs (fromTo g.g k))[2 * k]'_ = v1 at *
      generalize (u8Cod.encs (fromTo g.g k))[2 * k + 1]'_ = v2 at *
      generalize g.g[k]'(by omega) = x at *
      have HB := Lib.hid hb
      clear hb
      go_wp2
      go_region
      rw [hi_int x, lo_int x]
      go_wp2
      go_roundw
      case rel =>
        refine ⟨k + 1, by omega, by go_num, below_drew ((HB.out.setCell (by first | omega | (simp; done) | (simp; omega)) _).setCell (by first | omega | (simp; done) | (simp; omega)) _), ((hg.setCell_other _ _ (by first | omega | (simp; done) | (simp; omega))).setCell_other _ _ (by first | omega | (simp; done) | (simp; omega))).drew, ((hr.setCell_other _ _ (by first | omega | (simp; done) | (simp; omega))).setCell_other _ _ (by first | omega | (simp; done) | (simp; omega))).drew, ?_⟩
        rw [HE.out, ← u8Set, ← u8Set]
        exact ((ha.setCell _ _).setCell _ _).drew
      case measure => simp [intOf]; omega
    · obtain rfl : k = 8 := by omega
      rw [fromTo_all g.g hlen] at ha
      have h1 : hasRow wr ⟨w.heap.size + 1 + 1, 0, none⟩ 16 = true := ha.hasRow (by rw [u8Len, fromL_length, hlen])
      have h2 : rowAt wr ⟨w.heap.size + 1 + 1, 0, none⟩ 16 = addrC (fromG g) := by rw [ha.rowAt (by rw [u8Len, fromL_length, hlen]), addrC_encs]; rfl
      have h3 : hasVar wr (w.heap.size + 1) 16 = true := hr.has rfl
      go_wp2
      exact ret_cell (w.heap.size + 1) (addrC (fromG g)) rfl rfl agg_addr (by simp [go_sem, h3]) (by simp [go_sem, h3]) rfl ⟨rfl, below_setRow hb (by omega) _⟩
theorem w16_int (a b : UInt8) : bits .or .u16 (IntKind.u16.wrap (IntKind.u16.wrap (a.toNat : Int) * 256)) (IntKind.u16.wrap (b.toNat : Int)) = ((w16 a b).toNat : Int) := by
  have ha := a.toNat_lt
  have hb := b.toNat_lt
  rw [IntWalk.u16_in (a.toNat : Int) (by omega), IntWalk.u16_in (b.toNat : Int) (by omega)]
  have h1 : IntKind.u16.wrap ((a.toNat : Int) * 256) = ((2 ^ 8 * a.toNat : Nat) : Int) := by
    rw [show (a.toNat : Int) * 256 = ((2 ^ 8 * a.toNat : Nat) : Int) by push_cast; omega]
    exact IntWalk.u16_in _ (by omega)
  rw [h1, u16_or_nat _ _ (by omega) (by omega), ← Nat.two_pow_add_eq_or_of_lt (by omega), w16_nat]
  congr 1
  omega
end

section
open Go Go.RowKit
set_option maxRecDepth 20000
set_option linter.unusedSimpArgs false
set_option linter.unusedVariables false

def grpR (s : List UInt8) : UInt16 := if grpOk s = true then grpV s else 0
theorem grp_no {s : List UInt8} (h : grpOk s = false) : grpR s = 0 := by simp [grpR, h]
theorem grp_yes {s : List UInt8} (h : grpOk s = true) : grpR s = grpV s := by simp [grpR, h]
theorem all_take_hex (l : List UInt8) (k : Nat) (h : k < l.length) : hexAll (l.take (k + 1)) = (hexAll (l.take k) && decide (0 ≤ hexD (l[k]'h))) := by
  rw [hexAll, List.take_succ_eq_append_getElem h, List.all_append]; simp [hexAll]
theorem hexAll_get (l : List UInt8) (k : Nat) (h : k < l.length) (hn : hexD (l[k]'h) < 0) : grpOk l = false := by
  have : hexAll l = false := by
    rw [hexAll, List.all_eq_false]
    exact ⟨l[k]'h, List.getElem_mem h, by simpa using hn⟩
  simp [grpOk, this]
theorem hexN_step (n : Nat) (d : Int) (hn : n < 4096) (h0 : 0 ≤ d) (h1 : d < 16) : bits .or .u16 ((n : Int) * 16) d = ((16 * n + d.toNat : Nat) : Int) := by
  obtain ⟨m, rfl⟩ : ∃ m : Nat, d = m := ⟨d.toNat, by omega⟩
  have e1 : (n : Int) * 16 = ((2 ^ 4 * n : Nat) : Int) := by push_cast; omega
  rw [e1, u16_or_nat _ _ (by omega) (by omega), ← Nat.two_pow_add_eq_or_of_lt (by omega)]
  simp
theorem hexN_small (l : List UInt8) (k : Nat) (h : k < l.length) (h4 : l.length ≤ 4) : hexN (l.take k) < 4096 := by
  have h1 := hexN_lt l k (by omega)
  have h2 : 16 ^ k ≤ 16 ^ 3 := Nat.pow_le_pow_right (by decide) (by omega)
  have h3 : (16 : Nat) ^ 3 = 4096 := by decide
  omega
theorem ixb_any (c : UInt8) (w : World) : Calls Tryz.prog 114 #[.string ⟨[48, 49, 50, 51, 52, 53, 54, 55, 56, 57, 97, 98, 99, 100, 101, 102].toArray⟩, .int .u8 (c.toNat : Int)] w fun e w' => e = .returned (.int .i64 (hexV c)) ∧ w = w' := by
  refine (Tryz.strings_IndexByte ⟨[48, 49, 50, 51, 52, 53, 54, 55, 56, 57, 97, 98, 99, 100, 101, 102].toArray⟩ (c.toNat : Int) w).mono fun e w1 ⟨he, hw⟩ => ⟨?_, hw.symm⟩
  rw [he, hexV]
  simp
set_option maxHeartbeats 1000000 in
theorem group_any (l : List UInt8) (hl : l.length ≤ 4294967280) (w : World) :
    Calls Tryz.prog 140 #[.string ⟨l.toArray⟩] w fun e w' => e = .returned (.tuple #[.int .u16 ((grpR l).toNat : Int), .bool (grpOk l)]) ∧ Below w.heap.size w w' := by
  by_cases h1 : l.length < 1
  · have hok : grpOk l = false := by simp [grpOk]; omega
    rw [grp_no hok, hok]
    clear hok
    go_enter Tryz.func140, Tryz.ntmps140
    go_wp2
    go_ret2
    exact ⟨rfl, (by repeat (first | exact Below.refl _ _ | assumption | refine below_grown ?_ (by first | omega | (simp [go_sem]; done) | (simp [go_sem] <;> omega)) _ | refine Below.alloc ?_ (by first | omega | (simp [go_sem]; done) | (simp [go_sem] <;> omega)) _ | refine below_bytesW ?_ (by first | omega | (simp [go_sem]; done) | (simp [go_sem] <;> omega)) _ | refine Below.drew ?_ | refine below_drewN ?_ _))⟩
  · by_cases h4 : 4 < l.length
    · have hok : grpOk l = false := by simp [grpOk]; omega
      rw [grp_no hok, hok]
      clear hok
      go_enter Tryz.func140, Tryz.ntmps140
      go_wp2
      go_ret2
      exact ⟨rfl, (by repeat (first | exact Below.refl _ _ | assumption | refine below_grown ?_ (by first | omega | (simp [go_sem]; done) | (simp [go_sem] <;> omega)) _ | refine Below.alloc ?_ (by first | omega | (simp [go_sem]; done) | (simp [go_sem] <;> omega)) _ | refine below_bytesW ?_ (by first | omega | (simp [go_sem]; done) | (simp [go_sem] <;> omega)) _ | refine Below.drew ?_ | refine below_drewN ?_ _))⟩
    · have hml : l.length ≤ maxLen := by unfold maxLen; omega
      have hlo : Hid (∀ w, Calls Tryz.prog 115 #[.string ⟨l.toArray⟩] w fun e w' => e = .returned (.string ⟨(lowerL l).toArray⟩) ∧ Below w.heap.size w w') := fun w => lower_any l hml w
      have hle1 : (lowerL l).length ≤ l.length := by simp [lowerL]
      have hle2 : l.length ≤ (lowerL l).length := by simp [lowerL]
      have HG : Hid (∀ k (h : k < l.length) (h' : k < (lowerL l).length), (lowerL l)[k]'h' = lowC (l[k]'h)) := fun k h h' => by simp [lowerL]
      generalize lowerL l = m at *
      have HNO : Hid (grpOk l = false → grpR l = 0) := fun h => grp_no h
      have HYES : Hid (hexAll l = true → grpOk l = true ∧ grpR l = grpV l ∧ (grpV l).toNat = hexN l) := fun h => by
        have hok : grpOk l = true := by rw [grpOk, h]; simp; omega
        exact ⟨hok, grp_yes hok, grpV_nat l (by omega)⟩
      have HBAD : Hid (∀ k (h : k < l.length), hexD (l[k]'h) < 0 → grpOk l = false) := fun k h hn => hexAll_get l k h hn
      generalize hR : grpR l = R at *
      generalize hO : grpOk l = ok at *
      have HRO := Lib.hid (And.intro hR hO)
      clear hR hO
      go_enter Tryz.func140, Tryz.ntmps140
      go_wp2_with (go_at_call 115; refine (hlo.out _).mono ?_; rintro e w1 ⟨rfl, hb1⟩; obtain ⟨p1, rfl⟩ := grown_of hb1; clear hb1)
      go_loopw [4, 20] (fun n i wr => ∃ k : Nat, k ≤ l.length ∧ i = .int .i64 k ∧ n = .int .u16 (hexN (l.take k) : Int) ∧ Below (bytesW (grown w p1) m).heap.size (bytesW (grown w p1) m) wr ∧ Hid (hexAll (l.take k) = true)) (fun _ i _ => m.length - (intOf i).toNat)
      case atStart => exact ⟨0, Nat.zero_le _, rfl, rfl, Below.refl _ _, rfl⟩
      case round =>
        obtain ⟨k, hk, rfl, rfl, hb, hinv⟩ := hrel
        have HBB : Hid (Below w.heap.size w wr) := (below_bytesW (below_grown (Below.refl _ _) (Nat.le_refl _) _) (by simp [go_sem]) _).trans (hb.mono (by simp [go_sem]; omega))
        by_cases hlt : k < l.length
        · have hltm : k < m.length := by omega
          have hcell := bytesW_cell_after hb (b := w.heap.size + p1.os.size) (by simp [go_sem]) k hltm
          rw [HG.out k hlt hltm] at hcell
          obtain ⟨hd1, hd2⟩ := hexD_lt (l[k]'hlt)
          have hsm := hexN_small l k hlt (by omega)
          have HE := Lib.hid (hexN_take l k hlt)
          have HAS := Lib.hid (all_take_hex l k hlt)
          have HBK := Lib.hid (HBAD.out k hlt)
          have HST : Hid (∀ n : Nat, n < 4096 → 0 ≤ hexD (l[k]'hlt) → bits .or .u16 ((n : Int) * 16) (hexD (l[k]'hlt)) = ((16 * n + (hexD (l[k]'hlt)).toNat : Nat) : Int)) := fun n hn h0 => hexN_step n _ hn h0 hd1
          have HIX : Hid (∀ w, Calls Tryz.prog 114 #[.string ⟨[48, 49, 50, 51, 52, 53, 54, 55, 56, 57, 97, 98, 99, 100, 101, 102].toArray⟩, .int .u8 ((lowC (l[k]'hlt)).toNat : Int)] w fun e w' => e = .returned (.int .i64 (hexD (l[k]'hlt))) ∧ w = w') := fun w =>
            ixb_any _ w
          generalize hexD (l[k]'hlt) = d at *
          generalize lowC (l[k]'hlt) = c at *
          generalize hexN (l.take k) = n at *
          by_cases hneg : d < 0
          · have hok := HBK.out hneg
            have hr0 := HNO.out hok
            subst hok hr0
            go_wp2_with (go_at_call 114; refine (HIX.out _).mono ?_; rintro e w' ⟨rfl, rfl⟩)
            go_ret2
            exact ⟨rfl, HBB.out⟩
          · have HV := Lib.hid (HST.out n hsm (by omega))
            go_wp2_with (go_at_call 114; refine (HIX.out _).mono ?_; rintro e w' ⟨rfl, rfl⟩)
            go_roundw
            case rel => exact ⟨k + 1, by omega, by go_num, by rw [HE.out, HV.out], hb, show _ = true by rw [HAS.out, hinv.out]; simp; omega⟩
            case measure => simp [intOf]; omega
        · obtain rfl : k = l.length := by omega
          have hall := hinv.out
          rw [List.take_length] at hall ⊢
          obtain ⟨rfl, rfl, hv⟩ := HYES.out hall
          have HV := Lib.hid hv
          clear hall hv hinv
          rw [← HV.out]
          go_wp2
          go_ret2
          exact ⟨rfl, HBB.out⟩
end
end Go.Proofs.YtnkckejbkbbdlaaGreatDoor
