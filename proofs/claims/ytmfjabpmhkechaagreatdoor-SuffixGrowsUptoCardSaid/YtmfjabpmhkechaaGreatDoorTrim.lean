/- The walks of Trim, Digits and of what they call. -/
import Derived.Test.YtmfjabpmhkechaaGreatDoorBase
import Derived.Test.YtmfjabpmhkechaaGreatDoorAgg
import Derived.Test.YtmfjabpmhkechaaGreatDoorShelf
import Derived.Shelf.Strings.SlTrimAscii
namespace Go.Proofs.YtmfjabpmhkechaaGreatDoor
open Go Go.RowKit

def trimL (l : List UInt8) : List UInt8 := Lib.trimS l [32, 9]
theorem trim_any (l : List UInt8) (hl : l.length ≤ maxLen) (w : World) :
    Calls Tryz.prog 44 #[.string ⟨l.toArray⟩] w fun e w' => e = .returned (.string ⟨(trimL l).toArray⟩) ∧ Below w.heap.size w w' := by
  have hs : (ByteArray.mk l.toArray).size ≤ 9223372036854775807 := by unfold maxLen at hl; simp [ByteArray.size]; omega
  go_enter Tryz.func44, Tryz.ntmps44
  go_wp2_with (go_at_call 62; refine (Any.strings_Trim_laid Tryz.lays160 (by kernel_rfl) _ _ _ hs (by decide) (ascii_of_all (by decide))).mono ?_; rintro e w1 ⟨rfl, hb1⟩; obtain ⟨p1, rfl⟩ := grown_of hb1; clear hb1)
  go_ret
  exact ⟨rfl, (by repeat (first | exact Below.refl _ _ | assumption | refine below_grown ?_ (by first | omega | (simp [go_sem]; done) | (simp [go_sem] <;> omega)) _ | refine Below.alloc ?_ (by first | omega | (simp [go_sem]; done) | (simp [go_sem] <;> omega)) _ | refine below_bytesW ?_ (by first | omega | (simp [go_sem]; done) | (simp [go_sem] <;> omega)) _ | refine Below.drew ?_ | refine below_drewN ?_ _))⟩

def digitsCs : List UInt8 := [48, 49, 50, 51, 52, 53, 54, 55, 56, 57]
def digC (c : UInt8) : Bool := decide ((48 : Int) ≤ c.toNat) && decide ((c.toNat : Int) ≤ 57)
def digitsB (l : List UInt8) : Bool := !l.isEmpty && l.all digC
theorem digC_mem (c : UInt8) : digitsCs.contains c = digC c := by
  have h : ∀ n : Fin 256, digitsCs.contains (UInt8.ofNat n.val) = digC (UInt8.ofNat n.val) := by decide +kernel
  have := h ⟨c.toNat, c.toNat_lt⟩
  simpa using this
theorem dropWhile_nil {α : Type} (p : α → Bool) : ∀ l : List α, (l.dropWhile p).isEmpty = l.all p
  | [] => rfl
  | x :: l => by
    rw [List.dropWhile_cons, List.all_cons]
    cases p x
    · rfl
    · simpa using dropWhile_nil p l
theorem all_dropWhile {α : Type} (p : α → Bool) : ∀ l : List α, (l.dropWhile p).all p = l.all p
  | [] => rfl
  | x :: l => by
    rw [List.dropWhile_cons, List.all_cons]
    cases hx : p x
    · simp [hx]
    · simpa using all_dropWhile p l
theorem trimS_nil_iff (l cs : List UInt8) : (Lib.trimS l cs).isEmpty = l.all (cs.contains ·) := by
  rw [Lib.trimS, Lib.trimLeftS, dropWhile_nil, Lib.trimRightS, List.all_reverse, all_dropWhile, List.all_reverse]
theorem trim_digits (l : List UInt8) : (Lib.trimS l digitsCs).isEmpty = l.all digC := by
  rw [trimS_nil_iff]
  congr 1
  funext c
  exact digC_mem c

theorem digits_any (l : List UInt8) (hl : l.length ≤ maxLen) (w : World) :
    Calls Tryz.prog 73 #[.string ⟨l.toArray⟩] w fun e w' => e = .returned (.bool (digitsB l)) ∧ Below w.heap.size w w' := by
  have hs : (ByteArray.mk l.toArray).size ≤ 9223372036854775807 := by unfold maxLen at hl; simp [ByteArray.size]; omega
  clear hl
  rcases l with _ | ⟨c, l⟩
  · go_enter Tryz.func73, Tryz.ntmps73
    go_wp2
    go_ret
    exact ⟨rfl, (by repeat (first | exact Below.refl _ _ | assumption | refine below_grown ?_ (by first | omega | (simp [go_sem]; done) | (simp [go_sem] <;> omega)) _ | refine Below.alloc ?_ (by first | omega | (simp [go_sem]; done) | (simp [go_sem] <;> omega)) _ | refine below_bytesW ?_ (by first | omega | (simp [go_sem]; done) | (simp [go_sem] <;> omega)) _ | refine Below.drew ?_ | refine below_drewN ?_ _))⟩
  · have hd : digitsB (c :: l) = (c :: l).all digC := rfl
    have ht := trim_digits (c :: l)
    rw [← ht] at hd
    rw [hd]
    clear hd ht
    unfold digitsCs
    obtain ⟨t, ht⟩ : ∃ t, t = c :: l := ⟨_, rfl⟩
    have h0 : t.isEmpty = false := by rw [ht]; rfl
    have h1 : t ≠ [] := by rw [ht]; simp
    rw [← ht] at hs ⊢
    clear ht
    go_enter Tryz.func73, Tryz.ntmps73
    go_wp2_with (go_at_call 62; refine (Any.strings_Trim_laid Tryz.lays160 (by kernel_rfl) _ _ _ hs (by decide) (ascii_of_all (by decide))).mono ?_; rintro e w1 ⟨rfl, hb1⟩; obtain ⟨p1, rfl⟩ := grown_of hb1; clear hb1)
    go_ret
    exact ⟨rfl, (by repeat (first | exact Below.refl _ _ | assumption | refine below_grown ?_ (by first | omega | (simp [go_sem]; done) | (simp [go_sem] <;> omega)) _ | refine Below.alloc ?_ (by first | omega | (simp [go_sem]; done) | (simp [go_sem] <;> omega)) _ | refine below_bytesW ?_ (by first | omega | (simp [go_sem]; done) | (simp [go_sem] <;> omega)) _ | refine Below.drew ?_ | refine below_drewN ?_ _))⟩

theorem all_take (l : List UInt8) (k : Nat) (h : k < l.length) : (l.take (k + 1)).all digC = ((l.take k).all digC && digC (l[k]'h)) := by
  rw [List.take_succ_eq_append_getElem h, List.all_append]
  simp
theorem refDigits_any (l : List UInt8) (hl : l.length ≤ maxLen) (w : World) :
    Calls Tryz.prog 39 #[.string ⟨l.toArray⟩] w fun e w' => e = .returned (.bool (digitsB l)) ∧ w = w' := by
  unfold maxLen at hl
  go_enter Tryz.func39, Tryz.ntmps39
  go_wp2
  go_loop [3] (fun i => ∃ k : Nat, k ≤ l.length ∧ i = .int .i64 k ∧ Hid ((l.take k).all digC = true)) (fun i => l.length - (intOf i).toNat)
  case atStart => exact ⟨0, Nat.zero_le _, rfl, rfl⟩
  case round =>
    obtain ⟨k, hk, rfl, hall⟩ := hrel
    by_cases hlt : k < l.length
    · have e := all_take l k hlt
      have HN : Hid (digC (l[k]'hlt) = false → digitsB l = false) := fun h => by
        have : l.all digC = false := by
          rw [List.all_eq_false]
          exact ⟨l[k]'hlt, List.getElem_mem _, by simp [h]⟩
        simp [digitsB, this]
      obtain ⟨c, hc⟩ : ∃ c, l[k]'hlt = c := ⟨_, rfl⟩
      rw [hc] at e HN
      have hc' : ∀ h, l[k]'h = c := fun _ => hc
      clear hc
      have HE := Lib.hid e
      clear e
      by_cases h1 : (48 : Int) ≤ c.toNat
      · by_cases h2 : (c.toNat : Int) ≤ 57
        · have hd : Hid (digC c = true) := show digC c = true by simp [digC, h1, h2]
          go_wp2
          go_round
          case rel => exact ⟨k + 1, by omega, by go_num, show _ = true by rw [HE.out, hall.out, hd.out]; rfl⟩
          case measure => simp [intOf]; omega
        · have hd : Hid (digitsB l = false) := HN.out (by simp [digC, h1, h2])
          go_wp2
          go_ret
          exact ⟨ret_bool hd.out.symm, rfl⟩
      · have hd : Hid (digitsB l = false) := HN.out (by simp [digC, h1])
        go_wp2
        go_ret
        exact ⟨ret_bool hd.out.symm, rfl⟩
    · obtain rfl : k = l.length := by omega
      have hd : Hid (decide (0 < l.length) = digitsB l) := by
        have := hall.out
        rw [List.take_length] at this
        show _ = digitsB l
        rw [digitsB, this]
        cases l <;> simp
      go_wp2
      go_ret
      exact ⟨ret_bool (by rw [← hd.out]), rfl⟩

def blankB (c : UInt8) : Bool := c == 32 || c == 9
theorem blank_mem (c : UInt8) : ([32, 9] : List UInt8).contains c = blankB c := by
  show List.elem c [32, 9] = _
  simp only [List.elem, blankB]
  cases c == 32 <;> cases c == 9 <;> rfl
theorem blank_any (c : UInt8) (w : World) :
    Calls Tryz.prog 86 #[.int .u8 (c.toNat : Int)] w fun e w' => e = .returned (.bool (blankB c)) ∧ w = w' := by
  unfold blankB
  have h1 := u8_lit c 32 32 rfl
  have h2 := u8_lit c 9 9 rfl
  cases hc : c == 32 <;> rw [hc] at h1 <;> cases hc' : c == 9 <;> rw [hc'] at h2
  all_goals
    go_enter Tryz.func86, Tryz.ntmps86
    go_wp2
    go_ret
    exact ⟨rfl, rfl⟩
theorem dropWhile_snoc {α : Type} (p : α → Bool) (l : List α) (x : α) (h : p x = false) : (l ++ [x]).dropWhile p = l.dropWhile p ++ [x] := by
  induction l with
  | nil => simp [h]
  | cons y l ih =>
    rw [List.cons_append, List.dropWhile_cons, List.dropWhile_cons, ih]
    split <;> rfl
/-- Trimming at the front first, or at the end first, is one. -/
theorem trim_comm (l cs : List UInt8) : Lib.trimRightS (Lib.trimLeftS l cs) cs = Lib.trimLeftS (Lib.trimRightS l cs) cs := by
  have key : ∀ n, ∀ l : List UInt8, l.length = n → Lib.trimRightS (Lib.trimLeftS l cs) cs = Lib.trimLeftS (Lib.trimRightS l cs) cs := by
    intro n
    induction n with
    | zero => intro l h; rw [List.length_eq_zero_iff.1 h]; rfl
    | succ n ih =>
      intro l h
      rcases List.eq_nil_or_concat l with e | ⟨l', x, e⟩
      · rw [e]; rfl
      · rw [List.concat_eq_append] at e
        subst e
        have hl : l'.length = n := by simpa using h
        cases hx : cs.contains x
        · have e1 : Lib.trimRightS (l' ++ [x]) cs = l' ++ [x] := by simp only [Lib.trimRightS, List.reverse_append, List.reverse_cons, List.reverse_nil, List.nil_append, List.singleton_append, List.dropWhile_cons, hx]; simp
          have e2 : Lib.trimLeftS (l' ++ [x]) cs = Lib.trimLeftS l' cs ++ [x] := dropWhile_snoc _ l' x hx
          rw [e1, e2]
          simp only [Lib.trimRightS, List.reverse_append, List.reverse_cons, List.reverse_nil, List.nil_append, List.singleton_append, List.dropWhile_cons, hx]
          simp
        · have e1 : ∀ m : List UInt8, Lib.trimRightS (m ++ [x]) cs = Lib.trimRightS m cs := fun m => by simp only [Lib.trimRightS, List.reverse_append, List.reverse_cons, List.reverse_nil, List.nil_append, List.singleton_append, List.dropWhile_cons, hx]; simp
          rw [e1, ← ih l' hl]
          by_cases ha : l'.all (cs.contains ·) = true
          · have e3 : Lib.trimLeftS (l' ++ [x]) cs = [] := by
              have : (l' ++ [x]).all (cs.contains ·) = true := by rw [List.all_append, ha]; simpa using hx
              have := (dropWhile_nil (cs.contains ·) (l' ++ [x])).trans this
              exact List.isEmpty_iff.1 this
            have e4 : Lib.trimLeftS l' cs = [] := List.isEmpty_iff.1 ((dropWhile_nil (cs.contains ·) l').trans ha)
            rw [e3, e4]
          · have e5 : Lib.trimLeftS (l' ++ [x]) cs = Lib.trimLeftS l' cs ++ [x] := by
              have : ∀ m : List UInt8, ¬ m.all (cs.contains ·) = true → (m ++ [x]).dropWhile (cs.contains ·) = m.dropWhile (cs.contains ·) ++ [x] := by
                intro m
                induction m with
                | nil => intro h; simp at h
                | cons y m ihm =>
                  intro h
                  rw [List.cons_append, List.dropWhile_cons, List.dropWhile_cons]
                  split
                  · rename_i hy
                    exact ihm (fun h' => h (by rw [List.all_cons, hy, h']; rfl))
                  · rfl
              exact this l' ha
            rw [e5, e1]
  exact key _ l rfl

theorem trimLeft_cons (c : UInt8) (t cs : List UInt8) : Lib.trimLeftS (c :: t) cs = if cs.contains c then Lib.trimLeftS t cs else c :: t := by
  rw [Lib.trimLeftS, List.dropWhile_cons]
  split <;> rfl
theorem trimRight_snoc (c : UInt8) (t cs : List UInt8) : Lib.trimRightS (t ++ [c]) cs = if cs.contains c then Lib.trimRightS t cs else t ++ [c] := by
  rw [Lib.trimRightS, List.reverse_append, List.reverse_singleton, List.singleton_append, List.dropWhile_cons]
  split
  · rfl
  · simp
theorem refTrim_any (l : List UInt8) (hl : l.length ≤ maxLen) (w : World) :
    Calls Tryz.prog 55 #[.string ⟨l.toArray⟩] w fun e w' => e = .returned (.string ⟨(trimL l).toArray⟩) ∧ w = w' := by
  unfold maxLen at hl
  rw [trimL, Lib.trimS, ← trim_comm]
  go_enter Tryz.func55, Tryz.ntmps55
  go_wp2
  go_loop [0] (fun s => ∃ t : List UInt8, t.length ≤ l.length ∧ s = .string ⟨t.toArray⟩ ∧ Hid (Lib.trimLeftS l [32, 9] = Lib.trimLeftS t [32, 9])) (fun s => strLen s)
  case atStart => exact ⟨l, Nat.le_refl _, rfl, rfl⟩
  case round =>
    obtain ⟨t, ht, rfl, hrel⟩ := hrel
    by_cases h0 : 0 < t.length
    · obtain ⟨c, hc⟩ : ∃ c, t[0]'h0 = c := ⟨_, rfl⟩
      have e : t = c :: t.tail := by cases t with
        | nil => simp at h0
        | cons x t => simp at hc; simp [hc]
      have hc' : ∀ h, t[0]'h = c := fun _ => hc
      clear hc
      have e2 := trimLeft_cons c t.tail [32, 9]
      rw [← e, blank_mem] at e2
      have HE := Lib.hid e2
      have ht2 : t.tail.length < t.length := by simp; omega
      clear e2 e
      cases hb : blankB c
      · go_wp2_with (go_at_call 86; refine (blank_any _ _).mono ?_; rintro e w' ⟨rfl, rfl⟩)
        go_loop [0] (fun s => ∃ t2 : List UInt8, t2.length ≤ l.length ∧ s = .string ⟨t2.toArray⟩ ∧ Hid (Lib.trimRightS (Lib.trimLeftS l [32, 9]) [32, 9] = Lib.trimRightS t2 [32, 9])) (fun s => strLen s)
        case atStart => exact ⟨t, ht, rfl, show _ = _ by rw [hrel.out, HE.out, hb]; rfl⟩
        case round =>
          obtain ⟨t2, ht2, rfl, hrel2⟩ := hrel
          by_cases h20 : 0 < t2.length
          · obtain ⟨c2, hc2⟩ : ∃ c, t2[t2.length - 1]'(by omega) = c := ⟨_, rfl⟩
            have e : t2 = t2.take (t2.length - 1) ++ [c2] := by
              rw [← hc2]
              have := List.take_succ_eq_append_getElem (l := t2) (i := t2.length - 1) (by omega)
              rw [← this, List.take_of_length_le (by omega)]
            have hc2' : ∀ h, t2[t2.length - 1]'h = c2 := fun _ => hc2
            clear hc2
            have e2 := trimRight_snoc c2 (t2.take (t2.length - 1)) [32, 9]
            rw [← e, blank_mem] at e2
            have HE2 := Lib.hid e2
            clear e2 e
            cases hb2 : blankB c2
            · go_wp2_with (go_at_call 86; refine (blank_any _ _).mono ?_; rintro e w' ⟨rfl, rfl⟩)
              go_ret
              exact ⟨ret_str (by rw [hrel2.out, HE2.out, hb2]; rfl), rfl⟩
            · go_wp2_with (go_at_call 86; refine (blank_any _ _).mono ?_; rintro e w' ⟨rfl, rfl⟩)
              go_round
              case rel => exact ⟨t2.take (t2.length - 1), by simp; omega, rfl, show _ = _ by rw [hrel2.out, HE2.out, hb2]; rfl⟩
              case measure => simp [strLen_mk]; omega
          · have e : t2 = [] := List.length_eq_zero_iff.1 (by omega)
            subst e
            go_wp2
            go_ret
            exact ⟨ret_str (by rw [hrel2.out]; rfl), rfl⟩
      · go_wp2_with (go_at_call 86; refine (blank_any _ _).mono ?_; rintro e w' ⟨rfl, rfl⟩)
        go_round
        case rel => exact ⟨t.tail, by omega, rfl, show _ = _ by rw [hrel.out, HE.out, hb]; rfl⟩
        case measure => simp [strLen_mk]; omega
    · have e : t = [] := List.length_eq_zero_iff.1 (by omega)
      subst e
      go_wp2
      go_loop [0] (fun s => ∃ t2 : List UInt8, t2.length ≤ l.length ∧ s = .string ⟨t2.toArray⟩ ∧ Hid (Lib.trimRightS (Lib.trimLeftS l [32, 9]) [32, 9] = Lib.trimRightS t2 [32, 9])) (fun s => strLen s)
      case atStart => exact ⟨[], Nat.zero_le _, rfl, show _ = _ by rw [hrel.out]; rfl⟩
      case round =>
        obtain ⟨t2, ht2, rfl, hrel2⟩ := hrel
        by_cases h20 : 0 < t2.length
        · obtain ⟨c2, hc2⟩ : ∃ c, t2[t2.length - 1]'(by omega) = c := ⟨_, rfl⟩
          have e : t2 = t2.take (t2.length - 1) ++ [c2] := by
            rw [← hc2]
            have := List.take_succ_eq_append_getElem (l := t2) (i := t2.length - 1) (by omega)
            rw [← this, List.take_of_length_le (by omega)]
          have hc2' : ∀ h, t2[t2.length - 1]'h = c2 := fun _ => hc2
          clear hc2
          have e2 := trimRight_snoc c2 (t2.take (t2.length - 1)) [32, 9]
          rw [← e, blank_mem] at e2
          have HE2 := Lib.hid e2
          clear e2 e
          cases hb2 : blankB c2
          · go_wp2_with (go_at_call 86; refine (blank_any _ _).mono ?_; rintro e w' ⟨rfl, rfl⟩)
            go_ret
            exact ⟨ret_str (by rw [hrel2.out, HE2.out, hb2]; rfl), rfl⟩
          · go_wp2_with (go_at_call 86; refine (blank_any _ _).mono ?_; rintro e w' ⟨rfl, rfl⟩)
            go_round
            case rel => exact ⟨t2.take (t2.length - 1), by simp; omega, rfl, show _ = _ by rw [hrel2.out, HE2.out, hb2]; rfl⟩
            case measure => simp [strLen_mk]; omega
        · have e : t2 = [] := List.length_eq_zero_iff.1 (by omega)
          subst e
          go_wp2
          go_ret
          exact ⟨ret_str (by rw [hrel2.out]; rfl), rfl⟩
end Go.Proofs.YtmfjabpmhkechaaGreatDoor
