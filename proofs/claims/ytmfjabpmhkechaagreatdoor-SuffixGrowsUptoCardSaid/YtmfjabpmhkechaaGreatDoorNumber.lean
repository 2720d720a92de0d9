/- The walks of Number: the number that digits are. -/
import Derived.Test.YtmfjabpmhkechaaGreatDoorTrim
import Derived.Test.YtmfjabpmhkechaaGreatDoorBytes
namespace Go.Proofs.YtmfjabpmhkechaaGreatDoor
open Go Go.RowKit
set_option linter.unusedSimpArgs false
set_option linter.unusedVariables false

def decL (l : List UInt8) : Int := l.foldl (fun n c => 10 * n + ((c.toNat : Int) - 48)) 0
def numOk (l : List UInt8) : Bool := digitsB l && (decide (l.length ≤ 18) && !(l.headD 0 == 48 && decide (1 < l.length)))
def numV (l : List UInt8) : Int := if numOk l = true then decL l else 0
theorem dec_take (l : List UInt8) (k : Nat) (h : k < l.length) : decL (l.take (k + 1)) = 10 * decL (l.take k) + (((l[k]'h).toNat : Int) - 48) := by
  rw [decL, List.take_succ_eq_append_getElem h, List.foldl_append]; rfl
theorem digC_bd {c : UInt8} (h : digC c = true) : (48 : Int) ≤ c.toNat ∧ (c.toNat : Int) ≤ 57 := by
  simpa [digC] using h
theorem dec_bd (l : List UInt8) : ∀ k, k ≤ l.length → l.all digC = true → 0 ≤ decL (l.take k) ∧ decL (l.take k) < 10 ^ k := by
  intro k
  induction k with
  | zero => intro _ _; simp [decL]
  | succ k ih =>
    intro h ha
    obtain ⟨h1, h2⟩ := ih (by omega) ha
    have hc := digC_bd (List.all_eq_true.1 ha _ (List.getElem_mem (show k < l.length by omega)))
    rw [dec_take l k (by omega), Int.pow_succ]
    generalize (10 : Int) ^ k = z at *
    omega
theorem dec_17 (l : List UInt8) (k : Nat) (hk : k < l.length) (hl : l.length ≤ 18) (ha : l.all digC = true) : 0 ≤ decL (l.take k) ∧ decL (l.take k) < 100000000000000000 := by
  obtain ⟨h1, h2⟩ := dec_bd l k (by omega) ha
  refine ⟨h1, ?_⟩
  have h3 : (10 : Int) ^ k ≤ 10 ^ 17 := by
    have := Nat.pow_le_pow_right (show 10 > 0 by decide) (show k ≤ 17 by omega)
    exact_mod_cast this
  have h4 : (10 : Int) ^ 17 = 100000000000000000 := by decide
  omega
theorem digits_all {l : List UInt8} (h : digitsB l = true) : 0 < l.length ∧ l.all digC = true := by
  simp only [digitsB, Bool.and_eq_true, Bool.not_eq_true'] at h
  exact ⟨by cases l <;> simp_all, h.2⟩
theorem numOk_iff {l : List UInt8} (h0 : 0 < l.length) : numOk l = (digitsB l && (decide (l.length ≤ 18) && !(l[0]'h0 == 48 && decide (1 < l.length)))) := by
  cases l with
  | nil => simp at h0
  | cons c l => rfl
theorem num_no {l : List UInt8} (h : numOk l = false) : numV l = 0 := by simp [numV, h]
theorem num_yes {l : List UInt8} (h : numOk l = true) : numV l = decL l := by simp [numV, h]
/-- The cases that the test parts. -/
theorem num_cases (l : List UInt8) : (digitsB l = false ∧ numOk l = false) ∨ (digitsB l = true ∧ 18 < l.length ∧ numOk l = false) ∨
    (digitsB l = true ∧ l.length ≤ 18 ∧ 1 < l.length ∧ (∀ h, (((l[0]'h).toNat : Int) == 48) = true) ∧ numOk l = false) ∨
    (digitsB l = true ∧ l.length ≤ 18 ∧ 1 < l.length ∧ (∀ h, (((l[0]'h).toNat : Int) == 48) = false) ∧ numOk l = true) ∨
    (digitsB l = true ∧ l.length = 1 ∧ numOk l = true) := by
  cases hd : digitsB l
  · exact .inl ⟨rfl, by simp [numOk, hd]⟩
  · obtain ⟨h0, _⟩ := digits_all hd
    by_cases h18 : 18 < l.length
    · refine .inr (.inl ⟨rfl, h18, ?_⟩)
      simp [numOk, show ¬ l.length ≤ 18 by omega]
    · by_cases h1 : 1 < l.length
      · rw [numOk_iff h0, hd]
        have e : ∀ h, (((l[0]'h).toNat : Int) == 48) = (l[0]'h0 == 48) := fun h => u8_lit _ 48 48 rfl
        cases hc : l[0]'h0 == 48
        · exact .inr (.inr (.inr (.inl ⟨rfl, by omega, h1, fun h => by rw [e, hc], by simp [show l.length ≤ 18 by omega]⟩)))
        · exact .inr (.inr (.inl ⟨rfl, by omega, h1, fun h => by rw [e, hc], by simp [h1]⟩))
      · refine .inr (.inr (.inr (.inr ⟨rfl, by omega, ?_⟩)))
        simp [numOk, hd, h1, show l.length ≤ 18 by omega]

theorem bytesW_cell_after {w wr : World} {l : List UInt8} (hb : Below (bytesW w l).heap.size (bytesW w l) wr) {b : Nat} (hbk : b = w.heap.size) (k : Nat) (h : k < l.length) : wr.cell? ⟨b, k, none⟩ = some (.int .u8 ((l[k]'h).toNat : Int)) := by
  subst hbk
  rw [hb.cell (p := ⟨w.heap.size, k, none⟩) (by rw [bytesW_size]; exact Nat.lt_succ_self _)]
  exact cell_bytesW w l k h
set_option maxHeartbeats 1000000 in
theorem number_any (l : List UInt8) (hl : l.length ≤ 4294967280) (w : World) :
    Calls Tryz.prog 104 #[.string ⟨l.toArray⟩] w fun e w' => e = .returned (.tuple #[.int .i64 (numV l), .bool (numOk l)]) ∧ Below w.heap.size w w' := by
  have hm : l.length ≤ maxLen := by unfold maxLen; omega
  have hyes : numOk l = true → 0 < l.length → l.length ≤ 18 → digitsB l = true → ((∀ h, (((l[0]'h).toNat : Int) == 48) = false) ∨ ¬ 1 < l.length) →
      Calls Tryz.prog 104 #[.string ⟨l.toArray⟩] w fun e w' => e = .returned (.tuple #[.int .i64 (decL l), .bool true]) ∧ Below w.heap.size w w' := by
    intro hok h0 h18 hd hor
    have hall := (digits_all hd).2
    have HA := Lib.hid hall
    have HD := digits_any l hm
    rw [hd] at HD
    have HDD := Lib.hid HD
    clear HD hd hok hall
    rcases hor with hc | h1
    all_goals
      go_enter Tryz.func104, Tryz.ntmps104
      go_wp2_with (go_at_call 73; refine (HDD.out _).mono ?_; rintro e w1 ⟨rfl, hb1⟩; obtain ⟨p1, rfl⟩ := grown_of hb1; clear hb1)
      all_goals
        go_loopw [4, 28] (fun n i wr => ∃ k : Nat, k ≤ l.length ∧ i = .int .i64 k ∧ n = .int .i64 (decL (l.take k)) ∧ Below (bytesW (grown w p1) l).heap.size (bytesW (grown w p1) l) wr) (fun _ i _ => l.length - (intOf i).toNat)
        case atStart => exact ⟨0, Nat.zero_le _, rfl, rfl, Below.refl _ _⟩
        case round =>
          obtain ⟨k, hk, rfl, rfl, hb⟩ := hrel
          by_cases hlt : k < l.length
          · have hcell := bytesW_cell_after hb (b := w.heap.size + p1.os.size) (by simp [go_sem]) k hlt
            obtain ⟨hc1, hc2⟩ := digC_bd (List.all_eq_true.1 HA.out _ (List.getElem_mem hlt))
            obtain ⟨hn1, hn2⟩ := dec_17 l k hlt h18 HA.out
            have HE := Lib.hid (dec_take l k hlt)
            generalize l[k]'hlt = c at *
            generalize decL (l.take k) = n at *
            go_wp2
            go_roundw
            case rel => exact ⟨k + 1, by omega, by go_num, by rw [HE.out]; try go_num, hb⟩
            case measure => simp [intOf]; omega
          · obtain rfl : k = l.length := by omega
            rw [List.take_length]
            go_wp2
            go_ret2
            exact ⟨rfl, (below_bytesW (below_grown (Below.refl _ _) (Nat.le_refl _) _) (by simp [go_sem]) _).trans (hb.mono (by simp [go_sem]; omega))⟩
  rcases num_cases l with ⟨hd, hok⟩ | ⟨hd, h18, hok⟩ | ⟨hd, h18, h1, hc, hok⟩ | ⟨hd, h18, h1, hc, hok⟩ | ⟨hd, h1, hok⟩
  · rw [num_no hok, hok]
    have HD := digits_any l hm
    rw [hd] at HD
    have HDD := Lib.hid HD
    clear HD hd hok hyes
    go_enter Tryz.func104, Tryz.ntmps104
    go_wp2_with (go_at_call 73; refine (HDD.out _).mono ?_; rintro e w1 ⟨rfl, hb1⟩; obtain ⟨p1, rfl⟩ := grown_of hb1; clear hb1)
    go_ret2
    exact ⟨rfl, (by repeat (first | exact Below.refl _ _ | assumption | refine below_grown ?_ (by first | omega | (simp [go_sem]; done) | (simp [go_sem] <;> omega)) _ | refine Below.alloc ?_ (by first | omega | (simp [go_sem]; done) | (simp [go_sem] <;> omega)) _ | refine below_bytesW ?_ (by first | omega | (simp [go_sem]; done) | (simp [go_sem] <;> omega)) _ | refine Below.drew ?_ | refine below_drewN ?_ _))⟩
  · rw [num_no hok, hok]
    have HD := digits_any l hm
    rw [hd] at HD
    have HDD := Lib.hid HD
    clear HD hd hok hyes
    go_enter Tryz.func104, Tryz.ntmps104
    go_wp2_with (go_at_call 73; refine (HDD.out _).mono ?_; rintro e w1 ⟨rfl, hb1⟩; obtain ⟨p1, rfl⟩ := grown_of hb1; clear hb1)
    go_ret2
    exact ⟨rfl, (by repeat (first | exact Below.refl _ _ | assumption | refine below_grown ?_ (by first | omega | (simp [go_sem]; done) | (simp [go_sem] <;> omega)) _ | refine Below.alloc ?_ (by first | omega | (simp [go_sem]; done) | (simp [go_sem] <;> omega)) _ | refine below_bytesW ?_ (by first | omega | (simp [go_sem]; done) | (simp [go_sem] <;> omega)) _ | refine Below.drew ?_ | refine below_drewN ?_ _))⟩
  · rw [num_no hok, hok]
    have HD := digits_any l hm
    rw [hd] at HD
    have HDD := Lib.hid HD
    clear HD hd hok hyes
    go_enter Tryz.func104, Tryz.ntmps104
    go_wp2_with (go_at_call 73; refine (HDD.out _).mono ?_; rintro e w1 ⟨rfl, hb1⟩; obtain ⟨p1, rfl⟩ := grown_of hb1; clear hb1)
    go_ret2
    exact ⟨rfl, (by repeat (first | exact Below.refl _ _ | assumption | refine below_grown ?_ (by first | omega | (simp [go_sem]; done) | (simp [go_sem] <;> omega)) _ | refine Below.alloc ?_ (by first | omega | (simp [go_sem]; done) | (simp [go_sem] <;> omega)) _ | refine below_bytesW ?_ (by first | omega | (simp [go_sem]; done) | (simp [go_sem] <;> omega)) _ | refine Below.drew ?_ | refine below_drewN ?_ _))⟩
  · rw [num_yes hok, hok]
    exact hyes hok (by omega) h18 hd (.inl hc)
  · rw [num_yes hok, hok]
    exact hyes hok (by omega) (by omega) hd (.inr (by omega))

set_option maxHeartbeats 1000000 in
theorem refNumber_any (l : List UInt8) (hl : l.length ≤ 4294967280) (w : World) :
    Calls Tryz.prog 58 #[.string ⟨l.toArray⟩] w fun e w' => e = .returned (.tuple #[.int .i64 (numV l), .bool (numOk l)]) ∧ w = w' := by
  have hm : l.length ≤ maxLen := by unfold maxLen; omega
  have hyes : numOk l = true → 0 < l.length → l.length ≤ 18 → digitsB l = true → ((∀ h, (((l[0]'h).toNat : Int) == 48) = false) ∨ ¬ 1 < l.length) →
      Calls Tryz.prog 58 #[.string ⟨l.toArray⟩] w fun e w' => e = .returned (.tuple #[.int .i64 (decL l), .bool true]) ∧ w = w' := by
    intro hok h0 h18 hd hor
    have hall := (digits_all hd).2
    have HA := Lib.hid hall
    have HD := refDigits_any l hm
    rw [hd] at HD
    have HDD := Lib.hid HD
    clear HD hd hok hall
    rcases hor with hc | h1
    all_goals
      go_enter Tryz.func58, Tryz.ntmps58
      go_wp2_with (go_at_call 39; refine (HDD.out _).mono ?_; rintro e w' ⟨rfl, rfl⟩)
      all_goals
        go_loop [4, 5] (fun n i => ∃ k : Nat, k ≤ l.length ∧ i = .int .i64 k ∧ n = .int .i64 (decL (l.take k))) (fun _ i => l.length - (intOf i).toNat)
        case atStart => exact ⟨0, Nat.zero_le _, rfl, rfl⟩
        case round =>
          obtain ⟨k, hk, rfl, rfl⟩ := hrel
          by_cases hlt : k < l.length
          · obtain ⟨hc1, hc2⟩ := digC_bd (List.all_eq_true.1 HA.out _ (List.getElem_mem hlt))
            obtain ⟨hn1, hn2⟩ := dec_17 l k hlt h18 HA.out
            have HE := Lib.hid (dec_take l k hlt)
            obtain ⟨c, hcc⟩ : ∃ c, ∀ h, l[k]'h = c := ⟨l[k]'hlt, fun _ => rfl⟩
            rw [hcc] at hc1 hc2 HE
            generalize decL (l.take k) = n at *
            go_wp2
            go_round
            case rel => exact ⟨k + 1, by omega, by go_num, by rw [HE.out]; try go_num⟩
            case measure => simp [intOf]; omega
          · obtain rfl : k = l.length := by omega
            rw [List.take_length]
            go_wp2
            go_ret2
            exact ⟨rfl, rfl⟩
  rcases num_cases l with ⟨hd, hok⟩ | ⟨hd, h18, hok⟩ | ⟨hd, h18, h1, hc, hok⟩ | ⟨hd, h18, h1, hc, hok⟩ | ⟨hd, h1, hok⟩
  · rw [num_no hok, hok]
    have HD := refDigits_any l hm
    rw [hd] at HD
    have HDD := Lib.hid HD
    clear HD hd hok hyes
    go_enter Tryz.func58, Tryz.ntmps58
    go_wp2_with (go_at_call 39; refine (HDD.out _).mono ?_; rintro e w' ⟨rfl, rfl⟩)
    go_ret2
    exact ⟨rfl, rfl⟩
  · rw [num_no hok, hok]
    have HD := refDigits_any l hm
    rw [hd] at HD
    have HDD := Lib.hid HD
    clear HD hd hok hyes
    go_enter Tryz.func58, Tryz.ntmps58
    go_wp2_with (go_at_call 39; refine (HDD.out _).mono ?_; rintro e w' ⟨rfl, rfl⟩)
    go_ret2
    exact ⟨rfl, rfl⟩
  · rw [num_no hok, hok]
    have HD := refDigits_any l hm
    rw [hd] at HD
    have HDD := Lib.hid HD
    clear HD hd hok hyes
    go_enter Tryz.func58, Tryz.ntmps58
    go_wp2_with (go_at_call 39; refine (HDD.out _).mono ?_; rintro e w' ⟨rfl, rfl⟩)
    go_ret2
    exact ⟨rfl, rfl⟩
  · rw [num_yes hok, hok]
    exact hyes hok (by omega) h18 hd (.inl hc)
  · rw [num_yes hok, hok]
    exact hyes hok (by omega) (by omega) hd (.inr (by omega))
end Go.Proofs.YtmfjabpmhkechaaGreatDoor
