/- The walks of Lower: with small letters; and of Same. -/
import Derived.Test.YtmfjabpmhkechaaGreatDoorBytes
namespace Go.Proofs.YtmfjabpmhkechaaGreatDoor
open Go Go.RowKit

def lowC (c : UInt8) : UInt8 := if 65 ≤ c ∧ c ≤ 90 then c + 32 else c
def lowerL (l : List UInt8) : List UInt8 := l.map lowC
def lowTo (l : List UInt8) (k : Nat) : List UInt8 := (l.take k).map lowC ++ l.drop k
theorem lowTo_length (l : List UInt8) (k : Nat) : (lowTo l k).length = l.length := by simp [lowTo]; omega
theorem lowTo_at (l : List UInt8) (k : Nat) (hk : k ≤ l.length) (j : Nat) : (lowTo l k)[j]? = if j < k then (l[j]?).map lowC else l[j]? := by
  rw [lowTo, List.getElem?_append, List.length_map, List.length_take, Nat.min_eq_left hk]
  split
  · rw [List.getElem?_map, List.getElem?_take, if_pos (by assumption)]
  · rw [List.getElem?_drop]
    congr 1
    omega
theorem lowTo_get (l : List UInt8) (k : Nat) (h : k < l.length) (h' : k < (lowTo l k).length) : (lowTo l k)[k]'h' = l[k]'h := by
  have := lowTo_at l k (by omega) k
  rw [if_neg (by omega), List.getElem?_eq_getElem h', List.getElem?_eq_getElem h] at this
  exact Option.some.inj this
theorem lowTo_succ (l : List UInt8) (k : Nat) (h : k < l.length) : lowTo l (k + 1) = (lowTo l k).set k (lowC (l[k]'h)) := by
  apply List.ext_getElem?
  intro j
  rw [lowTo_at l (k + 1) (by omega), List.getElem?_set, lowTo_length, lowTo_at l k (by omega)]
  by_cases e : k = j
  · subst e
    rw [if_pos (by omega), if_pos rfl, if_pos h, List.getElem?_eq_getElem h]
    rfl
  · rw [if_neg e]
    by_cases hj : j < k
    · rw [if_pos (by omega), if_pos hj]
    · rw [if_neg (by omega), if_neg hj]
theorem lowTo_same (l : List UInt8) (k : Nat) (h : k < l.length) (hc : lowC (l[k]'h) = l[k]'h) : lowTo l (k + 1) = lowTo l k := by
  rw [lowTo_succ l k h, hc]
  apply List.ext_getElem
  · simp
  · intro j h1 h2
    rw [List.getElem_set]
    split
    · rename_i e; subst e; rw [lowTo_get l k h]
    · rfl
theorem lowTo_zero (l : List UInt8) : lowTo l 0 = l := by simp [lowTo]
theorem lowTo_all (l : List UInt8) : lowTo l l.length = lowerL l := by simp [lowTo, lowerL]
theorem lowC_yes {c : UInt8} (h1 : (65 : Int) ≤ c.toNat) (h2 : (c.toNat : Int) ≤ 90) : ((lowC c).toNat : Int) = (c.toNat : Int) - 65 + 97 := by
  have e : lowC c = c + 32 := if_pos ⟨by rw [UInt8.le_iff_toNat_le]; show 65 ≤ c.toNat; omega, by rw [UInt8.le_iff_toNat_le]; show c.toNat ≤ 90; omega⟩
  have h32 : (32 : UInt8).toNat = 32 := rfl
  rw [e, UInt8.toNat_add, h32]
  omega
theorem lowC_no {c : UInt8} (h : ¬ ((65 : Int) ≤ c.toNat ∧ (c.toNat : Int) ≤ 90)) : lowC c = c :=
  if_neg fun h' => h ⟨by have := UInt8.le_iff_toNat_le.1 h'.1; have h65 : (65 : UInt8).toNat = 65 := rfl; omega, by have := UInt8.le_iff_toNat_le.1 h'.2; have h90 : (90 : UInt8).toNat = 90 := rfl; omega⟩

theorem lower_any (l : List UInt8) (hl : l.length ≤ maxLen) (w : World) :
    Calls Tryz.prog 72 #[.string ⟨l.toArray⟩] w fun e w' => e = .returned (.string ⟨(lowerL l).toArray⟩) ∧ Below w.heap.size w w' := by
  unfold maxLen at hl
  go_enter Tryz.func72, Tryz.ntmps72
  go_wp2
  go_loopw [10] (fun i wr => ∃ k : Nat, k ≤ l.length ∧ i = .int .i64 k ∧ Below w.heap.size w wr ∧ bytesAt wr ⟨w.heap.size, 0, none⟩ (lowTo l k) ∧ (∀ j, j < l.length → wr.frozen? ⟨w.heap.size, j, none⟩ = false)) (fun i _ => l.length - (intOf i).toNat)
  case atStart => exact ⟨0, Nat.zero_le _, rfl, below_bytesW' w l, by rw [lowTo_zero]; exact bytesAt_bytesW w l, fun j hj => frozen_bytesW w l j hj⟩
  case round =>
    obtain ⟨k, hk, rfl, hb, hby, hfr⟩ := hrel
    by_cases hlt : k < l.length
    · have hcell : wr.cell? ⟨w.heap.size, k, none⟩ = some (.int .u8 ((l[k]'hlt).toNat : Int)) := by
        have := bytesAt_get hby k (by rw [lowTo_length]; exact hlt)
        rwa [lowTo_get l k hlt, Nat.zero_add] at this
      have hz := hfr k hlt
      have HB := Lib.hid hby
      have HF := Lib.hid hfr
      clear hby hfr
      obtain ⟨c, hc⟩ : ∃ c, l[k]'hlt = c := ⟨_, rfl⟩
      rw [hc] at hcell
      have HC := Lib.hid hc
      clear hc
      by_cases h1 : (65 : Int) ≤ c.toNat
      · by_cases h2 : (c.toNat : Int) ≤ 90
        · go_wp2
          go_roundw
          case rel =>
            have e : lowTo l (k + 1) = (lowTo l k).set k (lowC c) := by rw [lowTo_succ l k hlt, HC.out]
            refine ⟨k + 1, by omega, by go_num, hb.setCell (Nat.le_refl _) _, ?_, fun j hj => ?_⟩
            · have := bytesAt_set HB.out k (by rw [lowTo_length]; exact hlt) (lowC c)
              rw [e]
              rw [lowC_yes h1 h2, Nat.zero_add] at this
              exact this
            · rw [World.frozen?_setCell]; exact HF.out j hj
          case measure => simp [intOf]; omega
        · have e : lowTo l (k + 1) = lowTo l k := lowTo_same l k hlt (by rw [HC.out]; exact lowC_no (by omega))
          have HE := Lib.hid e
          clear e
          go_wp2
          go_roundw
          case rel => exact ⟨k + 1, by omega, by go_num, hb, by rw [HE.out]; exact HB.out, HF.out⟩
          case measure => simp [intOf]; omega
      · have e : lowTo l (k + 1) = lowTo l k := lowTo_same l k hlt (by rw [HC.out]; exact lowC_no (by omega))
        have HE := Lib.hid e
        clear e
        go_wp2
        go_roundw
        case rel => exact ⟨k + 1, by omega, by go_num, hb, by rw [HE.out]; exact HB.out, HF.out⟩
        case measure => simp [intOf]; omega
    · obtain rfl : k = l.length := by omega
      have hs : strOf wr (.slice (some ⟨w.heap.size, 0, none⟩) l.length (bytesCap w l)) = some (lowerL l) := by
        rw [lowTo_all] at hby
        have := strOf_bytes hby (bytesCap w l)
        rwa [show (lowerL l).length = l.length by simp [lowerL]] at this
      clear hby hfr
      go_wp2
      go_ret
      exact ⟨rfl, hb⟩
theorem lowerL_take (l : List UInt8) (k : Nat) (h : k < l.length) : lowerL (l.take (k + 1)) = lowerL (l.take k) ++ [lowC (l[k]'h)] := by
  rw [lowerL, List.take_succ_eq_append_getElem h, List.map_append]
  rfl
theorem refLower_any (l : List UInt8) (hl : l.length ≤ maxLen) (w : World) :
    Calls Tryz.prog 38 #[.string ⟨l.toArray⟩] w fun e w' => e = .returned (.string ⟨(lowerL l).toArray⟩) ∧ Below w.heap.size w w' := by
  unfold maxLen at hl
  go_enter Tryz.func38, Tryz.ntmps38
  go_wp2
  go_loopw [3, 4] (fun s i wr => ∃ k : Nat, k ≤ l.length ∧ i = .int .i64 k ∧ s = .string ⟨(lowerL (l.take k)).toArray⟩ ∧ Below w.heap.size w wr) (fun _ i _ => l.length - (intOf i).toNat)
  case atStart => exact ⟨0, Nat.zero_le _, rfl, rfl, Below.refl _ _⟩
  case round =>
    obtain ⟨k, hk, rfl, rfl, hb⟩ := hrel
    by_cases hlt : k < l.length
    · have e := lowerL_take l k hlt
      obtain ⟨c, hc⟩ : ∃ c, l[k]'hlt = c := ⟨_, rfl⟩
      rw [hc] at e
      have hc' : ∀ h, l[k]'h = c := fun _ => hc
      clear hc
      have HE := Lib.hid e
      clear e
      have hA : (lowerL (l.take k)).length ≤ k := by simp [lowerL]; omega
      generalize lowerL (l.take k) = A at *
      have hz := hb.size
      by_cases h1 : (65 : Int) ≤ c.toNat
      · by_cases h2 : (c.toNat : Int) ≤ 90
        · have h3 : (c.toNat : Int) + 32 = (lowC c).toNat := by rw [lowC_yes h1 h2]; omega
          go_wp2
          go_roundw
          case rel => exact ⟨k + 1, by omega, by go_num, by rw [HE.out], (by repeat (first | exact Below.refl _ _ | assumption | refine below_grown ?_ (by first | omega | (simp [go_sem]; done) | (simp [go_sem] <;> omega)) _ | refine Below.alloc ?_ (by first | omega | (simp [go_sem]; done) | (simp [go_sem] <;> omega)) _ | refine below_bytesW ?_ (by first | omega | (simp [go_sem]; done) | (simp [go_sem] <;> omega)) _ | refine Below.drew ?_ | refine below_drewN ?_ _))⟩
          case measure => simp [intOf]; omega
        · have h3 : lowC c = c := lowC_no (by omega)
          go_wp2
          go_roundw
          case rel => exact ⟨k + 1, by omega, by go_num, by rw [HE.out, h3], (by repeat (first | exact Below.refl _ _ | assumption | refine below_grown ?_ (by first | omega | (simp [go_sem]; done) | (simp [go_sem] <;> omega)) _ | refine Below.alloc ?_ (by first | omega | (simp [go_sem]; done) | (simp [go_sem] <;> omega)) _ | refine below_bytesW ?_ (by first | omega | (simp [go_sem]; done) | (simp [go_sem] <;> omega)) _ | refine Below.drew ?_ | refine below_drewN ?_ _))⟩
          case measure => simp [intOf]; omega
      · have h3 : lowC c = c := lowC_no (by omega)
        go_wp2
        go_roundw
        case rel => exact ⟨k + 1, by omega, by go_num, by rw [HE.out, h3], (by repeat (first | exact Below.refl _ _ | assumption | refine below_grown ?_ (by first | omega | (simp [go_sem]; done) | (simp [go_sem] <;> omega)) _ | refine Below.alloc ?_ (by first | omega | (simp [go_sem]; done) | (simp [go_sem] <;> omega)) _ | refine below_bytesW ?_ (by first | omega | (simp [go_sem]; done) | (simp [go_sem] <;> omega)) _ | refine Below.drew ?_ | refine below_drewN ?_ _))⟩
        case measure => simp [intOf]; omega
    · obtain rfl : k = l.length := by omega
      have e : lowerL (l.take l.length) = lowerL l := by simp
      go_wp2
      go_ret
      exact ⟨ret_str e, hb⟩
def sameB (a b : List UInt8) : Bool := lowerL a == lowerL b
end Go.Proofs.YtmfjabpmhkechaaGreatDoor
