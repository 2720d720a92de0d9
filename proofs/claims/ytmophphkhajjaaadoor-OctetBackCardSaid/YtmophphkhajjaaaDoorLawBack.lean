/- The walk of the statement OctetBack. -/
import Derived.Test.YtmophphkhajjaaaDoorAlive
import Derived.Test.YtmophphkhajjaaaDoorOctetPlain
namespace Go.Proofs.YtmophphkhajjaaaDoor
open Go Go.RowKit
set_option linter.unusedSimpArgs false
set_option linter.unusedVariables false

set_option maxRecDepth 20000 in
set_option maxHeartbeats 1000000 in
theorem back_law (a : List UInt8) (c : UInt8) (ha : a.length ≤ maxLen) (m : Int) (w : World) (hm : HasMax m w) :
    Calls Tryd.prog 6 #[.string ⟨a.toArray⟩, .int .u8 (c.toNat : Int)] w fun e w' => e = .returned (.bool true) ∧ Below w.heap.size w w' := by
  unfold maxLen at ha
  by_cases h1 : 1000 < a.length
  · go_enter Tryd.func6, Tryd.ntmps6
    go_wp2_with (go_at_call 9; refine (alive_any m _ hm).mono ?_; rintro e w1 ⟨rfl, hb1⟩; obtain ⟨p1, rfl⟩ := grown_of hb1; clear hb1)
    go_ret
    exact ⟨rfl, (by repeat (first | exact Below.refl _ _ | assumption | refine below_grown ?_ (by first | omega | (simp [go_sem]; done) | (simp [go_sem] <;> omega)) _ | refine Below.alloc ?_ (by first | omega | (simp [go_sem]; done) | (simp [go_sem] <;> omega)) _ | refine below_bytesW ?_ (by first | omega | (simp [go_sem]; done) | (simp [go_sem] <;> omega)) _ | refine Below.drew ?_ | refine below_drewN ?_ _))⟩
  · have hwl := wordL_le a
    have hwp := wordL_pos a
    have hvis := fun x hx => word_vis a x hx
    have HVIS := Lib.hid hvis
    have HUN : Hid (∀ w, Calls Tryd.prog 18 #[.string ⟨(wordL a).toArray⟩] w fun e w' => e = .returned (.tuple #[.string ⟨a.toArray⟩, .bool true]) ∧ Below w.heap.size w w') := fun w =>
      (unword_any (wordL a) (by omega) w).mono fun e w' ⟨t, ok, hu, he, hb⟩ => by
        obtain ⟨rfl, rfl⟩ := hu.one (t' := a) (ok' := true) (.inl ⟨rfl, rfl⟩)
        exact ⟨he, hb⟩
    have HWO : Hid (∀ w, Calls Tryd.prog 17 #[.string ⟨a.toArray⟩] w fun e w' => e = .returned (.string ⟨(wordL a).toArray⟩) ∧ Below w.heap.size w w') := fun w => word_any a (by omega) w
    have HSP : Hid (∀ w, HasMax m w → Calls Tryd.prog 13 #[.string ⟨a.toArray⟩, .int .u8 (c.toNat : Int)] w (Gives strCod (splitL c a) w)) := fun w hm => split_gives a c (by omega) m w hm
    have HNE := Lib.hid (splitL_ne c a)
    have HJ := Lib.hid (join_split c a)
    have hln := splitL_length_le c a
    have HPL := Lib.hid (splitL_piece_le c a)
    clear hvis
    generalize wordL a = W at *
    generalize splitL c a = L at *
    go_enter Tryd.func6, Tryd.ntmps6
    go_wp2_with (first
      | (go_at_call 9; refine (alive_any m _ hm).mono ?_; rintro e w1 ⟨rfl, hb1⟩; obtain ⟨p1, rfl⟩ := grown_of hb1; clear hb1)
      | (go_at_call 17; refine (HWO.out _).mono ?_; rintro e w1 ⟨rfl, hb1⟩; obtain ⟨p1, rfl⟩ := grown_of hb1; clear hb1))
    go_loop [6] (fun i => ∃ k : Nat, k ≤ W.length ∧ i = .int .i64 k) (fun i => W.length - (intOf i).toNat)
    case atStart => exact ⟨0, Nat.zero_le _, rfl⟩
    case round =>
      obtain ⟨k, hk, rfl⟩ := hrel
      by_cases hlt : k < W.length
      · obtain ⟨g1, g2⟩ := HVIS.out _ (List.getElem_mem hlt)
        obtain ⟨x, hx⟩ : ∃ x, ∀ h, W[k]'h = x := ⟨W[k]'hlt, fun _ => rfl⟩
        rw [hx] at g1 g2
        go_wp2
        go_round
        case rel => exact ⟨k + 1, by omega, by go_num⟩
        case measure => simp [intOf]; omega
      · obtain rfl : k = W.length := by omega
        go_wp2_with (first
          | (go_at_call 18; refine (HUN.out _).mono ?_; rintro e w1 ⟨rfl, hb1⟩; obtain ⟨p1, rfl⟩ := grown_of hb1; clear hb1)
          | (go_at_call 13; refine (HSP.out _ (by repeat (first | exact hm | apply HasMax.grown))).mono ?_; intro e w1 hg; obtain ⟨b, o, cap, rfl, hcap, hb1, hlo, hhi, hat⟩ := hg.some HNE.out; have HBC := Lib.hid (bel_up (w := w) (by repeat (first | exact Below.refl _ _ | assumption | refine below_grown ?_ (by first | omega | (simp [go_sem]; done) | (simp [go_sem] <;> omega)) _ | refine Below.alloc ?_ (by first | omega | (simp [go_sem]; done) | (simp [go_sem] <;> omega)) _ | refine below_bytesW ?_ (by first | omega | (simp [go_sem]; done) | (simp [go_sem] <;> omega)) _ | refine Below.drew ?_ | refine below_drewN ?_ _)) hb1); have HAT := Lib.hid hat; clear hg hb1 hat))
        go_loopw [9, 57] (fun j i wr => ∃ k : Nat, k ≤ L.length ∧ i = .int .i64 k ∧ j = .string ⟨(joinL c (L.take k)).toArray⟩ ∧ Below w1.heap.size w1 wr) (fun _ i _ => L.length - (intOf i).toNat)
        case atStart => exact ⟨0, Nat.zero_le _, rfl, rfl, Below.refl _ _⟩
        case round =>
          obtain ⟨k, hk, rfl, rfl, hb⟩ := hrel
          have hsz := hb.size
          have HB := Lib.hid hb
          have hwr := bel_up HBC.out hb
          have hwrs := hwr.size
          by_cases hlt : k < L.length
          · have hcell := strAt (HAT.out.below hb) k hlt
            have hob : isOld b wr = true := isOld_iff.2 (Nat.lt_of_lt_of_le hhi hsz)
            have hx := HPL.out _ (List.getElem_mem hlt)
            have hJL : (joinL c (L.take k)).length ≤ 1002001 := by
              have := joinL_le c (L.take k) 1000 (fun p hp => by have := HPL.out p (List.mem_of_mem_take hp); omega)
              have h2 : (L.take k).length ≤ 1001 := by rw [List.length_take]; omega
              have := Nat.le_trans this (Nat.mul_le_mul_right _ h2)
              omega
            clear hb
            by_cases h0 : k = 0
            · have HE : Hid (joinL c (L.take (k + 1)) = joinL c (L.take k) ++ L[k]'hlt) := by
                subst h0; exact joinL_one c L hlt
              have hk0 : k < 1 := by omega
              clear h0
              generalize L[k]'hlt = x at *
              generalize joinL c (L.take k) = J at *
              go_wp2
              go_roundw
              case rel => exact ⟨k + 1, by omega, by go_num, by rw [HE.out], HB.out⟩
              case measure => simp [intOf]; omega
            · have HE := Lib.hid (joinL_take c L k hlt (by omega))
              generalize L[k]'hlt = x at *
              generalize joinL c (L.take k) = J at *
              go_wp2
              go_roundw
              case rel => exact ⟨k + 1, by omega, by go_num, by rw [HE.out]; simp, (by repeat (first | exact Below.refl _ _ | assumption | refine below_grown ?_ (by first | omega | (simp [go_sem]; done) | (simp [go_sem] <;> omega)) _ | refine Below.alloc ?_ (by first | omega | (simp [go_sem]; done) | (simp [go_sem] <;> omega)) _ | refine below_bytesW ?_ (by first | omega | (simp [go_sem]; done) | (simp [go_sem] <;> omega)) _ | refine Below.drew ?_ | refine below_drewN ?_ _))⟩
              case measure => simp [intOf]; omega
          · obtain rfl : k = L.length := by omega
            have HJE : Hid (joinL c (L.take L.length) = a) := by rw [List.take_length]; exact HJ.out
            have hlo : (lowerL a).length = a.length := lowerL_length a
            have HLO : Hid (∀ w, Calls Tryd.prog 21 #[.string ⟨a.toArray⟩] w fun e w' => e = .returned (.string ⟨(lowerL a).toArray⟩) ∧ Below w.heap.size w w') := fun w => lower_any a (by unfold maxLen; omega) w
            have HLL : Hid (∀ w, Calls Tryd.prog 21 #[.string ⟨(lowerL a).toArray⟩] w fun e w' => e = .returned (.string ⟨(lowerL a).toArray⟩) ∧ Below w.heap.size w w') := fun w => by
              have := lower_any (lowerL a) (by unfold maxLen; omega) w
              rwa [lowerL_lowerL] at this
            have HSA : Hid (∀ w, Calls Tryd.prog 22 #[.string ⟨(lowerL a).toArray⟩, .string ⟨a.toArray⟩] w fun e w' => e = .returned (.bool true) ∧ Below w.heap.size w w') := fun w => by
              have := same_any (lowerL a) a (by unfold maxLen; omega) (by unfold maxLen; omega) w
              rwa [sameB, lowerL_lowerL, beq_self_eq_true] at this
            have hlq : (((lowerL a).length : Int) == (a.length : Int)) = true := by rw [hlo]; simp
            clear hb
            rw [HJE.out]
            generalize lowerL a = lo at *
            go_wp2_with (first
              | (go_at_call 21; with_reducible refine (HLO.out _).mono ?_; rintro e w1 ⟨rfl, hb1⟩; obtain ⟨p1, rfl⟩ := grown_of hb1; clear hb1)
              | (go_at_call 21; with_reducible refine (HLL.out _).mono ?_; rintro e w1 ⟨rfl, hb1⟩; obtain ⟨p1, rfl⟩ := grown_of hb1; clear hb1)
              | (go_at_call 22; refine (HSA.out _).mono ?_; rintro e w1 ⟨rfl, hb1⟩; obtain ⟨p1, rfl⟩ := grown_of hb1; clear hb1))
            go_ret
            exact ⟨by simp, (by repeat (first | exact Below.refl _ _ | assumption | refine below_grown ?_ (by first | omega | (simp [go_sem]; done) | (simp [go_sem] <;> omega)) _ | refine Below.alloc ?_ (by first | omega | (simp [go_sem]; done) | (simp [go_sem] <;> omega)) _ | refine below_bytesW ?_ (by first | omega | (simp [go_sem]; done) | (simp [go_sem] <;> omega)) _ | refine Below.drew ?_ | refine below_drewN ?_ _))⟩

end Go.Proofs.YtmophphkhajjaaaDoor
