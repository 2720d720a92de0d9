/- The walk of the statement OctetApart. -/
import Derived.Test.YtmophphkhajjaaaDoorAlive
import Derived.Test.YtmophphkhajjaaaDoorOctetPlain
namespace Go.Proofs.YtmophphkhajjaaaDoor
open Go Go.RowKit
set_option linter.unusedSimpArgs false
set_option linter.unusedVariables false

set_option maxHeartbeats 1000000 in
theorem apart_law (a b : List UInt8) (ha : a.length ≤ maxLen) (hb : b.length ≤ maxLen) (m : Int) (w : World) (hm : HasMax m w) :
    Calls Tryd.prog 4 #[.string ⟨a.toArray⟩, .string ⟨b.toArray⟩] w fun e w' => e = .returned (.bool true) ∧ Below w.heap.size w w' := by
  unfold maxLen at ha hb
  by_cases h1 : 500 < a.length
  · go_enter Tryd.func4, Tryd.ntmps4
    go_wp2_with (go_at_call 9; refine (alive_any m _ hm).mono ?_; rintro e w1 ⟨rfl, hb1⟩; obtain ⟨p1, rfl⟩ := grown_of hb1; clear hb1)
    go_ret
    exact ⟨rfl, (by repeat (first | exact Below.refl _ _ | assumption | refine below_grown ?_ (by first | omega | (simp [go_sem]; done) | (simp [go_sem] <;> omega)) _ | refine Below.alloc ?_ (by first | omega | (simp [go_sem]; done) | (simp [go_sem] <;> omega)) _ | refine below_bytesW ?_ (by first | omega | (simp [go_sem]; done) | (simp [go_sem] <;> omega)) _ | refine Below.drew ?_ | refine below_drewN ?_ _))⟩
  · by_cases h2 : 500 < b.length
    · go_enter Tryd.func4, Tryd.ntmps4
      go_wp2_with (go_at_call 9; refine (alive_any m _ hm).mono ?_; rintro e w1 ⟨rfl, hb1⟩; obtain ⟨p1, rfl⟩ := grown_of hb1; clear hb1)
      go_ret
      exact ⟨rfl, (by repeat (first | exact Below.refl _ _ | assumption | refine below_grown ?_ (by first | omega | (simp [go_sem]; done) | (simp [go_sem] <;> omega)) _ | refine Below.alloc ?_ (by first | omega | (simp [go_sem]; done) | (simp [go_sem] <;> omega)) _ | refine below_bytesW ?_ (by first | omega | (simp [go_sem]; done) | (simp [go_sem] <;> omega)) _ | refine Below.drew ?_ | refine below_drewN ?_ _))⟩
    · have hla := wordL_le a
      have hlb := wordL_le b
      have he : (wordL a == wordL b) = (a == b) := by
        rw [Bool.eq_iff_iff, beq_iff_eq, beq_iff_eq]
        exact ⟨wordL_inj a b, fun h => by rw [h]⟩
      have HWA : Hid (∀ w, Calls Tryd.prog 17 #[.string ⟨a.toArray⟩] w fun e w' => e = .returned (.string ⟨(wordL a).toArray⟩) ∧ Below w.heap.size w w') := fun w => word_any a (by omega) w
      have HWB : Hid (∀ w, Calls Tryd.prog 17 #[.string ⟨b.toArray⟩] w fun e w' => e = .returned (.string ⟨(wordL b).toArray⟩) ∧ Below w.heap.size w w') := fun w => word_any b (by omega) w
      have HWS : Hid (∀ w, HasMax m w → Calls Tryd.prog 10 #[.string ⟨(wordL a ++ [32] ++ wordL b).toArray⟩] w (Gives2 strCod [wordL a, wordL b] true w)) := fun w hm => by
        have := words_gives (wordL a ++ [32] ++ wordL b) (by simp; omega) m w hm
        rwa [(words_two a b).1, (words_two a b).2] at this
      rw [List.append_assoc, List.singleton_append] at HWS
      generalize wordL a = x at *
      generalize wordL b = y at *
      cases hq : (a == b)
      all_goals
        rw [hq] at he
        ((
          go_enter Tryd.func4, Tryd.ntmps4
          go_wp2_with (first
            | (go_at_call 9; refine (alive_any m _ hm).mono ?_; rintro e w1 ⟨rfl, hb1⟩; obtain ⟨p1, rfl⟩ := grown_of hb1; clear hb1)
            | (go_at_call 17; with_reducible refine (HWA.out _).mono ?_; rintro e w1 ⟨rfl, hb1⟩; obtain ⟨p1, rfl⟩ := grown_of hb1; clear hb1)
            | (go_at_call 17; with_reducible refine (HWB.out _).mono ?_; rintro e w1 ⟨rfl, hb1⟩; obtain ⟨p1, rfl⟩ := grown_of hb1; clear hb1)
            | (go_at_call 10; refine (HWS.out _ (by repeat (first | exact hm | apply HasMax.grown))).mono ?_; intro e w1 hg; obtain ⟨b, o, cap, rfl, hcap, hb1, hlo, hhi, hat⟩ := hg.some2 (by simp); have hc0 : w1.cell? ⟨b, o, none⟩ = some (.string ⟨x.toArray⟩) := strAt hat 0 (by simp); have hc1 : w1.cell? ⟨b, o + 1, none⟩ = some (.string ⟨y.toArray⟩) := strAt hat 1 (by simp); have hbw := bel_up (w := w) (by repeat (first | exact Below.refl _ _ | assumption | refine below_grown ?_ (by first | omega | (simp [go_sem]; done) | (simp [go_sem] <;> omega)) _ | refine Below.alloc ?_ (by first | omega | (simp [go_sem]; done) | (simp [go_sem] <;> omega)) _ | refine below_bytesW ?_ (by first | omega | (simp [go_sem]; done) | (simp [go_sem] <;> omega)) _ | refine Below.drew ?_ | refine below_drewN ?_ _)) hb1; have hbs := hbw.size; have hob := isOld_iff.2 hhi; clear hg hb1 hat hcap))
          go_ret
          exact ⟨by simp, (by repeat (first | exact Below.refl _ _ | assumption | refine below_grown ?_ (by first | omega | (simp [go_sem]; done) | (simp [go_sem] <;> omega)) _ | refine Below.alloc ?_ (by first | omega | (simp [go_sem]; done) | (simp [go_sem] <;> omega)) _ | refine below_bytesW ?_ (by first | omega | (simp [go_sem]; done) | (simp [go_sem] <;> omega)) _ | refine Below.drew ?_ | refine below_drewN ?_ _))⟩))
end Go.Proofs.YtmophphkhajjaaaDoor
