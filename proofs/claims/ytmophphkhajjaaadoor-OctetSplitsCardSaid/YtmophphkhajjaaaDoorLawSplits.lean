/- The walk of the statement OctetSplits. -/
import Derived.Test.YtmophphkhajjaaaDoorAlive
import Derived.Test.YtmophphkhajjaaaDoorSameR
namespace Go.Proofs.YtmophphkhajjaaaDoor
open Go Go.RowKit
set_option linter.unusedSimpArgs false
set_option linter.unusedVariables false

set_option maxHeartbeats 1000000 in
theorem splits_law (a : List UInt8) (c : UInt8) (ha : a.length ≤ maxLen) (m : Int) (w : World) (hm : HasMax m w) :
    Calls Tryd.prog 3 #[.string ⟨a.toArray⟩, .int .u8 (c.toNat : Int)] w fun e w' => e = .returned (.bool true) ∧ Below w.heap.size w w' := by
  unfold maxLen at ha
  by_cases h1 : 2000 < a.length
  · go_enter Tryd.func3, Tryd.ntmps3
    go_wp2_with (go_at_call 9; refine (alive_any m _ hm).mono ?_; rintro e w1 ⟨rfl, hb1⟩; obtain ⟨p1, rfl⟩ := grown_of hb1; clear hb1)
    go_ret
    exact ⟨rfl, (by repeat (first | exact Below.refl _ _ | assumption | refine below_grown ?_ (by first | omega | (simp [go_sem]; done) | (simp [go_sem] <;> omega)) _ | refine Below.alloc ?_ (by first | omega | (simp [go_sem]; done) | (simp [go_sem] <;> omega)) _ | refine below_bytesW ?_ (by first | omega | (simp [go_sem]; done) | (simp [go_sem] <;> omega)) _ | refine Below.drew ?_ | refine below_drewN ?_ _))⟩
  · have hw1 := splitL_length_le 32 a
    have hw2 := splitL_length_le c a
    have hw3 := wordsL_le a
    have hw4 := linesL_le a
    go_enter Tryd.func3, Tryd.ntmps3
    go_wp2_with (first
      | (go_at_call 9; refine (alive_any m _ hm).mono ?_; rintro e w1 ⟨rfl, hb1⟩; obtain ⟨p1, rfl⟩ := grown_of hb1; clear hb1)
      | (go_at_call 10; refine (words_gives a (by omega) m _ (by repeat (first | exact hm | apply HasMax.grown))).mono ?_; intro e w1 hg; obtain ⟨a1, c1, rfl, hc1, hb1, hl1⟩ := hg; obtain ⟨p1, rfl⟩ := grown_of hb1; clear hb1)
      | (go_at_call 11; refine (refWords_any a (by omega) _).mono ?_; intro e w1 hg; obtain ⟨a1, c1, rfl, hc1, hb1, hl1⟩ := hg; obtain ⟨p1, rfl⟩ := grown_of hb1; clear hb1)
      | (go_at_call 13; refine (split_gives a c (by omega) m _ (by repeat (first | exact hm | apply HasMax.grown))).mono ?_; intro e w1 hg; obtain ⟨a1, c1, rfl, hc1, hb1, hl1⟩ := hg; obtain ⟨p1, rfl⟩ := grown_of hb1; clear hb1)
      | (go_at_call 14; refine (refSplit_any a c (by omega) _).mono ?_; intro e w1 hg; obtain ⟨a1, c1, rfl, hc1, hb1, hl1⟩ := hg; obtain ⟨p1, rfl⟩ := grown_of hb1; clear hb1)
      | (go_at_call 15; refine (lines_any a (by omega) m _ (by repeat (first | exact hm | apply HasMax.grown))).mono ?_; intro e w1 hg; obtain ⟨a1, c1, rfl, hc1, hb1, hl1⟩ := hg; obtain ⟨p1, rfl⟩ := grown_of hb1; clear hb1)
      | (go_at_call 16; refine (refLines_any a (by omega) _).mono ?_; intro e w1 hg; obtain ⟨a1, c1, rfl, hc1, hb1, hl1⟩ := hg; obtain ⟨p1, rfl⟩ := grown_of hb1; clear hb1)
      | (go_at_call 12; refine (refSame_any _ _ _ _ _ _ _ _ (by omega) (by omega) _ (by repeat (first | assumption | apply ListIn.grown)) (by repeat (first | assumption | apply ListIn.grown))).mono ?_; rintro e w1 ⟨rfl, hb1⟩; obtain ⟨p1, rfl⟩ := grown_of hb1; clear hb1))
    go_ret
    exact ⟨by simp, (by repeat (first | exact Below.refl _ _ | assumption | refine below_grown ?_ (by first | omega | (simp [go_sem]; done) | (simp [go_sem] <;> omega)) _ | refine Below.alloc ?_ (by first | omega | (simp [go_sem]; done) | (simp [go_sem] <;> omega)) _ | refine below_bytesW ?_ (by first | omega | (simp [go_sem]; done) | (simp [go_sem] <;> omega)) _ | refine Below.drew ?_ | refine below_drewN ?_ _))⟩

end Go.Proofs.YtmophphkhajjaaaDoor
