/- The walk of the statement OctetWords. -/
import Derived.Test.YtmophphkhajjaaaDoorAlive
import Derived.Test.YtmophphkhajjaaaDoorUnwordR
namespace Go.Proofs.YtmophphkhajjaaaDoor
open Go Go.RowKit
set_option linter.unusedSimpArgs false
set_option linter.unusedVariables false

set_option maxHeartbeats 400000 in
theorem words_law (a : List UInt8) (ha : a.length ≤ maxLen) (m : Int) (w : World) (hm : HasMax m w) :
    Calls Tryd.prog 5 #[.string ⟨a.toArray⟩] w fun e w' => e = .returned (.bool true) ∧ Below w.heap.size w w' := by
  unfold maxLen at ha
  by_cases h1 : 1000 < a.length
  · go_enter Tryd.func5, Tryd.ntmps5
    go_wp2_with (go_at_call 9; refine (alive_any m _ hm).mono ?_; rintro e w1 ⟨rfl, hb1⟩; obtain ⟨p1, rfl⟩ := grown_of hb1; clear hb1)
    go_ret
    exact ⟨rfl, (by repeat (first | exact Below.refl _ _ | assumption | refine below_grown ?_ (by first | omega | (simp [go_sem]; done) | (simp [go_sem] <;> omega)) _ | refine Below.alloc ?_ (by first | omega | (simp [go_sem]; done) | (simp [go_sem] <;> omega)) _ | refine below_bytesW ?_ (by first | omega | (simp [go_sem]; done) | (simp [go_sem] <;> omega)) _ | refine Below.drew ?_ | refine below_drewN ?_ _))⟩
  · go_enter Tryd.func5, Tryd.ntmps5
    go_wp2_with (first
      | (go_at_call 9; refine (alive_any m _ hm).mono ?_; rintro e w1 ⟨rfl, hb1⟩; obtain ⟨p1, rfl⟩ := grown_of hb1; clear hb1)
      | (go_at_call 18; refine (unword_any _ (by omega) _).mono ?_; intro e w1 hu; obtain ⟨t, ok, hu, rfl, hb1⟩ := hu; have HU := Lib.hid hu; clear hu; obtain ⟨p1, rfl⟩ := grown_of hb1; clear hb1)
      | (go_at_call 19; refine (refUnword_any _ (by omega) _).mono ?_; intro e w1 hu; obtain ⟨t2, ok2, hu, rfl, hb1⟩ := hu; obtain ⟨rfl, rfl⟩ := HU.out.one hu; clear hu; obtain ⟨p1, rfl⟩ := grown_of hb1; clear hb1)
      | (go_at_call 17; refine (word_any _ (by omega) _).mono ?_; rintro e w1 ⟨rfl, hb1⟩; obtain ⟨p1, rfl⟩ := grown_of hb1; clear hb1)
      | (go_at_call 20; refine (refWord_any _ (by omega) _).mono ?_; rintro e w1 ⟨rfl, hb1⟩; obtain ⟨p1, rfl⟩ := grown_of hb1; clear hb1))
    go_ret
    exact ⟨by simp, (by repeat (first | exact Below.refl _ _ | assumption | refine below_grown ?_ (by first | omega | (simp [go_sem]; done) | (simp [go_sem] <;> omega)) _ | refine Below.alloc ?_ (by first | omega | (simp [go_sem]; done) | (simp [go_sem] <;> omega)) _ | refine below_bytesW ?_ (by first | omega | (simp [go_sem]; done) | (simp [go_sem] <;> omega)) _ | refine Below.drew ?_ | refine below_drewN ?_ _))⟩

end Go.Proofs.YtmophphkhajjaaaDoor
