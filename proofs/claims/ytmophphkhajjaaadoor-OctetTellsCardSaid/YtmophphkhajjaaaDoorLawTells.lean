/- The walk of the statement OctetTells. -/
import Derived.Test.YtmophphkhajjaaaDoorAlive
import Derived.Test.YtmophphkhajjaaaDoorLower
import Derived.Test.YtmophphkhajjaaaDoorTrim
namespace Go.Proofs.YtmophphkhajjaaaDoor
open Go Go.RowKit
set_option linter.unusedSimpArgs false
set_option linter.unusedVariables false

set_option maxHeartbeats 1000000 in
theorem tells_law (a b : List UInt8) (ha : a.length ≤ maxLen) (hb : b.length ≤ maxLen) (m : Int) (w : World) (hm : HasMax m w) :
    Calls Tryd.prog 8 #[.string ⟨a.toArray⟩, .string ⟨b.toArray⟩] w fun e w' => e = .returned (.bool true) ∧ Below w.heap.size w w' := by
  have hma := ha
  have hmb := hb
  unfold maxLen at hma hmb
  by_cases h1 : 2000 < a.length
  · go_enter Tryd.func8, Tryd.ntmps8
    go_wp2_with (go_at_call 9; refine (alive_any m _ hm).mono ?_; rintro e w1 ⟨rfl, hb1⟩; obtain ⟨p1, rfl⟩ := grown_of hb1; clear hb1)
    go_ret
    exact ⟨rfl, (by repeat (first | exact Below.refl _ _ | assumption | refine below_grown ?_ (by first | omega | (simp [go_sem]; done) | (simp [go_sem] <;> omega)) _ | refine Below.alloc ?_ (by first | omega | (simp [go_sem]; done) | (simp [go_sem] <;> omega)) _ | refine below_bytesW ?_ (by first | omega | (simp [go_sem]; done) | (simp [go_sem] <;> omega)) _ | refine Below.drew ?_ | refine below_drewN ?_ _))⟩
  · by_cases h2 : 2000 < b.length
    · go_enter Tryd.func8, Tryd.ntmps8
      go_wp2_with (go_at_call 9; refine (alive_any m _ hm).mono ?_; rintro e w1 ⟨rfl, hb1⟩; obtain ⟨p1, rfl⟩ := grown_of hb1; clear hb1)
      go_ret
      exact ⟨rfl, (by repeat (first | exact Below.refl _ _ | assumption | refine below_grown ?_ (by first | omega | (simp [go_sem]; done) | (simp [go_sem] <;> omega)) _ | refine Below.alloc ?_ (by first | omega | (simp [go_sem]; done) | (simp [go_sem] <;> omega)) _ | refine below_bytesW ?_ (by first | omega | (simp [go_sem]; done) | (simp [go_sem] <;> omega)) _ | refine Below.drew ?_ | refine below_drewN ?_ _))⟩
    · have hs := fun w => same_any a b ha hb w
      unfold sameB at hs
      cases hq : (lowerL a == lowerL b)
      all_goals
        rw [hq] at hs
        have HS := Lib.hid hs
        clear hs
        go_enter Tryd.func8, Tryd.ntmps8
        go_wp2_with (first
          | (go_at_call 9; refine (alive_any m _ hm).mono ?_; rintro e w1 ⟨rfl, hb1⟩; obtain ⟨p1, rfl⟩ := grown_of hb1; clear hb1)
          | (go_at_call 21; refine (lower_any _ (by assumption) _).mono ?_; rintro e w1 ⟨rfl, hb1⟩; obtain ⟨p1, rfl⟩ := grown_of hb1; clear hb1)
          | (go_at_call 25; refine (refLower_any _ (by assumption) _).mono ?_; rintro e w1 ⟨rfl, hb1⟩; obtain ⟨p1, rfl⟩ := grown_of hb1; clear hb1)
          | (go_at_call 22; refine (HS.out _).mono ?_; rintro e w1 ⟨rfl, hb1⟩; obtain ⟨p1, rfl⟩ := grown_of hb1; clear hb1)
          | (go_at_call 26; refine (trim_any _ (by assumption) _).mono ?_; rintro e w1 ⟨rfl, hb1⟩; obtain ⟨p1, rfl⟩ := grown_of hb1; clear hb1)
          | (go_at_call 27; refine (refTrim_any _ (by assumption) _).mono ?_; rintro e w' ⟨rfl, rfl⟩)
          | (go_at_call 28; refine (digits_any _ (by assumption) _).mono ?_; rintro e w1 ⟨rfl, hb1⟩; obtain ⟨p1, rfl⟩ := grown_of hb1; clear hb1)
          | (go_at_call 29; refine (refDigits_any _ (by assumption) _).mono ?_; rintro e w' ⟨rfl, rfl⟩))
        go_ret
        exact ⟨by simp, (by repeat (first | exact Below.refl _ _ | assumption | refine below_grown ?_ (by first | omega | (simp [go_sem]; done) | (simp [go_sem] <;> omega)) _ | refine Below.alloc ?_ (by first | omega | (simp [go_sem]; done) | (simp [go_sem] <;> omega)) _ | refine below_bytesW ?_ (by first | omega | (simp [go_sem]; done) | (simp [go_sem] <;> omega)) _ | refine Below.drew ?_ | refine below_drewN ?_ _))⟩

end Go.Proofs.YtmophphkhajjaaaDoor
