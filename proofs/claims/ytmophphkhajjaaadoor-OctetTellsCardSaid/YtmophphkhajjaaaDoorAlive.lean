/- The walk of what each statement on octets asks first. -/
import Derived.Test.YtmophphkhajjaaaDoorLines
import Derived.Test.YtmophphkhajjaaaDoorLinesR
import Derived.Test.YtmophphkhajjaaaDoorWord
namespace Go.Proofs.YtmophphkhajjaaaDoor
open Go Go.RowKit
set_option linter.unusedSimpArgs false
set_option linter.unusedVariables false

set_option maxHeartbeats 400000 in
theorem alive_any (m : Int) (w : World) (hm : HasMax m w) :
    Calls Tryd.prog 9 #[] w fun e w' => e = .returned (.bool true) ∧ Below w.heap.size w w' := by
  have hl := lines_any [97, 13, 10, 98] (by decide) m w hm
  rw [show linesL [97, 13, 10, 98] = [[97], [98]] by decide] at hl
  have hw := fun w => word_any [97, 32, 98, 37] (by decide) w
  rw [show wordL [97, 32, 98, 37] = [97, 37, 50, 48, 98, 37, 50, 53] by decide] at hw
  have HL := Lib.hid hl
  have HW := Lib.hid hw
  clear hl hw
  go_enter Tryd.func9, Tryd.ntmps9
  go_wp2_with (first
    | (go_at_call 15; refine (HL.out).mono ?_; intro e w1 hg; obtain ⟨b, o, cap, rfl, hcap, hb1, hlo, hhi, hat⟩ := hg.some (by simp); have hc0 : w1.cell? ⟨b, o, none⟩ = some (.string ⟨#[97]⟩) := strAt hat 0 (by decide); have hc1 : w1.cell? ⟨b, o + 1, none⟩ = some (.string ⟨#[98]⟩) := strAt hat 1 (by decide); have hsz1 := hb1.size; have hob := isOld_iff.2 hhi; clear hg hat hcap)
    | (go_at_call 17; refine (HW.out _).mono ?_; rintro e w1 ⟨rfl, hb1⟩; obtain ⟨p1, rfl⟩ := grown_of hb1; clear hb1))
  go_ret
  exact ⟨rfl, (by repeat (first | exact Below.refl _ _ | assumption | refine below_grown ?_ (by first | omega | (simp [go_sem]; done) | (simp [go_sem] <;> omega)) _ | refine Below.alloc ?_ (by first | omega | (simp [go_sem]; done) | (simp [go_sem] <;> omega)) _ | refine below_bytesW ?_ (by first | omega | (simp [go_sem]; done) | (simp [go_sem] <;> omega)) _ | refine Below.drew ?_ | refine below_drewN ?_ _))⟩
end Go.Proofs.YtmophphkhajjaaaDoor
