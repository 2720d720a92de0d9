/- The walk of what each statement on addresses asks first. -/
import Derived.Test.YtamkmfkkhgkllaaDoorAddrText6
namespace Go.Proofs.YtamkmfkkhgkllaaDoor
open Go Go.RowKit
set_option maxRecDepth 20000
set_option linter.unusedSimpArgs false
set_option linter.unusedVariables false

def aliveT : List UInt8 := [50, 48, 48, 49, 58, 68, 66, 56, 58, 48, 58, 48, 58, 49, 58, 48, 58, 48, 58, 49]
def aliveU : List UInt8 := [50, 48, 48, 49, 58, 100, 98, 56, 58, 58, 49, 58, 48, 58, 48, 58, 49]
theorem alive_text : v6Ok aliveT = true ∧ text6L (v6A aliveT).b = aliveU := by decide +kernel
set_option maxHeartbeats 400000 in
theorem addrAlive_any (m : Int) (w : World) (hm : HasMax m w) (htz : HasTz w) :
    Calls Tryd.prog 11 #[] w fun e w' => e = .returned (.bool true) ∧ Below w.heap.size w w' := by
  obtain ⟨h1, h2⟩ := alive_text
  have HV : Hid (Calls Tryd.prog 15 #[.string ⟨aliveT.toArray⟩] w fun e w' => e = .returned (.tuple #[.agg (addrC (v6A aliveT)), .bool true]) ∧ Below w.heap.size w w') := by
    have := v6_any aliveT (by decide) m w hm
    rwa [h1] at this
  have HT : Hid (∀ w, HasTz w → Calls Tryd.prog 14 #[.agg (addrC (v6A aliveT))] w fun e w' => e = .returned (.string ⟨aliveU.toArray⟩) ∧ Below w.heap.size w w') := fun w htz => by
    have := text6_any (v6A aliveT) w htz
    rwa [h2] at this
  clear h1 h2
  generalize v6A aliveT = A0 at *
  unfold aliveT at HV
  unfold aliveU at HT
  go_enter Tryd.func11, Tryd.ntmps11
  go_wp2_with (first
    | (go_at_call 15; refine (HV.out).mono ?_; rintro e w1 ⟨rfl, hb1⟩; obtain ⟨p1, rfl⟩ := grown_of hb1; clear hb1)
    | (go_at_call 14; refine (HT.out _ ((htz.grown _).alloc _)).mono ?_; rintro e w1 ⟨rfl, hb1⟩; obtain ⟨p1, rfl⟩ := grown_of hb1; clear hb1))
  go_ret
  exact ⟨rfl, (by repeat (first | exact Below.refl _ _ | assumption | refine below_grown ?_ (by first | omega | (simp [go_sem]; done) | (simp [go_sem] <;> omega)) _ | refine Below.alloc ?_ (by first | omega | (simp [go_sem]; done) | (simp [go_sem] <;> omega)) _ | refine below_bytesW ?_ (by first | omega | (simp [go_sem]; done) | (simp [go_sem] <;> omega)) _ | refine Below.drew ?_ | refine below_drewN ?_ _))⟩
end Go.Proofs.YtamkmfkkhgkllaaDoor
