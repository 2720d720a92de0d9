/- The walk of the statement MatchHosts. -/
import Derived.Test.YtfnhkpfkaiamjaaGreatDoorHostAll
import Derived.Test.YtfnhkpfkaiamjaaGreatDoorMatchAll
namespace Go.Proofs.YtfnhkpfkaiamjaaGreatDoor
open Go Go.RowKit
set_option maxRecDepth 20000
set_option linter.unusedSimpArgs false
set_option linter.unusedVariables false

set_option maxHeartbeats 1000000 in
theorem matchHosts_law (h d : GHost) (m : Int) (w : World) (hm : HasMax m w) (htz : HasTz w) (hd : HasDec w) :
    Calls Tryz.prog 3 #[.agg (hostC h), .agg (hostC d)] w fun e w' => e = .returned (.bool true) ∧ Below w.heap.size w w' := by
  by_cases h1 : (600 : Int) < h.name.length
  · go_enter Tryz.func3, Tryz.ntmps3
    go_wp2_with (go_at_call 8; refine (matchAlive_any _).mono ?_; intro e w' h; obtain ⟨rfl, h2⟩ := h; subst w')
    go_ret
    exact ⟨rfl, (by repeat (first | exact Below.refl _ _ | assumption | refine below_grown ?_ (by first | omega | (simp [go_sem]; done) | (simp [go_sem] <;> omega)) _ | refine Below.alloc ?_ (by first | omega | (simp [go_sem]; done) | (simp [go_sem] <;> omega)) _ | refine below_bytesW ?_ (by first | omega | (simp [go_sem]; done) | (simp [go_sem] <;> omega)) _ | refine Below.drew ?_ | refine below_drewN ?_ _))⟩
  · by_cases h2 : (600 : Int) < d.name.length
    · go_enter Tryz.func3, Tryz.ntmps3
      go_wp2_with (go_at_call 8; refine (matchAlive_any _).mono ?_; intro e w' h; obtain ⟨rfl, h2⟩ := h; subst w')
      go_ret
      exact ⟨rfl, (by repeat (first | exact Below.refl _ _ | assumption | refine below_grown ?_ (by first | omega | (simp [go_sem]; done) | (simp [go_sem] <;> omega)) _ | refine Below.alloc ?_ (by first | omega | (simp [go_sem]; done) | (simp [go_sem] <;> omega)) _ | refine below_bytesW ?_ (by first | omega | (simp [go_sem]; done) | (simp [go_sem] <;> omega)) _ | refine Below.drew ?_ | refine below_drewN ?_ _))⟩
    · have HU : Hid (∀ w, HasMax m w → HasTz w → HasDec w → Calls Tryz.prog 9 #[.agg (hostC h), .agg (hostC d)] w fun e w' => e = .returned (.bool (domainB h d)) ∧ Below w.heap.size w w') := fun w x y z => domain_any h d (by omega) (by omega) m w x y z
      have HR : Hid (∀ w, Calls Tryz.prog 10 #[.agg (hostC h), .agg (hostC d)] w fun e w' => e = .returned (.bool (domainB h d)) ∧ Below w.heap.size w w') := fun w => refDomain_any h d (by omega) (by omega) w
      generalize domainB h d = u at *
      go_enter Tryz.func3, Tryz.ntmps3
      go_wp2_with (go_at_call 8; refine (matchAlive_any _).mono ?_; intro e w' h; obtain ⟨rfl, h2⟩ := h; subst w')
      refine wp_region_quiet_grown (by kernel_rfl) (by kernel_rfl) ?_
      repeat (quiet_step ((first | (go_at_call 9; exact quiet_grown (HU.out _ (by repeat (first | exact hm | apply HasMax.grown | apply HasMax.alloc | apply HasMax.drew)) (by repeat (first | exact htz | apply HasTz.grown | apply HasTz.alloc | apply HasTz.drew)) (by repeat (first | exact hd | apply HasDec.grown | apply HasDec.alloc | apply HasDec.drew)))) | (go_at_call 10; exact quiet_grown (HR.out _)))))
      refine wpQuiet_nil ?_; intro _ hw'; obtain ⟨pq, hw''⟩ := hw'; subst hw''
      go_wp2
      go_ret
      exact ⟨by first | rfl | exact ret_bool (by simp), (by repeat (first | exact Below.refl _ _ | assumption | refine below_grown ?_ (by first | omega | (simp [go_sem]; done) | (simp [go_sem] <;> omega)) _ | refine Below.alloc ?_ (by first | omega | (simp [go_sem]; done) | (simp [go_sem] <;> omega)) _ | refine below_bytesW ?_ (by first | omega | (simp [go_sem]; done) | (simp [go_sem] <;> omega)) _ | refine Below.drew ?_ | refine below_drewN ?_ _))⟩
end Go.Proofs.YtfnhkpfkaiamjaaGreatDoor
