/- The walk of the statement AddrGroups. -/
import Derived.Test.YtamkmfkkhgkllaaDoorAddrAlive
namespace Go.Proofs.YtamkmfkkhgkllaaDoor
open Go Go.RowKit
set_option maxRecDepth 20000
set_option linter.unusedSimpArgs false
set_option linter.unusedVariables false

theorem grp_from_G (g : GGroups) : grpG (fromG g) = g := groups_ext (grp_from g.g)
theorem from_zero : fromG zeroG = zeroA := addr_ext (by decide)
theorem from_zero_eq (g : GGroups) : addrEq (fromG g) zeroA = groupsEq g zeroG := by
  rw [Bool.eq_iff_iff, addrEq_iff, groupsEq_iff]
  constructor
  · intro h
    have := congrArg grpG h
    rw [grp_from_G, ← from_zero, grp_from_G] at this
    exact this
  · intro h; rw [h, from_zero]
set_option maxHeartbeats 1000000 in
theorem groups_law (g : GGroups) (m : Int) (w : World) (hm : HasMax m w) (htz : HasTz w) :
    Calls Tryd.prog 3 #[.agg (groupsC g)] w fun e w' => e = .returned (.bool true) ∧ Below w.heap.size w w' := by
  have HF : Hid (∀ w, Calls Tryd.prog 12 #[.agg (groupsC g)] w fun e w' => e = .returned (.agg (addrC (fromG g))) ∧ Below w.heap.size w w') := fun w => from_any g w
  have HG : Hid (∀ w, Calls Tryd.prog 13 #[.agg (addrC (fromG g))] w fun e w' => e = .returned (.agg (groupsC g)) ∧ Below w.heap.size w w') := fun w => by
    have := groups_any (fromG g) w
    rwa [grp_from_G] at this
  have hz := from_zero_eq g
  have he1 : groupsEq g g = true := (groupsEq_iff _ _).2 rfl
  have he2 : addrEq (fromG g) (fromG g) = true := (addrEq_iff _ _).2 rfl
  generalize fromG g = a at *
  cases hq : groupsEq g zeroG
  all_goals
    rw [hq] at hz
    go_enter Tryd.func3, Tryd.ntmps3
    go_wp2_with (first
      | (go_at_call 11; refine (addrAlive_any m _ (hm.alloc _) (htz.alloc _)).mono ?_; rintro e w1 ⟨rfl, hb1⟩; obtain ⟨p1, rfl⟩ := grown_of hb1; clear hb1)
      | (go_at_call 12; refine (HF.out _).mono ?_; rintro e w1 ⟨rfl, hb1⟩; obtain ⟨p1, rfl⟩ := grown_of hb1; clear hb1))
    refine wp_region_quiet_grown (by kernel_rfl) (by kernel_rfl) ?_
    repeat (quiet_step ((first | (go_at_call 13; exact quiet_grown (HG.out _)) | (go_at_call 12; exact quiet_grown (HF.out _)))))
    refine wpQuiet_nil ?_; intro _ hw'; obtain ⟨pq, hw''⟩ := hw'; subst hw''
    go_wp2
    go_ret
    exact ⟨by simp, (by repeat (first | exact Below.refl _ _ | assumption | refine below_grown ?_ (by first | omega | (simp [go_sem]; done) | (simp [go_sem] <;> omega)) _ | refine Below.alloc ?_ (by first | omega | (simp [go_sem]; done) | (simp [go_sem] <;> omega)) _ | refine below_bytesW ?_ (by first | omega | (simp [go_sem]; done) | (simp [go_sem] <;> omega)) _ | refine Below.drew ?_ | refine below_drewN ?_ _))⟩
end Go.Proofs.YtamkmfkkhgkllaaDoor
