/- The law on orders: of any two cookies whether they stand in one place, and which goes ahead; never both. No condition. -/
import Derived.Test.YtmophphkhajjaaaMatchKey
import Derived.Test.YtmophphkhajjaaaMatchPathsLaw
namespace Go.Proofs.Ytmophphkhajjaaa
open Go Go.RowKit Go.Sort

theorem ahead_self (a : GCookie) : aheadB a a = false := by simp [aheadB]
theorem ahead_not_both (a b : GCookie) (h : aheadB a b = true) : aheadB b a = false := by
  simp only [aheadB, Bool.or_eq_true, Bool.and_eq_true, decide_eq_true_eq, Bool.or_eq_false_iff, Bool.and_eq_false_iff, decide_eq_false_iff_not] at *
  omega
theorem key_self (a : GCookie) : keyB a a = true := by simp [keyB, (hostEq_iff _ _).2 rfl]

set_option maxHeartbeats 1000000 in
theorem matchOrders_walk (a b : GCookie) (w : World) :
    Calls Try.prog 5 #[.agg (cookieC a), .agg (cookieC b)] w fun e w' => e = .returned (.bool true) ∧ Below w.heap.size w w' := by
  have h1 := ahead_self a
  have h2 := key_self a
  have h3 := ahead_not_both a b
  have h3 : (aheadB a b = true ∧ aheadB b a = false) ∨ aheadB a b = false := by
    cases hab : aheadB a b
    · exact .inr rfl
    · exact .inl ⟨rfl, h3 hab⟩
  rcases h3 with ⟨hab, hba⟩ | hab <;> cases hk : keyB a b
  all_goals
    go_enter Try.func5, Try.ntmps5
    go_wp2_with (first | (go_at_call 6; refine (matchAlive_any _).mono ?_; rintro e w' ⟨rfl, rfl⟩) | (go_at_call 11; refine (ahead_any _ _ _).mono ?_; rintro e w1 ⟨rfl, hb1⟩; obtain ⟨p1, rfl⟩ := grown_of hb1; clear hb1) | (go_at_call 12; refine (key_any _ _ _).mono ?_; rintro e w1 ⟨rfl, hb1⟩; obtain ⟨p1, rfl⟩ := grown_of hb1; clear hb1))
    refine wp_region_quiet_grown (by kernel_rfl) (by kernel_rfl) ?_
    repeat (quiet_step (first | (go_at_call 11; exact quiet_grown (ahead_any _ _ _)) | (go_at_call 12; exact quiet_grown (key_any _ _ _)) | (go_at_call 14; exact quiet_grown (refAhead_any _ _ _)) | (go_at_call 13; exact quiet_grown (refKey_any _ _ _))))
    refine wpQuiet_nil ?_; intro _ hw'; obtain ⟨pq, hw''⟩ := hw'; subst hw''
    go_wp2
    go_ret
    exact ⟨rfl, (by repeat (first | exact Below.refl _ _ | refine below_grown ?_ (by simp [go_sem] <;> omega) _ | refine Below.alloc ?_ (by simp [go_sem] <;> omega) _ | refine Below.drew ?_ | refine below_drewN ?_ _))⟩
end Go.Proofs.Ytmophphkhajjaaa
