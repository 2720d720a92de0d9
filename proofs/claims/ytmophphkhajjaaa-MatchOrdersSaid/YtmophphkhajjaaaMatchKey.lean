/- The walks of the functions that hold two cookies against each other. -/
import Derived.Test.YtmophphkhajjaaaRows
import Derived.Test.YtmophphkhajjaaaCookie
namespace Go.Proofs.Ytmophphkhajjaaa
open Go Go.RowKit Go.Sort

theorem of_any (c : GCookie) (w : World) :
    Calls Try.prog 18 #[.agg (cookieC c)] w fun e w' => e = .returned (.agg (placeV c.name c.host c.only c.path)) ∧ Below w.heap.size w w' := by
  go_enter Try.func18, Try.ntmps18
  go_wp2
  exact ret_cell (w.heap.size + 1) _ rfl rfl agg_place (by simp [go_sem]) (by simp [go_sem]) rfl ⟨rfl, ((Below.refl _ _).alloc (Nat.le_refl _) _).alloc (by simp) _⟩

def keyB (a b : GCookie) : Bool := a.name == b.name && (hostEq a.host b.host && (a.only == b.only && a.path == b.path))
theorem key_any (a b : GCookie) (w : World) :
    Calls Try.prog 12 #[.agg (cookieC a), .agg (cookieC b)] w fun e w' => e = .returned (.bool (keyB a b)) ∧ Below w.heap.size w w' := by
  go_enter Try.func12, Try.ntmps12
  go_wp2
  refine wp_region_quiet_grown (by kernel_rfl) (by kernel_rfl) ?_
  repeat (quiet_step ((go_at_call 18; exact quiet_grown (of_any _ _))))
  refine wpQuiet_nil ?_; intro _ hw'; obtain ⟨pq, hw''⟩ := hw'; subst hw''
  go_wp2
  go_ret
  exact ⟨rfl, (by repeat (first | exact Below.refl _ _ | refine below_grown ?_ (by simp [go_sem] <;> omega) _ | refine Below.alloc ?_ (by simp [go_sem] <;> omega) _ | refine Below.drew ?_ | refine below_drewN ?_ _))⟩
theorem refKey_any (a b : GCookie) (w : World) :
    Calls Try.prog 13 #[.agg (cookieC a), .agg (cookieC b)] w fun e w' => e = .returned (.bool (keyB a b)) ∧ Below w.heap.size w w' := by
  unfold keyB
  cases h1 : a.name == b.name <;> cases h2 : hostEq a.host b.host <;> cases h3 : a.only == b.only <;> cases h4 : a.path == b.path
  all_goals
    go_enter Try.func13, Try.ntmps13
    go_wp2
    go_ret
    exact ⟨rfl, (by repeat (first | exact Below.refl _ _ | refine below_grown ?_ (by simp [go_sem] <;> omega) _ | refine Below.alloc ?_ (by simp [go_sem] <;> omega) _ | refine Below.drew ?_ | refine below_drewN ?_ _))⟩
def aheadB (a b : GCookie) : Bool := decide (b.path.length < a.path.length) || (decide (a.path.length = b.path.length) && decide (a.seq < b.seq))
theorem ahead_eq (a b : GCookie) (h : a.path.length = b.path.length) : aheadB a b = decide (a.seq < b.seq) := by simp [aheadB, h]
theorem ahead_lt (a b : GCookie) (h : a.path.length < b.path.length) : aheadB a b = false := by simp [aheadB]; omega
theorem ahead_gt (a b : GCookie) (h : b.path.length < a.path.length) : aheadB a b = true := by simp [aheadB, h]
theorem ahead_any (a b : GCookie) (w : World) :
    Calls Try.prog 11 #[.agg (cookieC a), .agg (cookieC b)] w fun e w' => e = .returned (.bool (aheadB a b)) ∧ Below w.heap.size w w' := by
  have ha := a.hpath
  have hb := b.hpath
  unfold maxLen at ha hb
  rcases Nat.lt_trichotomy a.path.length b.path.length with h | h | h
  · rw [ahead_lt a b h]
    have h1 : ((a.path.length : Int) != b.path.length) = true := by simp; omega
    go_enter Try.func11, Try.ntmps11
    go_wp2
    go_ret
    exact ⟨ret_bool (by simp; omega), (by repeat (first | exact Below.refl _ _ | refine below_grown ?_ (by simp [go_sem] <;> omega) _ | refine Below.alloc ?_ (by simp [go_sem] <;> omega) _ | refine Below.drew ?_ | refine below_drewN ?_ _))⟩
  · rw [ahead_eq a b h]
    have h1 : ((a.path.length : Int) != b.path.length) = false := by rw [h]; simp
    clear h
    go_enter Try.func11, Try.ntmps11
    go_wp2
    go_ret
    exact ⟨rfl, (by repeat (first | exact Below.refl _ _ | refine below_grown ?_ (by simp [go_sem] <;> omega) _ | refine Below.alloc ?_ (by simp [go_sem] <;> omega) _ | refine Below.drew ?_ | refine below_drewN ?_ _))⟩
  · rw [ahead_gt a b h]
    have h1 : ((a.path.length : Int) != b.path.length) = true := by simp; omega
    go_enter Try.func11, Try.ntmps11
    go_wp2
    go_ret
    exact ⟨ret_bool (by simp), (by repeat (first | exact Below.refl _ _ | refine below_grown ?_ (by simp [go_sem] <;> omega) _ | refine Below.alloc ?_ (by simp [go_sem] <;> omega) _ | refine Below.drew ?_ | refine below_drewN ?_ _))⟩
theorem refAhead_any (a b : GCookie) (w : World) :
    Calls Try.prog 14 #[.agg (cookieC a), .agg (cookieC b)] w fun e w' => e = .returned (.bool (aheadB a b)) ∧ Below w.heap.size w w' := by
  have ha := a.hpath
  have hb := b.hpath
  unfold maxLen at ha hb
  rcases Nat.lt_trichotomy a.path.length b.path.length with h | h | h
  · rw [ahead_lt a b h]
    have h1 : ((a.path.length : Int) == b.path.length) = false := by simp; omega
    go_enter Try.func14, Try.ntmps14
    go_wp2
    go_ret
    exact ⟨ret_bool (by simp; omega), (by repeat (first | exact Below.refl _ _ | refine below_grown ?_ (by simp [go_sem] <;> omega) _ | refine Below.alloc ?_ (by simp [go_sem] <;> omega) _ | refine Below.drew ?_ | refine below_drewN ?_ _))⟩
  · rw [ahead_eq a b h]
    have h1 : ((a.path.length : Int) == b.path.length) = true := by rw [h]; simp
    have h2 : ¬ b.path.length < a.path.length := by omega
    clear h
    go_enter Try.func14, Try.ntmps14
    go_wp2
    go_ret
    exact ⟨ret_bool (by simp), (by repeat (first | exact Below.refl _ _ | refine below_grown ?_ (by simp [go_sem] <;> omega) _ | refine Below.alloc ?_ (by simp [go_sem] <;> omega) _ | refine Below.drew ?_ | refine below_drewN ?_ _))⟩
  · rw [ahead_gt a b h]
    go_enter Try.func14, Try.ntmps14
    go_wp2
    go_ret
    exact ⟨ret_bool (by simp), (by repeat (first | exact Below.refl _ _ | refine below_grown ?_ (by simp [go_sem] <;> omega) _ | refine Below.alloc ?_ (by simp [go_sem] <;> omega) _ | refine Below.drew ?_ | refine below_drewN ?_ _))⟩
end Go.Proofs.Ytmophphkhajjaaa
