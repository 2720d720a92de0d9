/- The walk of the statement MatchSends. -/
import Derived.Test.YtfnhkpfkaiamjaaGreatDoorMatchSend
namespace Go.Proofs.YtfnhkpfkaiamjaaGreatDoor
open Go Go.RowKit
set_option maxRecDepth 20000
set_option linter.unusedSimpArgs false
set_option linter.unusedVariables false

def greatB (c : GCookie) (r : GRequest) : Bool := decide ((600 : Int) < c.host.name.length) || (decide ((600 : Int) < r.host.name.length) || (decide ((3000 : Int) < c.path.length) || decide ((3000 : Int) < r.path.length)))
theorem great_any (c : GCookie) (r : GRequest) (w : World) :
    Calls Tryz.prog 11 #[.agg (cookieC c), .agg (requestC r)] w fun e w' => e = .returned (.bool (greatB c r)) ∧ Below w.heap.size w w' := by
  unfold greatB
  by_cases h1 : (600 : Int) < c.host.name.length
  · go_enter Tryz.func11, Tryz.ntmps11
    go_wp2
    go_ret
    exact ⟨by first | rfl | exact ret_bool (by simp [h1]), (by repeat (first | exact Below.refl _ _ | assumption | refine below_grown ?_ (by first | omega | (simp [go_sem]; done) | (simp [go_sem] <;> omega)) _ | refine Below.alloc ?_ (by first | omega | (simp [go_sem]; done) | (simp [go_sem] <;> omega)) _ | refine below_bytesW ?_ (by first | omega | (simp [go_sem]; done) | (simp [go_sem] <;> omega)) _ | refine Below.drew ?_ | refine below_drewN ?_ _))⟩
  · by_cases h2 : (600 : Int) < r.host.name.length
    · go_enter Tryz.func11, Tryz.ntmps11
      go_wp2
      go_ret
      exact ⟨by first | rfl | exact ret_bool (by simp [h2]), (by repeat (first | exact Below.refl _ _ | assumption | refine below_grown ?_ (by first | omega | (simp [go_sem]; done) | (simp [go_sem] <;> omega)) _ | refine Below.alloc ?_ (by first | omega | (simp [go_sem]; done) | (simp [go_sem] <;> omega)) _ | refine below_bytesW ?_ (by first | omega | (simp [go_sem]; done) | (simp [go_sem] <;> omega)) _ | refine Below.drew ?_ | refine below_drewN ?_ _))⟩
    · by_cases h3 : (3000 : Int) < c.path.length
      · go_enter Tryz.func11, Tryz.ntmps11
        go_wp2
        go_ret
        exact ⟨by first | rfl | exact ret_bool (by simp [h3]), (by repeat (first | exact Below.refl _ _ | assumption | refine below_grown ?_ (by first | omega | (simp [go_sem]; done) | (simp [go_sem] <;> omega)) _ | refine Below.alloc ?_ (by first | omega | (simp [go_sem]; done) | (simp [go_sem] <;> omega)) _ | refine below_bytesW ?_ (by first | omega | (simp [go_sem]; done) | (simp [go_sem] <;> omega)) _ | refine Below.drew ?_ | refine below_drewN ?_ _))⟩
      · go_enter Tryz.func11, Tryz.ntmps11
        go_wp2
        go_ret
        refine ⟨?_, (by repeat (first | exact Below.refl _ _ | assumption | refine below_grown ?_ (by first | omega | (simp [go_sem]; done) | (simp [go_sem] <;> omega)) _ | refine Below.alloc ?_ (by first | omega | (simp [go_sem]; done) | (simp [go_sem] <;> omega)) _ | refine below_bytesW ?_ (by first | omega | (simp [go_sem]; done) | (simp [go_sem] <;> omega)) _ | refine Below.drew ?_ | refine below_drewN ?_ _))⟩
        first | rfl | (apply ret_bool; rw [decide_eq_false (by omega : ¬ (600 : Int) < c.host.name.length), decide_eq_false (by omega : ¬ (600 : Int) < r.host.name.length), decide_eq_false (by omega : ¬ (3000 : Int) < c.path.length)]; simp)
theorem great_no {c : GCookie} {r : GRequest} (h : greatB c r = false) : c.host.name.length ≤ 600 ∧ r.host.name.length ≤ 600 := by
  unfold greatB at h
  simp only [Bool.or_eq_false_iff, decide_eq_false_iff_not] at h
  omega
set_option maxHeartbeats 2000000 in
theorem matchSends_law (c : GCookie) (r : GRequest) (now : Int) (hnow : (Lit.int .i64 now).wf = true) (m : Int) (w : World) (hm : HasMax m w) (htz : HasTz w) (hd : HasDec w) :
    Calls Tryz.prog 4 #[.agg (cookieC c), .agg (requestC r), .int .i64 now] w fun e w' => e = .returned (.bool true) ∧ Below w.heap.size w w' := by
  have HG := Lib.hid (fun w => great_any c r w)
  cases hg : greatB c r
  · rw [hg] at HG
    obtain ⟨l1, l2⟩ := great_no hg
    clear hg
    by_cases s1 : c.same < 0
    · go_enter Tryz.func4, Tryz.ntmps4
      go_wp2_with (first
        | (go_at_call 8; refine (matchAlive_any _).mono ?_; intro e w' h; obtain ⟨rfl, h2⟩ := h; subst w')
        | (go_at_call 11; refine (HG.out _).mono ?_; rintro e w1 ⟨rfl, hb1⟩; obtain ⟨p1, rfl⟩ := grown_of hb1; clear hb1))
      go_ret
      exact ⟨rfl, (by repeat (first | exact Below.refl _ _ | assumption | refine below_grown ?_ (by first | omega | (simp [go_sem]; done) | (simp [go_sem] <;> omega)) _ | refine Below.alloc ?_ (by first | omega | (simp [go_sem]; done) | (simp [go_sem] <;> omega)) _ | refine below_bytesW ?_ (by first | omega | (simp [go_sem]; done) | (simp [go_sem] <;> omega)) _ | refine Below.drew ?_ | refine below_drewN ?_ _))⟩
    · by_cases s2 : (3 : Int) < c.same
      · go_enter Tryz.func4, Tryz.ntmps4
        go_wp2_with (first
          | (go_at_call 8; refine (matchAlive_any _).mono ?_; intro e w' h; obtain ⟨rfl, h2⟩ := h; subst w')
          | (go_at_call 11; refine (HG.out _).mono ?_; rintro e w1 ⟨rfl, hb1⟩; obtain ⟨p1, rfl⟩ := grown_of hb1; clear hb1))
        go_ret
        exact ⟨rfl, (by repeat (first | exact Below.refl _ _ | assumption | refine below_grown ?_ (by first | omega | (simp [go_sem]; done) | (simp [go_sem] <;> omega)) _ | refine Below.alloc ?_ (by first | omega | (simp [go_sem]; done) | (simp [go_sem] <;> omega)) _ | refine below_bytesW ?_ (by first | omega | (simp [go_sem]; done) | (simp [go_sem] <;> omega)) _ | refine Below.drew ?_ | refine below_drewN ?_ _))⟩
      · have HU : Hid (∀ w, HasMax m w → HasTz w → HasDec w → Calls Tryz.prog 12 #[.agg (cookieC c), .agg (requestC r), .int .i64 now] w fun e w' => e = .returned (.bool (sendsB c r now)) ∧ Below w.heap.size w w') := fun w x y z => sends_any c r now (by omega) (by omega) m w x y z
        have HR : Hid (∀ w, Calls Tryz.prog 13 #[.agg (cookieC c), .agg (requestC r), .int .i64 now] w fun e w' => e = .returned (.bool (sendsB c r now)) ∧ Below w.heap.size w w') := fun w => refSends_any c r now (by omega) (by omega) w
        generalize sendsB c r now = u at *
        go_enter Tryz.func4, Tryz.ntmps4
        go_wp2_with (first
          | (go_at_call 8; refine (matchAlive_any _).mono ?_; intro e w' h; obtain ⟨rfl, h2⟩ := h; subst w')
          | (go_at_call 11; refine (HG.out _).mono ?_; rintro e w1 ⟨rfl, hb1⟩; obtain ⟨p1, rfl⟩ := grown_of hb1; clear hb1))
        refine wp_region_quiet_grown (by kernel_rfl) (by kernel_rfl) ?_
        repeat (quiet_step ((first | (go_at_call 12; exact quiet_grown (HU.out _ (by repeat (first | exact hm | apply HasMax.grown | apply HasMax.alloc | apply HasMax.drew)) (by repeat (first | exact htz | apply HasTz.grown | apply HasTz.alloc | apply HasTz.drew)) (by repeat (first | exact hd | apply HasDec.grown | apply HasDec.alloc | apply HasDec.drew)))) | (go_at_call 13; exact quiet_grown (HR.out _)))))
        refine wpQuiet_nil ?_; intro _ hw'; obtain ⟨pq, hw''⟩ := hw'; subst hw''
        go_wp2
        go_ret
        exact ⟨by first | rfl | exact ret_bool (by simp), (by repeat (first | exact Below.refl _ _ | assumption | refine below_grown ?_ (by first | omega | (simp [go_sem]; done) | (simp [go_sem] <;> omega)) _ | refine Below.alloc ?_ (by first | omega | (simp [go_sem]; done) | (simp [go_sem] <;> omega)) _ | refine below_bytesW ?_ (by first | omega | (simp [go_sem]; done) | (simp [go_sem] <;> omega)) _ | refine Below.drew ?_ | refine below_drewN ?_ _))⟩
  · rw [hg] at HG
    go_enter Tryz.func4, Tryz.ntmps4
    go_wp2_with (first
      | (go_at_call 8; refine (matchAlive_any _).mono ?_; intro e w' h; obtain ⟨rfl, h2⟩ := h; subst w')
      | (go_at_call 11; refine (HG.out _).mono ?_; rintro e w1 ⟨rfl, hb1⟩; obtain ⟨p1, rfl⟩ := grown_of hb1; clear hb1))
    go_ret
    exact ⟨rfl, (by repeat (first | exact Below.refl _ _ | assumption | refine below_grown ?_ (by first | omega | (simp [go_sem]; done) | (simp [go_sem] <;> omega)) _ | refine Below.alloc ?_ (by first | omega | (simp [go_sem]; done) | (simp [go_sem] <;> omega)) _ | refine below_bytesW ?_ (by first | omega | (simp [go_sem]; done) | (simp [go_sem] <;> omega)) _ | refine Below.drew ?_ | refine below_drewN ?_ _))⟩
end Go.Proofs.YtfnhkpfkaiamjaaGreatDoor
