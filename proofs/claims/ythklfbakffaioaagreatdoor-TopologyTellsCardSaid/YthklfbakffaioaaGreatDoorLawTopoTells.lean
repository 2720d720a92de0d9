/- The walk of the statement TopologyTells. -/
import Derived.Test.YthklfbakffaioaaGreatDoorTopoAllB
namespace Go.Proofs.YthklfbakffaioaaGreatDoor
open Go Go.RowKit
set_option maxRecDepth 20000
set_option linter.unusedSimpArgs false
set_option linter.unusedVariables false

set_option maxHeartbeats 2000000 in
theorem topoTells_law (p : GPat) (m : Int) (w : World) (hm : HasMax m w) (htz : HasTz w) (hd : HasDec w) :
    Calls Tryz.prog 9 #[.agg (patC p)] w fun e w' => e = .returned (.bool true) ∧ Below w.heap.size w w' := by
  obtain ⟨wi, h, pl, se, pa, hpa⟩ := p
  unfold patC
  dsimp only
  by_cases h1 : (400 : Int) < h.name.length
  · go_enter Tryz.func9, Tryz.ntmps9
    go_wp2_with (go_at_call 11; refine (topoAlive_any m _ (by repeat (first | exact hm | apply HasMax.grown | apply HasMax.alloc | apply HasMax.drew))).mono ?_; rintro e w1 ⟨rfl, hb1⟩; obtain ⟨p1, rfl⟩ := grown_of hb1; clear hb1)
    go_ret
    exact ⟨rfl, (by repeat (first | exact Below.refl _ _ | assumption | refine below_grown ?_ (by first | omega | (simp [go_sem]; done) | (simp [go_sem] <;> omega)) _ | refine Below.alloc ?_ (by first | omega | (simp [go_sem]; done) | (simp [go_sem] <;> omega)) _ | refine below_bytesW ?_ (by first | omega | (simp [go_sem]; done) | (simp [go_sem] <;> omega)) _ | refine Below.drew ?_ | refine below_drewN ?_ _))⟩
  · by_cases h2 : (3000 : Int) < pa.length
    · go_enter Tryz.func9, Tryz.ntmps9
      go_wp2_with (go_at_call 11; refine (topoAlive_any m _ (by repeat (first | exact hm | apply HasMax.grown | apply HasMax.alloc | apply HasMax.drew))).mono ?_; rintro e w1 ⟨rfl, hb1⟩; obtain ⟨p1, rfl⟩ := grown_of hb1; clear hb1)
      go_ret
      exact ⟨rfl, (by repeat (first | exact Below.refl _ _ | assumption | refine below_grown ?_ (by first | omega | (simp [go_sem]; done) | (simp [go_sem] <;> omega)) _ | refine Below.alloc ?_ (by first | omega | (simp [go_sem]; done) | (simp [go_sem] <;> omega)) _ | refine below_bytesW ?_ (by first | omega | (simp [go_sem]; done) | (simp [go_sem] <;> omega)) _ | refine Below.drew ?_ | refine below_drewN ?_ _))⟩
    · have H1 : Hid (∀ w, HasMax m w → HasTz w → HasDec w → Calls Tryz.prog 13 #[.agg (patV wi h pl se pa)] w fun e w' => e = .returned (.bool (patRight wi h pl se pa)) ∧ Below w.heap.size w w') := fun w x y z => topoRight_any wi h pl se pa (by omega) hpa m w x y z
      have H2 : Hid (∀ w, Calls Tryz.prog 21 #[.agg (patV wi h pl se pa)] w fun e w' => e = .returned (.bool (patRight wi h pl se pa)) ∧ Below w.heap.size w w') := fun w => refTopoRight_any wi h pl se pa (by omega) hpa w
      have H3 : Hid (∀ w, HasMax m w → HasTz w → HasDec w → Calls Tryz.prog 22 #[.agg (patV wi h pl se pa)] w fun e w' => e = .returned (.string ⟨(patText wi h pl se pa).toArray⟩) ∧ Below w.heap.size w w') := fun w x y z => topoText_any wi h pl se pa (by omega) (by omega) m w x y z
      have H4 : Hid (∀ w, Calls Tryz.prog 23 #[.agg (patV wi h pl se pa)] w fun e w' => e = .returned (.string ⟨(patText wi h pl se pa).toArray⟩) ∧ Below w.heap.size w w') := fun w => refTopoText_any wi h pl se pa (by omega) (by omega) w
      generalize patText wi h pl se pa = T at *
      generalize patRight wi h pl se pa = ok at *
      go_enter Tryz.func9, Tryz.ntmps9
      go_wp2_with (go_at_call 11; refine (topoAlive_any m _ (by repeat (first | exact hm | apply HasMax.grown | apply HasMax.alloc | apply HasMax.drew))).mono ?_; rintro e w1 ⟨rfl, hb1⟩; obtain ⟨p1, rfl⟩ := grown_of hb1; clear hb1)
      refine wp_region_quiet_grown (by kernel_rfl) (by kernel_rfl) ?_
      repeat (quiet_step ((first
        | (go_at_call 13; exact quiet_grown (H1.out _ (by repeat (first | exact hm | apply HasMax.grown | apply HasMax.alloc | apply HasMax.drew)) (by repeat (first | exact htz | apply HasTz.grown | apply HasTz.alloc | apply HasTz.drew)) (by repeat (first | exact hd | apply HasDec.grown | apply HasDec.alloc | apply HasDec.drew))))
        | (go_at_call 21; exact quiet_grown (H2.out _))
        | (go_at_call 22; exact quiet_grown (H3.out _ (by repeat (first | exact hm | apply HasMax.grown | apply HasMax.alloc | apply HasMax.drew)) (by repeat (first | exact htz | apply HasTz.grown | apply HasTz.alloc | apply HasTz.drew)) (by repeat (first | exact hd | apply HasDec.grown | apply HasDec.alloc | apply HasDec.drew))))
        | (go_at_call 23; exact quiet_grown (H4.out _)))))
      refine wpQuiet_nil ?_; intro _ hw'; obtain ⟨pq, hw''⟩ := hw'; subst hw''
      go_wp2
      go_ret
      exact ⟨by first | rfl | exact ret_bool (by simp), (by repeat (first | exact Below.refl _ _ | assumption | refine below_grown ?_ (by first | omega | (simp [go_sem]; done) | (simp [go_sem] <;> omega)) _ | refine Below.alloc ?_ (by first | omega | (simp [go_sem]; done) | (simp [go_sem] <;> omega)) _ | refine below_bytesW ?_ (by first | omega | (simp [go_sem]; done) | (simp [go_sem] <;> omega)) _ | refine Below.drew ?_ | refine below_drewN ?_ _))⟩
end Go.Proofs.YthklfbakffaioaaGreatDoor
