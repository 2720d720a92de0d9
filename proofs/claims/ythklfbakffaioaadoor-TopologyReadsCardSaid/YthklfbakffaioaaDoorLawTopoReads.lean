/- The walk of the statement TopologyReads. -/
import Derived.Test.YthklfbakffaioaaDoorTopoFileR
import Derived.Test.YthklfbakffaioaaDoorTopoAllB
namespace Go.Proofs.YthklfbakffaioaaDoor
open Go Go.RowKit
set_option maxRecDepth 20000
set_option linter.unusedSimpArgs false
set_option linter.unusedVariables false

set_option maxHeartbeats 4000000 in
theorem topoReads_at (s : List UInt8) (hs : s.length ≤ 30000) (hc : ¬ (4000 : Int) < s.length ∨ (¬ (s.length : Int) ≤ 20000 ∧ ¬ (30000 : Int) < s.length)) (m : Int) (w : World) (hm : HasMax m w) :
    Calls Tryd.prog 4 #[.string ⟨s.toArray⟩] w fun e w' => e = .returned (.bool true) ∧ Below w.heap.size w w' := by
  have HP : Hid (∀ w, HasMax m w → Calls Tryd.prog 5 #[.string ⟨s.toArray⟩] w (GivesF patCod (topoFile s).1 (topoFile s).2 w)) := fun w a => topoFile_any s (by omega) m w a
  have HQ : Hid (∀ w, Calls Tryd.prog 7 #[.string ⟨s.toArray⟩] w (GivesF patCod (topoFile s).1 (topoFile s).2 w)) := fun w => refTopoFile_any s (by omega) w
  obtain ⟨b1, b2, b3, b4, b5⟩ := topoFile_bd s (by omega)
  have hf1 := wf_smallT ⟨b1.1, by omega⟩
  have hf2 := wf_smallT ⟨b2.1, by omega⟩
  have hf3 := wf_smallT ⟨b3.1, by omega⟩
  obtain ⟨⟨R, c, l, k⟩, hr⟩ : ∃ x, topoFile s = x := ⟨_, rfl⟩
  rw [hr] at HP HQ hf1 hf2 hf3 b4 b5
  dsimp only at HP HQ hf1 hf2 hf3 b4 b5
  clear hr b1 b2 b3
  have HS := Lib.hid (fun a b ca cb la lb w (h : ListIn patCod w a R la) (h' : ListIn patCod w b R lb) => refSamePt_any R a b ca cb la lb b5 b4 w h h')
  clear b4
  have he : faultEq c l k c l k = true := faultEq_iff.2 ⟨rfl, rfl, rfl⟩
  rcases hc with h1 | ⟨h2, h3⟩
  · have h3 : ¬ (30000 : Int) < s.length := by omega
    go_enter Tryd.func4, Tryd.ntmps4
    go_wp2_with (first
      | (go_at_call 6; refine (topoAlive_any m _ (by repeat (first | exact hm | apply HasMax.grown | apply HasMax.alloc | apply HasMax.drew))).mono ?_; rintro e w1 ⟨rfl, hb1⟩; obtain ⟨p1, rfl⟩ := grown_of hb1; clear hb1)
      | (go_at_call 5; (with_reducible refine (HP.out _ ?_).mono ?_); (exact (by repeat (first | exact hm | apply HasMax.grown | apply HasMax.alloc | apply HasMax.drew))); intro e w1 hg; obtain ⟨a1, c1, rfl, hc1, hb1, hl1⟩ := hg; obtain ⟨p1, rfl⟩ := grown_of hb1; clear hb1)
      | (go_at_call 7; (with_reducible refine (HQ.out _).mono ?_); intro e w1 hg; obtain ⟨a2, c2, rfl, hc2, hb2, hl2⟩ := hg; obtain ⟨p2, rfl⟩ := grown_of hb2; clear hb2)
      | (go_at_call 8; refine (HS.out _ _ _ _ _ _ _ (by repeat (first | exact hl1 | exact hl2 | apply ListIn.grown | apply ListIn.alloc)) (by repeat (first | exact hl2 | exact hl1 | apply ListIn.grown | apply ListIn.alloc))).mono ?_; rintro e w1 ⟨rfl, hb1⟩; obtain ⟨p1, rfl⟩ := grown_of hb1; clear hb1))
    go_ret
    exact ⟨by first | rfl | exact ret_bool (by simp), (by repeat (first | exact Below.refl _ _ | assumption | refine below_grown ?_ (by first | omega | (simp [go_sem]; done) | (simp [go_sem] <;> omega)) _ | refine Below.alloc ?_ (by first | omega | (simp [go_sem]; done) | (simp [go_sem] <;> omega)) _ | refine below_bytesW ?_ (by first | omega | (simp [go_sem]; done) | (simp [go_sem] <;> omega)) _ | refine Below.drew ?_ | refine below_drewN ?_ _))⟩
  · have h1 : (4000 : Int) < s.length := by omega
    go_enter Tryd.func4, Tryd.ntmps4
    go_wp2_with (first
      | (go_at_call 6; refine (topoAlive_any m _ (by repeat (first | exact hm | apply HasMax.grown | apply HasMax.alloc | apply HasMax.drew))).mono ?_; rintro e w1 ⟨rfl, hb1⟩; obtain ⟨p1, rfl⟩ := grown_of hb1; clear hb1)
      | (go_at_call 5; (with_reducible refine (HP.out _ ?_).mono ?_); (exact (by repeat (first | exact hm | apply HasMax.grown | apply HasMax.alloc | apply HasMax.drew))); intro e w1 hg; obtain ⟨a1, c1, rfl, hc1, hb1, hl1⟩ := hg; obtain ⟨p1, rfl⟩ := grown_of hb1; clear hb1)
      | (go_at_call 7; (with_reducible refine (HQ.out _).mono ?_); intro e w1 hg; obtain ⟨a2, c2, rfl, hc2, hb2, hl2⟩ := hg; obtain ⟨p2, rfl⟩ := grown_of hb2; clear hb2)
      | (go_at_call 8; refine (HS.out _ _ _ _ _ _ _ (by repeat (first | exact hl1 | exact hl2 | apply ListIn.grown | apply ListIn.alloc)) (by repeat (first | exact hl2 | exact hl1 | apply ListIn.grown | apply ListIn.alloc))).mono ?_; rintro e w1 ⟨rfl, hb1⟩; obtain ⟨p1, rfl⟩ := grown_of hb1; clear hb1))
    go_ret
    exact ⟨by first | rfl | exact ret_bool (by simp), (by repeat (first | exact Below.refl _ _ | assumption | refine below_grown ?_ (by first | omega | (simp [go_sem]; done) | (simp [go_sem] <;> omega)) _ | refine Below.alloc ?_ (by first | omega | (simp [go_sem]; done) | (simp [go_sem] <;> omega)) _ | refine below_bytesW ?_ (by first | omega | (simp [go_sem]; done) | (simp [go_sem] <;> omega)) _ | refine Below.drew ?_ | refine below_drewN ?_ _))⟩
set_option maxHeartbeats 4000000 in
theorem topoReads_law (s : List UInt8) (hs : s.length ≤ maxLen) (m : Int) (w : World) (hm : HasMax m w) :
    Calls Tryd.prog 4 #[.string ⟨s.toArray⟩] w fun e w' => e = .returned (.bool true) ∧ Below w.heap.size w w' := by
  unfold maxLen at hs
  by_cases h1 : (4000 : Int) < s.length
  · by_cases h2 : (s.length : Int) ≤ 20000
    · go_enter Tryd.func4, Tryd.ntmps4
      go_wp2_with (go_at_call 6; refine (topoAlive_any m _ (by repeat (first | exact hm | apply HasMax.grown | apply HasMax.alloc | apply HasMax.drew))).mono ?_; rintro e w1 ⟨rfl, hb1⟩; obtain ⟨p1, rfl⟩ := grown_of hb1; clear hb1)
      go_ret
      exact ⟨rfl, (by repeat (first | exact Below.refl _ _ | assumption | refine below_grown ?_ (by first | omega | (simp [go_sem]; done) | (simp [go_sem] <;> omega)) _ | refine Below.alloc ?_ (by first | omega | (simp [go_sem]; done) | (simp [go_sem] <;> omega)) _ | refine below_bytesW ?_ (by first | omega | (simp [go_sem]; done) | (simp [go_sem] <;> omega)) _ | refine Below.drew ?_ | refine below_drewN ?_ _))⟩
    · by_cases h3 : (30000 : Int) < s.length
      · go_enter Tryd.func4, Tryd.ntmps4
        go_wp2_with (go_at_call 6; refine (topoAlive_any m _ (by repeat (first | exact hm | apply HasMax.grown | apply HasMax.alloc | apply HasMax.drew))).mono ?_; rintro e w1 ⟨rfl, hb1⟩; obtain ⟨p1, rfl⟩ := grown_of hb1; clear hb1)
        go_ret
        exact ⟨rfl, (by repeat (first | exact Below.refl _ _ | assumption | refine below_grown ?_ (by first | omega | (simp [go_sem]; done) | (simp [go_sem] <;> omega)) _ | refine Below.alloc ?_ (by first | omega | (simp [go_sem]; done) | (simp [go_sem] <;> omega)) _ | refine below_bytesW ?_ (by first | omega | (simp [go_sem]; done) | (simp [go_sem] <;> omega)) _ | refine Below.drew ?_ | refine below_drewN ?_ _))⟩
      · exact topoReads_at s (by omega) (.inr ⟨h2, h3⟩) m w hm
  · exact topoReads_at s (by omega) (.inl h1) m w hm
end Go.Proofs.YthklfbakffaioaaDoor
