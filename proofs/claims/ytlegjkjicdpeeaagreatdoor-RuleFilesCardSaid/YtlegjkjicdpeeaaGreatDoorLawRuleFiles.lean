/- The walk of the statement RuleFiles. -/
import Derived.Test.YtlegjkjicdpeeaaGreatDoorRuleFileAll
import Derived.Test.YtlegjkjicdpeeaaGreatDoorLawRuleLines
namespace Go.Proofs.YtlegjkjicdpeeaaGreatDoor
open Go Go.RowKit
set_option maxRecDepth 20000
set_option linter.unusedSimpArgs false
set_option linter.unusedVariables false

set_option maxHeartbeats 4000000 in
theorem ruleFiles_at (s : List UInt8) (hs : s.length ≤ 30000) (hc : ¬ (4000 : Int) < s.length ∨ (¬ (s.length : Int) ≤ 20000 ∧ ¬ (30000 : Int) < s.length)) (m : Int) (w : World) (hm : HasMax m w) (htz : HasTz w) (hd : HasDec w) :
    Calls Tryz.prog 11 #[.string ⟨s.toArray⟩] w fun e w' => e = .returned (.bool true) ∧ Below w.heap.size w w' := by
  have HP : Hid (∀ w, HasMax m w → HasTz w → HasDec w → Calls Tryz.prog 33 #[.string ⟨s.toArray⟩] w (GivesF ruleCod (ruleFile s).1 (ruleFile s).2 w)) := fun w a b c => ruleFile_any s (by omega) m w a b c
  have HQ : Hid (∀ w, Calls Tryz.prog 27 #[.string ⟨s.toArray⟩] w (GivesF ruleCod (ruleFile s).1 (ruleFile s).2 w)) := fun w => refRuleFile_any s (by omega) w
  obtain ⟨b1, b2, b3, b4, b5⟩ := ruleFile_bd s (by omega)
  have hf1 := wf_small ⟨b1.1, by omega⟩
  have hf2 := wf_small b2
  have hf3 := wf_small b3
  obtain ⟨⟨R, c, l, k⟩, hr⟩ : ∃ x, ruleFile s = x := ⟨_, rfl⟩
  rw [hr] at HP HQ hf1 hf2 hf3 b4 b5
  dsimp only at HP HQ hf1 hf2 hf3 b4 b5
  clear hr b1 b2 b3
  have HS := Lib.hid (fun a b ca cb la lb w (h : ListIn ruleCod w a R la) (h' : ListIn ruleCod w b R lb) => refSameR_any R a b ca cb la lb b5 b4 w h h')
  clear b4
  have he : faultEq c l k c l k = true := faultEq_iff.2 ⟨rfl, rfl, rfl⟩
  have walk : (¬ (4000 : Int) < s.length ∨ (4000 : Int) < s.length) := by omega
  rcases hc with h1 | ⟨h2, h3⟩
  · have h3 : ¬ (30000 : Int) < s.length := by omega
    go_enter Tryz.func11, Tryz.ntmps11
    go_wp2_with (first
      | (go_at_call 13; refine (ruleAlive_any m _ (by repeat (first | exact hm | apply HasMax.grown | apply HasMax.alloc | apply HasMax.drew)) (by repeat (first | exact htz | apply HasTz.grown | apply HasTz.alloc | apply HasTz.drew)) (by repeat (first | exact hd | apply HasDec.grown | apply HasDec.alloc | apply HasDec.drew))).mono ?_; rintro e w1 ⟨rfl, hb1⟩; obtain ⟨p1, rfl⟩ := grown_of hb1; clear hb1)
      | (go_at_call 33; (with_reducible refine (HP.out _ ?_ ?_ ?_).mono ?_); (exact (by repeat (first | exact hm | apply HasMax.grown | apply HasMax.alloc | apply HasMax.drew))); (exact (by repeat (first | exact htz | apply HasTz.grown | apply HasTz.alloc | apply HasTz.drew))); (exact (by repeat (first | exact hd | apply HasDec.grown | apply HasDec.alloc | apply HasDec.drew))); intro e w1 hg; obtain ⟨a1, c1, rfl, hc1, hb1, hl1⟩ := hg; obtain ⟨p1, rfl⟩ := grown_of hb1; clear hb1)
      | (go_at_call 27; (with_reducible refine (HQ.out _).mono ?_); intro e w1 hg; obtain ⟨a2, c2, rfl, hc2, hb2, hl2⟩ := hg; obtain ⟨p2, rfl⟩ := grown_of hb2; clear hb2)
      | (go_at_call 34; refine (HS.out _ _ _ _ _ _ _ (by repeat (first | exact hl1 | exact hl2 | apply ListIn.grown | apply ListIn.alloc)) (by repeat (first | exact hl2 | exact hl1 | apply ListIn.grown | apply ListIn.alloc))).mono ?_; rintro e w1 ⟨rfl, hb1⟩; obtain ⟨p1, rfl⟩ := grown_of hb1; clear hb1))
    go_ret
    exact ⟨by first | rfl | exact ret_bool (by simp), (by repeat (first | exact Below.refl _ _ | assumption | refine below_grown ?_ (by first | omega | (simp [go_sem]; done) | (simp [go_sem] <;> omega)) _ | refine Below.alloc ?_ (by first | omega | (simp [go_sem]; done) | (simp [go_sem] <;> omega)) _ | refine below_bytesW ?_ (by first | omega | (simp [go_sem]; done) | (simp [go_sem] <;> omega)) _ | refine Below.drew ?_ | refine below_drewN ?_ _))⟩
  · have h1 : (4000 : Int) < s.length := by omega
    go_enter Tryz.func11, Tryz.ntmps11
    go_wp2_with (first
      | (go_at_call 13; refine (ruleAlive_any m _ (by repeat (first | exact hm | apply HasMax.grown | apply HasMax.alloc | apply HasMax.drew)) (by repeat (first | exact htz | apply HasTz.grown | apply HasTz.alloc | apply HasTz.drew)) (by repeat (first | exact hd | apply HasDec.grown | apply HasDec.alloc | apply HasDec.drew))).mono ?_; rintro e w1 ⟨rfl, hb1⟩; obtain ⟨p1, rfl⟩ := grown_of hb1; clear hb1)
      | (go_at_call 33; (with_reducible refine (HP.out _ ?_ ?_ ?_).mono ?_); (exact (by repeat (first | exact hm | apply HasMax.grown | apply HasMax.alloc | apply HasMax.drew))); (exact (by repeat (first | exact htz | apply HasTz.grown | apply HasTz.alloc | apply HasTz.drew))); (exact (by repeat (first | exact hd | apply HasDec.grown | apply HasDec.alloc | apply HasDec.drew))); intro e w1 hg; obtain ⟨a1, c1, rfl, hc1, hb1, hl1⟩ := hg; obtain ⟨p1, rfl⟩ := grown_of hb1; clear hb1)
      | (go_at_call 27; (with_reducible refine (HQ.out _).mono ?_); intro e w1 hg; obtain ⟨a2, c2, rfl, hc2, hb2, hl2⟩ := hg; obtain ⟨p2, rfl⟩ := grown_of hb2; clear hb2)
      | (go_at_call 34; refine (HS.out _ _ _ _ _ _ _ (by repeat (first | exact hl1 | exact hl2 | apply ListIn.grown | apply ListIn.alloc)) (by repeat (first | exact hl2 | exact hl1 | apply ListIn.grown | apply ListIn.alloc))).mono ?_; rintro e w1 ⟨rfl, hb1⟩; obtain ⟨p1, rfl⟩ := grown_of hb1; clear hb1))
    go_ret
    exact ⟨by first | rfl | exact ret_bool (by simp), (by repeat (first | exact Below.refl _ _ | assumption | refine below_grown ?_ (by first | omega | (simp [go_sem]; done) | (simp [go_sem] <;> omega)) _ | refine Below.alloc ?_ (by first | omega | (simp [go_sem]; done) | (simp [go_sem] <;> omega)) _ | refine below_bytesW ?_ (by first | omega | (simp [go_sem]; done) | (simp [go_sem] <;> omega)) _ | refine Below.drew ?_ | refine below_drewN ?_ _))⟩
set_option maxHeartbeats 4000000 in
theorem ruleFiles_law (s : List UInt8) (hs : s.length ≤ maxLen) (m : Int) (w : World) (hm : HasMax m w) (htz : HasTz w) (hd : HasDec w) :
    Calls Tryz.prog 11 #[.string ⟨s.toArray⟩] w fun e w' => e = .returned (.bool true) ∧ Below w.heap.size w w' := by
  unfold maxLen at hs
  by_cases h1 : (4000 : Int) < s.length
  · by_cases h2 : (s.length : Int) ≤ 20000
    · go_enter Tryz.func11, Tryz.ntmps11
      go_wp2_with (go_at_call 13; refine (ruleAlive_any m _ (by repeat (first | exact hm | apply HasMax.grown | apply HasMax.alloc | apply HasMax.drew)) (by repeat (first | exact htz | apply HasTz.grown | apply HasTz.alloc | apply HasTz.drew)) (by repeat (first | exact hd | apply HasDec.grown | apply HasDec.alloc | apply HasDec.drew))).mono ?_; rintro e w1 ⟨rfl, hb1⟩; obtain ⟨p1, rfl⟩ := grown_of hb1; clear hb1)
      go_ret
      exact ⟨rfl, (by repeat (first | exact Below.refl _ _ | assumption | refine below_grown ?_ (by first | omega | (simp [go_sem]; done) | (simp [go_sem] <;> omega)) _ | refine Below.alloc ?_ (by first | omega | (simp [go_sem]; done) | (simp [go_sem] <;> omega)) _ | refine below_bytesW ?_ (by first | omega | (simp [go_sem]; done) | (simp [go_sem] <;> omega)) _ | refine Below.drew ?_ | refine below_drewN ?_ _))⟩
    · by_cases h3 : (30000 : Int) < s.length
      · go_enter Tryz.func11, Tryz.ntmps11
        go_wp2_with (go_at_call 13; refine (ruleAlive_any m _ (by repeat (first | exact hm | apply HasMax.grown | apply HasMax.alloc | apply HasMax.drew)) (by repeat (first | exact htz | apply HasTz.grown | apply HasTz.alloc | apply HasTz.drew)) (by repeat (first | exact hd | apply HasDec.grown | apply HasDec.alloc | apply HasDec.drew))).mono ?_; rintro e w1 ⟨rfl, hb1⟩; obtain ⟨p1, rfl⟩ := grown_of hb1; clear hb1)
        go_ret
        exact ⟨rfl, (by repeat (first | exact Below.refl _ _ | assumption | refine below_grown ?_ (by first | omega | (simp [go_sem]; done) | (simp [go_sem] <;> omega)) _ | refine Below.alloc ?_ (by first | omega | (simp [go_sem]; done) | (simp [go_sem] <;> omega)) _ | refine below_bytesW ?_ (by first | omega | (simp [go_sem]; done) | (simp [go_sem] <;> omega)) _ | refine Below.drew ?_ | refine below_drewN ?_ _))⟩
      · exact ruleFiles_at s (by omega) (.inr ⟨h2, h3⟩) m w hm htz hd
  · exact ruleFiles_at s (by omega) (.inl h1) m w hm htz hd
end Go.Proofs.YtlegjkjicdpeeaaGreatDoor
