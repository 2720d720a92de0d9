/- The walk of the statement SuffixFiles. -/
import Derived.Test.YtmfjabpmhkechaaGreatDoorSufAllB
namespace Go.Proofs.YtmfjabpmhkechaaGreatDoor
open Go Go.RowKit
set_option maxRecDepth 20000
set_option linter.unusedSimpArgs false
set_option linter.unusedVariables false

theorem wf_err (s : List UInt8) : (Lit.int .i64 (parseE s)).wf = true := by
  rcases parseE_cases s with ⟨_, h⟩ | ⟨_, h⟩ <;> rw [h] <;> rfl
set_option maxRecDepth 100000 in
set_option maxHeartbeats 8000000 in
theorem sufFiles_law (F s : List UInt8) (hF : F.length ≤ maxLen) (hs : s.length ≤ maxLen) (m : Int) (w : World) (hm : HasMax m w) (htz : HasTz w) (hd : HasDec w) :
    Calls Tryz.prog 4 #[.string ⟨F.toArray⟩, .string ⟨s.toArray⟩] w fun e w' => e = .returned (.bool true) ∧ Below w.heap.size w w' := by
  unfold maxLen at hF hs
  by_cases h1 : (3000 : Int) < F.length
  · go_enter Tryz.func4, Tryz.ntmps4
    go_wp2_with (go_at_call 8; refine (sufAlive_any m _ (by repeat (first | exact hm | apply HasMax.grown | apply HasMax.alloc | apply HasMax.drew)) (by repeat (first | exact htz | apply HasTz.grown | apply HasTz.alloc | apply HasTz.drew)) (by repeat (first | exact hd | apply HasDec.grown | apply HasDec.alloc | apply HasDec.drew))).mono ?_; rintro e w1 ⟨rfl, hb1⟩; obtain ⟨p1, rfl⟩ := grown_of hb1; clear hb1)
    go_ret
    exact ⟨rfl, (by repeat (first | exact Below.refl _ _ | assumption | refine below_grown ?_ (by first | omega | (simp [go_sem]; done) | (simp [go_sem] <;> omega)) _ | refine Below.alloc ?_ (by first | omega | (simp [go_sem]; done) | (simp [go_sem] <;> omega)) _ | refine below_bytesW ?_ (by first | omega | (simp [go_sem]; done) | (simp [go_sem] <;> omega)) _ | refine Below.drew ?_ | refine below_drewN ?_ _))⟩
  · by_cases h2 : (400 : Int) < s.length
    · go_enter Tryz.func4, Tryz.ntmps4
      go_wp2_with (go_at_call 8; refine (sufAlive_any m _ (by repeat (first | exact hm | apply HasMax.grown | apply HasMax.alloc | apply HasMax.drew)) (by repeat (first | exact htz | apply HasTz.grown | apply HasTz.alloc | apply HasTz.drew)) (by repeat (first | exact hd | apply HasDec.grown | apply HasDec.alloc | apply HasDec.drew))).mono ?_; rintro e w1 ⟨rfl, hb1⟩; obtain ⟨p1, rfl⟩ := grown_of hb1; clear hb1)
      go_ret
      exact ⟨rfl, (by repeat (first | exact Below.refl _ _ | assumption | refine below_grown ?_ (by first | omega | (simp [go_sem]; done) | (simp [go_sem] <;> omega)) _ | refine Below.alloc ?_ (by first | omega | (simp [go_sem]; done) | (simp [go_sem] <;> omega)) _ | refine below_bytesW ?_ (by first | omega | (simp [go_sem]; done) | (simp [go_sem] <;> omega)) _ | refine Below.drew ?_ | refine below_drewN ?_ _))⟩
    · have HFL : Hid (∀ w, Calls Tryz.prog 17 #[.string ⟨F.toArray⟩] w (GivesF ruleCod (ruleFile F).1 (ruleFile F).2 w)) := fun w => refRuleFile_any F (by omega) w
      have HP : Hid (∀ w, Calls Tryz.prog 18 #[.string ⟨s.toArray⟩] w fun e w' => e = .returned (.tuple #[.agg (hostC (parseH s)), .int .i64 (parseE s)]) ∧ Below w.heap.size w w') := fun w => refParse_any s (by omega) w
      obtain ⟨b1, b2, b3, b4, b5⟩ := ruleFile_bd F (by omega)
      have f1 := wf_small (n := (ruleFile F).2.1) ⟨b1.1, by omega⟩
      have f2 := wf_small (n := (ruleFile F).2.2.1) b2
      have f3 := wf_small (n := (ruleFile F).2.2.2) b3
      have f0 : (Lit.int .i64 0).wf = true := rfl
      obtain ⟨⟨R, c, l, k⟩, hr⟩ : ∃ x, ruleFile F = x := ⟨_, rfl⟩
      rw [hr] at HFL f1 f2 f3 b4 b5
      dsimp only at HFL f1 f2 f3 b4 b5
      clear hr b1 b2 b3
      have hnm := parseH_name s
      have hwe := wf_err s
      generalize parseH s = H at *
      generalize parseE s = E at *
      have hg : ∀ r ∈ R, r.2.length ≤ 400 ∧ (Lit.int .i64 r.1).wf = true := fun r x => ⟨by have := (b4 r x).2; omega, wf_kind' (b4 r x).1⟩
      have hgg : ∀ r ∈ R, r.2.length ≤ 100000 ∧ (Lit.int .i64 r.1).wf = true := fun r x => ⟨by have := (b4 r x).2; omega, wf_kind' (b4 r x).1⟩
      cases hfe : faultEq c l k 0 0 0
      · go_enter Tryz.func4, Tryz.ntmps4
        go_wp2_with (first
          | (go_at_call 8; refine (sufAlive_any m _ (by repeat (first | exact hm | apply HasMax.grown | apply HasMax.alloc | apply HasMax.drew)) (by repeat (first | exact htz | apply HasTz.grown | apply HasTz.alloc | apply HasTz.drew)) (by repeat (first | exact hd | apply HasDec.grown | apply HasDec.alloc | apply HasDec.drew))).mono ?_; rintro e w1 ⟨rfl, hb1⟩; obtain ⟨p1, rfl⟩ := grown_of hb1; clear hb1)
          | (go_at_call 17; (with_reducible refine (HFL.out _).mono ?_); intro e w1 hg; obtain ⟨a1, c1, rfl, hc1, hb1, hl1⟩ := hg; obtain ⟨p1, rfl⟩ := grown_of hb1; clear hb1)
          | (go_at_call 18; (with_reducible refine (HP.out _).mono ?_); rintro e w1 ⟨rfl, hb1⟩; obtain ⟨p1, rfl⟩ := grown_of hb1; clear hb1))
        go_ret
        exact ⟨rfl, (by repeat (first | exact Below.refl _ _ | assumption | refine below_grown ?_ (by first | omega | (simp [go_sem]; done) | (simp [go_sem] <;> omega)) _ | refine Below.alloc ?_ (by first | omega | (simp [go_sem]; done) | (simp [go_sem] <;> omega)) _ | refine below_bytesW ?_ (by first | omega | (simp [go_sem]; done) | (simp [go_sem] <;> omega)) _ | refine Below.drew ?_ | refine below_drewN ?_ _))⟩
      · by_cases he : E = 0
        · subst he
          have HN : Hid (∀ w a ca la, ListIn ruleCod w a R la → HasMax m w → HasTz w → HasDec w → Calls Tryz.prog 10 #[.slice a R.length ca] w (TabGives R w)) := fun w a ca la x y z v => new_any R a ca la b5 hg m w x y z v
          have H1 : Hid (∀ bt w, TabOk R bt w → HasMax m w → HasTz w → HasDec w → Calls Tryz.prog 11 #[.pointer (some ⟨bt, 0, none⟩), .agg (hostC H)] w fun e w' => e = .returned (.int .i64 (sufN R H : Nat)) ∧ Below w.heap.size w w') := fun bt w x y z v => suffix_tab R H (by omega) bt m w x y z v
          have H2 : Hid (∀ w a ca la, ListIn ruleCod w a R la → Calls Tryz.prog 12 #[.slice a R.length ca, .agg (hostC H)] w fun e w' => e = .returned (.int .i64 (sufN R H : Nat)) ∧ Below w.heap.size w w') := fun w a ca la x => refSuffix_any R H (by omega) a ca la (by omega) hgg w x
          have H5 : Hid (∀ bt w, TabOk R bt w → HasMax m w → HasTz w → HasDec w → Calls Tryz.prog 15 #[.pointer (some ⟨bt, 0, none⟩), .agg (hostC H)] w fun e w' => e = .returned (.string ⟨(siteL R H).toArray⟩) ∧ Below w.heap.size w w') := fun bt w x y z v => site_tab R H (by omega) bt m w x y z v
          have H6 : Hid (∀ w a ca la, ListIn ruleCod w a R la → Calls Tryz.prog 16 #[.slice a R.length ca, .agg (hostC H)] w fun e w' => e = .returned (.string ⟨(siteL R H).toArray⟩) ∧ Below w.heap.size w w') := fun w a ca la x => refSite_any R H (by omega) a ca la (by omega) hgg w x
          clear b4 hg hgg
          generalize sufN R H = v at *
          generalize siteL R H = si at *
          go_enter Tryz.func4, Tryz.ntmps4
          go_upto_region 10 with (first
            | (go_at_call 8; refine (sufAlive_any m _ (by repeat (first | exact hm | apply HasMax.grown | apply HasMax.alloc | apply HasMax.drew)) (by repeat (first | exact htz | apply HasTz.grown | apply HasTz.alloc | apply HasTz.drew)) (by repeat (first | exact hd | apply HasDec.grown | apply HasDec.alloc | apply HasDec.drew))).mono ?_; rintro e w1 ⟨rfl, hb1⟩; obtain ⟨p1, rfl⟩ := grown_of hb1; clear hb1)
            | (go_at_call 17; (with_reducible refine (HFL.out _).mono ?_); intro e w1 hg; obtain ⟨a1, c1, rfl, hc1, hb1, hl1⟩ := hg; obtain ⟨p1, rfl⟩ := grown_of hb1; have HL1 := Lib.hid hl1; clear hb1 hl1)
            | (go_at_call 18; (with_reducible refine (HP.out _).mono ?_); rintro e w1 ⟨rfl, hb1⟩; obtain ⟨p1, rfl⟩ := grown_of hb1; clear hb1)
            | (go_at_call 10; (with_reducible refine (HN.out _ _ _ _ (ListIn.below HL1.out (by have hrf := Below.refl; exact (by repeat (first | exact Below.refl _ _ | assumption | refine below_grown ?_ (by first | omega | (simp [go_sem]; done) | (simp [go_sem] <;> omega)) _ | refine Below.alloc ?_ (by first | omega | (simp [go_sem]; done) | (simp [go_sem] <;> omega)) _ | refine below_bytesW ?_ (by first | omega | (simp [go_sem]; done) | (simp [go_sem] <;> omega)) _ | refine Below.drew ?_ | refine below_drewN ?_ _)))) (by repeat (first | exact hm | apply HasMax.grown | apply HasMax.alloc | apply HasMax.drew)) (by repeat (first | exact htz | apply HasTz.grown | apply HasTz.alloc | apply HasTz.drew)) (by repeat (first | exact hd | apply HasDec.grown | apply HasDec.alloc | apply HasDec.drew))).mono ?_); intro e w2 hgv; obtain ⟨bt, rfl, htab, hb2⟩ := TabOk.of hgv; obtain ⟨p2, rfl⟩ := grown_of hb2; have HTAB := Lib.hid htab; clear hgv htab hb2))
          refine wp_region_quiet_grown (by kernel_rfl) (by kernel_rfl) ?_
          repeat (quiet_step ((first
            | (go_at_call 11; exact quiet_grown (H1.out _ _ (TabOk.grown HTAB.out _) (by repeat (first | exact hm | apply HasMax.grown | apply HasMax.alloc | apply HasMax.drew)) (by repeat (first | exact htz | apply HasTz.grown | apply HasTz.alloc | apply HasTz.drew)) (by repeat (first | exact hd | apply HasDec.grown | apply HasDec.alloc | apply HasDec.drew))))
            | (go_at_call 15; exact quiet_grown (H5.out _ _ (TabOk.grown HTAB.out _) (by repeat (first | exact hm | apply HasMax.grown | apply HasMax.alloc | apply HasMax.drew)) (by repeat (first | exact htz | apply HasTz.grown | apply HasTz.alloc | apply HasTz.drew)) (by repeat (first | exact hd | apply HasDec.grown | apply HasDec.alloc | apply HasDec.drew))))
            | (go_at_call 12; exact quiet_grown (H2.out _ _ _ _ (ListIn.below HL1.out (by repeat (first | exact Below.refl _ _ | assumption | refine below_grown ?_ (by first | omega | (simp [go_sem]; done) | (simp [go_sem] <;> omega)) _ | refine Below.alloc ?_ (by first | omega | (simp [go_sem]; done) | (simp [go_sem] <;> omega)) _ | refine below_bytesW ?_ (by first | omega | (simp [go_sem]; done) | (simp [go_sem] <;> omega)) _ | refine Below.drew ?_ | refine below_drewN ?_ _)))))
            | (go_at_call 16; exact quiet_grown (H6.out _ _ _ _ (ListIn.below HL1.out (by repeat (first | exact Below.refl _ _ | assumption | refine below_grown ?_ (by first | omega | (simp [go_sem]; done) | (simp [go_sem] <;> omega)) _ | refine Below.alloc ?_ (by first | omega | (simp [go_sem]; done) | (simp [go_sem] <;> omega)) _ | refine below_bytesW ?_ (by first | omega | (simp [go_sem]; done) | (simp [go_sem] <;> omega)) _ | refine Below.drew ?_ | refine below_drewN ?_ _))))))))
          refine wpQuiet_nil ?_; intro _ hw'; obtain ⟨pq, hw''⟩ := hw'; subst hw''
          go_wp2
          go_ret
          exact ⟨by first | rfl | exact ret_bool (by simp), (by repeat (first | exact Below.refl _ _ | assumption | refine below_grown ?_ (by first | omega | (simp [go_sem]; done) | (simp [go_sem] <;> omega)) _ | refine Below.alloc ?_ (by first | omega | (simp [go_sem]; done) | (simp [go_sem] <;> omega)) _ | refine below_bytesW ?_ (by first | omega | (simp [go_sem]; done) | (simp [go_sem] <;> omega)) _ | refine Below.drew ?_ | refine below_drewN ?_ _))⟩
        · have he1 : (E != 0) = true := by rw [bne_iff_ne]; exact he
          have he2 : (E == 0) = false := by rw [beq_eq_false_iff_ne]; exact he
          go_enter Tryz.func4, Tryz.ntmps4
          go_wp2_with (first
            | (go_at_call 8; refine (sufAlive_any m _ (by repeat (first | exact hm | apply HasMax.grown | apply HasMax.alloc | apply HasMax.drew)) (by repeat (first | exact htz | apply HasTz.grown | apply HasTz.alloc | apply HasTz.drew)) (by repeat (first | exact hd | apply HasDec.grown | apply HasDec.alloc | apply HasDec.drew))).mono ?_; rintro e w1 ⟨rfl, hb1⟩; obtain ⟨p1, rfl⟩ := grown_of hb1; clear hb1)
            | (go_at_call 17; (with_reducible refine (HFL.out _).mono ?_); intro e w1 hg; obtain ⟨a1, c1, rfl, hc1, hb1, hl1⟩ := hg; obtain ⟨p1, rfl⟩ := grown_of hb1; clear hb1)
            | (go_at_call 18; (with_reducible refine (HP.out _).mono ?_); rintro e w1 ⟨rfl, hb1⟩; obtain ⟨p1, rfl⟩ := grown_of hb1; clear hb1))
          go_ret
          exact ⟨rfl, (by repeat (first | exact Below.refl _ _ | assumption | refine below_grown ?_ (by first | omega | (simp [go_sem]; done) | (simp [go_sem] <;> omega)) _ | refine Below.alloc ?_ (by first | omega | (simp [go_sem]; done) | (simp [go_sem] <;> omega)) _ | refine below_bytesW ?_ (by first | omega | (simp [go_sem]; done) | (simp [go_sem] <;> omega)) _ | refine Below.drew ?_ | refine below_drewN ?_ _))⟩
end Go.Proofs.YtmfjabpmhkechaaGreatDoor
