/- The walk of the statement SuffixTells. -/
import Derived.Test.YtmfjabpmhkechaaGreatDoorSufAllB
namespace Go.Proofs.YtmfjabpmhkechaaGreatDoor
open Go Go.RowKit
set_option maxRecDepth 20000
set_option linter.unusedSimpArgs false
set_option linter.unusedVariables false

set_option maxRecDepth 100000 in
set_option maxHeartbeats 8000000 in
theorem sufTells_law (R : List GRule) (h : GHost) (a : Option Addr) (ca la : Nat) (hR : R.length ≤ maxLen) (hr : ∀ r ∈ R, (Lit.int .i64 r.1).wf = true ∧ r.2.length ≤ maxLen) (m : Int) (w : World) (hin : ListIn ruleCod w a R la) (hm : HasMax m w) (htz : HasTz w) (hd : HasDec w) :
    Calls Tryz.prog 3 #[.slice a R.length ca, .agg (hostC h)] w fun e w' => e = .returned (.bool true) ∧ Below w.heap.size w w' := by
  unfold maxLen at hR
  have HIN := Lib.hid hin
  have HG : Hid (∀ w, ListIn ruleCod w a R la → Calls Tryz.prog 9 #[.slice a R.length ca, .agg (hostC h)] w fun e w' => e = .returned (.bool (greatB R h)) ∧ Below w.heap.size w w') := fun w x => great_any R h a ca la (by omega) w x
  cases hg : greatB R h
  · rw [hg] at HG
    obtain ⟨g1, g2, g3⟩ := great_no hg
    have hrr : ∀ r ∈ R, r.2.length ≤ 100000 ∧ (Lit.int .i64 r.1).wf = true := fun r x => ⟨by have := g1 r x; omega, (hr r x).1⟩
    have HN : Hid (∀ w, ListIn ruleCod w a R la → HasMax m w → HasTz w → HasDec w → Calls Tryz.prog 10 #[.slice a R.length ca] w (TabGives R w)) := fun w x y z v => new_any R a ca la (by omega) (fun r q => ⟨g1 r q, (hr r q).1⟩) m w x y z v
    have H1 : Hid (∀ bt w, TabOk R bt w → HasMax m w → HasTz w → HasDec w → Calls Tryz.prog 11 #[.pointer (some ⟨bt, 0, none⟩), .agg (hostC h)] w fun e w' => e = .returned (.int .i64 (sufN R h : Nat)) ∧ Below w.heap.size w w') := fun bt w x y z v => suffix_tab R h (by omega) bt m w x y z v
    have H2 : Hid (∀ w, ListIn ruleCod w a R la → Calls Tryz.prog 12 #[.slice a R.length ca, .agg (hostC h)] w fun e w' => e = .returned (.int .i64 (sufN R h : Nat)) ∧ Below w.heap.size w w') := fun w x => refSuffix_any R h (by omega) a ca la (by omega) hrr w x
    have H3 : Hid (∀ bt w, TabOk R bt w → HasMax m w → HasTz w → HasDec w → Calls Tryz.prog 13 #[.pointer (some ⟨bt, 0, none⟩), .agg (hostC h)] w fun e w' => e = .returned (.bool (pubB R h)) ∧ Below w.heap.size w w') := fun bt w x y z v => public_tab R h (by omega) bt m w x y z v
    have H4 : Hid (∀ w, ListIn ruleCod w a R la → Calls Tryz.prog 14 #[.slice a R.length ca, .agg (hostC h)] w fun e w' => e = .returned (.bool (pubB R h)) ∧ Below w.heap.size w w') := fun w x => refPublic_any R h (by omega) a ca la (by omega) hrr w x
    have H5 : Hid (∀ bt w, TabOk R bt w → HasMax m w → HasTz w → HasDec w → Calls Tryz.prog 15 #[.pointer (some ⟨bt, 0, none⟩), .agg (hostC h)] w fun e w' => e = .returned (.string ⟨(siteL R h).toArray⟩) ∧ Below w.heap.size w w') := fun bt w x y z v => site_tab R h (by omega) bt m w x y z v
    have H6 : Hid (∀ w, ListIn ruleCod w a R la → Calls Tryz.prog 16 #[.slice a R.length ca, .agg (hostC h)] w fun e w' => e = .returned (.string ⟨(siteL R h).toArray⟩) ∧ Below w.heap.size w w') := fun w x => refSite_any R h (by omega) a ca la (by omega) hrr w x
    clear g1 g3 hrr hr hin hg
    generalize sufN R h = v at *
    generalize pubB R h = pb at *
    generalize siteL R h = si at *
    go_enter Tryz.func3, Tryz.ntmps3
    go_upto_region 6 with (first
      | (go_at_call 8; refine (sufAlive_any m _ (by repeat (first | exact hm | apply HasMax.grown | apply HasMax.alloc | apply HasMax.drew)) (by repeat (first | exact htz | apply HasTz.grown | apply HasTz.alloc | apply HasTz.drew)) (by repeat (first | exact hd | apply HasDec.grown | apply HasDec.alloc | apply HasDec.drew))).mono ?_; rintro e w1 ⟨rfl, hb1⟩; obtain ⟨p1, rfl⟩ := grown_of hb1; clear hb1)
      | (go_at_call 9; (with_reducible refine (HG.out _ (ListIn.below HIN.out (by repeat (first | exact Below.refl _ _ | assumption | refine below_grown ?_ (by first | omega | (simp [go_sem]; done) | (simp [go_sem] <;> omega)) _ | refine Below.alloc ?_ (by first | omega | (simp [go_sem]; done) | (simp [go_sem] <;> omega)) _ | refine below_bytesW ?_ (by first | omega | (simp [go_sem]; done) | (simp [go_sem] <;> omega)) _ | refine Below.drew ?_ | refine below_drewN ?_ _)))).mono ?_); rintro e w1 ⟨rfl, hb1⟩; obtain ⟨p1, rfl⟩ := grown_of hb1; clear hb1)
      | (go_at_call 10; (with_reducible refine (HN.out _ (ListIn.below HIN.out (by repeat (first | exact Below.refl _ _ | assumption | refine below_grown ?_ (by first | omega | (simp [go_sem]; done) | (simp [go_sem] <;> omega)) _ | refine Below.alloc ?_ (by first | omega | (simp [go_sem]; done) | (simp [go_sem] <;> omega)) _ | refine below_bytesW ?_ (by first | omega | (simp [go_sem]; done) | (simp [go_sem] <;> omega)) _ | refine Below.drew ?_ | refine below_drewN ?_ _))) (by repeat (first | exact hm | apply HasMax.grown | apply HasMax.alloc | apply HasMax.drew)) (by repeat (first | exact htz | apply HasTz.grown | apply HasTz.alloc | apply HasTz.drew)) (by repeat (first | exact hd | apply HasDec.grown | apply HasDec.alloc | apply HasDec.drew))).mono ?_); intro e w2 hgv; obtain ⟨bt, rfl, htab, hb2⟩ := TabOk.of hgv; obtain ⟨p2, rfl⟩ := grown_of hb2; have HTAB := Lib.hid htab; clear hgv htab hb2))
    refine wp_region_quiet_grown (by kernel_rfl) (by kernel_rfl) ?_
    repeat (quiet_step ((first
      | (go_at_call 11; exact quiet_grown (H1.out _ _ (TabOk.grown HTAB.out _) (by repeat (first | exact hm | apply HasMax.grown | apply HasMax.alloc | apply HasMax.drew)) (by repeat (first | exact htz | apply HasTz.grown | apply HasTz.alloc | apply HasTz.drew)) (by repeat (first | exact hd | apply HasDec.grown | apply HasDec.alloc | apply HasDec.drew))))
      | (go_at_call 13; exact quiet_grown (H3.out _ _ (TabOk.grown HTAB.out _) (by repeat (first | exact hm | apply HasMax.grown | apply HasMax.alloc | apply HasMax.drew)) (by repeat (first | exact htz | apply HasTz.grown | apply HasTz.alloc | apply HasTz.drew)) (by repeat (first | exact hd | apply HasDec.grown | apply HasDec.alloc | apply HasDec.drew))))
      | (go_at_call 15; exact quiet_grown (H5.out _ _ (TabOk.grown HTAB.out _) (by repeat (first | exact hm | apply HasMax.grown | apply HasMax.alloc | apply HasMax.drew)) (by repeat (first | exact htz | apply HasTz.grown | apply HasTz.alloc | apply HasTz.drew)) (by repeat (first | exact hd | apply HasDec.grown | apply HasDec.alloc | apply HasDec.drew))))
      | (go_at_call 12; exact quiet_grown (H2.out _ (ListIn.below HIN.out (by repeat (first | exact Below.refl _ _ | assumption | refine below_grown ?_ (by first | omega | (simp [go_sem]; done) | (simp [go_sem] <;> omega)) _ | refine Below.alloc ?_ (by first | omega | (simp [go_sem]; done) | (simp [go_sem] <;> omega)) _ | refine below_bytesW ?_ (by first | omega | (simp [go_sem]; done) | (simp [go_sem] <;> omega)) _ | refine Below.drew ?_ | refine below_drewN ?_ _)))))
      | (go_at_call 14; exact quiet_grown (H4.out _ (ListIn.below HIN.out (by repeat (first | exact Below.refl _ _ | assumption | refine below_grown ?_ (by first | omega | (simp [go_sem]; done) | (simp [go_sem] <;> omega)) _ | refine Below.alloc ?_ (by first | omega | (simp [go_sem]; done) | (simp [go_sem] <;> omega)) _ | refine below_bytesW ?_ (by first | omega | (simp [go_sem]; done) | (simp [go_sem] <;> omega)) _ | refine Below.drew ?_ | refine below_drewN ?_ _)))))
      | (go_at_call 16; exact quiet_grown (H6.out _ (ListIn.below HIN.out (by repeat (first | exact Below.refl _ _ | assumption | refine below_grown ?_ (by first | omega | (simp [go_sem]; done) | (simp [go_sem] <;> omega)) _ | refine Below.alloc ?_ (by first | omega | (simp [go_sem]; done) | (simp [go_sem] <;> omega)) _ | refine below_bytesW ?_ (by first | omega | (simp [go_sem]; done) | (simp [go_sem] <;> omega)) _ | refine Below.drew ?_ | refine below_drewN ?_ _))))))))
    refine wpQuiet_nil ?_; intro _ hw'; obtain ⟨pq, hw''⟩ := hw'; subst hw''
    go_wp2
    go_ret
    exact ⟨by first | rfl | exact ret_bool (by simp), (by repeat (first | exact Below.refl _ _ | assumption | refine below_grown ?_ (by first | omega | (simp [go_sem]; done) | (simp [go_sem] <;> omega)) _ | refine Below.alloc ?_ (by first | omega | (simp [go_sem]; done) | (simp [go_sem] <;> omega)) _ | refine below_bytesW ?_ (by first | omega | (simp [go_sem]; done) | (simp [go_sem] <;> omega)) _ | refine Below.drew ?_ | refine below_drewN ?_ _))⟩
  · rw [hg] at HG
    clear hr hin hg
    go_enter Tryz.func3, Tryz.ntmps3
    go_wp2_with (first
      | (go_at_call 8; refine (sufAlive_any m _ (by repeat (first | exact hm | apply HasMax.grown | apply HasMax.alloc | apply HasMax.drew)) (by repeat (first | exact htz | apply HasTz.grown | apply HasTz.alloc | apply HasTz.drew)) (by repeat (first | exact hd | apply HasDec.grown | apply HasDec.alloc | apply HasDec.drew))).mono ?_; rintro e w1 ⟨rfl, hb1⟩; obtain ⟨p1, rfl⟩ := grown_of hb1; clear hb1)
      | (go_at_call 9; (with_reducible refine (HG.out _ (ListIn.below HIN.out (by repeat (first | exact Below.refl _ _ | assumption | refine below_grown ?_ (by first | omega | (simp [go_sem]; done) | (simp [go_sem] <;> omega)) _ | refine Below.alloc ?_ (by first | omega | (simp [go_sem]; done) | (simp [go_sem] <;> omega)) _ | refine below_bytesW ?_ (by first | omega | (simp [go_sem]; done) | (simp [go_sem] <;> omega)) _ | refine Below.drew ?_ | refine below_drewN ?_ _)))).mono ?_); rintro e w1 ⟨rfl, hb1⟩; obtain ⟨p1, rfl⟩ := grown_of hb1; clear hb1))
    go_ret
    exact ⟨rfl, (by repeat (first | exact Below.refl _ _ | assumption | refine below_grown ?_ (by first | omega | (simp [go_sem]; done) | (simp [go_sem] <;> omega)) _ | refine Below.alloc ?_ (by first | omega | (simp [go_sem]; done) | (simp [go_sem] <;> omega)) _ | refine below_bytesW ?_ (by first | omega | (simp [go_sem]; done) | (simp [go_sem] <;> omega)) _ | refine Below.drew ?_ | refine below_drewN ?_ _))⟩
end Go.Proofs.YtmfjabpmhkechaaGreatDoor
