/- The walk of the statement SuffixSites. -/
import Derived.Test.YtmfjabpmhkechaaGreatDoorSufAllB
namespace Go.Proofs.YtmfjabpmhkechaaGreatDoor
open Go Go.RowKit
set_option maxRecDepth 20000
set_option linter.unusedSimpArgs false
set_option linter.unusedVariables false

theorem labels_len_pos {h : GHost} (hk : nameOk h = true) : 0 < (labelsL h).length := by rw [labels_ok hk]; exact splitL_pos 46 _
theorem labels_none {h : GHost} (hk : h.kind ≠ 1) : labelsL h = [] := by
  unfold labelsL nameOk
  have : (h.kind == 1) = false := by rw [beq_eq_false_iff_ne]; exact hk
  rw [this]; rfl
theorem site_pub {R : List GRule} {h : GHost} (hp : pubB R h = true) : h.kind = 1 ∧ siteL R h = [] := by
  unfold pubB at hp
  simp only [Bool.and_eq_true, decide_eq_true_eq, beq_iff_eq] at hp
  obtain ⟨h1, h2⟩ := hp
  have hk : h.kind = 1 := by
    apply Decidable.byContradiction
    intro hc
    rw [labels_none hc] at h1
    exact absurd h1 (by simp)
  refine ⟨hk, ?_⟩
  unfold siteL
  rw [if_neg (by simp [hk])]
  unfold tailH
  rw [if_neg]
  · rfl
  · unfold tailOk
    rw [h2]
    simp
    omega
theorem site_addr {R : List GRule} {h : GHost} (hk : h.kind ≠ 1) (hr : rightB h = true) : siteL R h = textH h ∧ sufN R h = 0 := by
  refine ⟨?_, ?_⟩
  · unfold siteL; rw [if_pos hk, if_pos hr]
  · have := sufN_le R h
    rw [labels_none hk] at this
    simpa using this
theorem site_name {R : List GRule} {h : GHost} (hk : nameOk h = true) (hp : pubB R h = false) : (siteL R h).length ≤ 253 ∧ (underB h (nameH (siteL R h)) || hostEq h (nameH (siteL R h))) = true ∧ (labelsL (nameH (siteL R h))).length = sufN R h + 1 := by
  have hpos := labels_len_pos hk
  have hle := sufN_le R h
  have hne : sufN R h ≠ (labelsL h).length := fun e => by
    unfold pubB at hp
    rw [decide_eq_true hpos, e] at hp
    simp at hp
  have hk1 : h.kind = 1 := by
    unfold nameOk at hk
    simp only [Bool.and_eq_true, beq_iff_eq] at hk
    exact hk.1
  have hv : siteL R h = (tailH h ((sufN R h : Int) + 1)).name := by unfold siteL; rw [if_neg (by simp [hk1])]
  have ht : tailOk h ((sufN R h : Int) + 1) = true := by unfold tailOk; simp; omega
  obtain ⟨_, _, e3, e4, e5, e6⟩ := tail_facts ht
  have hs : siteL R h = tailN h ((sufN R h : Int) + 1) := by rw [hv, e3, (nameH_name e4).2.1]
  have hn : nameH (siteL R h) = tailH h ((sufN R h : Int) + 1) := by rw [hs, e3]
  rw [hn]
  refine ⟨by rw [hs]; exact e4, ?_, ?_⟩
  · rw [pre_iff hk e5, List.reverse_prefix, e6]
    exact List.drop_suffix _ _
  · rw [e6, List.length_drop]
    omega
theorem hostEq_comm (a b : GHost) : hostEq a b = hostEq b a := by
  rw [Bool.eq_iff_iff, hostEq_iff, hostEq_iff]
  exact eq_comm
set_option maxRecDepth 100000 in
set_option maxHeartbeats 8000000 in
theorem sufSites_law (R : List GRule) (s : List UInt8) (hs : s.length ≤ 1048576) (a : Option Addr) (ca la : Nat) (hR : R.length ≤ maxLen) (hr : ∀ r ∈ R, (Lit.int .i64 r.1).wf = true ∧ r.2.length ≤ maxLen) (m : Int) (w : World) (hin : ListIn ruleCod w a R la) (hm : HasMax m w) (htz : HasTz w) (hd : HasDec w) :
    Calls Tryz.prog 5 #[.slice a R.length ca, .string ⟨s.toArray⟩] w fun e w' => e = .returned (.bool true) ∧ Below w.heap.size w w' := by
  unfold maxLen at hR
  have HIN := Lib.hid hin
  have HP : Hid (∀ w, Calls Tryz.prog 18 #[.string ⟨s.toArray⟩] w fun e w' => e = .returned (.tuple #[.agg (hostC (parseH s)), .int .i64 (parseE s)]) ∧ Below w.heap.size w w') := fun w => refParse_any s (by omega) w
  have HG : Hid (∀ w, ListIn ruleCod w a R la → Calls Tryz.prog 9 #[.slice a R.length ca, .agg (hostC (parseH s))] w fun e w' => e = .returned (.bool (greatB R (parseH s))) ∧ Below w.heap.size w w') := fun w x => great_any R (parseH s) a ca la (by omega) w x
  have HCASE : Hid (parseE s = 0 → rightB (parseH s) = true ∧ ((parseH s).kind = 1 → nameOk (parseH s) = true)) := fun h => by
    have h1 : parseOk s = true := by
      rcases parseE_cases s with ⟨h2, h3⟩ | ⟨h2, h3⟩
      · first | exact h2 | (rw [h3] at h; cases h)
      · first | exact h2 | (rw [h3] at h; cases h)
    exact ⟨parse_right h1, parse_nameOk h1⟩
  have hnm := parseH_name s
  generalize parseH s = H at *
  generalize parseE s = E at *
  cases hg : greatB R H
  · rw [hg] at HG
    obtain ⟨g1, g2, g3⟩ := great_no hg
    by_cases h2 : (400 : Int) < s.length
    · clear hr hin hg
      go_enter Tryz.func5, Tryz.ntmps5
      go_wp2_with (first
        | (go_at_call 8; refine (sufAlive_any m _ (by repeat (first | exact hm | apply HasMax.grown | apply HasMax.alloc | apply HasMax.drew)) (by repeat (first | exact htz | apply HasTz.grown | apply HasTz.alloc | apply HasTz.drew)) (by repeat (first | exact hd | apply HasDec.grown | apply HasDec.alloc | apply HasDec.drew))).mono ?_; rintro e w1 ⟨rfl, hb1⟩; obtain ⟨p1, rfl⟩ := grown_of hb1; clear hb1)
        | (go_at_call 18; (with_reducible refine (HP.out _).mono ?_); rintro e w1 ⟨rfl, hb1⟩; obtain ⟨p1, rfl⟩ := grown_of hb1; clear hb1)
        | (go_at_call 9; (with_reducible refine (HG.out _ (ListIn.below HIN.out (by repeat (first | exact Below.refl _ _ | assumption | refine below_grown ?_ (by first | omega | (simp [go_sem]; done) | (simp [go_sem] <;> omega)) _ | refine Below.alloc ?_ (by first | omega | (simp [go_sem]; done) | (simp [go_sem] <;> omega)) _ | refine below_bytesW ?_ (by first | omega | (simp [go_sem]; done) | (simp [go_sem] <;> omega)) _ | refine Below.drew ?_ | refine below_drewN ?_ _)))).mono ?_); rintro e w1 ⟨rfl, hb1⟩; obtain ⟨p1, rfl⟩ := grown_of hb1; clear hb1))
      go_ret
      exact ⟨by first | rfl | exact ret_bool (by simp), (by repeat (first | exact Below.refl _ _ | assumption | refine below_grown ?_ (by first | omega | (simp [go_sem]; done) | (simp [go_sem] <;> omega)) _ | refine Below.alloc ?_ (by first | omega | (simp [go_sem]; done) | (simp [go_sem] <;> omega)) _ | refine below_bytesW ?_ (by first | omega | (simp [go_sem]; done) | (simp [go_sem] <;> omega)) _ | refine Below.drew ?_ | refine below_drewN ?_ _))⟩
    · by_cases he : E = 0
      · subst he
        obtain ⟨hright, hnok⟩ := HCASE.out rfl
        have HN : Hid (∀ w, ListIn ruleCod w a R la → HasMax m w → HasTz w → HasDec w → Calls Tryz.prog 10 #[.slice a R.length ca] w (TabGives R w)) := fun w x y z v => new_any R a ca la (by omega) (fun r q => ⟨g1 r q, (hr r q).1⟩) m w x y z v
        have H1 : Hid (∀ bt w, TabOk R bt w → HasMax m w → HasTz w → HasDec w → Calls Tryz.prog 11 #[.pointer (some ⟨bt, 0, none⟩), .agg (hostC H)] w fun e w' => e = .returned (.int .i64 (sufN R H : Nat)) ∧ Below w.heap.size w w') := fun bt w x y z v => suffix_tab R H (by omega) bt m w x y z v
        have H3 : Hid (∀ bt w, TabOk R bt w → HasMax m w → HasTz w → HasDec w → Calls Tryz.prog 13 #[.pointer (some ⟨bt, 0, none⟩), .agg (hostC H)] w fun e w' => e = .returned (.bool (pubB R H)) ∧ Below w.heap.size w w') := fun bt w x y z v => public_tab R H (by omega) bt m w x y z v
        have H5 : Hid (∀ bt w, TabOk R bt w → HasMax m w → HasTz w → HasDec w → Calls Tryz.prog 15 #[.pointer (some ⟨bt, 0, none⟩), .agg (hostC H)] w fun e w' => e = .returned (.string ⟨(siteL R H).toArray⟩) ∧ Below w.heap.size w w') := fun bt w x y z v => site_tab R H (by omega) bt m w x y z v
        have hs9 : (s.length : Int) ≤ 400 := by omega
        clear hr hin hg HCASE
        cases hp : pubB R H
        · rw [hp] at H3
          by_cases hk : H.kind = 1
          · obtain ⟨l1, l2, l3⟩ := site_name (hnok hk) hp
            have HNM : Hid (∀ w, Calls Tryz.prog 20 #[.string ⟨(siteL R H).toArray⟩] w fun e w' => e = .returned (.agg (hostC (nameH (siteL R H)))) ∧ Below w.heap.size w w') := fun w => by
              have h' : (siteL R H).length ≤ maxLen := Nat.le_trans l1 (by decide)
              rw [nmH_name l1 h']
              exact name_any _ h' w
            have HU : Hid (∀ w, Calls Tryz.prog 21 #[.agg (hostC H), .agg (hostC (nameH (siteL R H)))] w fun e w' => e = .returned (.bool (underB H (nameH (siteL R H)))) ∧ Below w.heap.size w w') := fun w => refUnder_any H _ (by omega) (by rw [(nameH_name l1).2.1]; omega) w
            have HL : Hid (∀ w, Calls Tryz.prog 22 #[.agg (hostC (nameH (siteL R H)))] w (Gives strCod (labelsL (nameH (siteL R H))) w)) := fun w => refLabels_any _ (by rw [(nameH_name l1).2.1]; omega) w
            rw [hostEq_comm] at l2
            have hvv : sufN R H ≤ 254 := Nat.le_trans (sufN_le R H) (labels_len (by omega))
            clear hnok l1
            generalize labelsL (nameH (siteL R H)) = LL at *
            generalize nameH (siteL R H) = D at *
            generalize siteL R H = si at *
            generalize sufN R H = v at *
            have hw1 : IntKind.i64.wrap ((v : Int) + 1) = (v : Int) + 1 := IntWalk.i64_in _ (by omega)
            have hvi : ((LL.length : Int) == (v : Int) + 1) = true := by rw [beq_iff_eq]; omega
            have hvi2 : (LL.length : Int) = (v : Int) + 1 := by omega
            clear l3
            cases hq : hostEq D H
            · have hu : underB H D = true := by rw [hq, Bool.or_false] at l2; exact l2
              rw [hu] at HU
              clear l2 hu
              go_enter Tryz.func5, Tryz.ntmps5
              go_upto_region 13 with (first
                | (go_at_call 8; refine (sufAlive_any m _ (by repeat (first | exact hm | apply HasMax.grown | apply HasMax.alloc | apply HasMax.drew)) (by repeat (first | exact htz | apply HasTz.grown | apply HasTz.alloc | apply HasTz.drew)) (by repeat (first | exact hd | apply HasDec.grown | apply HasDec.alloc | apply HasDec.drew))).mono ?_; rintro e w1 ⟨rfl, hb1⟩; obtain ⟨p1, rfl⟩ := grown_of hb1; clear hb1)
                | (go_at_call 18; (with_reducible refine (HP.out _).mono ?_); rintro e w1 ⟨rfl, hb1⟩; obtain ⟨p1, rfl⟩ := grown_of hb1; clear hb1)
                | (go_at_call 9; (with_reducible refine (HG.out _ (ListIn.below HIN.out (by repeat (first | exact Below.refl _ _ | assumption | refine below_grown ?_ (by first | omega | (simp [go_sem]; done) | (simp [go_sem] <;> omega)) _ | refine Below.alloc ?_ (by first | omega | (simp [go_sem]; done) | (simp [go_sem] <;> omega)) _ | refine below_bytesW ?_ (by first | omega | (simp [go_sem]; done) | (simp [go_sem] <;> omega)) _ | refine Below.drew ?_ | refine below_drewN ?_ _)))).mono ?_); rintro e w1 ⟨rfl, hb1⟩; obtain ⟨p1, rfl⟩ := grown_of hb1; clear hb1)
                | (go_at_call 10; (with_reducible refine (HN.out _ (ListIn.below HIN.out (by repeat (first | exact Below.refl _ _ | assumption | refine below_grown ?_ (by first | omega | (simp [go_sem]; done) | (simp [go_sem] <;> omega)) _ | refine Below.alloc ?_ (by first | omega | (simp [go_sem]; done) | (simp [go_sem] <;> omega)) _ | refine below_bytesW ?_ (by first | omega | (simp [go_sem]; done) | (simp [go_sem] <;> omega)) _ | refine Below.drew ?_ | refine below_drewN ?_ _))) (by repeat (first | exact hm | apply HasMax.grown | apply HasMax.alloc | apply HasMax.drew)) (by repeat (first | exact htz | apply HasTz.grown | apply HasTz.alloc | apply HasTz.drew)) (by repeat (first | exact hd | apply HasDec.grown | apply HasDec.alloc | apply HasDec.drew))).mono ?_); intro e w2 hgv; obtain ⟨bt, rfl, htab, hb2⟩ := TabOk.of hgv; obtain ⟨p2, rfl⟩ := grown_of hb2; have HTAB := Lib.hid htab; clear hgv htab hb2)
                | (go_at_call 15; (with_reducible refine (H5.out _ _ (TabOk.below HTAB.out (by repeat (first | exact Below.refl _ _ | assumption | refine below_grown ?_ (by first | omega | (simp [go_sem]; done) | (simp [go_sem] <;> omega)) _ | refine Below.alloc ?_ (by first | omega | (simp [go_sem]; done) | (simp [go_sem] <;> omega)) _ | refine below_bytesW ?_ (by first | omega | (simp [go_sem]; done) | (simp [go_sem] <;> omega)) _ | refine Below.drew ?_ | refine below_drewN ?_ _))) (by repeat (first | exact hm | apply HasMax.grown | apply HasMax.alloc | apply HasMax.drew)) (by repeat (first | exact htz | apply HasTz.grown | apply HasTz.alloc | apply HasTz.drew)) (by repeat (first | exact hd | apply HasDec.grown | apply HasDec.alloc | apply HasDec.drew))).mono ?_); rintro e w1 ⟨rfl, hb1⟩; obtain ⟨p1, rfl⟩ := grown_of hb1; clear hb1)
                | (go_at_call 13; (with_reducible refine (H3.out _ _ (TabOk.below HTAB.out (by repeat (first | exact Below.refl _ _ | assumption | refine below_grown ?_ (by first | omega | (simp [go_sem]; done) | (simp [go_sem] <;> omega)) _ | refine Below.alloc ?_ (by first | omega | (simp [go_sem]; done) | (simp [go_sem] <;> omega)) _ | refine below_bytesW ?_ (by first | omega | (simp [go_sem]; done) | (simp [go_sem] <;> omega)) _ | refine Below.drew ?_ | refine below_drewN ?_ _))) (by repeat (first | exact hm | apply HasMax.grown | apply HasMax.alloc | apply HasMax.drew)) (by repeat (first | exact htz | apply HasTz.grown | apply HasTz.alloc | apply HasTz.drew)) (by repeat (first | exact hd | apply HasDec.grown | apply HasDec.alloc | apply HasDec.drew))).mono ?_); rintro e w1 ⟨rfl, hb1⟩; obtain ⟨p1, rfl⟩ := grown_of hb1; clear hb1)
                | (go_at_call 20; (with_reducible refine (HNM.out _).mono ?_); rintro e w1 ⟨rfl, hb1⟩; obtain ⟨p1, rfl⟩ := grown_of hb1; clear hb1))
              go_region_law (first | (go_simp; (first | ((with_reducible refine (HU.out _).mono ?_); rintro e w1 ⟨rfl, hb1⟩; obtain ⟨p1, rfl⟩ := grown_of hb1; clear hb1) | ((with_reducible refine (HL.out _).mono ?_); intro e w1 hg; obtain ⟨a1, c1, rfl, hc1, hb1, hl1⟩ := hg; obtain ⟨p1, rfl⟩ := grown_of hb1; clear hb1) | ((with_reducible refine (H1.out _ _ (TabOk.below HTAB.out (by repeat (first | exact Below.refl _ _ | assumption | refine below_grown ?_ (by first | omega | (simp [go_sem]; done) | (simp [go_sem] <;> omega)) _ | refine Below.alloc ?_ (by first | omega | (simp [go_sem]; done) | (simp [go_sem] <;> omega)) _ | refine below_bytesW ?_ (by first | omega | (simp [go_sem]; done) | (simp [go_sem] <;> omega)) _ | refine Below.drew ?_ | refine below_drewN ?_ _))) (by repeat (first | exact hm | apply HasMax.grown | apply HasMax.alloc | apply HasMax.drew)) (by repeat (first | exact htz | apply HasTz.grown | apply HasTz.alloc | apply HasTz.drew)) (by repeat (first | exact hd | apply HasDec.grown | apply HasDec.alloc | apply HasDec.drew))).mono ?_); rintro e w1 ⟨rfl, hb1⟩; obtain ⟨p1, rfl⟩ := grown_of hb1; clear hb1)); dsimp only))
              all_goals
                go_wp2
                go_ret
                exact ⟨by first | rfl | exact ret_bool (by simp), (by repeat (first | exact Below.refl _ _ | assumption | refine below_grown ?_ (by first | omega | (simp [go_sem]; done) | (simp [go_sem] <;> omega)) _ | refine Below.alloc ?_ (by first | omega | (simp [go_sem]; done) | (simp [go_sem] <;> omega)) _ | refine below_bytesW ?_ (by first | omega | (simp [go_sem]; done) | (simp [go_sem] <;> omega)) _ | refine Below.drew ?_ | refine below_drewN ?_ _))⟩
            · clear l2 HU
              go_enter Tryz.func5, Tryz.ntmps5
              go_upto_region 13 with (first
                | (go_at_call 8; refine (sufAlive_any m _ (by repeat (first | exact hm | apply HasMax.grown | apply HasMax.alloc | apply HasMax.drew)) (by repeat (first | exact htz | apply HasTz.grown | apply HasTz.alloc | apply HasTz.drew)) (by repeat (first | exact hd | apply HasDec.grown | apply HasDec.alloc | apply HasDec.drew))).mono ?_; rintro e w1 ⟨rfl, hb1⟩; obtain ⟨p1, rfl⟩ := grown_of hb1; clear hb1)
                | (go_at_call 18; (with_reducible refine (HP.out _).mono ?_); rintro e w1 ⟨rfl, hb1⟩; obtain ⟨p1, rfl⟩ := grown_of hb1; clear hb1)
                | (go_at_call 9; (with_reducible refine (HG.out _ (ListIn.below HIN.out (by repeat (first | exact Below.refl _ _ | assumption | refine below_grown ?_ (by first | omega | (simp [go_sem]; done) | (simp [go_sem] <;> omega)) _ | refine Below.alloc ?_ (by first | omega | (simp [go_sem]; done) | (simp [go_sem] <;> omega)) _ | refine below_bytesW ?_ (by first | omega | (simp [go_sem]; done) | (simp [go_sem] <;> omega)) _ | refine Below.drew ?_ | refine below_drewN ?_ _)))).mono ?_); rintro e w1 ⟨rfl, hb1⟩; obtain ⟨p1, rfl⟩ := grown_of hb1; clear hb1)
                | (go_at_call 10; (with_reducible refine (HN.out _ (ListIn.below HIN.out (by repeat (first | exact Below.refl _ _ | assumption | refine below_grown ?_ (by first | omega | (simp [go_sem]; done) | (simp [go_sem] <;> omega)) _ | refine Below.alloc ?_ (by first | omega | (simp [go_sem]; done) | (simp [go_sem] <;> omega)) _ | refine below_bytesW ?_ (by first | omega | (simp [go_sem]; done) | (simp [go_sem] <;> omega)) _ | refine Below.drew ?_ | refine below_drewN ?_ _))) (by repeat (first | exact hm | apply HasMax.grown | apply HasMax.alloc | apply HasMax.drew)) (by repeat (first | exact htz | apply HasTz.grown | apply HasTz.alloc | apply HasTz.drew)) (by repeat (first | exact hd | apply HasDec.grown | apply HasDec.alloc | apply HasDec.drew))).mono ?_); intro e w2 hgv; obtain ⟨bt, rfl, htab, hb2⟩ := TabOk.of hgv; obtain ⟨p2, rfl⟩ := grown_of hb2; have HTAB := Lib.hid htab; clear hgv htab hb2)
                | (go_at_call 15; (with_reducible refine (H5.out _ _ (TabOk.below HTAB.out (by repeat (first | exact Below.refl _ _ | assumption | refine below_grown ?_ (by first | omega | (simp [go_sem]; done) | (simp [go_sem] <;> omega)) _ | refine Below.alloc ?_ (by first | omega | (simp [go_sem]; done) | (simp [go_sem] <;> omega)) _ | refine below_bytesW ?_ (by first | omega | (simp [go_sem]; done) | (simp [go_sem] <;> omega)) _ | refine Below.drew ?_ | refine below_drewN ?_ _))) (by repeat (first | exact hm | apply HasMax.grown | apply HasMax.alloc | apply HasMax.drew)) (by repeat (first | exact htz | apply HasTz.grown | apply HasTz.alloc | apply HasTz.drew)) (by repeat (first | exact hd | apply HasDec.grown | apply HasDec.alloc | apply HasDec.drew))).mono ?_); rintro e w1 ⟨rfl, hb1⟩; obtain ⟨p1, rfl⟩ := grown_of hb1; clear hb1)
                | (go_at_call 13; (with_reducible refine (H3.out _ _ (TabOk.below HTAB.out (by repeat (first | exact Below.refl _ _ | assumption | refine below_grown ?_ (by first | omega | (simp [go_sem]; done) | (simp [go_sem] <;> omega)) _ | refine Below.alloc ?_ (by first | omega | (simp [go_sem]; done) | (simp [go_sem] <;> omega)) _ | refine below_bytesW ?_ (by first | omega | (simp [go_sem]; done) | (simp [go_sem] <;> omega)) _ | refine Below.drew ?_ | refine below_drewN ?_ _))) (by repeat (first | exact hm | apply HasMax.grown | apply HasMax.alloc | apply HasMax.drew)) (by repeat (first | exact htz | apply HasTz.grown | apply HasTz.alloc | apply HasTz.drew)) (by repeat (first | exact hd | apply HasDec.grown | apply HasDec.alloc | apply HasDec.drew))).mono ?_); rintro e w1 ⟨rfl, hb1⟩; obtain ⟨p1, rfl⟩ := grown_of hb1; clear hb1)
                | (go_at_call 20; (with_reducible refine (HNM.out _).mono ?_); rintro e w1 ⟨rfl, hb1⟩; obtain ⟨p1, rfl⟩ := grown_of hb1; clear hb1))
              go_region_law (first | (go_simp; (first | ((with_reducible refine (HL.out _).mono ?_); intro e w1 hg; obtain ⟨a1, c1, rfl, hc1, hb1, hl1⟩ := hg; obtain ⟨p1, rfl⟩ := grown_of hb1; clear hb1) | ((with_reducible refine (H1.out _ _ (TabOk.below HTAB.out (by repeat (first | exact Below.refl _ _ | assumption | refine below_grown ?_ (by first | omega | (simp [go_sem]; done) | (simp [go_sem] <;> omega)) _ | refine Below.alloc ?_ (by first | omega | (simp [go_sem]; done) | (simp [go_sem] <;> omega)) _ | refine below_bytesW ?_ (by first | omega | (simp [go_sem]; done) | (simp [go_sem] <;> omega)) _ | refine Below.drew ?_ | refine below_drewN ?_ _))) (by repeat (first | exact hm | apply HasMax.grown | apply HasMax.alloc | apply HasMax.drew)) (by repeat (first | exact htz | apply HasTz.grown | apply HasTz.alloc | apply HasTz.drew)) (by repeat (first | exact hd | apply HasDec.grown | apply HasDec.alloc | apply HasDec.drew))).mono ?_); rintro e w1 ⟨rfl, hb1⟩; obtain ⟨p1, rfl⟩ := grown_of hb1; clear hb1)); dsimp only))
              all_goals
                go_wp2
                go_ret
                exact ⟨by first | rfl | exact ret_bool (by simp), (by repeat (first | exact Below.refl _ _ | assumption | refine below_grown ?_ (by first | omega | (simp [go_sem]; done) | (simp [go_sem] <;> omega)) _ | refine Below.alloc ?_ (by first | omega | (simp [go_sem]; done) | (simp [go_sem] <;> omega)) _ | refine below_bytesW ?_ (by first | omega | (simp [go_sem]; done) | (simp [go_sem] <;> omega)) _ | refine Below.drew ?_ | refine below_drewN ?_ _))⟩
          · obtain ⟨l1, l2⟩ := site_addr (R := R) hk hright
            rw [l1] at H5
            rw [l2] at H1
            have HX : Hid (∀ w, Calls Tryz.prog 19 #[.agg (hostC H)] w fun e w' => e = .returned (.string ⟨(textH H).toArray⟩) ∧ Below w.heap.size w w') := fun w => refText_any H w
            clear l1 l2 hnok hright
            generalize textH H = tx at *
            go_enter Tryz.func5, Tryz.ntmps5
            go_wp2_with (first
              | (go_at_call 8; refine (sufAlive_any m _ (by repeat (first | exact hm | apply HasMax.grown | apply HasMax.alloc | apply HasMax.drew)) (by repeat (first | exact htz | apply HasTz.grown | apply HasTz.alloc | apply HasTz.drew)) (by repeat (first | exact hd | apply HasDec.grown | apply HasDec.alloc | apply HasDec.drew))).mono ?_; rintro e w1 ⟨rfl, hb1⟩; obtain ⟨p1, rfl⟩ := grown_of hb1; clear hb1)
              | (go_at_call 18; (with_reducible refine (HP.out _).mono ?_); rintro e w1 ⟨rfl, hb1⟩; obtain ⟨p1, rfl⟩ := grown_of hb1; clear hb1)
              | (go_at_call 9; (with_reducible refine (HG.out _ (ListIn.below HIN.out (by repeat (first | exact Below.refl _ _ | assumption | refine below_grown ?_ (by first | omega | (simp [go_sem]; done) | (simp [go_sem] <;> omega)) _ | refine Below.alloc ?_ (by first | omega | (simp [go_sem]; done) | (simp [go_sem] <;> omega)) _ | refine below_bytesW ?_ (by first | omega | (simp [go_sem]; done) | (simp [go_sem] <;> omega)) _ | refine Below.drew ?_ | refine below_drewN ?_ _)))).mono ?_); rintro e w1 ⟨rfl, hb1⟩; obtain ⟨p1, rfl⟩ := grown_of hb1; clear hb1)
              | (go_at_call 10; (with_reducible refine (HN.out _ (ListIn.below HIN.out (by repeat (first | exact Below.refl _ _ | assumption | refine below_grown ?_ (by first | omega | (simp [go_sem]; done) | (simp [go_sem] <;> omega)) _ | refine Below.alloc ?_ (by first | omega | (simp [go_sem]; done) | (simp [go_sem] <;> omega)) _ | refine below_bytesW ?_ (by first | omega | (simp [go_sem]; done) | (simp [go_sem] <;> omega)) _ | refine Below.drew ?_ | refine below_drewN ?_ _))) (by repeat (first | exact hm | apply HasMax.grown | apply HasMax.alloc | apply HasMax.drew)) (by repeat (first | exact htz | apply HasTz.grown | apply HasTz.alloc | apply HasTz.drew)) (by repeat (first | exact hd | apply HasDec.grown | apply HasDec.alloc | apply HasDec.drew))).mono ?_); intro e w2 hgv; obtain ⟨bt, rfl, htab, hb2⟩ := TabOk.of hgv; obtain ⟨p2, rfl⟩ := grown_of hb2; have HTAB := Lib.hid htab; clear hgv htab hb2)
              | (go_at_call 15; (with_reducible refine (H5.out _ _ (TabOk.below HTAB.out (by repeat (first | exact Below.refl _ _ | assumption | refine below_grown ?_ (by first | omega | (simp [go_sem]; done) | (simp [go_sem] <;> omega)) _ | refine Below.alloc ?_ (by first | omega | (simp [go_sem]; done) | (simp [go_sem] <;> omega)) _ | refine below_bytesW ?_ (by first | omega | (simp [go_sem]; done) | (simp [go_sem] <;> omega)) _ | refine Below.drew ?_ | refine below_drewN ?_ _))) (by repeat (first | exact hm | apply HasMax.grown | apply HasMax.alloc | apply HasMax.drew)) (by repeat (first | exact htz | apply HasTz.grown | apply HasTz.alloc | apply HasTz.drew)) (by repeat (first | exact hd | apply HasDec.grown | apply HasDec.alloc | apply HasDec.drew))).mono ?_); rintro e w1 ⟨rfl, hb1⟩; obtain ⟨p1, rfl⟩ := grown_of hb1; clear hb1)
              | (go_at_call 13; (with_reducible refine (H3.out _ _ (TabOk.below HTAB.out (by repeat (first | exact Below.refl _ _ | assumption | refine below_grown ?_ (by first | omega | (simp [go_sem]; done) | (simp [go_sem] <;> omega)) _ | refine Below.alloc ?_ (by first | omega | (simp [go_sem]; done) | (simp [go_sem] <;> omega)) _ | refine below_bytesW ?_ (by first | omega | (simp [go_sem]; done) | (simp [go_sem] <;> omega)) _ | refine Below.drew ?_ | refine below_drewN ?_ _))) (by repeat (first | exact hm | apply HasMax.grown | apply HasMax.alloc | apply HasMax.drew)) (by repeat (first | exact htz | apply HasTz.grown | apply HasTz.alloc | apply HasTz.drew)) (by repeat (first | exact hd | apply HasDec.grown | apply HasDec.alloc | apply HasDec.drew))).mono ?_); rintro e w1 ⟨rfl, hb1⟩; obtain ⟨p1, rfl⟩ := grown_of hb1; clear hb1)
              | (go_at_call 11; (with_reducible refine (H1.out _ _ (TabOk.below HTAB.out (by repeat (first | exact Below.refl _ _ | assumption | refine below_grown ?_ (by first | omega | (simp [go_sem]; done) | (simp [go_sem] <;> omega)) _ | refine Below.alloc ?_ (by first | omega | (simp [go_sem]; done) | (simp [go_sem] <;> omega)) _ | refine below_bytesW ?_ (by first | omega | (simp [go_sem]; done) | (simp [go_sem] <;> omega)) _ | refine Below.drew ?_ | refine below_drewN ?_ _))) (by repeat (first | exact hm | apply HasMax.grown | apply HasMax.alloc | apply HasMax.drew)) (by repeat (first | exact htz | apply HasTz.grown | apply HasTz.alloc | apply HasTz.drew)) (by repeat (first | exact hd | apply HasDec.grown | apply HasDec.alloc | apply HasDec.drew))).mono ?_); rintro e w1 ⟨rfl, hb1⟩; obtain ⟨p1, rfl⟩ := grown_of hb1; clear hb1)
              | (go_at_call 19; (with_reducible refine (HX.out _).mono ?_); rintro e w1 ⟨rfl, hb1⟩; obtain ⟨p1, rfl⟩ := grown_of hb1; clear hb1))
            go_ret
            exact ⟨by first | rfl | exact ret_bool (by simp), (by repeat (first | exact Below.refl _ _ | assumption | refine below_grown ?_ (by first | omega | (simp [go_sem]; done) | (simp [go_sem] <;> omega)) _ | refine Below.alloc ?_ (by first | omega | (simp [go_sem]; done) | (simp [go_sem] <;> omega)) _ | refine below_bytesW ?_ (by first | omega | (simp [go_sem]; done) | (simp [go_sem] <;> omega)) _ | refine Below.drew ?_ | refine below_drewN ?_ _))⟩
        · rw [hp] at H3
          obtain ⟨l1, l2⟩ := site_pub hp
          rw [l2] at H5
          clear l2 hnok hright
          go_enter Tryz.func5, Tryz.ntmps5
          go_wp2_with (first
            | (go_at_call 8; refine (sufAlive_any m _ (by repeat (first | exact hm | apply HasMax.grown | apply HasMax.alloc | apply HasMax.drew)) (by repeat (first | exact htz | apply HasTz.grown | apply HasTz.alloc | apply HasTz.drew)) (by repeat (first | exact hd | apply HasDec.grown | apply HasDec.alloc | apply HasDec.drew))).mono ?_; rintro e w1 ⟨rfl, hb1⟩; obtain ⟨p1, rfl⟩ := grown_of hb1; clear hb1)
            | (go_at_call 18; (with_reducible refine (HP.out _).mono ?_); rintro e w1 ⟨rfl, hb1⟩; obtain ⟨p1, rfl⟩ := grown_of hb1; clear hb1)
            | (go_at_call 9; (with_reducible refine (HG.out _ (ListIn.below HIN.out (by repeat (first | exact Below.refl _ _ | assumption | refine below_grown ?_ (by first | omega | (simp [go_sem]; done) | (simp [go_sem] <;> omega)) _ | refine Below.alloc ?_ (by first | omega | (simp [go_sem]; done) | (simp [go_sem] <;> omega)) _ | refine below_bytesW ?_ (by first | omega | (simp [go_sem]; done) | (simp [go_sem] <;> omega)) _ | refine Below.drew ?_ | refine below_drewN ?_ _)))).mono ?_); rintro e w1 ⟨rfl, hb1⟩; obtain ⟨p1, rfl⟩ := grown_of hb1; clear hb1)
            | (go_at_call 10; (with_reducible refine (HN.out _ (ListIn.below HIN.out (by repeat (first | exact Below.refl _ _ | assumption | refine below_grown ?_ (by first | omega | (simp [go_sem]; done) | (simp [go_sem] <;> omega)) _ | refine Below.alloc ?_ (by first | omega | (simp [go_sem]; done) | (simp [go_sem] <;> omega)) _ | refine below_bytesW ?_ (by first | omega | (simp [go_sem]; done) | (simp [go_sem] <;> omega)) _ | refine Below.drew ?_ | refine below_drewN ?_ _))) (by repeat (first | exact hm | apply HasMax.grown | apply HasMax.alloc | apply HasMax.drew)) (by repeat (first | exact htz | apply HasTz.grown | apply HasTz.alloc | apply HasTz.drew)) (by repeat (first | exact hd | apply HasDec.grown | apply HasDec.alloc | apply HasDec.drew))).mono ?_); intro e w2 hgv; obtain ⟨bt, rfl, htab, hb2⟩ := TabOk.of hgv; obtain ⟨p2, rfl⟩ := grown_of hb2; have HTAB := Lib.hid htab; clear hgv htab hb2)
            | (go_at_call 15; (with_reducible refine (H5.out _ _ (TabOk.below HTAB.out (by repeat (first | exact Below.refl _ _ | assumption | refine below_grown ?_ (by first | omega | (simp [go_sem]; done) | (simp [go_sem] <;> omega)) _ | refine Below.alloc ?_ (by first | omega | (simp [go_sem]; done) | (simp [go_sem] <;> omega)) _ | refine below_bytesW ?_ (by first | omega | (simp [go_sem]; done) | (simp [go_sem] <;> omega)) _ | refine Below.drew ?_ | refine below_drewN ?_ _))) (by repeat (first | exact hm | apply HasMax.grown | apply HasMax.alloc | apply HasMax.drew)) (by repeat (first | exact htz | apply HasTz.grown | apply HasTz.alloc | apply HasTz.drew)) (by repeat (first | exact hd | apply HasDec.grown | apply HasDec.alloc | apply HasDec.drew))).mono ?_); rintro e w1 ⟨rfl, hb1⟩; obtain ⟨p1, rfl⟩ := grown_of hb1; clear hb1)
            | (go_at_call 13; (with_reducible refine (H3.out _ _ (TabOk.below HTAB.out (by repeat (first | exact Below.refl _ _ | assumption | refine below_grown ?_ (by first | omega | (simp [go_sem]; done) | (simp [go_sem] <;> omega)) _ | refine Below.alloc ?_ (by first | omega | (simp [go_sem]; done) | (simp [go_sem] <;> omega)) _ | refine below_bytesW ?_ (by first | omega | (simp [go_sem]; done) | (simp [go_sem] <;> omega)) _ | refine Below.drew ?_ | refine below_drewN ?_ _))) (by repeat (first | exact hm | apply HasMax.grown | apply HasMax.alloc | apply HasMax.drew)) (by repeat (first | exact htz | apply HasTz.grown | apply HasTz.alloc | apply HasTz.drew)) (by repeat (first | exact hd | apply HasDec.grown | apply HasDec.alloc | apply HasDec.drew))).mono ?_); rintro e w1 ⟨rfl, hb1⟩; obtain ⟨p1, rfl⟩ := grown_of hb1; clear hb1))
          go_ret
          exact ⟨by first | rfl | exact ret_bool (by simp), (by repeat (first | exact Below.refl _ _ | assumption | refine below_grown ?_ (by first | omega | (simp [go_sem]; done) | (simp [go_sem] <;> omega)) _ | refine Below.alloc ?_ (by first | omega | (simp [go_sem]; done) | (simp [go_sem] <;> omega)) _ | refine below_bytesW ?_ (by first | omega | (simp [go_sem]; done) | (simp [go_sem] <;> omega)) _ | refine Below.drew ?_ | refine below_drewN ?_ _))⟩
      · have he1 : (E != 0) = true := by rw [bne_iff_ne]; exact he
        have he2 : (E == 0) = false := by rw [beq_eq_false_iff_ne]; exact he
        clear hr hin hg HCASE
        go_enter Tryz.func5, Tryz.ntmps5
        go_wp2_with (first
          | (go_at_call 8; refine (sufAlive_any m _ (by repeat (first | exact hm | apply HasMax.grown | apply HasMax.alloc | apply HasMax.drew)) (by repeat (first | exact htz | apply HasTz.grown | apply HasTz.alloc | apply HasTz.drew)) (by repeat (first | exact hd | apply HasDec.grown | apply HasDec.alloc | apply HasDec.drew))).mono ?_; rintro e w1 ⟨rfl, hb1⟩; obtain ⟨p1, rfl⟩ := grown_of hb1; clear hb1)
          | (go_at_call 18; (with_reducible refine (HP.out _).mono ?_); rintro e w1 ⟨rfl, hb1⟩; obtain ⟨p1, rfl⟩ := grown_of hb1; clear hb1)
          | (go_at_call 9; (with_reducible refine (HG.out _ (ListIn.below HIN.out (by repeat (first | exact Below.refl _ _ | assumption | refine below_grown ?_ (by first | omega | (simp [go_sem]; done) | (simp [go_sem] <;> omega)) _ | refine Below.alloc ?_ (by first | omega | (simp [go_sem]; done) | (simp [go_sem] <;> omega)) _ | refine below_bytesW ?_ (by first | omega | (simp [go_sem]; done) | (simp [go_sem] <;> omega)) _ | refine Below.drew ?_ | refine below_drewN ?_ _)))).mono ?_); rintro e w1 ⟨rfl, hb1⟩; obtain ⟨p1, rfl⟩ := grown_of hb1; clear hb1))
        go_ret
        exact ⟨by first | rfl | exact ret_bool (by simp), (by repeat (first | exact Below.refl _ _ | assumption | refine below_grown ?_ (by first | omega | (simp [go_sem]; done) | (simp [go_sem] <;> omega)) _ | refine Below.alloc ?_ (by first | omega | (simp [go_sem]; done) | (simp [go_sem] <;> omega)) _ | refine below_bytesW ?_ (by first | omega | (simp [go_sem]; done) | (simp [go_sem] <;> omega)) _ | refine Below.drew ?_ | refine below_drewN ?_ _))⟩
  · rw [hg] at HG
    clear hr hin hg HCASE
    go_enter Tryz.func5, Tryz.ntmps5
    go_wp2_with (first
      | (go_at_call 8; refine (sufAlive_any m _ (by repeat (first | exact hm | apply HasMax.grown | apply HasMax.alloc | apply HasMax.drew)) (by repeat (first | exact htz | apply HasTz.grown | apply HasTz.alloc | apply HasTz.drew)) (by repeat (first | exact hd | apply HasDec.grown | apply HasDec.alloc | apply HasDec.drew))).mono ?_; rintro e w1 ⟨rfl, hb1⟩; obtain ⟨p1, rfl⟩ := grown_of hb1; clear hb1)
      | (go_at_call 18; (with_reducible refine (HP.out _).mono ?_); rintro e w1 ⟨rfl, hb1⟩; obtain ⟨p1, rfl⟩ := grown_of hb1; clear hb1)
      | (go_at_call 9; (with_reducible refine (HG.out _ (ListIn.below HIN.out (by repeat (first | exact Below.refl _ _ | assumption | refine below_grown ?_ (by first | omega | (simp [go_sem]; done) | (simp [go_sem] <;> omega)) _ | refine Below.alloc ?_ (by first | omega | (simp [go_sem]; done) | (simp [go_sem] <;> omega)) _ | refine below_bytesW ?_ (by first | omega | (simp [go_sem]; done) | (simp [go_sem] <;> omega)) _ | refine Below.drew ?_ | refine below_drewN ?_ _)))).mono ?_); rintro e w1 ⟨rfl, hb1⟩; obtain ⟨p1, rfl⟩ := grown_of hb1; clear hb1))
    go_ret
    exact ⟨by first | rfl | exact ret_bool (by simp), (by repeat (first | exact Below.refl _ _ | assumption | refine below_grown ?_ (by first | omega | (simp [go_sem]; done) | (simp [go_sem] <;> omega)) _ | refine Below.alloc ?_ (by first | omega | (simp [go_sem]; done) | (simp [go_sem] <;> omega)) _ | refine below_bytesW ?_ (by first | omega | (simp [go_sem]; done) | (simp [go_sem] <;> omega)) _ | refine Below.drew ?_ | refine below_drewN ?_ _))⟩
end Go.Proofs.YtmfjabpmhkechaaGreatDoor
