/- Merged: RuleW, RuleLine, RuleRef, RuleRefL. -/
import Derived.Test.YtlegjkjicdpeeaaGreatDoorRuleP
import Derived.Test.YtlegjkjicdpeeaaGreatDoorHostAll
import Derived.Test.YtlegjkjicdpeeaaGreatDoorIdxAnyT
import Derived.Deep.DeepCutAuto
namespace Go.Proofs.YtlegjkjicdpeeaaGreatDoor
section
open Go Go.RowKit
set_option maxRecDepth 20000
set_option linter.unusedSimpArgs false
set_option linter.unusedVariables false

theorem mark_any (k : Int) (w : World) :
    Calls Tryz.prog 43 #[.int .i64 k] w fun e w' => e = .returned (.string ⟨(markL k).toArray⟩) ∧ w = w' := by
  by_cases h2 : k = 2
  · subst h2
    go_enter Tryz.func43, Tryz.ntmps43
    go_wp2
    go_ret
    exact ⟨rfl, rfl⟩
  · by_cases h3 : k = 3
    · subst h3
      go_enter Tryz.func43, Tryz.ntmps43
      go_wp2
      go_ret
      exact ⟨rfl, rfl⟩
    · have e : markL k = [] := by unfold markL; rw [if_neg h2, if_neg h3]
      rw [e]
      have e2 : (k == 2) = false := by rw [beq_eq_false_iff_ne]; exact h2
      have e3 : (k == 3) = false := by rw [beq_eq_false_iff_ne]; exact h3
      clear e
      go_enter Tryz.func43, Tryz.ntmps43
      go_wp2
      go_ret
      exact ⟨rfl, rfl⟩
theorem kind_cut (u : List UInt8) : (Lib.hasPrefix u [42, 46] = true → ruleKind u = (2, Lib.trimPrefix u [42, 46])) ∧
    (Lib.hasPrefix u [42, 46] = false → Lib.hasPrefix u [33] = true → ruleKind u = (3, Lib.trimPrefix u [33])) ∧
    (Lib.hasPrefix u [42, 46] = false → Lib.hasPrefix u [33] = false → ruleKind u = (1, u)) := by
  unfold ruleKind Lib.trimPrefix
  refine ⟨fun h => ?_, fun h1 h2 => ?_, fun h1 h2 => ?_⟩
  · rw [if_pos h, if_pos h]; rfl
  · rw [if_neg (by rw [h1]; decide), if_pos h2, if_pos h2]; rfl
  · rw [if_neg (by rw [h1]; decide), if_neg (by rw [h2]; decide)]
@[go_sem ↓ high] theorem run_kinds0 (w : World) : Sem.run Tryz.prog (Instr.index 95 (.agg #[.int .i64 2, .int .i64 3]) (.int .i64 0)) w = .ok (.int .i64 2) w := by kernel_rfl
@[go_sem ↓ high] theorem run_kinds1 (w : World) : Sem.run Tryz.prog (Instr.index 95 (.agg #[.int .i64 2, .int .i64 3]) (.int .i64 1)) w = .ok (.int .i64 3) w := by kernel_rfl
set_option maxHeartbeats 1000000 in
theorem kindOf_any (u : List UInt8) (hu : u.length ≤ maxLen) (w : World) :
    Calls Tryz.prog 38 #[.string ⟨u.toArray⟩] w fun e w' => e = .returned (.tuple #[.int .i64 (ruleKind u).1, .string ⟨(ruleKind u).2.toArray⟩]) ∧ w = w' := by
  obtain ⟨k1, k2, k3⟩ := kind_cut u
  have HC2 : Hid (∀ w, Calls Tryz.prog 69 #[.string ⟨u.toArray⟩, .string ⟨[42, 46].toArray⟩] w fun e w' => e = .returned (.tuple #[.string ⟨(Lib.trimPrefix u [42, 46]).toArray⟩, .bool (Lib.hasPrefix u [42, 46])]) ∧ w = w') := fun w => cutPre_any u [42, 46] w
  have HC3 : Hid (∀ w, Calls Tryz.prog 69 #[.string ⟨u.toArray⟩, .string ⟨[33].toArray⟩] w fun e w' => e = .returned (.tuple #[.string ⟨(Lib.trimPrefix u [33]).toArray⟩, .bool (Lib.hasPrefix u [33])]) ∧ w = w') := fun w => cutPre_any u [33] w
  have HM2 : Hid (∀ w, Calls Tryz.prog 43 #[.int .i64 2] w fun e w' => e = .returned (.string ⟨[42, 46].toArray⟩) ∧ w = w') := fun w => mark_any 2 w
  have HM3 : Hid (∀ w, Calls Tryz.prog 43 #[.int .i64 3] w fun e w' => e = .returned (.string ⟨[33].toArray⟩) ∧ w = w') := fun w => mark_any 3 w
  have K1 := Lib.hid k1
  have K2 := Lib.hid k2
  have K3 := Lib.hid k3
  clear k1 k2 k3
  generalize Lib.trimPrefix u [42, 46] = x2 at *
  generalize Lib.trimPrefix u [33] = x3 at *
  generalize Lib.hasPrefix u [42, 46] = p2 at *
  generalize Lib.hasPrefix u [33] = p3 at *
  generalize ruleKind u = r at *
  go_enter Tryz.func38, Tryz.ntmps38
  go_wp2
  go_loop [5, 6, 7, 9] (fun _ _ _ i => i = .int .i64 0 ∨ (p2 = false ∧ i = .int .i64 1) ∨ (p2 = false ∧ p3 = false ∧ i = .int .i64 2)) (fun _ _ _ i => 2 - (intOf i).toNat)
  case atStart => exact .inl rfl
  case round =>
    rcases hrel with rfl | ⟨rfl, rfl⟩ | ⟨rfl, rfl, rfl⟩
    · cases p2
      · go_wp2_with (first
          | (go_at_call 43; refine (HM2.out _).mono ?_; intro e w' h; obtain ⟨rfl, h2⟩ := h; subst w')
          | (go_at_call 69; refine (HC2.out _).mono ?_; intro e w' h; obtain ⟨rfl, h2⟩ := h; subst w'))
        go_round
        case rel => exact .inr (.inl ⟨by first | exact trivial | rfl, rfl⟩)
        case measure => simp [intOf]
      · obtain rfl := K1.out rfl
        go_wp2_with (first
          | (go_at_call 43; refine (HM2.out _).mono ?_; intro e w' h; obtain ⟨rfl, h2⟩ := h; subst w')
          | (go_at_call 69; refine (HC2.out _).mono ?_; intro e w' h; obtain ⟨rfl, h2⟩ := h; subst w'))
        go_ret2
        exact ⟨rfl, rfl⟩
    · cases p3
      · go_wp2_with (first
          | (go_at_call 43; refine (HM3.out _).mono ?_; intro e w' h; obtain ⟨rfl, h2⟩ := h; subst w')
          | (go_at_call 69; refine (HC3.out _).mono ?_; intro e w' h; obtain ⟨rfl, h2⟩ := h; subst w'))
        go_round
        case rel => exact .inr (.inr ⟨by first | exact trivial | rfl, by first | exact trivial | rfl, rfl⟩)
        case measure => simp [intOf]
      · obtain rfl := K2.out rfl rfl
        go_wp2_with (first
          | (go_at_call 43; refine (HM3.out _).mono ?_; intro e w' h; obtain ⟨rfl, h2⟩ := h; subst w')
          | (go_at_call 69; refine (HC3.out _).mono ?_; intro e w' h; obtain ⟨rfl, h2⟩ := h; subst w'))
        go_ret2
        exact ⟨rfl, rfl⟩
    · obtain rfl := K3.out rfl rfl
      go_wp2
      go_ret2
      exact ⟨rfl, rfl⟩
set_option maxHeartbeats 1000000 in
theorem ruleText_any (k : Int) (n : List UInt8) (hn : n.length ≤ 4294967000) (w : World) :
    Calls Tryz.prog 16 #[.agg (ruleV k n)] w fun e w' => e = .returned (.string ⟨(ruleTextL k n).toArray⟩) ∧ Below w.heap.size w w' := by
  have HM : Hid (∀ w, Calls Tryz.prog 43 #[.int .i64 k] w fun e w' => e = .returned (.string ⟨(markL k).toArray⟩) ∧ Below w.heap.size w w') := fun w => (mark_any k w).mono fun e w' ⟨h1, h2⟩ => ⟨h1, h2 ▸ Below.refl _ _⟩
  have hml : (markL k).length ≤ 2 := by
    unfold markL
    split
    · decide
    · split <;> decide
  have HT : Hid (ruleTextL k n = markL k ++ n) := rfl
  rw [HT.out]
  generalize markL k = mk at *
  have n1 : ¬ 9223372036854775807 < mk.length + n.length := by omega
  go_enter Tryz.func16, Tryz.ntmps16
  go_wp2
  refine wp_region_quiet_grown (by kernel_rfl) (by kernel_rfl) ?_
  repeat (quiet_step ((go_at_call 43; with_reducible exact quiet_grown (HM.out _))))
  refine wpQuiet_nil ?_; intro _ hw'; obtain ⟨pq, hw''⟩ := hw'; subst hw''
  go_wp2
  go_ret
  exact ⟨rfl, (by repeat (first | exact Below.refl _ _ | assumption | refine below_grown ?_ (by first | omega | (simp [go_sem]; done) | (simp [go_sem] <;> omega)) _ | refine Below.alloc ?_ (by first | omega | (simp [go_sem]; done) | (simp [go_sem] <;> omega)) _ | refine below_bytesW ?_ (by first | omega | (simp [go_sem]; done) | (simp [go_sem] <;> omega)) _ | refine Below.drew ?_ | refine below_drewN ?_ _))⟩
end

section
open Go Go.RowKit
set_option maxRecDepth 20000
set_option linter.unusedSimpArgs false
set_option linter.unusedVariables false

/-! ### Line -/
theorem ixAny_two' (r cs : List UInt8) : (Lib.indexAny r cs = -1 ∧ r.take (cutAny r cs) = r) ∨ ∃ k : Nat, Lib.indexAny r cs = k ∧ k < r.length ∧ r.take (cutAny r cs) = r.take k := by
  have h1 := Lib.indexAny_ge cs r
  have h2 : Lib.indexAny r cs < (r.length : Int) := by
    clear h1
    induction r with
    | nil => simp [Lib.indexAny]
    | cons x s ih =>
      unfold Lib.indexAny
      simp only [List.length_cons]
      split
      · omega
      · split
        · omega
        · omega
  unfold cutAny
  by_cases h : 0 ≤ Lib.indexAny r cs
  · exact .inr ⟨(Lib.indexAny r cs).toNat, by omega, by omega, by rw [if_pos h]⟩
  · exact .inl ⟨by omega, by rw [if_neg h, List.take_length]⟩
theorem parseE_cases' (s : List UInt8) : (parseOk s = true ∧ parseE s = 0) ∨ (parseOk s = false ∧ parseE s = 31) := by
  unfold parseE
  cases parseOk s
  · exact .inr ⟨rfl, rfl⟩
  · exact .inl ⟨rfl, rfl⟩
theorem hasPre_any' (s p : List UInt8) (w : World) : Calls Tryz.prog 36 #[.string ⟨s.toArray⟩, .string ⟨p.toArray⟩] w fun e w' => e = .returned (.bool (Lib.hasPrefix s p)) ∧ w = w' :=
  (Tryz.strings_HasPrefix ⟨s.toArray⟩ ⟨p.toArray⟩ w).mono fun e w' ⟨h1, h2⟩ => ⟨by simpa using h1, h2.symm⟩
theorem ret_cell_two {P : Program} {fn : Func} {p u x : Tmp} {ty : TypeId} {R : Ending → World → Prop} {a : Act} {w : World} (g : Nat) (cs : Array Value) (v v2 : Value) (h : fn.results = #[.cell p ty, .tmp u, .tmp x]) (hp : a.tmps.getD p undef = .pointer (some ⟨g, 0, none⟩)) (hv : a.tmps.getD u undef = v) (hx : a.tmps.getD x undef = v2) (hagg : isAggT P ty = true)
    (hr : hasRow w ⟨g, 0, none⟩ (P.cellsOf ty) = true) (hc : rowAt w ⟨g, 0, none⟩ (P.cellsOf ty) = cs) (hd : a.defers = []) (hR : R (.returned (.tuple #[.agg cs, v, v2])) w) : bodyPost P fn R .ret a w := by
  refine bodyPost_ret (v := .tuple #[.agg cs, v, v2]) ?_ hd hR
  have hp' : a.tmps[p]?.getD undef = .pointer (some ⟨g, 0, none⟩) := by simpa using hp
  have hv' : a.tmps[u]?.getD undef = v := by simpa using hv
  have hx' : a.tmps[x]?.getD undef = v2 := by simpa using hx
  have := run_loadVar_agg (P := P) hagg ⟨g, 0, none⟩ w hr
  rw [hc] at this
  simp [results, h, hp', hv', hx', asAddr, this]
set_option maxRecDepth 100000 in
set_option maxHeartbeats 4000000 in
theorem ruleLine_any (s : List UInt8) (hs : s.length ≤ 1000000000) (m : Int) (w : World) (hm : HasMax m w) (htz : HasTz w) (hd : HasDec w) :
    Calls Tryz.prog 14 #[.string ⟨s.toArray⟩] w fun e w' => e = .returned (.tuple #[.agg (ruleV (ruleOut s).1.1 (ruleOut s).1.2), .bool (ruleOut s).2.1, .int .i64 (ruleOut s).2.2]) ∧ Below w.heap.size w w' := by
  have HT : Hid (∀ w, Calls Tryz.prog 35 #[.string ⟨s.toArray⟩] w fun e w' => e = .returned (.string ⟨(trimL s).toArray⟩) ∧ Below w.heap.size w w') := fun w => trim_any s (by unfold maxLen; omega) w
  have htl : (trimL s).length ≤ s.length := trimL_length s
  rcases rule_ways s with ⟨h1, hO⟩ | ⟨h1, h2, hO⟩ | ⟨h1, h2, hW⟩
  · rw [hO]
    rw [h1] at HT
    clear hO h1
    go_enter Tryz.func14, Tryz.ntmps14
    go_wp2_with (go_at_call 35; refine (HT.out _).mono ?_; rintro e w1 ⟨rfl, hb1⟩; obtain ⟨p1, rfl⟩ := grown_of hb1; clear hb1)
    exact ret_cell_two w.heap.size (ruleV 0 []) (.bool false) (.int .i64 0) rfl rfl rfl rfl agg_rule (by simp [go_sem]) (by simp [go_sem]) rfl ⟨rfl, below_setRow (by repeat (first | exact Below.refl _ _ | assumption | refine below_grown ?_ (by first | omega | (simp [go_sem]; done) | (simp [go_sem] <;> omega)) _ | refine Below.alloc ?_ (by first | omega | (simp [go_sem]; done) | (simp [go_sem] <;> omega)) _ | refine below_bytesW ?_ (by first | omega | (simp [go_sem]; done) | (simp [go_sem] <;> omega)) _ | refine Below.drew ?_ | refine below_drewN ?_ _)) (Nat.le_refl _) _⟩
  · rw [hO]
    have HPR : Hid (∀ w, Calls Tryz.prog 36 #[.string ⟨(trimL s).toArray⟩, .string ⟨[47, 47].toArray⟩] w fun e w' => e = .returned (.bool true) ∧ w = w') := fun w => by have := hasPre_any' (trimL s) [47, 47] w; rwa [h2] at this
    clear hO h2
    generalize trimL s = t at *
    have hem : t.isEmpty = false := by rw [List.isEmpty_eq_false_iff]; exact h1
    have hem2 : (t == []) = false := by rw [beq_eq_false_iff_ne]; exact h1
    clear h1
    go_enter Tryz.func14, Tryz.ntmps14
    go_wp2_with (first
      | (go_at_call 35; refine (HT.out _).mono ?_; rintro e w1 ⟨rfl, hb1⟩; obtain ⟨p1, rfl⟩ := grown_of hb1; clear hb1)
      | (go_at_call 36; refine (HPR.out _).mono ?_; intro e w' h; obtain ⟨rfl, h2⟩ := h; subst w'))
    exact ret_cell_two w.heap.size (ruleV 0 []) (.bool false) (.int .i64 0) rfl rfl rfl rfl agg_rule (by simp [go_sem]) (by simp [go_sem]) rfl ⟨rfl, below_setRow (by repeat (first | exact Below.refl _ _ | assumption | refine below_grown ?_ (by first | omega | (simp [go_sem]; done) | (simp [go_sem] <;> omega)) _ | refine Below.alloc ?_ (by first | omega | (simp [go_sem]; done) | (simp [go_sem] <;> omega)) _ | refine below_bytesW ?_ (by first | omega | (simp [go_sem]; done) | (simp [go_sem] <;> omega)) _ | refine Below.drew ?_ | refine below_drewN ?_ _)) (Nat.le_refl _) _⟩
  · have HPR : Hid (∀ w, Calls Tryz.prog 36 #[.string ⟨(trimL s).toArray⟩, .string ⟨[47, 47].toArray⟩] w fun e w' => e = .returned (.bool false) ∧ w = w') := fun w => by have := hasPre_any' (trimL s) [47, 47] w; rwa [h2] at this
    have HIX : Hid (∀ w, Calls Tryz.prog 37 #[.string ⟨(trimL s).toArray⟩, .string ⟨[32, 9].toArray⟩] w fun e w' => e = .returned (.int .i64 (Lib.indexAny (trimL s) [32, 9])) ∧ Below w.heap.size w w') := fun w => indexAny_any (trimL s) [32, 9] (by omega) (.inr (.inr rfl)) w
    have hul : (blankTake (trimL s)).length ≤ (trimL s).length := by unfold blankTake; rw [List.length_take]; omega
    have hix := ixAny_two' (trimL s) [32, 9]
    have hub : blankTake (trimL s) = (trimL s).take (cutAny (trimL s) [32, 9]) := rfl
    rw [← hub] at hix
    clear hub
    have HKD : Hid (∀ w, Calls Tryz.prog 38 #[.string ⟨(blankTake (trimL s)).toArray⟩] w fun e w' => e = .returned (.tuple #[.int .i64 (ruleKind (blankTake (trimL s))).1, .string ⟨(ruleKind (blankTake (trimL s))).2.toArray⟩]) ∧ w = w') := fun w => kindOf_any _ (by unfold maxLen; omega) w
    have hkl := ruleKind_len (blankTake (trimL s))
    clear h2
    generalize trimL s = t at *
    generalize Lib.indexAny t [32, 9] = ix at *
    generalize blankTake t = u at *
    obtain ⟨⟨k, nm⟩, hkn⟩ : ∃ r, ruleKind u = r := ⟨_, rfl⟩
    rw [hkn] at HKD hkl hW
    dsimp only at HKD hkl hW
    clear hkn
    have HPA : Hid (∀ w, HasMax m w → Calls Tryz.prog 39 #[.string ⟨nm.toArray⟩] w fun e w' => e = .returned (.tuple #[.agg (hostC (parseH nm)), .int .i64 (parseE nm)]) ∧ Below w.heap.size w w') := fun w h => parse_any nm (by omega) m w h
    have hhn : (parseH nm).name.length ≤ 253 := parseH_name nm
    have HLA : Hid (∀ w, HasMax m w → HasTz w → HasDec w → Calls Tryz.prog 40 #[.agg (hostC (parseH nm))] w (Gives strCod (labelsL (parseH nm)) w)) := fun w a b c => labels_any (parseH nm) (by omega) m w a b c
    have hE := parseE_cases' nm
    have hem : t.isEmpty = false := by rw [List.isEmpty_eq_false_iff]; exact h1
    have hem2 : (t == []) = false := by rw [beq_eq_false_iff_ne]; exact h1
    clear h1 hhn
    generalize parseH nm = H at *
    generalize parseE nm = eH at *
    generalize parseOk nm = ok at *
    generalize labelsL H = LL at *
    rcases hW with ⟨w1, hO⟩ | ⟨w1, w2, hO⟩ | ⟨w1, w2, w3, w4, hO⟩ | ⟨w1, w2, w3, w4, hO⟩ | ⟨w1, w2, w3, hO⟩
    · rw [hO]
      obtain rfl : eH = 31 := by
        rcases hE with ⟨h, h'⟩ | ⟨h, h'⟩
        · rw [w1] at h; cases h
        · exact h'
      clear hO hE w1
      rcases hix with ⟨rfl, rfl⟩ | ⟨kx, rfl, hkx, rfl⟩
      all_goals
        go_enter Tryz.func14, Tryz.ntmps14
        go_wp2_with (first
          | (go_at_call 35; (with_reducible refine (HT.out _).mono ?_); rintro e w1 ⟨rfl, hb1⟩; obtain ⟨p1, rfl⟩ := grown_of hb1; clear hb1)
          | (go_at_call 36; (with_reducible refine (HPR.out _).mono ?_); intro e w' h; obtain ⟨rfl, h2⟩ := h; subst w')
          | (go_at_call 37; (with_reducible refine (HIX.out _).mono ?_); rintro e w1 ⟨rfl, hb1⟩; obtain ⟨p1, rfl⟩ := grown_of hb1; clear hb1)
          | (go_at_call 38; (with_reducible refine (HKD.out _).mono ?_); intro e w' h; obtain ⟨rfl, h2⟩ := h; subst w')
          | (go_at_call 39; refine (HPA.out _ (by repeat (first | exact hm | apply HasMax.grown | apply HasMax.alloc | apply HasMax.drew))).mono ?_; rintro e w1 ⟨rfl, hb1⟩; obtain ⟨p1, rfl⟩ := grown_of hb1; clear hb1)
          | (go_at_call 40; refine (HLA.out _ (by repeat (first | exact hm | apply HasMax.grown | apply HasMax.alloc | apply HasMax.drew)) (by repeat (first | exact htz | apply HasTz.grown | apply HasTz.alloc | apply HasTz.drew)) (by repeat (first | exact hd | apply HasDec.grown | apply HasDec.alloc | apply HasDec.drew))).mono ?_; intro e w1 hg; obtain ⟨a1, c1, rfl, hc1, hb1, hl1⟩ := hg; obtain ⟨p1, rfl⟩ := grown_of hb1; clear hb1))
        exact ret_cell_two w.heap.size (ruleV 0 []) (.bool false) (.int .i64 51) rfl rfl rfl rfl agg_rule (by simp [go_sem]) (by simp [go_sem]) rfl ⟨rfl, below_setRow (by repeat (first | exact Below.refl _ _ | assumption | refine below_grown ?_ (by first | omega | (simp [go_sem]; done) | (simp [go_sem] <;> omega)) _ | refine Below.alloc ?_ (by first | omega | (simp [go_sem]; done) | (simp [go_sem] <;> omega)) _ | refine below_bytesW ?_ (by first | omega | (simp [go_sem]; done) | (simp [go_sem] <;> omega)) _ | refine Below.drew ?_ | refine below_drewN ?_ _)) (Nat.le_refl _) _⟩
    · rw [hO]
      obtain rfl : eH = 0 := by
        rcases hE with ⟨h, h'⟩ | ⟨h, h'⟩
        · exact h'
        · rw [w1] at h; cases h
      have hk1 : (H.kind != 1) = true := by rw [bne_iff_ne]; exact w2
      clear hO hE w1 w2
      rcases hix with ⟨rfl, rfl⟩ | ⟨kx, rfl, hkx, rfl⟩
      all_goals
        go_enter Tryz.func14, Tryz.ntmps14
        go_wp2_with (first
          | (go_at_call 35; (with_reducible refine (HT.out _).mono ?_); rintro e w1 ⟨rfl, hb1⟩; obtain ⟨p1, rfl⟩ := grown_of hb1; clear hb1)
          | (go_at_call 36; (with_reducible refine (HPR.out _).mono ?_); intro e w' h; obtain ⟨rfl, h2⟩ := h; subst w')
          | (go_at_call 37; (with_reducible refine (HIX.out _).mono ?_); rintro e w1 ⟨rfl, hb1⟩; obtain ⟨p1, rfl⟩ := grown_of hb1; clear hb1)
          | (go_at_call 38; (with_reducible refine (HKD.out _).mono ?_); intro e w' h; obtain ⟨rfl, h2⟩ := h; subst w')
          | (go_at_call 39; refine (HPA.out _ (by repeat (first | exact hm | apply HasMax.grown | apply HasMax.alloc | apply HasMax.drew))).mono ?_; rintro e w1 ⟨rfl, hb1⟩; obtain ⟨p1, rfl⟩ := grown_of hb1; clear hb1)
          | (go_at_call 40; refine (HLA.out _ (by repeat (first | exact hm | apply HasMax.grown | apply HasMax.alloc | apply HasMax.drew)) (by repeat (first | exact htz | apply HasTz.grown | apply HasTz.alloc | apply HasTz.drew)) (by repeat (first | exact hd | apply HasDec.grown | apply HasDec.alloc | apply HasDec.drew))).mono ?_; intro e w1 hg; obtain ⟨a1, c1, rfl, hc1, hb1, hl1⟩ := hg; obtain ⟨p1, rfl⟩ := grown_of hb1; clear hb1))
        exact ret_cell_two w.heap.size (ruleV 0 []) (.bool false) (.int .i64 51) rfl rfl rfl rfl agg_rule (by simp [go_sem]) (by simp [go_sem]) rfl ⟨rfl, below_setRow (by repeat (first | exact Below.refl _ _ | assumption | refine below_grown ?_ (by first | omega | (simp [go_sem]; done) | (simp [go_sem] <;> omega)) _ | refine Below.alloc ?_ (by first | omega | (simp [go_sem]; done) | (simp [go_sem] <;> omega)) _ | refine below_bytesW ?_ (by first | omega | (simp [go_sem]; done) | (simp [go_sem] <;> omega)) _ | refine Below.drew ?_ | refine below_drewN ?_ _)) (Nat.le_refl _) _⟩
    · rw [hO]
      obtain rfl : eH = 0 := by
        rcases hE with ⟨h, h'⟩ | ⟨h, h'⟩
        · exact h'
        · rw [w1] at h; cases h
      have hk1 : (H.kind != 1) = false := by rw [w2]; rfl
      subst w3
      have hl2 : (LL.length : Int) < 2 := by omega
      clear hO hE w1 w2 w4
      rcases hix with ⟨rfl, rfl⟩ | ⟨kx, rfl, hkx, rfl⟩
      all_goals
        go_enter Tryz.func14, Tryz.ntmps14
        go_wp2_with (first
          | (go_at_call 35; (with_reducible refine (HT.out _).mono ?_); rintro e w1 ⟨rfl, hb1⟩; obtain ⟨p1, rfl⟩ := grown_of hb1; clear hb1)
          | (go_at_call 36; (with_reducible refine (HPR.out _).mono ?_); intro e w' h; obtain ⟨rfl, h2⟩ := h; subst w')
          | (go_at_call 37; (with_reducible refine (HIX.out _).mono ?_); rintro e w1 ⟨rfl, hb1⟩; obtain ⟨p1, rfl⟩ := grown_of hb1; clear hb1)
          | (go_at_call 38; (with_reducible refine (HKD.out _).mono ?_); intro e w' h; obtain ⟨rfl, h2⟩ := h; subst w')
          | (go_at_call 39; refine (HPA.out _ (by repeat (first | exact hm | apply HasMax.grown | apply HasMax.alloc | apply HasMax.drew))).mono ?_; rintro e w1 ⟨rfl, hb1⟩; obtain ⟨p1, rfl⟩ := grown_of hb1; clear hb1)
          | (go_at_call 40; refine (HLA.out _ (by repeat (first | exact hm | apply HasMax.grown | apply HasMax.alloc | apply HasMax.drew)) (by repeat (first | exact htz | apply HasTz.grown | apply HasTz.alloc | apply HasTz.drew)) (by repeat (first | exact hd | apply HasDec.grown | apply HasDec.alloc | apply HasDec.drew))).mono ?_; intro e w1 hg; obtain ⟨a1, c1, rfl, hc1, hb1, hl1⟩ := hg; obtain ⟨p1, rfl⟩ := grown_of hb1; clear hb1))
        exact ret_cell_two w.heap.size (ruleV 0 []) (.bool false) (.int .i64 51) rfl rfl rfl rfl agg_rule (by simp [go_sem]) (by simp [go_sem]) rfl ⟨rfl, below_setRow (by repeat (first | exact Below.refl _ _ | assumption | refine below_grown ?_ (by first | omega | (simp [go_sem]; done) | (simp [go_sem] <;> omega)) _ | refine Below.alloc ?_ (by first | omega | (simp [go_sem]; done) | (simp [go_sem] <;> omega)) _ | refine below_bytesW ?_ (by first | omega | (simp [go_sem]; done) | (simp [go_sem] <;> omega)) _ | refine Below.drew ?_ | refine below_drewN ?_ _)) (Nat.le_refl _) _⟩
    · rw [hO]
      obtain rfl : eH = 0 := by
        rcases hE with ⟨h, h'⟩ | ⟨h, h'⟩
        · exact h'
        · rw [w1] at h; cases h
      have hk1 : (H.kind != 1) = false := by rw [w2]; rfl
      subst w3
      have hl2 : ¬ (LL.length : Int) < 2 := by omega
      clear hO hE w1 w2 w4
      rcases hix with ⟨rfl, rfl⟩ | ⟨kx, rfl, hkx, rfl⟩
      all_goals
        go_enter Tryz.func14, Tryz.ntmps14
        go_wp2_with (first
          | (go_at_call 35; (with_reducible refine (HT.out _).mono ?_); rintro e w1 ⟨rfl, hb1⟩; obtain ⟨p1, rfl⟩ := grown_of hb1; clear hb1)
          | (go_at_call 36; (with_reducible refine (HPR.out _).mono ?_); intro e w' h; obtain ⟨rfl, h2⟩ := h; subst w')
          | (go_at_call 37; (with_reducible refine (HIX.out _).mono ?_); rintro e w1 ⟨rfl, hb1⟩; obtain ⟨p1, rfl⟩ := grown_of hb1; clear hb1)
          | (go_at_call 38; (with_reducible refine (HKD.out _).mono ?_); intro e w' h; obtain ⟨rfl, h2⟩ := h; subst w')
          | (go_at_call 39; refine (HPA.out _ (by repeat (first | exact hm | apply HasMax.grown | apply HasMax.alloc | apply HasMax.drew))).mono ?_; rintro e w1 ⟨rfl, hb1⟩; obtain ⟨p1, rfl⟩ := grown_of hb1; clear hb1)
          | (go_at_call 40; refine (HLA.out _ (by repeat (first | exact hm | apply HasMax.grown | apply HasMax.alloc | apply HasMax.drew)) (by repeat (first | exact htz | apply HasTz.grown | apply HasTz.alloc | apply HasTz.drew)) (by repeat (first | exact hd | apply HasDec.grown | apply HasDec.alloc | apply HasDec.drew))).mono ?_; intro e w1 hg; obtain ⟨a1, c1, rfl, hc1, hb1, hl1⟩ := hg; obtain ⟨p1, rfl⟩ := grown_of hb1; clear hb1))
        exact ret_cell_two w.heap.size (ruleV 3 H.name) (.bool true) (.int .i64 0) rfl rfl rfl rfl agg_rule (by simp [go_sem]) (by simp [go_sem]) rfl ⟨rfl, below_setRow (by repeat (first | exact Below.refl _ _ | assumption | refine below_grown ?_ (by first | omega | (simp [go_sem]; done) | (simp [go_sem] <;> omega)) _ | refine Below.alloc ?_ (by first | omega | (simp [go_sem]; done) | (simp [go_sem] <;> omega)) _ | refine below_bytesW ?_ (by first | omega | (simp [go_sem]; done) | (simp [go_sem] <;> omega)) _ | refine Below.drew ?_ | refine below_drewN ?_ _)) (Nat.le_refl _) _⟩
    · rw [hO]
      obtain rfl : eH = 0 := by
        rcases hE with ⟨h, h'⟩ | ⟨h, h'⟩
        · exact h'
        · rw [w1] at h; cases h
      have hk1 : (H.kind != 1) = false := by rw [w2]; rfl
      have hk3 : (k == 3) = false := by rw [beq_eq_false_iff_ne]; exact w3
      clear hO hE w1 w2 w3
      rcases hix with ⟨rfl, rfl⟩ | ⟨kx, rfl, hkx, rfl⟩
      all_goals
        go_enter Tryz.func14, Tryz.ntmps14
        go_wp2_with (first
          | (go_at_call 35; (with_reducible refine (HT.out _).mono ?_); rintro e w1 ⟨rfl, hb1⟩; obtain ⟨p1, rfl⟩ := grown_of hb1; clear hb1)
          | (go_at_call 36; (with_reducible refine (HPR.out _).mono ?_); intro e w' h; obtain ⟨rfl, h2⟩ := h; subst w')
          | (go_at_call 37; (with_reducible refine (HIX.out _).mono ?_); rintro e w1 ⟨rfl, hb1⟩; obtain ⟨p1, rfl⟩ := grown_of hb1; clear hb1)
          | (go_at_call 38; (with_reducible refine (HKD.out _).mono ?_); intro e w' h; obtain ⟨rfl, h2⟩ := h; subst w')
          | (go_at_call 39; refine (HPA.out _ (by repeat (first | exact hm | apply HasMax.grown | apply HasMax.alloc | apply HasMax.drew))).mono ?_; rintro e w1 ⟨rfl, hb1⟩; obtain ⟨p1, rfl⟩ := grown_of hb1; clear hb1)
          | (go_at_call 40; refine (HLA.out _ (by repeat (first | exact hm | apply HasMax.grown | apply HasMax.alloc | apply HasMax.drew)) (by repeat (first | exact htz | apply HasTz.grown | apply HasTz.alloc | apply HasTz.drew)) (by repeat (first | exact hd | apply HasDec.grown | apply HasDec.alloc | apply HasDec.drew))).mono ?_; intro e w1 hg; obtain ⟨a1, c1, rfl, hc1, hb1, hl1⟩ := hg; obtain ⟨p1, rfl⟩ := grown_of hb1; clear hb1))
        exact ret_cell_two w.heap.size (ruleV k H.name) (.bool true) (.int .i64 0) rfl rfl rfl rfl agg_rule (by simp [go_sem]) (by simp [go_sem]) rfl ⟨rfl, below_setRow (by repeat (first | exact Below.refl _ _ | assumption | refine below_grown ?_ (by first | omega | (simp [go_sem]; done) | (simp [go_sem] <;> omega)) _ | refine Below.alloc ?_ (by first | omega | (simp [go_sem]; done) | (simp [go_sem] <;> omega)) _ | refine below_bytesW ?_ (by first | omega | (simp [go_sem]; done) | (simp [go_sem] <;> omega)) _ | refine Below.drew ?_ | refine below_drewN ?_ _)) (Nat.le_refl _) _⟩
end

section
open Go Go.RowKit
set_option maxRecDepth 20000
set_option linter.unusedSimpArgs false
set_option linter.unusedVariables false

theorem pre_take (s p : List UInt8) (h : p.length ≤ s.length) : (s.take p.length == p) = Lib.hasPrefix s p := by
  unfold Lib.hasPrefix
  rw [Bool.eq_iff_iff, beq_iff_eq, List.isPrefixOf_iff_prefix, List.prefix_iff_eq_take]
  exact ⟨fun e => e.symm, fun e => e.symm⟩
theorem pre_short (s p : List UInt8) (h : s.length < p.length) : Lib.hasPrefix s p = false := by
  unfold Lib.hasPrefix
  cases hx : p.isPrefixOf s
  · rfl
  · have := (List.isPrefixOf_iff_prefix.1 hx).length_le
    omega
theorem begins05_any (s p : List UInt8) (hs : s.length ≤ maxLen) (hp : p.length ≤ maxLen) (w : World) :
    Calls Tryz.prog 42 #[.string ⟨s.toArray⟩, .string ⟨p.toArray⟩] w fun e w' => e = .returned (.bool (Lib.hasPrefix s p)) ∧ w = w' := by
  unfold maxLen at hs hp
  by_cases h : p.length ≤ s.length
  · have hq := pre_take s p h
    generalize Lib.hasPrefix s p = b at *
    have HQ := Lib.hid hq
    clear hq
    go_enter Tryz.func42, Tryz.ntmps42
    go_wp2
    go_ret
    exact ⟨ret_bool (by rw [← HQ.out]), rfl⟩
  · rw [pre_short s p (by omega)]
    have h2 : ¬ (p.length : Int) ≤ s.length := by omega
    go_enter Tryz.func42, Tryz.ntmps42
    go_wp2
    go_ret
    exact ⟨rfl, rfl⟩
set_option maxHeartbeats 1000000 in
theorem refRuleText_any (k : Int) (n : List UInt8) (hn : n.length ≤ 4294967000) (w : World) :
    Calls Tryz.prog 17 #[.agg (ruleV k n)] w fun e w' => e = .returned (.string ⟨(ruleTextL k n).toArray⟩) ∧ Below w.heap.size w w' := by
  have n1 : ¬ 9223372036854775807 < 2 + n.length := by omega
  have n2 : ¬ 9223372036854775807 < 1 + n.length := by omega
  have n3 : ¬ 9223372036854775807 < n.length + 2 := by omega
  have n4 : ¬ 9223372036854775807 < n.length + 1 := by omega
  by_cases h2 : k = 2
  · subst h2
    go_enter Tryz.func17, Tryz.ntmps17
    go_wp2
    go_ret
    exact ⟨rfl, (by repeat (first | exact Below.refl _ _ | assumption | refine below_grown ?_ (by first | omega | (simp [go_sem]; done) | (simp [go_sem] <;> omega)) _ | refine Below.alloc ?_ (by first | omega | (simp [go_sem]; done) | (simp [go_sem] <;> omega)) _ | refine below_bytesW ?_ (by first | omega | (simp [go_sem]; done) | (simp [go_sem] <;> omega)) _ | refine Below.drew ?_ | refine below_drewN ?_ _))⟩
  · by_cases h3 : k = 3
    · subst h3
      go_enter Tryz.func17, Tryz.ntmps17
      go_wp2
      go_ret
      exact ⟨rfl, (by repeat (first | exact Below.refl _ _ | assumption | refine below_grown ?_ (by first | omega | (simp [go_sem]; done) | (simp [go_sem] <;> omega)) _ | refine Below.alloc ?_ (by first | omega | (simp [go_sem]; done) | (simp [go_sem] <;> omega)) _ | refine below_bytesW ?_ (by first | omega | (simp [go_sem]; done) | (simp [go_sem] <;> omega)) _ | refine Below.drew ?_ | refine below_drewN ?_ _))⟩
    · have e : ruleTextL k n = n := by unfold ruleTextL markL; rw [if_neg h2, if_neg h3]; rfl
      rw [e]
      have e2 : (k == 2) = false := by rw [beq_eq_false_iff_ne]; exact h2
      have e3 : (k == 3) = false := by rw [beq_eq_false_iff_ne]; exact h3
      clear e
      go_enter Tryz.func17, Tryz.ntmps17
      go_wp2
      go_ret
      exact ⟨rfl, (by repeat (first | exact Below.refl _ _ | assumption | refine below_grown ?_ (by first | omega | (simp [go_sem]; done) | (simp [go_sem] <;> omega)) _ | refine Below.alloc ?_ (by first | omega | (simp [go_sem]; done) | (simp [go_sem] <;> omega)) _ | refine below_bytesW ?_ (by first | omega | (simp [go_sem]; done) | (simp [go_sem] <;> omega)) _ | refine Below.drew ?_ | refine below_drewN ?_ _))⟩
end

section
open Go Go.RowKit
set_option maxRecDepth 20000
set_option linter.unusedSimpArgs false
set_option linter.unusedVariables false

theorem cutAny_cons' (c : UInt8) (t cs : List UInt8) : cutAny (c :: t) cs = if cs.contains c = true then 0 else cutAny t cs + 1 := by
  unfold cutAny
  rw [Lib.indexAny]
  have hge := Lib.indexAny_ge cs t
  by_cases h : cs.contains c = true
  · rw [if_pos h, if_pos h]; rfl
  · rw [if_neg h, if_neg h]
    by_cases h1 : Lib.indexAny t cs = -1
    · rw [h1]; rfl
    · have : ¬ ((Lib.indexAny t cs) == -1) = true := by rw [beq_iff_eq]; omega
      rw [if_neg this, if_pos (by omega), if_pos (by omega)]
      omega
theorem cut_stop' (cs : List UInt8) : ∀ (s : List UInt8) (k : Nat) (h : k < s.length), (s.take k).all (fun c => !cs.contains c) = true → cs.contains (s[k]'h) = true → cutAny s cs = k
  | [], k, h, _, _ => by cases h
  | c :: t, 0, h, _, hc => by rw [cutAny_cons', if_pos (by simpa using hc)]
  | c :: t, k + 1, h, ha, hc => by
    simp only [List.take_succ_cons, List.all_cons, Bool.and_eq_true] at ha
    rw [cutAny_cons', if_neg (by have := ha.1; intro e; rw [e] at this; cases this), cut_stop' cs t k (by simpa using h) ha.2 (by simpa using hc)]
theorem cut_end' (cs : List UInt8) : ∀ (s : List UInt8), s.all (fun c => !cs.contains c) = true → cutAny s cs = s.length
  | [], _ => rfl
  | c :: t, ha => by
    simp only [List.all_cons, Bool.and_eq_true] at ha
    rw [cutAny_cons', if_neg (by have := ha.1; intro e; rw [e] at this; cases this), cut_end' cs t ha.2]; rfl
def blankSp (c : UInt8) : Bool := ([32, 9] : List UInt8).contains c
theorem blank_stop (t : List UInt8) (k : Nat) (h : k < t.length) (ha : (t.take k).all (fun c => !blankSp c) = true) (hc : blankSp (t[k]'h) = true) : blankTake t = t.take k := by
  unfold blankTake
  rw [cut_stop' [32, 9] t k h ha hc]
theorem blank_end (t : List UInt8) (ha : (t.take t.length).all (fun c => !blankSp c) = true) : blankTake t = t := by
  unfold blankTake
  rw [cut_end' [32, 9] t (by rwa [List.take_length] at ha), List.take_length]
theorem all_take_blank (l : List UInt8) (k : Nat) (h : k < l.length) : (l.take (k + 1)).all (fun c => !blankSp c) = ((l.take k).all (fun c => !blankSp c) && !blankSp (l[k]'h)) := by
  rw [List.take_succ_eq_append_getElem h, List.all_append]; simp
theorem blank_cases (c : UInt8) : (((c.toNat : Int) == 32) = true ∧ blankSp c = true) ∨ (((c.toNat : Int) == 32) = false ∧ ((c.toNat : Int) == 9) = true ∧ blankSp c = true) ∨ (((c.toNat : Int) == 32) = false ∧ ((c.toNat : Int) == 9) = false ∧ blankSp c = false) := by
  have h1 := u8_lit c 32 32 rfl
  have h2 := u8_lit c 9 9 rfl
  have h3 : blankSp c = (c == 32 || c == 9) := by rw [Bool.eq_iff_iff]; simp [blankSp]
  rw [h1, h2, h3]
  cases hc : (c == 32)
  · cases hd : (c == 9)
    · exact .inr (.inr ⟨rfl, rfl, rfl⟩)
    · exact .inr (.inl ⟨rfl, rfl, rfl⟩)
  · exact .inl ⟨rfl, rfl⟩
theorem kind_ways (u : List UInt8) : (Lib.hasPrefix u [33] = true ∧ ruleKind u = (3, u.drop 1)) ∨ (Lib.hasPrefix u [33] = false ∧ Lib.hasPrefix u [42, 46] = true ∧ ruleKind u = (2, u.drop 2)) ∨ (Lib.hasPrefix u [33] = false ∧ Lib.hasPrefix u [42, 46] = false ∧ ruleKind u = (1, u)) := by
  unfold ruleKind
  cases h2 : Lib.hasPrefix u [42, 46]
  · cases h3 : Lib.hasPrefix u [33]
    · exact .inr (.inr ⟨rfl, rfl, rfl⟩)
    · exact .inl ⟨rfl, rfl⟩
  · rw [pre_two h2]
    exact .inr (.inl ⟨rfl, rfl, rfl⟩)
theorem pre_len {u p : List UInt8} (h : Lib.hasPrefix u p = true) : p.length ≤ u.length := by
  unfold Lib.hasPrefix at h
  exact (List.isPrefixOf_iff_prefix.1 h).length_le
theorem setCell_rule {w : World} {b : Nat} {k : Int} {n : List UInt8} (hv : Var w b (ruleR k n)) (q : List UInt8) : w.setCell ⟨b, 1, none⟩ (.string ⟨q.toArray⟩) = w.setRow b (ruleV k q) := by
  obtain ⟨t, hh⟩ := hv
  simp only [World.setRow, World.setCell]
  congr 1
  apply Array.ext_getElem?
  intro j
  simp only [Array.getElem?_modify]
  by_cases hj : b = j
  · subst hj
    simp [hh, ruleR, ruleV]
  · simp only [if_neg hj]
set_option maxRecDepth 100000 in
set_option maxHeartbeats 8000000 in
theorem refRuleLine_any (s : List UInt8) (hs : s.length ≤ 1000000000) (w : World) :
    Calls Tryz.prog 15 #[.string ⟨s.toArray⟩] w fun e w' => e = .returned (.tuple #[.agg (ruleV (ruleOut s).1.1 (ruleOut s).1.2), .bool (ruleOut s).2.1, .int .i64 (ruleOut s).2.2]) ∧ Below w.heap.size w w' := by
  have HT : Hid (∀ w, Calls Tryz.prog 41 #[.string ⟨s.toArray⟩] w fun e w' => e = .returned (.string ⟨(trimL s).toArray⟩) ∧ w = w') := fun w => refTrim_any s (by unfold maxLen; omega) w
  have htl : (trimL s).length ≤ s.length := trimL_length s
  rcases rule_ways s with ⟨h1, hO⟩ | ⟨h1, h2, hO⟩ | ⟨h1, h2, hW⟩
  · rw [hO]
    rw [h1] at HT
    clear hO h1
    go_enter Tryz.func15, Tryz.ntmps15
    go_wp2_with (go_at_call 41; refine (HT.out _).mono ?_; intro e w' h; obtain ⟨rfl, h2⟩ := h; subst w')
    exact ret_cell_two w.heap.size (ruleV 0 []) (.bool false) (.int .i64 0) rfl rfl rfl rfl agg_rule (by simp [go_sem]) (by simp [go_sem]) rfl ⟨rfl, (by repeat (first | exact Below.refl _ _ | assumption | refine below_grown ?_ (by first | omega | (simp [go_sem]; done) | (simp [go_sem] <;> omega)) _ | refine Below.alloc ?_ (by first | omega | (simp [go_sem]; done) | (simp [go_sem] <;> omega)) _ | refine below_bytesW ?_ (by first | omega | (simp [go_sem]; done) | (simp [go_sem] <;> omega)) _ | refine Below.drew ?_ | refine below_drewN ?_ _))⟩
  · rw [hO]
    have HPR : Hid (∀ w, Calls Tryz.prog 42 #[.string ⟨(trimL s).toArray⟩, .string ⟨[47, 47].toArray⟩] w fun e w' => e = .returned (.bool true) ∧ w = w') := fun w => by have := begins05_any (trimL s) [47, 47] (by unfold maxLen; omega) (by decide) w; rwa [h2] at this
    clear hO h2
    generalize trimL s = t at *
    have hem : t.isEmpty = false := by rw [List.isEmpty_eq_false_iff]; exact h1
    have hem2 : (t == []) = false := by rw [beq_eq_false_iff_ne]; exact h1
    clear h1
    go_enter Tryz.func15, Tryz.ntmps15
    go_wp2_with (first
      | (go_at_call 41; refine (HT.out _).mono ?_; intro e w' h; obtain ⟨rfl, h2⟩ := h; subst w')
      | (go_at_call 42; refine (HPR.out _).mono ?_; intro e w' h; obtain ⟨rfl, h2⟩ := h; subst w'))
    exact ret_cell_two w.heap.size (ruleV 0 []) (.bool false) (.int .i64 0) rfl rfl rfl rfl agg_rule (by simp [go_sem]) (by simp [go_sem]) rfl ⟨rfl, (by repeat (first | exact Below.refl _ _ | assumption | refine below_grown ?_ (by first | omega | (simp [go_sem]; done) | (simp [go_sem] <;> omega)) _ | refine Below.alloc ?_ (by first | omega | (simp [go_sem]; done) | (simp [go_sem] <;> omega)) _ | refine below_bytesW ?_ (by first | omega | (simp [go_sem]; done) | (simp [go_sem] <;> omega)) _ | refine Below.drew ?_ | refine below_drewN ?_ _))⟩
  · have HPR : Hid (∀ w, Calls Tryz.prog 42 #[.string ⟨(trimL s).toArray⟩, .string ⟨[47, 47].toArray⟩] w fun e w' => e = .returned (.bool false) ∧ w = w') := fun w => by have := begins05_any (trimL s) [47, 47] (by unfold maxLen; omega) (by decide) w; rwa [h2] at this
    have hul : (blankTake (trimL s)).length ≤ (trimL s).length := by unfold blankTake; rw [List.length_take]; omega
    have hul2 := hul
    have HP3 : Hid (∀ w, Calls Tryz.prog 42 #[.string ⟨(blankTake (trimL s)).toArray⟩, .string ⟨[33].toArray⟩] w fun e w' => e = .returned (.bool (Lib.hasPrefix (blankTake (trimL s)) [33])) ∧ w = w') := fun w => begins05_any _ [33] (by unfold maxLen; omega) (by decide) w
    have HP2 : Hid (∀ w, Calls Tryz.prog 42 #[.string ⟨(blankTake (trimL s)).toArray⟩, .string ⟨[42, 46].toArray⟩] w fun e w' => e = .returned (.bool (Lib.hasPrefix (blankTake (trimL s)) [42, 46])) ∧ w = w') := fun w => begins05_any _ [42, 46] (by unfold maxLen; omega) (by decide) w
    have HST := Lib.hid (blank_stop (trimL s))
    have HEN := Lib.hid (blank_end (trimL s))
    have hkl := ruleKind_len (blankTake (trimL s))
    have HKW := Lib.hid (kind_ways (blankTake (trimL s)))
    have HL1 : Hid (Lib.hasPrefix (blankTake (trimL s)) [33] = true → 1 ≤ (blankTake (trimL s)).length) := fun h => pre_len h
    have HL2 : Hid (Lib.hasPrefix (blankTake (trimL s)) [42, 46] = true → 2 ≤ (blankTake (trimL s)).length) := fun h => pre_len h
    clear h2
    generalize trimL s = t at *
    generalize blankTake t = u at *
    generalize Lib.hasPrefix u [33] = p3 at *
    generalize Lib.hasPrefix u [42, 46] = p2 at *
    obtain ⟨⟨k, nm⟩, hkn⟩ : ∃ r, ruleKind u = r := ⟨_, rfl⟩
    rw [hkn] at HKW hkl hW
    dsimp only at hkl hW
    clear hkn
    have HPA : Hid (∀ w, Calls Tryz.prog 28 #[.string ⟨nm.toArray⟩] w fun e w' => e = .returned (.tuple #[.agg (hostC (parseH nm)), .int .i64 (parseE nm)]) ∧ Below w.heap.size w w') := fun w => refParse_any nm (by omega) w
    have hhn : (parseH nm).name.length ≤ 253 := parseH_name nm
    have HLA : Hid (∀ w, Calls Tryz.prog 32 #[.agg (hostC (parseH nm))] w (Gives strCod (labelsL (parseH nm)) w)) := fun w => refLabels_any (parseH nm) (by omega) w
    have hE := parseE_cases' nm
    have hem : t.isEmpty = false := by rw [List.isEmpty_eq_false_iff]; exact h1
    have hem2 : (t == []) = false := by rw [beq_eq_false_iff_ne]; exact h1
    clear h1 hhn
    generalize parseH nm = H at *
    generalize parseE nm = eH at *
    generalize parseOk nm = ok at *
    generalize labelsL H = LL at *
    have HW := Lib.hid hW
    have HE := Lib.hid hE
    clear hW hE
    generalize ruleOut s = out at *
    go_enter Tryz.func15, Tryz.ntmps15
    go_wp2_with (first
      | (go_at_call 41; refine (HT.out _).mono ?_; intro e w' h; obtain ⟨rfl, h2⟩ := h; subst w')
      | (go_at_call 42; refine (HPR.out _).mono ?_; intro e w' h; obtain ⟨rfl, h2⟩ := h; subst w'))
    go_loop [0, 5] (fun s0 i => (∃ n : Nat, n ≤ t.length ∧ s0 = .string ⟨t.toArray⟩ ∧ i = .int .i64 n ∧ Hid ((t.take n).all (fun c => !blankSp c) = true)) ∨ (∃ n : Nat, u.length ≤ n ∧ n ≤ t.length ∧ s0 = .string ⟨u.toArray⟩ ∧ i = .int .i64 n)) (fun _ i => t.length + 1 - (intOf i).toNat)
    case atStart => exact .inl ⟨0, Nat.zero_le _, rfl, rfl, rfl⟩
    case round =>
      rcases hrel with ⟨n, hn, rfl, rfl, hinv⟩ | ⟨n, hun, hn, rfl, rfl⟩
      · by_cases hlt : n < t.length
        · have HS := Lib.hid (all_take_blank t n hlt)
          have HSS := Lib.hid (HST.out n hlt)
          obtain ⟨c, hcc⟩ : ∃ c, ∀ h, t[n]'h = c := ⟨t[n]'hlt, fun _ => rfl⟩
          rw [hcc] at HS HSS
          rcases blank_cases c with ⟨c1, hc⟩ | ⟨c1, c2, hc⟩ | ⟨c1, c2, hc⟩
          · have HU := Lib.hid (HSS.out hinv.out hc)
            go_wp2
            go_round
            case rel => exact .inr ⟨n + 1, by rw [HU.out, List.length_take]; omega, by omega, by rw [HU.out], by go_num⟩
            case measure => simp [intOf]; omega
          · have HU := Lib.hid (HSS.out hinv.out hc)
            go_wp2
            go_round
            case rel => exact .inr ⟨n + 1, by rw [HU.out, List.length_take]; omega, by omega, by rw [HU.out], by go_num⟩
            case measure => simp [intOf]; omega
          · go_wp2
            go_round
            case rel => exact .inl ⟨n + 1, by omega, rfl, by go_num, show _ = true by rw [HS.out, hinv.out, hc]; rfl⟩
            case measure => simp [intOf]; omega
        · obtain rfl : n = t.length := by omega
          obtain rfl := HEN.out hinv.out
          clear HEN HST hinv
          go_upto_if 39 with (go_at_call 42; (with_reducible refine (HP3.out _).mono ?_); intro e w' h; obtain ⟨rfl, h2⟩ := h; subst w')
          go_cut [0] (fun s0 wx => s0 = .string ⟨nm.toArray⟩ ∧ Below w.heap.size w wx ∧ hasVar wx w.heap.size 2 = true ∧ Var wx (w.heap.size + 1) (ruleR k []))
          case first =>
            rcases HKW.out with ⟨rfl, hk⟩ | ⟨rfl, rfl, hk⟩ | ⟨rfl, rfl, hk⟩
            · have hl1 := HL1.out rfl
              obtain ⟨rfl, rfl⟩ := Prod.mk.inj hk
              clear hk
              go_wp2
              go_meet
              exact ⟨by simp, (by repeat (first | exact Below.refl _ _ | assumption | refine below_grown ?_ (by first | omega | (simp [go_sem]; done) | (simp [go_sem] <;> omega)) _ | refine Below.alloc ?_ (by first | omega | (simp [go_sem]; done) | (simp [go_sem] <;> omega)) _ | refine below_bytesW ?_ (by first | omega | (simp [go_sem]; done) | (simp [go_sem] <;> omega)) _ | refine Below.drew ?_ | refine below_drewN ?_ _)), by simp [go_sem], Var.new _ _ _ (by simp [ruleV, ruleR]) (by simp)⟩
            · have hl1 := HL2.out rfl
              obtain ⟨rfl, rfl⟩ := Prod.mk.inj hk
              clear hk
              go_wp2_with (go_at_call 42; (with_reducible refine (HP2.out _).mono ?_); intro e w' h; obtain ⟨rfl, h2⟩ := h; subst w')
              go_meet
              exact ⟨by simp, (by repeat (first | exact Below.refl _ _ | assumption | refine below_grown ?_ (by first | omega | (simp [go_sem]; done) | (simp [go_sem] <;> omega)) _ | refine Below.alloc ?_ (by first | omega | (simp [go_sem]; done) | (simp [go_sem] <;> omega)) _ | refine below_bytesW ?_ (by first | omega | (simp [go_sem]; done) | (simp [go_sem] <;> omega)) _ | refine Below.drew ?_ | refine below_drewN ?_ _)), by simp [go_sem], Var.new _ _ _ (by simp [ruleV, ruleR]) (by simp)⟩
            · obtain ⟨rfl, rfl⟩ := Prod.mk.inj hk
              clear hk
              go_wp2_with (go_at_call 42; (with_reducible refine (HP2.out _).mono ?_); intro e w' h; obtain ⟨rfl, h2⟩ := h; subst w')
              go_meet
              exact ⟨rfl, (by repeat (first | exact Below.refl _ _ | assumption | refine below_grown ?_ (by first | omega | (simp [go_sem]; done) | (simp [go_sem] <;> omega)) _ | refine Below.alloc ?_ (by first | omega | (simp [go_sem]; done) | (simp [go_sem] <;> omega)) _ | refine below_bytesW ?_ (by first | omega | (simp [go_sem]; done) | (simp [go_sem] <;> omega)) _ | refine Below.drew ?_ | refine below_drewN ?_ _)), by simp [go_sem], Var.new _ _ _ (by simp [ruleV, ruleR]) (by simp)⟩
          case rest =>
            obtain ⟨rfl, hbw, hv2, hv4⟩ := hcut
            have hbsz := hbw.size
            have hi4 : isOld (w.heap.size + 1) wc = true := isOld_iff.2 hv4.lt
            have hi2 : isOld w.heap.size wc = true := isOld_iff.2 (by have := hv4.lt; omega)
            have hv4' : hasVar wc (w.heap.size + 1) 2 = true := hv4.has rfl
            have hfz : ∀ (i : Nat), wc.frozen? ⟨w.heap.size + 1, i, none⟩ = false := fun i => hv4.free i
            have hc0 : wc.cell? ⟨w.heap.size + 1, 0, none⟩ = some (.int .i64 k) := hv4.cell 0 (by simp [ruleR])
            have hc1 : wc.cell? ⟨w.heap.size + 1, 1, none⟩ = some (.string ⟨([] : List UInt8).toArray⟩) := hv4.cell 1 (by simp [ruleR])
            have hst1 : ∀ (pp : Regrown) (O : Obj) (v : List UInt8), ((grown wc pp).alloc O).setCell ⟨w.heap.size + 1, 1, none⟩ (.string ⟨v.toArray⟩) = ((grown wc pp).alloc O).setRow (w.heap.size + 1) (ruleV k v) := fun pp O v => setCell_rule ((hv4.grown pp).alloc O) v
            have hst2 : ∀ (pp : Regrown) (O : Obj) (pp2 : Regrown) (v : List UInt8), (grown ((grown wc pp).alloc O) pp2).setCell ⟨w.heap.size + 1, 1, none⟩ (.string ⟨v.toArray⟩) = (grown ((grown wc pp).alloc O) pp2).setRow (w.heap.size + 1) (ruleV k v) := fun pp O pp2 v => setCell_rule (((hv4.grown pp).alloc O).grown pp2) v
            clear hv4 HKW HL1 HL2 HP2 HP3 HPR HT
            rcases HW.out with ⟨w1, hO⟩ | ⟨w1, w2, hO⟩ | ⟨w1, w2, w3, w4, hO⟩ | ⟨w1, w2, w3, w4, hO⟩ | ⟨w1, w2, w3, hO⟩
            · obtain rfl : eH = 31 := by
                rcases HE.out with ⟨h, h'⟩ | ⟨h, h'⟩
                · rw [w1] at h; cases h
                · exact h'
              have HO := Lib.hid hO
              clear hO HE w1 HW
              go_wp2_with (first | (go_at_call 28; (with_reducible refine (HPA.out _).mono ?_); rintro e w1 ⟨rfl, hb1⟩; obtain ⟨p1, rfl⟩ := grown_of hb1; clear hb1) | (go_at_call 32; (with_reducible refine (HLA.out _).mono ?_); intro e w1 hg; obtain ⟨a1, c1, rfl, hc1, hb1, hl1⟩ := hg; obtain ⟨p1, rfl⟩ := grown_of hb1; clear hb1))
              exact ret_cell_two w.heap.size (ruleV 0 []) (.bool false) (.int .i64 51) rfl rfl rfl rfl agg_rule (by simp [go_sem, hv2, hi2, hi4, hv4']) (by simp [go_sem, hv2, hi2, hi4, hv4']) rfl ⟨by rw [HO.out], below_setRow (by repeat (first | exact Below.refl _ _ | assumption | refine below_grown ?_ (by first | omega | (simp [go_sem]; done) | (simp [go_sem] <;> omega)) _ | refine Below.alloc ?_ (by first | omega | (simp [go_sem]; done) | (simp [go_sem] <;> omega)) _ | refine below_bytesW ?_ (by first | omega | (simp [go_sem]; done) | (simp [go_sem] <;> omega)) _ | refine Below.drew ?_ | refine below_drewN ?_ _)) (Nat.le_refl _) _⟩
            · obtain rfl : eH = 0 := by
                rcases HE.out with ⟨h, h'⟩ | ⟨h, h'⟩
                · exact h'
                · rw [w1] at h; cases h
              have HO := Lib.hid hO
              have hk1 : (H.kind != 1) = true := by rw [bne_iff_ne]; exact w2
              clear hO HE w1 w2 HW
              go_wp2_with (first | (go_at_call 28; (with_reducible refine (HPA.out _).mono ?_); rintro e w1 ⟨rfl, hb1⟩; obtain ⟨p1, rfl⟩ := grown_of hb1; clear hb1) | (go_at_call 32; (with_reducible refine (HLA.out _).mono ?_); intro e w1 hg; obtain ⟨a1, c1, rfl, hc1, hb1, hl1⟩ := hg; obtain ⟨p1, rfl⟩ := grown_of hb1; clear hb1))
              exact ret_cell_two w.heap.size (ruleV 0 []) (.bool false) (.int .i64 51) rfl rfl rfl rfl agg_rule (by simp [go_sem, hv2, hi2, hi4, hv4']) (by simp [go_sem, hv2, hi2, hi4, hv4']) rfl ⟨by rw [HO.out], below_setRow (by repeat (first | exact Below.refl _ _ | assumption | refine below_grown ?_ (by first | omega | (simp [go_sem]; done) | (simp [go_sem] <;> omega)) _ | refine Below.alloc ?_ (by first | omega | (simp [go_sem]; done) | (simp [go_sem] <;> omega)) _ | refine below_bytesW ?_ (by first | omega | (simp [go_sem]; done) | (simp [go_sem] <;> omega)) _ | refine Below.drew ?_ | refine below_drewN ?_ _)) (Nat.le_refl _) _⟩
            · obtain rfl : eH = 0 := by
                rcases HE.out with ⟨h, h'⟩ | ⟨h, h'⟩
                · exact h'
                · rw [w1] at h; cases h
              have HO := Lib.hid hO
              have hk1 : (H.kind != 1) = false := by rw [w2]; rfl
              subst w3
              have hl2 : (LL.length : Int) < 2 := by omega
              clear hO HE w1 w2 w4 HW
              go_wp2_with (first | (go_at_call 28; (with_reducible refine (HPA.out _).mono ?_); rintro e w1 ⟨rfl, hb1⟩; obtain ⟨p1, rfl⟩ := grown_of hb1; clear hb1) | (go_at_call 32; (with_reducible refine (HLA.out _).mono ?_); intro e w1 hg; obtain ⟨a1, c1, rfl, hc1, hb1, hl1⟩ := hg; obtain ⟨p1, rfl⟩ := grown_of hb1; clear hb1))
              exact ret_cell_two w.heap.size (ruleV 0 []) (.bool false) (.int .i64 51) rfl rfl rfl rfl agg_rule (by simp [go_sem, hv2, hi2, hi4, hv4']) (by simp [go_sem, hv2, hi2, hi4, hv4']) rfl ⟨by rw [HO.out], below_setRow (by repeat (first | exact Below.refl _ _ | assumption | refine below_grown ?_ (by first | omega | (simp [go_sem]; done) | (simp [go_sem] <;> omega)) _ | refine Below.alloc ?_ (by first | omega | (simp [go_sem]; done) | (simp [go_sem] <;> omega)) _ | refine below_bytesW ?_ (by first | omega | (simp [go_sem]; done) | (simp [go_sem] <;> omega)) _ | refine Below.drew ?_ | refine below_drewN ?_ _)) (Nat.le_refl _) _⟩
            · obtain rfl : eH = 0 := by
                rcases HE.out with ⟨h, h'⟩ | ⟨h, h'⟩
                · exact h'
                · rw [w1] at h; cases h
              have HO := Lib.hid hO
              have hk1 : (H.kind != 1) = false := by rw [w2]; rfl
              subst w3
              have hl2 : ¬ (LL.length : Int) < 2 := by omega
              clear hO HE w1 w2 w4 HW
              go_wp2_with (first | (go_at_call 28; (with_reducible refine (HPA.out _).mono ?_); rintro e w1 ⟨rfl, hb1⟩; obtain ⟨p1, rfl⟩ := grown_of hb1; clear hb1) | (go_at_call 32; (with_reducible refine (HLA.out _).mono ?_); intro e w1 hg; obtain ⟨a1, c1, rfl, hc1, hb1, hl1⟩ := hg; obtain ⟨p1, rfl⟩ := grown_of hb1; clear hb1))
              exact ret_cell_two w.heap.size (ruleV 3 H.name) (.bool true) (.int .i64 0) rfl rfl rfl rfl agg_rule (by simp [go_sem, hv2, hi2, hi4, hv4']) (by simp [go_sem, hv2, hi2, hi4, hv4']) rfl ⟨by rw [HO.out], below_setRow (below_setRow (by repeat (first | exact Below.refl _ _ | assumption | refine below_grown ?_ (by first | omega | (simp [go_sem]; done) | (simp [go_sem] <;> omega)) _ | refine Below.alloc ?_ (by first | omega | (simp [go_sem]; done) | (simp [go_sem] <;> omega)) _ | refine below_bytesW ?_ (by first | omega | (simp [go_sem]; done) | (simp [go_sem] <;> omega)) _ | refine Below.drew ?_ | refine below_drewN ?_ _)) (Nat.le_succ _) _) (Nat.le_refl _) _⟩
            · obtain rfl : eH = 0 := by
                rcases HE.out with ⟨h, h'⟩ | ⟨h, h'⟩
                · exact h'
                · rw [w1] at h; cases h
              have HO := Lib.hid hO
              have hk1 : (H.kind != 1) = false := by rw [w2]; rfl
              have hk3 : (k == 3) = false := by rw [beq_eq_false_iff_ne]; exact w3
              clear hO HE w1 w2 w3 HW
              go_wp2_with (first | (go_at_call 28; (with_reducible refine (HPA.out _).mono ?_); rintro e w1 ⟨rfl, hb1⟩; obtain ⟨p1, rfl⟩ := grown_of hb1; clear hb1) | (go_at_call 32; (with_reducible refine (HLA.out _).mono ?_); intro e w1 hg; obtain ⟨a1, c1, rfl, hc1, hb1, hl1⟩ := hg; obtain ⟨p1, rfl⟩ := grown_of hb1; clear hb1))
              exact ret_cell_two w.heap.size (ruleV k H.name) (.bool true) (.int .i64 0) rfl rfl rfl rfl agg_rule (by simp [go_sem, hv2, hi2, hi4, hv4']) (by simp [go_sem, hv2, hi2, hi4, hv4']) rfl ⟨by rw [HO.out], below_setRow (below_setRow (by repeat (first | exact Below.refl _ _ | assumption | refine below_grown ?_ (by first | omega | (simp [go_sem]; done) | (simp [go_sem] <;> omega)) _ | refine Below.alloc ?_ (by first | omega | (simp [go_sem]; done) | (simp [go_sem] <;> omega)) _ | refine below_bytesW ?_ (by first | omega | (simp [go_sem]; done) | (simp [go_sem] <;> omega)) _ | refine Below.drew ?_ | refine below_drewN ?_ _)) (Nat.le_succ _) _) (Nat.le_refl _) _⟩
      · have hno : ¬ (n : Int) < u.length := by omega
        clear HEN HST
        go_upto_if 39 with (go_at_call 42; (with_reducible refine (HP3.out _).mono ?_); intro e w' h; obtain ⟨rfl, h2⟩ := h; subst w')
        go_cut [0] (fun s0 wx => s0 = .string ⟨nm.toArray⟩ ∧ Below w.heap.size w wx ∧ hasVar wx w.heap.size 2 = true ∧ Var wx (w.heap.size + 1) (ruleR k []))
        case first =>
          rcases HKW.out with ⟨rfl, hk⟩ | ⟨rfl, rfl, hk⟩ | ⟨rfl, rfl, hk⟩
          · have hl1 := HL1.out rfl
            obtain ⟨rfl, rfl⟩ := Prod.mk.inj hk
            clear hk
            go_wp2
            go_meet
            exact ⟨by simp, (by repeat (first | exact Below.refl _ _ | assumption | refine below_grown ?_ (by first | omega | (simp [go_sem]; done) | (simp [go_sem] <;> omega)) _ | refine Below.alloc ?_ (by first | omega | (simp [go_sem]; done) | (simp [go_sem] <;> omega)) _ | refine below_bytesW ?_ (by first | omega | (simp [go_sem]; done) | (simp [go_sem] <;> omega)) _ | refine Below.drew ?_ | refine below_drewN ?_ _)), by simp [go_sem], Var.new _ _ _ (by simp [ruleV, ruleR]) (by simp)⟩
          · have hl1 := HL2.out rfl
            obtain ⟨rfl, rfl⟩ := Prod.mk.inj hk
            clear hk
            go_wp2_with (go_at_call 42; (with_reducible refine (HP2.out _).mono ?_); intro e w' h; obtain ⟨rfl, h2⟩ := h; subst w')
            go_meet
            exact ⟨by simp, (by repeat (first | exact Below.refl _ _ | assumption | refine below_grown ?_ (by first | omega | (simp [go_sem]; done) | (simp [go_sem] <;> omega)) _ | refine Below.alloc ?_ (by first | omega | (simp [go_sem]; done) | (simp [go_sem] <;> omega)) _ | refine below_bytesW ?_ (by first | omega | (simp [go_sem]; done) | (simp [go_sem] <;> omega)) _ | refine Below.drew ?_ | refine below_drewN ?_ _)), by simp [go_sem], Var.new _ _ _ (by simp [ruleV, ruleR]) (by simp)⟩
          · obtain ⟨rfl, rfl⟩ := Prod.mk.inj hk
            clear hk
            go_wp2_with (go_at_call 42; (with_reducible refine (HP2.out _).mono ?_); intro e w' h; obtain ⟨rfl, h2⟩ := h; subst w')
            go_meet
            exact ⟨rfl, (by repeat (first | exact Below.refl _ _ | assumption | refine below_grown ?_ (by first | omega | (simp [go_sem]; done) | (simp [go_sem] <;> omega)) _ | refine Below.alloc ?_ (by first | omega | (simp [go_sem]; done) | (simp [go_sem] <;> omega)) _ | refine below_bytesW ?_ (by first | omega | (simp [go_sem]; done) | (simp [go_sem] <;> omega)) _ | refine Below.drew ?_ | refine below_drewN ?_ _)), by simp [go_sem], Var.new _ _ _ (by simp [ruleV, ruleR]) (by simp)⟩
        case rest =>
          obtain ⟨rfl, hbw, hv2, hv4⟩ := hcut
          have hbsz := hbw.size
          have hi4 : isOld (w.heap.size + 1) wc = true := isOld_iff.2 hv4.lt
          have hi2 : isOld w.heap.size wc = true := isOld_iff.2 (by have := hv4.lt; omega)
          have hv4' : hasVar wc (w.heap.size + 1) 2 = true := hv4.has rfl
          have hfz : ∀ (i : Nat), wc.frozen? ⟨w.heap.size + 1, i, none⟩ = false := fun i => hv4.free i
          have hc0 : wc.cell? ⟨w.heap.size + 1, 0, none⟩ = some (.int .i64 k) := hv4.cell 0 (by simp [ruleR])
          have hc1 : wc.cell? ⟨w.heap.size + 1, 1, none⟩ = some (.string ⟨([] : List UInt8).toArray⟩) := hv4.cell 1 (by simp [ruleR])
          have hst1 : ∀ (pp : Regrown) (O : Obj) (v : List UInt8), ((grown wc pp).alloc O).setCell ⟨w.heap.size + 1, 1, none⟩ (.string ⟨v.toArray⟩) = ((grown wc pp).alloc O).setRow (w.heap.size + 1) (ruleV k v) := fun pp O v => setCell_rule ((hv4.grown pp).alloc O) v
          have hst2 : ∀ (pp : Regrown) (O : Obj) (pp2 : Regrown) (v : List UInt8), (grown ((grown wc pp).alloc O) pp2).setCell ⟨w.heap.size + 1, 1, none⟩ (.string ⟨v.toArray⟩) = (grown ((grown wc pp).alloc O) pp2).setRow (w.heap.size + 1) (ruleV k v) := fun pp O pp2 v => setCell_rule (((hv4.grown pp).alloc O).grown pp2) v
          clear hv4 HKW HL1 HL2 HP2 HP3 HPR HT
          rcases HW.out with ⟨w1, hO⟩ | ⟨w1, w2, hO⟩ | ⟨w1, w2, w3, w4, hO⟩ | ⟨w1, w2, w3, w4, hO⟩ | ⟨w1, w2, w3, hO⟩
          · obtain rfl : eH = 31 := by
              rcases HE.out with ⟨h, h'⟩ | ⟨h, h'⟩
              · rw [w1] at h; cases h
              · exact h'
            have HO := Lib.hid hO
            clear hO HE w1 HW
            go_wp2_with (first | (go_at_call 28; (with_reducible refine (HPA.out _).mono ?_); rintro e w1 ⟨rfl, hb1⟩; obtain ⟨p1, rfl⟩ := grown_of hb1; clear hb1) | (go_at_call 32; (with_reducible refine (HLA.out _).mono ?_); intro e w1 hg; obtain ⟨a1, c1, rfl, hc1, hb1, hl1⟩ := hg; obtain ⟨p1, rfl⟩ := grown_of hb1; clear hb1))
            exact ret_cell_two w.heap.size (ruleV 0 []) (.bool false) (.int .i64 51) rfl rfl rfl rfl agg_rule (by simp [go_sem, hv2, hi2, hi4, hv4']) (by simp [go_sem, hv2, hi2, hi4, hv4']) rfl ⟨by rw [HO.out], below_setRow (by repeat (first | exact Below.refl _ _ | assumption | refine below_grown ?_ (by first | omega | (simp [go_sem]; done) | (simp [go_sem] <;> omega)) _ | refine Below.alloc ?_ (by first | omega | (simp [go_sem]; done) | (simp [go_sem] <;> omega)) _ | refine below_bytesW ?_ (by first | omega | (simp [go_sem]; done) | (simp [go_sem] <;> omega)) _ | refine Below.drew ?_ | refine below_drewN ?_ _)) (Nat.le_refl _) _⟩
          · obtain rfl : eH = 0 := by
              rcases HE.out with ⟨h, h'⟩ | ⟨h, h'⟩
              · exact h'
              · rw [w1] at h; cases h
            have HO := Lib.hid hO
            have hk1 : (H.kind != 1) = true := by rw [bne_iff_ne]; exact w2
            clear hO HE w1 w2 HW
            go_wp2_with (first | (go_at_call 28; (with_reducible refine (HPA.out _).mono ?_); rintro e w1 ⟨rfl, hb1⟩; obtain ⟨p1, rfl⟩ := grown_of hb1; clear hb1) | (go_at_call 32; (with_reducible refine (HLA.out _).mono ?_); intro e w1 hg; obtain ⟨a1, c1, rfl, hc1, hb1, hl1⟩ := hg; obtain ⟨p1, rfl⟩ := grown_of hb1; clear hb1))
            exact ret_cell_two w.heap.size (ruleV 0 []) (.bool false) (.int .i64 51) rfl rfl rfl rfl agg_rule (by simp [go_sem, hv2, hi2, hi4, hv4']) (by simp [go_sem, hv2, hi2, hi4, hv4']) rfl ⟨by rw [HO.out], below_setRow (by repeat (first | exact Below.refl _ _ | assumption | refine below_grown ?_ (by first | omega | (simp [go_sem]; done) | (simp [go_sem] <;> omega)) _ | refine Below.alloc ?_ (by first | omega | (simp [go_sem]; done) | (simp [go_sem] <;> omega)) _ | refine below_bytesW ?_ (by first | omega | (simp [go_sem]; done) | (simp [go_sem] <;> omega)) _ | refine Below.drew ?_ | refine below_drewN ?_ _)) (Nat.le_refl _) _⟩
          · obtain rfl : eH = 0 := by
              rcases HE.out with ⟨h, h'⟩ | ⟨h, h'⟩
              · exact h'
              · rw [w1] at h; cases h
            have HO := Lib.hid hO
            have hk1 : (H.kind != 1) = false := by rw [w2]; rfl
            subst w3
            have hl2 : (LL.length : Int) < 2 := by omega
            clear hO HE w1 w2 w4 HW
            go_wp2_with (first | (go_at_call 28; (with_reducible refine (HPA.out _).mono ?_); rintro e w1 ⟨rfl, hb1⟩; obtain ⟨p1, rfl⟩ := grown_of hb1; clear hb1) | (go_at_call 32; (with_reducible refine (HLA.out _).mono ?_); intro e w1 hg; obtain ⟨a1, c1, rfl, hc1, hb1, hl1⟩ := hg; obtain ⟨p1, rfl⟩ := grown_of hb1; clear hb1))
            exact ret_cell_two w.heap.size (ruleV 0 []) (.bool false) (.int .i64 51) rfl rfl rfl rfl agg_rule (by simp [go_sem, hv2, hi2, hi4, hv4']) (by simp [go_sem, hv2, hi2, hi4, hv4']) rfl ⟨by rw [HO.out], below_setRow (by repeat (first | exact Below.refl _ _ | assumption | refine below_grown ?_ (by first | omega | (simp [go_sem]; done) | (simp [go_sem] <;> omega)) _ | refine Below.alloc ?_ (by first | omega | (simp [go_sem]; done) | (simp [go_sem] <;> omega)) _ | refine below_bytesW ?_ (by first | omega | (simp [go_sem]; done) | (simp [go_sem] <;> omega)) _ | refine Below.drew ?_ | refine below_drewN ?_ _)) (Nat.le_refl _) _⟩
          · obtain rfl : eH = 0 := by
              rcases HE.out with ⟨h, h'⟩ | ⟨h, h'⟩
              · exact h'
              · rw [w1] at h; cases h
            have HO := Lib.hid hO
            have hk1 : (H.kind != 1) = false := by rw [w2]; rfl
            subst w3
            have hl2 : ¬ (LL.length : Int) < 2 := by omega
            clear hO HE w1 w2 w4 HW
            go_wp2_with (first | (go_at_call 28; (with_reducible refine (HPA.out _).mono ?_); rintro e w1 ⟨rfl, hb1⟩; obtain ⟨p1, rfl⟩ := grown_of hb1; clear hb1) | (go_at_call 32; (with_reducible refine (HLA.out _).mono ?_); intro e w1 hg; obtain ⟨a1, c1, rfl, hc1, hb1, hl1⟩ := hg; obtain ⟨p1, rfl⟩ := grown_of hb1; clear hb1))
            exact ret_cell_two w.heap.size (ruleV 3 H.name) (.bool true) (.int .i64 0) rfl rfl rfl rfl agg_rule (by simp [go_sem, hv2, hi2, hi4, hv4']) (by simp [go_sem, hv2, hi2, hi4, hv4']) rfl ⟨by rw [HO.out], below_setRow (below_setRow (by repeat (first | exact Below.refl _ _ | assumption | refine below_grown ?_ (by first | omega | (simp [go_sem]; done) | (simp [go_sem] <;> omega)) _ | refine Below.alloc ?_ (by first | omega | (simp [go_sem]; done) | (simp [go_sem] <;> omega)) _ | refine below_bytesW ?_ (by first | omega | (simp [go_sem]; done) | (simp [go_sem] <;> omega)) _ | refine Below.drew ?_ | refine below_drewN ?_ _)) (Nat.le_succ _) _) (Nat.le_refl _) _⟩
          · obtain rfl : eH = 0 := by
              rcases HE.out with ⟨h, h'⟩ | ⟨h, h'⟩
              · exact h'
              · rw [w1] at h; cases h
            have HO := Lib.hid hO
            have hk1 : (H.kind != 1) = false := by rw [w2]; rfl
            have hk3 : (k == 3) = false := by rw [beq_eq_false_iff_ne]; exact w3
            clear hO HE w1 w2 w3 HW
            go_wp2_with (first | (go_at_call 28; (with_reducible refine (HPA.out _).mono ?_); rintro e w1 ⟨rfl, hb1⟩; obtain ⟨p1, rfl⟩ := grown_of hb1; clear hb1) | (go_at_call 32; (with_reducible refine (HLA.out _).mono ?_); intro e w1 hg; obtain ⟨a1, c1, rfl, hc1, hb1, hl1⟩ := hg; obtain ⟨p1, rfl⟩ := grown_of hb1; clear hb1))
            exact ret_cell_two w.heap.size (ruleV k H.name) (.bool true) (.int .i64 0) rfl rfl rfl rfl agg_rule (by simp [go_sem, hv2, hi2, hi4, hv4']) (by simp [go_sem, hv2, hi2, hi4, hv4']) rfl ⟨by rw [HO.out], below_setRow (below_setRow (by repeat (first | exact Below.refl _ _ | assumption | refine below_grown ?_ (by first | omega | (simp [go_sem]; done) | (simp [go_sem] <;> omega)) _ | refine Below.alloc ?_ (by first | omega | (simp [go_sem]; done) | (simp [go_sem] <;> omega)) _ | refine below_bytesW ?_ (by first | omega | (simp [go_sem]; done) | (simp [go_sem] <;> omega)) _ | refine Below.drew ?_ | refine below_drewN ?_ _)) (Nat.le_succ _) _) (Nat.le_refl _) _⟩
end
end Go.Proofs.YtlegjkjicdpeeaaGreatDoor
