/- Merged: LawRuleLines, LawRuleBack. -/
import Derived.Test.YtlegjkjicdpeeaaGreatDoorRuleAll
namespace Go.Proofs.YtlegjkjicdpeeaaGreatDoor
section
open Go Go.RowKit
set_option maxRecDepth 20000
set_option linter.unusedSimpArgs false
set_option linter.unusedVariables false

def exR1 : List UInt8 := [42, 46, 99, 107]
def exR2 : List UInt8 := [33, 119, 119, 119, 46, 99, 107, 32, 32, 47, 47, 32, 116, 104, 105, 115, 32, 111, 110, 101, 32, 110, 111, 116]
theorem exR_out : ruleOut exR1 = ((2, [99, 107]), true, 0) ∧ ruleOut exR2 = ((3, [119, 119, 119, 46, 99, 107]), true, 0) := by decide +kernel
set_option maxHeartbeats 1000000 in
theorem ruleAlive_any (m : Int) (w : World) (hm : HasMax m w) (htz : HasTz w) (hd : HasDec w) :
    Calls Tryz.prog 13 #[] w fun e w' => e = .returned (.bool true) ∧ Below w.heap.size w w' := by
  have HR1 : Hid (∀ w, HasMax m w → HasTz w → HasDec w → Calls Tryz.prog 14 #[.string ⟨[42, 46, 99, 107].toArray⟩] w fun e w' => e = .returned (.tuple #[.agg (ruleV 2 [99, 107]), .bool true, .int .i64 0]) ∧ Below w.heap.size w w') := fun w a b c => by
    have := ruleLine_any exR1 (by decide) m w a b c
    rw [exR_out.1] at this
    exact this
  have HR2 : Hid (∀ w, HasMax m w → HasTz w → HasDec w → Calls Tryz.prog 14 #[.string ⟨[33, 119, 119, 119, 46, 99, 107, 32, 32, 47, 47, 32, 116, 104, 105, 115, 32, 111, 110, 101, 32, 110, 111, 116].toArray⟩] w fun e w' => e = .returned (.tuple #[.agg (ruleV 3 [119, 119, 119, 46, 99, 107]), .bool true, .int .i64 0]) ∧ Below w.heap.size w w') := fun w a b c => by
    have := ruleLine_any exR2 (by decide) m w a b c
    rw [exR_out.2] at this
    exact this
  have k2 : (Lit.int .i64 2).wf = true := rfl
  have k3 : (Lit.int .i64 3).wf = true := rfl
  have l1 : ([99, 107] : List UInt8).length ≤ maxLen := by decide
  have l2 : ([119, 119, 119, 46, 99, 107] : List UInt8).length ≤ maxLen := by decide
  have l1' : 2 ≤ maxLen := by decide
  have l2' : 6 ≤ maxLen := by decide
  go_enter Tryz.func13, Tryz.ntmps13
  go_wp2_with (first
    | (go_at_call 14; (with_reducible refine (HR1.out _ ?_ ?_ ?_).mono ?_); (exact (by repeat (first | exact hm | apply HasMax.grown | apply HasMax.alloc | apply HasMax.drew))); (exact (by repeat (first | exact htz | apply HasTz.grown | apply HasTz.alloc | apply HasTz.drew))); (exact (by repeat (first | exact hd | apply HasDec.grown | apply HasDec.alloc | apply HasDec.drew))); rintro e w1 ⟨rfl, hb1⟩; obtain ⟨p1, rfl⟩ := grown_of hb1; clear hb1)
    | (go_at_call 14; (with_reducible refine (HR2.out _ ?_ ?_ ?_).mono ?_); (exact (by repeat (first | exact hm | apply HasMax.grown | apply HasMax.alloc | apply HasMax.drew))); (exact (by repeat (first | exact htz | apply HasTz.grown | apply HasTz.alloc | apply HasTz.drew))); (exact (by repeat (first | exact hd | apply HasDec.grown | apply HasDec.alloc | apply HasDec.drew))); rintro e w1 ⟨rfl, hb1⟩; obtain ⟨p1, rfl⟩ := grown_of hb1; clear hb1))
  go_ret
  exact ⟨by first | rfl | exact ret_bool (by simp [ruleEq]), (by repeat (first | exact Below.refl _ _ | assumption | refine below_grown ?_ (by first | omega | (simp [go_sem]; done) | (simp [go_sem] <;> omega)) _ | refine Below.alloc ?_ (by first | omega | (simp [go_sem]; done) | (simp [go_sem] <;> omega)) _ | refine below_bytesW ?_ (by first | omega | (simp [go_sem]; done) | (simp [go_sem] <;> omega)) _ | refine Below.drew ?_ | refine below_drewN ?_ _))⟩
theorem ruleOut_bd (s : List UInt8) : ((ruleOut s).1.1 = 0 ∨ (ruleOut s).1.1 = 1 ∨ (ruleOut s).1.1 = 2 ∨ (ruleOut s).1.1 = 3) ∧ (ruleOut s).1.2.length ≤ 253 := by
  rcases rule_ways s with ⟨_, h⟩ | ⟨_, _, h⟩ | ⟨_, _, h⟩
  · rw [h]; exact ⟨.inl rfl, Nat.zero_le _⟩
  · rw [h]; exact ⟨.inl rfl, Nat.zero_le _⟩
  · rcases h with ⟨_, h⟩ | ⟨_, _, h⟩ | ⟨_, _, _, _, h⟩ | ⟨_, _, _, _, h⟩ | ⟨_, _, _, h⟩
    · rw [h]; exact ⟨.inl rfl, Nat.zero_le _⟩
    · rw [h]; exact ⟨.inl rfl, Nat.zero_le _⟩
    · rw [h]; exact ⟨.inl rfl, Nat.zero_le _⟩
    · rw [h]; exact ⟨.inr (.inr (.inr rfl)), parseH_name _⟩
    · rw [h]; exact ⟨.inr (ruleKind_1 _), parseH_name _⟩
theorem wf_kind {k : Int} (h : k = 0 ∨ k = 1 ∨ k = 2 ∨ k = 3) : (Lit.int .i64 k).wf = true := by
  rcases h with rfl | rfl | rfl | rfl <;> rfl
set_option maxHeartbeats 4000000 in
theorem ruleLines_law (s : List UInt8) (hs : s.length ≤ maxLen) (m : Int) (w : World) (hm : HasMax m w) (htz : HasTz w) (hd : HasDec w) :
    Calls Tryz.prog 3 #[.string ⟨s.toArray⟩] w fun e w' => e = .returned (.bool true) ∧ Below w.heap.size w w' := by
  unfold maxLen at hs
  by_cases h1 : (1000 : Int) < s.length
  · go_enter Tryz.func3, Tryz.ntmps3
    go_wp2_with (go_at_call 13; refine (ruleAlive_any m _ (by repeat (first | exact hm | apply HasMax.grown | apply HasMax.alloc | apply HasMax.drew)) (by repeat (first | exact htz | apply HasTz.grown | apply HasTz.alloc | apply HasTz.drew)) (by repeat (first | exact hd | apply HasDec.grown | apply HasDec.alloc | apply HasDec.drew))).mono ?_; rintro e w1 ⟨rfl, hb1⟩; obtain ⟨p1, rfl⟩ := grown_of hb1; clear hb1)
    go_ret
    exact ⟨rfl, (by repeat (first | exact Below.refl _ _ | assumption | refine below_grown ?_ (by first | omega | (simp [go_sem]; done) | (simp [go_sem] <;> omega)) _ | refine Below.alloc ?_ (by first | omega | (simp [go_sem]; done) | (simp [go_sem] <;> omega)) _ | refine below_bytesW ?_ (by first | omega | (simp [go_sem]; done) | (simp [go_sem] <;> omega)) _ | refine Below.drew ?_ | refine below_drewN ?_ _))⟩
  · have HP : Hid (∀ w, HasMax m w → HasTz w → HasDec w → Calls Tryz.prog 14 #[.string ⟨s.toArray⟩] w fun e w' => e = .returned (.tuple #[.agg (ruleV (ruleOut s).1.1 (ruleOut s).1.2), .bool (ruleOut s).2.1, .int .i64 (ruleOut s).2.2]) ∧ Below w.heap.size w w') := fun w a b c => ruleLine_any s (by omega) m w a b c
    have HQ : Hid (∀ w, Calls Tryz.prog 15 #[.string ⟨s.toArray⟩] w fun e w' => e = .returned (.tuple #[.agg (ruleV (ruleOut s).1.1 (ruleOut s).1.2), .bool (ruleOut s).2.1, .int .i64 (ruleOut s).2.2]) ∧ Below w.heap.size w w') := fun w => refRuleLine_any s (by omega) w
    obtain ⟨hk, hl⟩ := ruleOut_bd s
    have hwf := wf_kind hk
    have hpl : (ruleOut s).1.2.length ≤ maxLen := by unfold maxLen; omega
    have HK : Hid (∀ w, Calls Tryz.prog 16 #[.agg (ruleV (ruleOut s).1.1 (ruleOut s).1.2)] w fun e w' => e = .returned (.string ⟨(ruleTextL (ruleOut s).1.1 (ruleOut s).1.2).toArray⟩) ∧ Below w.heap.size w w') := fun w => ruleText_any _ _ (by omega) w
    have HL : Hid (∀ w, Calls Tryz.prog 17 #[.agg (ruleV (ruleOut s).1.1 (ruleOut s).1.2)] w fun e w' => e = .returned (.string ⟨(ruleTextL (ruleOut s).1.1 (ruleOut s).1.2).toArray⟩) ∧ Below w.heap.size w w') := fun w => refRuleText_any _ _ (by omega) w
    clear hk hl
    generalize ruleTextL (ruleOut s).1.1 (ruleOut s).1.2 = tx at *
    generalize (ruleOut s).1.2 = n at *
    generalize (ruleOut s).1.1 = k at *
    generalize (ruleOut s).2.1 = says at *
    generalize (ruleOut s).2.2 = E at *
    have he : ruleEq k n k n = true := ruleEq_iff.2 ⟨rfl, rfl⟩
    go_enter Tryz.func3, Tryz.ntmps3
    go_upto_region 7 with (first
      | (go_at_call 13; refine (ruleAlive_any m _ (by repeat (first | exact hm | apply HasMax.grown | apply HasMax.alloc | apply HasMax.drew)) (by repeat (first | exact htz | apply HasTz.grown | apply HasTz.alloc | apply HasTz.drew)) (by repeat (first | exact hd | apply HasDec.grown | apply HasDec.alloc | apply HasDec.drew))).mono ?_; rintro e w1 ⟨rfl, hb1⟩; obtain ⟨p1, rfl⟩ := grown_of hb1; clear hb1)
      | (go_at_call 14; (with_reducible refine (HP.out _ ?_ ?_ ?_).mono ?_); (exact (by repeat (first | exact hm | apply HasMax.grown | apply HasMax.alloc | apply HasMax.drew))); (exact (by repeat (first | exact htz | apply HasTz.grown | apply HasTz.alloc | apply HasTz.drew))); (exact (by repeat (first | exact hd | apply HasDec.grown | apply HasDec.alloc | apply HasDec.drew))); rintro e w1 ⟨rfl, hb1⟩; obtain ⟨p1, rfl⟩ := grown_of hb1; clear hb1)
      | (go_at_call 15; (with_reducible refine (HQ.out _).mono ?_); rintro e w1 ⟨rfl, hb1⟩; obtain ⟨p1, rfl⟩ := grown_of hb1; clear hb1))
    refine wp_region_quiet_grown (by kernel_rfl) (by kernel_rfl) ?_
    repeat (quiet_step (first | ((go_at_call 16; with_reducible exact quiet_grown (HK.out _))) | ((go_at_call 17; with_reducible exact quiet_grown (HL.out _)))))
    refine wpQuiet_nil ?_; intro _ hw'; obtain ⟨pq, hw''⟩ := hw'; subst hw''
    go_wp2
    go_ret
    exact ⟨by first | rfl | exact ret_bool (by simp), (by repeat (first | exact Below.refl _ _ | assumption | refine below_grown ?_ (by first | omega | (simp [go_sem]; done) | (simp [go_sem] <;> omega)) _ | refine Below.alloc ?_ (by first | omega | (simp [go_sem]; done) | (simp [go_sem] <;> omega)) _ | refine below_bytesW ?_ (by first | omega | (simp [go_sem]; done) | (simp [go_sem] <;> omega)) _ | refine Below.drew ?_ | refine below_drewN ?_ _))⟩
end

section
open Go Go.RowKit
set_option maxRecDepth 20000
set_option linter.unusedSimpArgs false
set_option linter.unusedVariables false

theorem parse_kind1 {s : List UInt8} (h1 : parseOk s = true) (h2 : (parseH s).kind = 1) :
    parseOk (parseH s).name = true ∧ parseH (parseH s).name = parseH s ∧ (splitL 46 (parseH s).name).all labOk = true := by
  unfold parseH at h2
  rw [if_pos h1] at h2
  cases h6 : six s
  · cases h4 : lastD s
    · have hn : nameB s = true := by
        unfold parseOk at h1
        rwa [h6, h4, if_neg (by decide), if_neg (by decide)] at h1
      obtain ⟨e, _⟩ := parse_name h6 h4 hn
      unfold nameB at hn
      simp only [Bool.and_eq_true, decide_eq_true_eq] at hn
      obtain ⟨hl, ha⟩ := hn
      have hll : (lowerL s).length ≤ 253 := by rw [lowerL_len]; exact hl
      obtain ⟨g1, g2⟩ := name_good (n := lowerL s) hll ha h4
      have hnm := (nameH_name hll).2.1
      rw [e, hnm]
      exact ⟨g1, g2, ha⟩
    · rw [h6, h4, if_neg (by decide), if_pos rfl] at h2
      exact absurd h2 (by show ¬ (2 : Int) = 1; decide)
  · rw [h6, if_pos rfl] at h2
    exact absurd h2 (by show ¬ (3 : Int) = 1; decide)
def nameC (c : UInt8) : Bool := labC c || c == 46
theorem name_chars {n : List UInt8} (h : (splitL 46 n).all labOk = true) : n.all nameC = true := by
  rw [← join_split 46 n, List.all_eq_true]
  intro x hx
  rcases joinL_mem 46 _ x hx with rfl | ⟨q, hq, hxq⟩
  · decide
  · have := List.all_eq_true.1 (labOk_all (List.all_eq_true.1 h q hq)) x hxq
    unfold nameC
    rw [this]; rfl
theorem nameC_split {c : UInt8} (h : nameC c = true) : blankSp c = false ∧ c ≠ 47 ∧ c ≠ 42 ∧ c ≠ 33 := by
  have key : ∀ i : Fin 256, nameC (UInt8.ofNat i.val) = true → blankSp (UInt8.ofNat i.val) = false ∧ UInt8.ofNat i.val ≠ 47 ∧ UInt8.ofNat i.val ≠ 42 ∧ UInt8.ofNat i.val ≠ 33 := by decide +kernel
  have := key ⟨c.toNat, c.toNat_lt⟩
  simp only [UInt8.ofNat_toNat] at this
  exact this h
theorem name_ne {n : List UInt8} (h : (splitL 46 n).all labOk = true) : n ≠ [] := by
  rintro rfl
  revert h; decide
/-- A rule's text: its bytes, its first ones. -/
theorem text_facts {k : Int} {n : List UInt8} (hk : k = 1 ∨ k = 2 ∨ k = 3) (h : (splitL 46 n).all labOk = true) :
    (∃ c x, ruleTextL k n = c :: x ∧ blankSp c = false ∧ c ≠ 47) ∧ (ruleTextL k n).all (fun c => !blankSp c) = true ∧ ruleKind (ruleTextL k n) = (k, n) := by
  have hc := name_chars h
  obtain ⟨d, y, hd⟩ := List.exists_cons_of_ne_nil (name_ne h)
  have hb : n.all (fun c => !blankSp c) = true := by
    rw [List.all_eq_true]
    intro c hm
    rw [(nameC_split (List.all_eq_true.1 hc c hm)).1]; rfl
  have hd1 := nameC_split (List.all_eq_true.1 hc d (by rw [hd]; exact List.mem_cons_self))
  rcases hk with rfl | rfl | rfl
  · have e : ruleTextL 1 n = n := rfl
    rw [e]
    refine ⟨⟨d, y, hd, hd1.1, hd1.2.1⟩, hb, ?_⟩
    have p2 : Lib.hasPrefix n [42, 46] = false := by
      rw [hd]
      unfold Lib.hasPrefix
      rw [List.isPrefixOf, beq_false_of_ne (Ne.symm hd1.2.2.1)]; rfl
    have p3 : Lib.hasPrefix n [33] = false := by
      rw [hd]
      unfold Lib.hasPrefix
      rw [List.isPrefixOf, beq_false_of_ne (Ne.symm hd1.2.2.2)]; rfl
    unfold ruleKind
    rw [p2, p3, if_neg (by decide), if_neg (by decide)]
  · have e : ruleTextL 2 n = 42 :: 46 :: n := rfl
    rw [e]
    refine ⟨⟨42, 46 :: n, rfl, by decide, by decide⟩, ?_, ?_⟩
    · rw [List.all_cons, List.all_cons, hb]; decide
    · have p2 : Lib.hasPrefix (42 :: 46 :: n) [42, 46] = true := by
        unfold Lib.hasPrefix
        rw [List.isPrefixOf_iff_prefix]
        exact ⟨n, rfl⟩
      unfold ruleKind
      rw [p2, if_pos rfl]; rfl
  · have e : ruleTextL 3 n = 33 :: n := rfl
    rw [e]
    refine ⟨⟨33, n, rfl, by decide, by decide⟩, ?_, ?_⟩
    · rw [List.all_cons, hb]; decide
    · have p3 : Lib.hasPrefix (33 :: n) [33] = true := by
        unfold Lib.hasPrefix
        rw [List.isPrefixOf_iff_prefix]
        exact ⟨n, rfl⟩
      have p2 : Lib.hasPrefix (33 :: n) [42, 46] = false := rfl
      unfold ruleKind
      rw [p2, p3, if_neg (by decide), if_pos rfl]; rfl
theorem trim_same {c : UInt8} {x : List UInt8} (h : (c :: x).all (fun c => !blankSp c) = true) : trimL (c :: x) = c :: x := by
  have hdw : ∀ l : List UInt8, l.all (fun c => !blankSp c) = true → l.dropWhile (fun c => ([32, 9] : List UInt8).contains c) = l := by
    intro l hl
    cases l with
    | nil => rfl
    | cons d y =>
      have hd : ([32, 9] : List UInt8).contains d = false := by
        have := (List.all_eq_true.1 hl) d List.mem_cons_self
        simpa [blankSp] using this
      rw [List.dropWhile_cons, if_neg (by rw [hd]; decide)]
  unfold trimL Lib.trimS Lib.trimRightS Lib.trimLeftS
  rw [hdw (c :: x).reverse (by rw [List.all_reverse]; exact h), List.reverse_reverse, hdw _ h]
theorem trim_around {c : UInt8} {x : List UInt8} (hc : blankSp c = false) : trimL (9 :: 32 :: (c :: x ++ [32, 120])) = c :: x ++ [32, 120] := by
  have hc' : ([32, 9] : List UInt8).contains c = false := hc
  unfold trimL Lib.trimS Lib.trimRightS Lib.trimLeftS
  have e1 : (9 :: 32 :: (c :: x ++ [32, 120]) : List UInt8).reverse = 120 :: ((9 :: 32 :: (c :: x ++ [32]) : List UInt8).reverse) := by simp
  rw [e1, List.dropWhile_cons, if_neg (by decide)]
  rw [show (120 :: ((9 :: 32 :: (c :: x ++ [32]) : List UInt8).reverse)).reverse = 9 :: 32 :: (c :: (x ++ [32, 120])) by simp]
  rw [List.dropWhile_cons, if_pos (by decide), List.dropWhile_cons, if_pos (by decide), List.dropWhile_cons, if_neg (by rw [hc']; decide)]
  rfl
theorem cut_blank {x y : List UInt8} (h : x.all (fun c => !blankSp c) = true) : blankTake (x ++ 32 :: y) = x := by
  have hl : x.length < (x ++ 32 :: y).length := by simp
  have ht : (x ++ 32 :: y).take x.length = x := List.take_left
  have := blank_stop (x ++ 32 :: y) x.length hl (by rw [ht]; exact h) (by
    have : (x ++ 32 :: y)[x.length]'hl = 32 := by simp
    rw [this]; decide)
  rw [this, ht]
/-- A line whose first word is a rule's text says this rule. -/
theorem out_text {s t x : List UInt8} {k : Int} {n : List UInt8} (hk : k = 1 ∨ k = 2 ∨ k = 3) (ht : trimL s = t) (hne : t ≠ []) (hp : Lib.hasPrefix t [47, 47] = false) (hx : blankTake t = x) (hkx : ruleKind x = (k, n))
    (h1 : parseOk n = true) (h2 : (parseH n).kind = 1) (h3 : (parseH n).name = n) (h4 : k = 3 → ¬ (labelsL (parseH n)).length < 2) : ruleOut s = ((k, n), true, 0) := by
  unfold ruleOut
  dsimp only
  rw [ht, if_neg (by simp [hne, hp]), hx, hkx]
  dsimp only
  rw [if_neg (by
    simp only [not_or, not_and]
    exact ⟨by rw [h1]; decide, by rw [h2]; simp, h4⟩), h3]
theorem slash_pre {c : UInt8} {y : List UInt8} (hc : c ≠ 47) : Lib.hasPrefix (c :: y) [47, 47] = false := by
  unfold Lib.hasPrefix
  rw [List.isPrefixOf, beq_false_of_ne (Ne.symm hc)]; rfl
theorem rule_back {s : List UInt8} (h : (ruleOut s).2.1 = true) :
    ruleOut (ruleTextL (ruleOut s).1.1 (ruleOut s).1.2) = ((ruleOut s).1, true, 0) ∧
    ruleOut (9 :: 32 :: (ruleTextL (ruleOut s).1.1 (ruleOut s).1.2 ++ [32, 120])) = ((ruleOut s).1, true, 0) ∧ (ruleOut s).2.2 = 0 := by
  have main : ∀ (k : Int) (nm : List UInt8), (k = 1 ∨ k = 2 ∨ k = 3) → parseOk nm = true → (parseH nm).kind = 1 → (k = 3 → ¬ (labelsL (parseH nm)).length < 2) →
      ruleOut (ruleTextL k (parseH nm).name) = ((k, (parseH nm).name), true, 0) ∧ ruleOut (9 :: 32 :: (ruleTextL k (parseH nm).name ++ [32, 120])) = ((k, (parseH nm).name), true, 0) := by
    intro k nm hk h1 h2 h3
    obtain ⟨g1, g2, g3⟩ := parse_kind1 h1 h2
    obtain ⟨⟨c, x, hcx, hc, hc47⟩, hall, hkd⟩ := text_facts hk g3
    have b0 : blankTake (ruleTextL k (parseH nm).name) = ruleTextL k (parseH nm).name := blank_end _ (by rw [List.take_length]; exact hall)
    have b1 : blankTake (ruleTextL k (parseH nm).name ++ [32, 120]) = ruleTextL k (parseH nm).name := cut_blank hall
    have q2 : (parseH (parseH nm).name).kind = 1 := by rw [g2]; exact h2
    have q3 : (parseH (parseH nm).name).name = (parseH nm).name := by rw [g2]
    have q4 : k = 3 → ¬ (labelsL (parseH (parseH nm).name)).length < 2 := by rw [g2]; exact h3
    rw [hcx] at hall b0 b1 hkd ⊢
    exact ⟨out_text hk (trim_same hall) (by simp) (slash_pre hc47) b0 hkd g1 q2 q3 q4,
      out_text hk (trim_around hc) (by simp) (slash_pre hc47) b1 hkd g1 q2 q3 q4⟩
  rcases rule_ways s with ⟨_, e⟩ | ⟨_, _, e⟩ | ⟨_, _, e⟩
  · rw [e] at h; cases h
  · rw [e] at h; cases h
  · rcases e with ⟨_, e⟩ | ⟨_, _, e⟩ | ⟨_, _, _, _, e⟩ | ⟨a1, a2, a3, a4, e⟩ | ⟨a1, a2, a3, e⟩
    · rw [e] at h; cases h
    · rw [e] at h; cases h
    · rw [e] at h; cases h
    · rw [e]
      obtain ⟨m1, m2⟩ := main 3 _ (.inr (.inr rfl)) a1 a2 (fun _ => a4)
      exact ⟨m1, m2, rfl⟩
    · rw [e]
      obtain ⟨m1, m2⟩ := main _ _ (ruleKind_1 _) a1 a2 (fun h => absurd h a3)
      exact ⟨m1, m2, rfl⟩
theorem rule_none {s : List UInt8} (h : (ruleOut s).2.1 = false) : (ruleOut s).1 = (0, []) := by
  rcases rule_ways s with ⟨_, e⟩ | ⟨_, _, e⟩ | ⟨_, _, e⟩
  · rw [e]
  · rw [e]
  · rcases e with ⟨_, e⟩ | ⟨_, _, e⟩ | ⟨_, _, _, _, e⟩ | ⟨_, _, _, _, e⟩ | ⟨_, _, _, e⟩
    · rw [e]
    · rw [e]
    · rw [e]
    · rw [e] at h; cases h
    · rw [e] at h; cases h
set_option maxHeartbeats 4000000 in
theorem ruleBack_law (s : List UInt8) (hs : s.length ≤ maxLen) (m : Int) (w : World) (hm : HasMax m w) (htz : HasTz w) (hd : HasDec w) :
    Calls Tryz.prog 4 #[.string ⟨s.toArray⟩] w fun e w' => e = .returned (.bool true) ∧ Below w.heap.size w w' := by
  unfold maxLen at hs
  by_cases h1 : (1000 : Int) < s.length
  · go_enter Tryz.func4, Tryz.ntmps4
    go_wp2_with (go_at_call 13; refine (ruleAlive_any m _ (by repeat (first | exact hm | apply HasMax.grown | apply HasMax.alloc | apply HasMax.drew)) (by repeat (first | exact htz | apply HasTz.grown | apply HasTz.alloc | apply HasTz.drew)) (by repeat (first | exact hd | apply HasDec.grown | apply HasDec.alloc | apply HasDec.drew))).mono ?_; rintro e w1 ⟨rfl, hb1⟩; obtain ⟨p1, rfl⟩ := grown_of hb1; clear hb1)
    go_ret
    exact ⟨rfl, (by repeat (first | exact Below.refl _ _ | assumption | refine below_grown ?_ (by first | omega | (simp [go_sem]; done) | (simp [go_sem] <;> omega)) _ | refine Below.alloc ?_ (by first | omega | (simp [go_sem]; done) | (simp [go_sem] <;> omega)) _ | refine below_bytesW ?_ (by first | omega | (simp [go_sem]; done) | (simp [go_sem] <;> omega)) _ | refine Below.drew ?_ | refine below_drewN ?_ _))⟩
  · have HP : Hid (∀ w, HasMax m w → HasTz w → HasDec w → Calls Tryz.prog 14 #[.string ⟨s.toArray⟩] w fun e w' => e = .returned (.tuple #[.agg (ruleV (ruleOut s).1.1 (ruleOut s).1.2), .bool (ruleOut s).2.1, .int .i64 (ruleOut s).2.2]) ∧ Below w.heap.size w w') := fun w a b c => ruleLine_any s (by omega) m w a b c
    obtain ⟨hk, hl⟩ := ruleOut_bd s
    have hwf := wf_kind hk
    have hpl : (ruleOut s).1.2.length ≤ maxLen := by unfold maxLen; omega
    have k0 : (Lit.int .i64 0).wf = true := rfl
    have l0 : ([] : List UInt8).length ≤ maxLen := by decide
    cases hsays : (ruleOut s).2.1
    · have hz := rule_none hsays
      rw [hsays, hz] at HP
      clear hz hsays hk hl hwf hpl
      generalize (ruleOut s).2.2 = E at *
      by_cases hE : (E != 0) = true
      all_goals
        go_enter Tryz.func4, Tryz.ntmps4
        go_wp2_with (first
          | (go_at_call 13; refine (ruleAlive_any m _ (by repeat (first | exact hm | apply HasMax.grown | apply HasMax.alloc | apply HasMax.drew)) (by repeat (first | exact htz | apply HasTz.grown | apply HasTz.alloc | apply HasTz.drew)) (by repeat (first | exact hd | apply HasDec.grown | apply HasDec.alloc | apply HasDec.drew))).mono ?_; rintro e w1 ⟨rfl, hb1⟩; obtain ⟨p1, rfl⟩ := grown_of hb1; clear hb1)
          | (go_at_call 14; (with_reducible refine (HP.out _ ?_ ?_ ?_).mono ?_); (exact (by repeat (first | exact hm | apply HasMax.grown | apply HasMax.alloc | apply HasMax.drew))); (exact (by repeat (first | exact htz | apply HasTz.grown | apply HasTz.alloc | apply HasTz.drew))); (exact (by repeat (first | exact hd | apply HasDec.grown | apply HasDec.alloc | apply HasDec.drew))); rintro e w1 ⟨rfl, hb1⟩; obtain ⟨p1, rfl⟩ := grown_of hb1; clear hb1))
        go_ret
        exact ⟨by first | rfl | exact ret_bool (by simp [ruleEq]), (by repeat (first | exact Below.refl _ _ | assumption | refine below_grown ?_ (by first | omega | (simp [go_sem]; done) | (simp [go_sem] <;> omega)) _ | refine Below.alloc ?_ (by first | omega | (simp [go_sem]; done) | (simp [go_sem] <;> omega)) _ | refine below_bytesW ?_ (by first | omega | (simp [go_sem]; done) | (simp [go_sem] <;> omega)) _ | refine Below.drew ?_ | refine below_drewN ?_ _))⟩
    · obtain ⟨r1, r2, r3⟩ := rule_back hsays
      have htx : (ruleTextL (ruleOut s).1.1 (ruleOut s).1.2).length ≤ 300 := by
        have hml : (markL (ruleOut s).1.1).length ≤ 2 := by
          unfold markL
          split
          · decide
          · split <;> decide
        unfold ruleTextL
        rw [List.length_append]; omega
      have HK : Hid (∀ w, Calls Tryz.prog 16 #[.agg (ruleV (ruleOut s).1.1 (ruleOut s).1.2)] w fun e w' => e = .returned (.string ⟨(ruleTextL (ruleOut s).1.1 (ruleOut s).1.2).toArray⟩) ∧ Below w.heap.size w w') := fun w => ruleText_any _ _ (by omega) w
      have HQ : Hid (∀ w, HasMax m w → HasTz w → HasDec w → Calls Tryz.prog 14 #[.string ⟨(ruleTextL (ruleOut s).1.1 (ruleOut s).1.2).toArray⟩] w fun e w' => e = .returned (.tuple #[.agg (ruleV (ruleOut s).1.1 (ruleOut s).1.2), .bool true, .int .i64 0]) ∧ Below w.heap.size w w') := fun w a b c => by
        have := ruleLine_any (ruleTextL (ruleOut s).1.1 (ruleOut s).1.2) (by omega) m w a b c
        rwa [r1] at this
      have HR : Hid (∀ w, HasMax m w → HasTz w → HasDec w → Calls Tryz.prog 14 #[.string ⟨(9 :: 32 :: (ruleTextL (ruleOut s).1.1 (ruleOut s).1.2 ++ [32, 120])).toArray⟩] w fun e w' => e = .returned (.tuple #[.agg (ruleV (ruleOut s).1.1 (ruleOut s).1.2), .bool true, .int .i64 0]) ∧ Below w.heap.size w w') := fun w a b c => by
        have := ruleLine_any (9 :: 32 :: (ruleTextL (ruleOut s).1.1 (ruleOut s).1.2 ++ [32, 120])) (by simp; omega) m w a b c
        rwa [r2] at this
      rw [hsays, r3] at HP
      clear r1 r2 r3 hsays hk hl
      generalize ruleTextL (ruleOut s).1.1 (ruleOut s).1.2 = tx at *
      generalize (ruleOut s).1.2 = n at *
      generalize (ruleOut s).1.1 = k at *
      have he : ruleEq k n k n = true := ruleEq_iff.2 ⟨rfl, rfl⟩
      have n1 : ¬ 9223372036854775807 < 2 + tx.length := by omega
      have n2 : ¬ 9223372036854775807 < tx.length + 2 := by omega
      have n3 : ¬ 9223372036854775807 < tx.length + 1 + 1 := by omega
      have n4 : ¬ 9223372036854775807 < 2 + tx.length + 2 := by omega
      have n5 : ¬ 9223372036854775807 < tx.length + 2 + 2 := by omega
      have n6 : ¬ 9223372036854775807 < tx.length + 1 + 1 + 2 := by omega
      go_enter Tryz.func4, Tryz.ntmps4
      go_wp2_with (first
        | (go_at_call 13; refine (ruleAlive_any m _ (by repeat (first | exact hm | apply HasMax.grown | apply HasMax.alloc | apply HasMax.drew)) (by repeat (first | exact htz | apply HasTz.grown | apply HasTz.alloc | apply HasTz.drew)) (by repeat (first | exact hd | apply HasDec.grown | apply HasDec.alloc | apply HasDec.drew))).mono ?_; rintro e w1 ⟨rfl, hb1⟩; obtain ⟨p1, rfl⟩ := grown_of hb1; clear hb1)
        | (go_at_call 16; (with_reducible refine (HK.out _).mono ?_); rintro e w1 ⟨rfl, hb1⟩; obtain ⟨p1, rfl⟩ := grown_of hb1; clear hb1)
        | (go_at_call 14; (with_reducible refine (HP.out _ ?_ ?_ ?_).mono ?_); (exact (by repeat (first | exact hm | apply HasMax.grown | apply HasMax.alloc | apply HasMax.drew))); (exact (by repeat (first | exact htz | apply HasTz.grown | apply HasTz.alloc | apply HasTz.drew))); (exact (by repeat (first | exact hd | apply HasDec.grown | apply HasDec.alloc | apply HasDec.drew))); rintro e w1 ⟨rfl, hb1⟩; obtain ⟨p1, rfl⟩ := grown_of hb1; clear hb1)
        | (go_at_call 14; (with_reducible refine (HQ.out _ ?_ ?_ ?_).mono ?_); (exact (by repeat (first | exact hm | apply HasMax.grown | apply HasMax.alloc | apply HasMax.drew))); (exact (by repeat (first | exact htz | apply HasTz.grown | apply HasTz.alloc | apply HasTz.drew))); (exact (by repeat (first | exact hd | apply HasDec.grown | apply HasDec.alloc | apply HasDec.drew))); rintro e w1 ⟨rfl, hb1⟩; obtain ⟨p1, rfl⟩ := grown_of hb1; clear hb1)
        | (go_at_call 14; (with_reducible refine (HR.out _ ?_ ?_ ?_).mono ?_); (exact (by repeat (first | exact hm | apply HasMax.grown | apply HasMax.alloc | apply HasMax.drew))); (exact (by repeat (first | exact htz | apply HasTz.grown | apply HasTz.alloc | apply HasTz.drew))); (exact (by repeat (first | exact hd | apply HasDec.grown | apply HasDec.alloc | apply HasDec.drew))); rintro e w1 ⟨rfl, hb1⟩; obtain ⟨p1, rfl⟩ := grown_of hb1; clear hb1))
      go_ret
      exact ⟨by first | rfl | exact ret_bool (by simp), (by repeat (first | exact Below.refl _ _ | assumption | refine below_grown ?_ (by first | omega | (simp [go_sem]; done) | (simp [go_sem] <;> omega)) _ | refine Below.alloc ?_ (by first | omega | (simp [go_sem]; done) | (simp [go_sem] <;> omega)) _ | refine below_bytesW ?_ (by first | omega | (simp [go_sem]; done) | (simp [go_sem] <;> omega)) _ | refine Below.drew ?_ | refine below_drewN ?_ _))⟩
end
end Go.Proofs.YtlegjkjicdpeeaaGreatDoor
