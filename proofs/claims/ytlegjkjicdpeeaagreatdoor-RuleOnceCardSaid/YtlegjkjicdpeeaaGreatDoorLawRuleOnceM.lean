/- Merged: RuleOnceP, LawRuleOnce. -/
import Derived.Test.YtlegjkjicdpeeaaGreatDoorRuleFileAll
import Derived.Test.YtlegjkjicdpeeaaGreatDoorRuleBackAll
import Derived.Deep.DeepCutAuto
namespace Go.Proofs.YtlegjkjicdpeeaaGreatDoor
section
open Go Go.RowKit
set_option maxRecDepth 20000
set_option linter.unusedSimpArgs false
set_option linter.unusedVariables false

def ruleTxt (r : GRule) : List UInt8 := ruleTextL r.1 r.2
def filText (R : List GRule) : List UInt8 := R.flatMap fun r => ruleTxt r ++ [10]
theorem filText_cons (r : GRule) (R : List GRule) : filText (r :: R) = ruleTxt r ++ 10 :: filText R := by simp [filText]
theorem filText_snoc (R : List GRule) (r : GRule) : filText (R ++ [r]) = filText R ++ (ruleTxt r ++ [10]) := by simp [filText]
def noEnd (c : UInt8) : Bool := c != 10 && c != 13
structure BackR (r : GRule) : Prop where
  out : ruleOut (ruleTxt r) = (r, true, 0)
  ends : (ruleTxt r).all noEnd = true
  ne : ruleTxt r ≠ []
  col : colR (ruleTxt r) = 1
theorem nameC_noEnd {c : UInt8} (h : nameC c = true) : noEnd c = true := by
  have key : ∀ i : Fin 256, nameC (UInt8.ofNat i.val) = true → noEnd (UInt8.ofNat i.val) = true := by decide +kernel
  have := key ⟨c.toNat, c.toNat_lt⟩
  simp only [UInt8.ofNat_toNat] at this
  exact this h
theorem parse_len1 {s : List UInt8} (h1 : parseOk s = true) (h2 : (parseH s).kind = 1) : (parseH s).name.length = s.length := by
  unfold parseH at h2
  rw [if_pos h1] at h2
  cases h6 : six s
  · cases h4 : lastD s
    · have hn : nameB s = true := by
        unfold parseOk at h1
        rwa [h6, h4, if_neg (by decide), if_neg (by decide)] at h1
      obtain ⟨e, _⟩ := parse_name h6 h4 hn
      unfold nameB at hn
      simp only [Bool.and_eq_true, decide_eq_true_eq] at hn
      have hll : (lowerL s).length ≤ 253 := by rw [lowerL_len]; exact hn.1
      rw [e, (nameH_name hll).2.1, lowerL_len]
    · rw [h6, h4, if_neg (by decide), if_pos rfl] at h2
      exact absurd h2 (by show ¬ (2 : Int) = 1; decide)
  · rw [h6, if_pos rfl] at h2
    exact absurd h2 (by show ¬ (3 : Int) = 1; decide)
theorem kind_len (u : List UInt8) : (markL (ruleKind u).1).length + (ruleKind u).2.length = u.length := by
  rcases kind_ways u with ⟨h, e⟩ | ⟨_, h, e⟩ | ⟨_, _, e⟩
  · have := pre_len h
    rw [e]
    show 1 + (u.drop 1).length = u.length
    rw [List.length_drop]
    simp at this
    omega
  · have := pre_len h
    rw [e]
    show 2 + (u.drop 2).length = u.length
    rw [List.length_drop]
    simp at this
    omega
  · rw [e]
    show 0 + u.length = u.length
    omega
theorem rule_form {s : List UInt8} (h : (ruleOut s).2.1 = true) :
    ((ruleOut s).1.1 = 1 ∨ (ruleOut s).1.1 = 2 ∨ (ruleOut s).1.1 = 3) ∧ (splitL 46 (ruleOut s).1.2).all labOk = true ∧ (ruleTxt (ruleOut s).1).length ≤ s.length := by
  have hul : (blankTake (trimL s)).length ≤ s.length := by
    have := trimL_length s
    unfold blankTake
    rw [List.length_take]; omega
  have hk := kind_len (blankTake (trimL s))
  have main : ∀ (k : Int) (nm : List UInt8), (markL k).length + nm.length = (blankTake (trimL s)).length → parseOk nm = true → (parseH nm).kind = 1 → (splitL 46 (parseH nm).name).all labOk = true ∧ (ruleTextL k (parseH nm).name).length ≤ s.length := by
    intro k nm h1 h2 h3
    refine ⟨(parse_kind1 h2 h3).2.2, ?_⟩
    unfold ruleTextL
    rw [List.length_append, parse_len1 h2 h3]
    omega
  rcases rule_ways s with ⟨_, e⟩ | ⟨_, _, e⟩ | ⟨_, _, e⟩
  · rw [e] at h; cases h
  · rw [e] at h; cases h
  · rcases e with ⟨_, e⟩ | ⟨_, _, e⟩ | ⟨_, _, _, _, e⟩ | ⟨a1, a2, a3, a4, e⟩ | ⟨a1, a2, a3, e⟩
    · rw [e] at h; cases h
    · rw [e] at h; cases h
    · rw [e] at h; cases h
    · rw [e]
      rw [a3] at hk
      obtain ⟨m1, m2⟩ := main 3 _ hk a1 a2
      exact ⟨.inr (.inr rfl), m1, m2⟩
    · rw [e]
      obtain ⟨m1, m2⟩ := main _ _ hk a1 a2
      exact ⟨ruleKind_1 _, m1, m2⟩
theorem backR_of {s : List UInt8} (h : (ruleOut s).2.1 = true) : BackR (ruleOut s).1 := by
  obtain ⟨hk, hn, _⟩ := rule_form h
  obtain ⟨r1, _, _⟩ := rule_back h
  obtain ⟨⟨c, x, hcx, hc, _⟩, hall, _⟩ := text_facts hk hn
  refine ⟨r1, ?_, ?_, ?_⟩
  · have h1 : ((ruleOut s).1.2).all noEnd = true := by
      rw [List.all_eq_true]
      intro c hm
      exact nameC_noEnd (List.all_eq_true.1 (name_chars hn) c hm)
    unfold ruleTxt ruleTextL
    rw [List.all_append, h1, Bool.and_true]
    rcases hk with e | e | e <;> rw [e] <;> decide
  · unfold ruleTxt
    rw [hcx]; simp
  · unfold ruleTxt colR
    rw [hcx]
    unfold Lib.trimLeftS
    rw [List.dropWhile_cons, if_neg (by
      have : ([32, 9] : List UInt8).contains c = false := hc
      rw [this]; decide)]
    show (((c :: x).length - (c :: x).length + 1 : Nat) : Int) = 1
    rw [Nat.sub_self]; rfl
/-! ### lines -/
theorem no10 {t : List UInt8} (h : t.all noEnd = true) : (10 : UInt8) ∉ t := fun hm => by
  have := List.all_eq_true.1 h 10 hm
  revert this; decide
theorem no13 {t : List UInt8} (h : t.all noEnd = true) : cutCR t = t := by
  unfold cutCR Lib.trimSuffix
  rw [if_neg]
  intro hs
  unfold Lib.hasSuffix at hs
  rw [List.isSuffixOf_iff_suffix] at hs
  obtain ⟨y, hy⟩ := hs
  have := List.all_eq_true.1 h 13 (by rw [← hy]; simp)
  revert this; decide
theorem split_fil : ∀ (R : List GRule) (t : List UInt8), (∀ r ∈ R, BackR r) → (10 : UInt8) ∉ t → splitL 10 (filText R ++ t) = R.map ruleTxt ++ [t]
  | [], t, _, ht => by
    show splitL 10 ([] ++ t) = [] ++ [t]
    rw [List.nil_append, List.nil_append, splitL_none 10 t ht]
  | r :: R, t, hR, ht => by
    rw [filText_cons, List.append_assoc, List.cons_append, splitL_append 10 _ _ (no10 (hR r List.mem_cons_self).ends), split_fil R t (fun x hx => hR x (List.mem_cons_of_mem _ hx)) ht]
    rfl
theorem map_cut (R : List GRule) (hR : ∀ r ∈ R, BackR r) : (R.map ruleTxt).map cutCR = R.map ruleTxt := by
  rw [List.map_map]
  exact List.map_congr_left fun r hr => no13 (hR r hr).ends
theorem lines_fil (R : List GRule) (hR : ∀ r ∈ R, BackR r) : linesL (filText R) = R.map ruleTxt := by
  have h := split_fil R [] hR (by simp)
  rw [List.append_nil] at h
  unfold linesL dropEmpty
  rw [h, if_pos (by simp), List.dropLast_concat, map_cut R hR]
theorem lines_fil1 (R : List GRule) (r : GRule) (hR : ∀ r ∈ R, BackR r) (hr : BackR r) : linesL (filText R ++ ruleTxt r) = R.map ruleTxt ++ [ruleTxt r] := by
  have h := split_fil R (ruleTxt r) hR (no10 hr.ends)
  unfold linesL dropEmpty
  rw [h, if_neg (by simp; exact hr.ne), List.map_append, map_cut R hR]
  simp [no13 hr.ends]
theorem step_fil : ∀ (R : List GRule) (M : List (List UInt8)) (i : Nat) (out : List GRule), (∀ r ∈ R, BackR r) → (out ++ R).Nodup → (out ++ R).length ≤ 200 → ruleStep (R.map ruleTxt ++ M) i out = ruleStep M (i + R.length) (out ++ R)
  | [], M, i, out, _, _, _ => by simp
  | r :: R, M, i, out, hR, hn, hl => by
    have hb := (hR r List.mem_cons_self).out
    have hno : out.contains r = false := by
      rw [List.nodup_append] at hn
      cases hc : out.contains r
      · rfl
      · exact absurd rfl (hn.2.2 r (List.contains_iff_mem.1 hc) r List.mem_cons_self)
    rw [List.length_append, List.length_cons] at hl
    rw [List.map_cons, List.cons_append, ruleStep, hb]
    dsimp only
    rw [if_neg (by simp), if_neg (by simp), if_neg (by rw [hno]; decide), if_neg (by omega), step_fil R M (i + 1) (out ++ [r]) (fun x hx => hR x (List.mem_cons_of_mem _ hx)) (by simpa using hn) (by simp; omega)]
    rw [List.length_cons, List.append_assoc, List.singleton_append, show i + 1 + R.length = i + (R.length + 1) by omega]
theorem file_fil (R : List GRule) (hR : ∀ r ∈ R, BackR r) (hn : R.Nodup) (hl : R.length ≤ 200) (ht : (filText R).length ≤ 20000) : ruleFile (filText R) = (R, 0, 0, 0) := by
  unfold ruleFile
  rw [if_neg (by omega), lines_fil R hR]
  have := step_fil R [] 0 [] hR (by simpa using hn) (by simpa using hl)
  rw [List.append_nil] at this
  rw [this]; rfl
theorem file_fil1 (R : List GRule) (r : GRule) (hR : ∀ r ∈ R, BackR r) (hr : r ∈ R) (hn : R.Nodup) (hl : R.length ≤ 200) (ht : (filText R ++ ruleTxt r).length ≤ 20000) : ruleFile (filText R ++ ruleTxt r) = ([], 52, (R.length : Int) + 1, 1) := by
  have hb := hR r hr
  unfold ruleFile
  rw [if_neg (by omega), lines_fil1 R r hR hb, step_fil R [ruleTxt r] 0 [] hR (by simpa using hn) (by simpa using hl)]
  rw [ruleStep, hb.out]
  dsimp only
  rw [if_neg (by simp), if_neg (by simp), if_pos (by simpa using hr), hb.col]
  simp
/-! ### what is read -/
def sumL (L : List (List UInt8)) : Nat := (L.map fun x => x.length + 1).sum
theorem sumL_cons (x : List UInt8) (L : List (List UInt8)) : sumL (x :: L) = x.length + 1 + sumL L := by simp [sumL]
theorem fil_len (R : List GRule) (r : GRule) : (filText (R ++ [r])).length = (filText R).length + ((ruleTxt r).length + 1) := by
  rw [filText_snoc]; simp
theorem step_out : ∀ (L : List (List UInt8)) (i : Nat) (out : List GRule), out.Nodup → (∀ r ∈ out, BackR r) →
    ((ruleStep L i out).2 = (0, 0, 0) ∨ (ruleStep L i out).1 = []) ∧ (ruleStep L i out).1.Nodup ∧ (∀ r ∈ (ruleStep L i out).1, BackR r) ∧ (filText (ruleStep L i out).1).length ≤ (filText out).length + sumL L ∧ ((ruleStep L i out).2.1 = 0 → (ruleStep L i out).2 = (0, 0, 0))
  | [], i, out, h1, h2 => ⟨.inl rfl, h1, h2, by show (filText out).length ≤ _; omega, fun _ => rfl⟩
  | x :: L, i, out, h1, h2 => by
    have bad : ∀ (c l k : Int), c ≠ 0 → ((([], c, l, k) : List GRule × GFlt).2 = (0, 0, 0) ∨ (([], c, l, k) : List GRule × GFlt).1 = []) ∧ (([], c, l, k) : List GRule × GFlt).1.Nodup ∧ (∀ r ∈ (([], c, l, k) : List GRule × GFlt).1, BackR r) ∧ (filText (([], c, l, k) : List GRule × GFlt).1).length ≤ (filText out).length + sumL (x :: L) ∧ ((([], c, l, k) : List GRule × GFlt).2.1 = 0 → (([], c, l, k) : List GRule × GFlt).2 = (0, 0, 0)) :=
      fun c l k hc => ⟨.inr rfl, List.nodup_nil, (fun r h => by cases h), Nat.zero_le _, fun h => absurd h hc⟩
    have hs := sumL_cons x L
    rw [ruleStep]
    split
    · rename_i h
      exact bad _ _ _ h
    · split
      · have := step_out L (i + 1) out h1 h2
        exact ⟨this.1, this.2.1, this.2.2.1, by have := this.2.2.2.1; omega, this.2.2.2.2⟩
      · rename_i hsay
        have hsay' : (ruleOut x).2.1 = true := by simpa using hsay
        split
        · exact bad _ _ _ (by decide)
        · rename_i hc
          split
          · exact bad _ _ _ (by decide)
          · have hc' : (ruleOut x).1 ∉ out := by simpa using hc
            have := step_out L (i + 1) (out ++ [(ruleOut x).1]) (by
              rw [List.nodup_append]
              refine ⟨h1, by simp, fun a ha b hb => ?_⟩
              rw [List.mem_singleton] at hb
              subst hb
              rintro rfl
              exact hc' ha) (fun r hr => by
              rcases List.mem_append.1 hr with hr | hr
              · exact h2 r hr
              · rw [List.mem_singleton] at hr; subst hr; exact backR_of hsay')
            have hl := (rule_form hsay').2.2
            have hf := fil_len out (ruleOut x).1
            exact ⟨this.1, this.2.1, this.2.2.1, by have := this.2.2.2.1; omega, this.2.2.2.2⟩
theorem sum_split (c : UInt8) : ∀ l : List UInt8, sumL (splitL c l) = l.length + 1
  | [] => rfl
  | x :: l => by
    by_cases h : x = c
    · subst h
      rw [splitL, if_pos rfl, sumL_cons, sum_split x l]; simp; omega
    · obtain ⟨p, ps, h1, h2⟩ := splitL_cons c x l h
      have ih := sum_split c l
      rw [h1, sumL_cons] at ih
      rw [h2, sumL_cons, List.length_cons, List.length_cons]
      omega
theorem sum_map (L : List (List UInt8)) : sumL (L.map cutCR) ≤ sumL L := by
  induction L with
  | nil => exact Nat.le_refl _
  | cons x L ih =>
    have h1 : (cutCR x).length ≤ x.length := by
      unfold cutCR Lib.trimSuffix
      split
      · simp
      · exact Nat.le_refl _
    rw [List.map_cons, sumL_cons, sumL_cons]; omega
theorem sum_drop (L : List (List UInt8)) : sumL L.dropLast ≤ sumL L := by
  induction L with
  | nil => exact Nat.le_refl _
  | cons x L ih =>
    cases L with
    | nil => exact Nat.zero_le _
    | cons y L =>
      rw [List.dropLast_cons_of_ne_nil (by simp), sumL_cons, sumL_cons x]; omega
theorem sum_lines (s : List UInt8) : sumL (linesL s) ≤ s.length + 1 := by
  unfold linesL
  have h1 := sum_map (dropEmpty (splitL 10 s))
  have h2 : sumL (dropEmpty (splitL 10 s)) ≤ sumL (splitL 10 s) := by
    unfold dropEmpty
    split
    · exact sum_drop _
    · exact Nat.le_refl _
  have h3 := sum_split 10 s
  omega
theorem file_out (s : List UInt8) (hs : s.length ≤ 4000) :
    ((ruleFile s).2 = (0, 0, 0) ∨ (ruleFile s).1 = []) ∧ (ruleFile s).1.Nodup ∧ (∀ r ∈ (ruleFile s).1, BackR r) ∧ (filText (ruleFile s).1).length ≤ 4001 := by
  unfold ruleFile
  rw [if_neg (by omega)]
  have := step_out (linesL s) 0 [] List.nodup_nil (fun r h => by cases h)
  have hl := sum_lines s
  exact ⟨this.1, this.2.1, this.2.2.1, by have := this.2.2.2.1; have e : (filText []).length = 0 := rfl; omega⟩
end

section
open Go Go.RowKit
set_option maxRecDepth 20000
set_option linter.unusedSimpArgs false
set_option linter.unusedVariables false

theorem filText_take (R : List GRule) (k : Nat) (h : k < R.length) : filText (R.take (k + 1)) = filText (R.take k) ++ (ruleTxt (R[k]'h) ++ [10]) := by
  rw [List.take_succ_eq_append_getElem h, filText_snoc]
theorem filText_le (R : List GRule) (k : Nat) : (filText (R.take k)).length ≤ (filText R).length := by
  have : filText R = filText (R.take k) ++ filText (R.drop k) := by
    unfold filText
    rw [← List.flatMap_append, List.take_append_drop]
  rw [this, List.length_append]; omega
theorem ruleTxt_len (r : GRule) (h : okR r) : (ruleTxt r).length ≤ 260 := by
  unfold ruleTxt ruleTextL
  have := h.2
  have h2 : (markL r.1).length ≤ 2 := by
    unfold markL
    split
    · decide
    · split <;> decide
  rw [List.length_append]; omega
theorem nodup_ne (R : List GRule) (h : R.Nodup) (n k : Nat) (hn : n < k) (hk : k < R.length) : ruleEq (R[n]'(by omega)).1 (R[n]'(by omega)).2 (R[k]'hk).1 (R[k]'hk).2 = false := by
  cases hq : ruleEq (R[n]'(by omega)).1 (R[n]'(by omega)).2 (R[k]'hk).1 (R[k]'hk).2
  · rfl
  · obtain ⟨h1, h2⟩ := ruleEq_iff.1 hq
    have he : R[n]'(by omega) = R[k]'hk := Prod.ext h1 h2
    exact absurd he (List.pairwise_iff_getElem.1 h n k (by omega) hk hn)
set_option maxRecDepth 100000 in
set_option maxHeartbeats 3000000 in
theorem ruleOnce_at (s : List UInt8) (hs : ¬ (4000 : Int) < s.length) (which : UInt8) (m : Int) (w : World) (hm : HasMax m w) (htz : HasTz w) (hd : HasDec w) :
    Calls Tryz.prog 12 #[.string ⟨s.toArray⟩, .int .u8 (which.toNat : Int)] w fun e w' => e = .returned (.bool true) ∧ Below w.heap.size w w' := by
  have HP : Hid (∀ w, HasMax m w → HasTz w → HasDec w → Calls Tryz.prog 33 #[.string ⟨s.toArray⟩] w (GivesF ruleCod (ruleFile s).1 (ruleFile s).2 w)) := fun w a b c => ruleFile_any s (by omega) m w a b c
  obtain ⟨b1, b2, b3, b4, b5⟩ := ruleFile_bd s (by omega)
  obtain ⟨o1, o2, o3, o4⟩ := file_out s (by omega)
  have hf1 := wf_small ⟨b1.1, by omega⟩
  have hf2 := wf_small b2
  have hf3 := wf_small b3
  obtain ⟨⟨R, fc, fl, fk⟩, hr⟩ : ∃ x, ruleFile s = x := ⟨_, rfl⟩
  rw [hr] at HP hf1 hf2 hf3 b4 b5 o1 o2 o3 o4
  dsimp only at HP hf1 hf2 hf3 b4 b5 o1 o2 o3 o4
  clear hr b1 b2 b3
  have g0 : (Lit.int .i64 0).wf = true := rfl
  have HOK := Lib.hid b4
  have HO1 := Lib.hid o1
  have HND := Lib.hid o2
  have HBK := Lib.hid o3
  clear b4 o1 o2 o3
  have hwt := which.toNat_lt
  generalize which.toNat = wh at *
  go_enter Tryz.func12, Tryz.ntmps12
  go_upto_region 5 with (go_at_call 13; refine (ruleAlive_any m _ (by repeat (first | exact hm | apply HasMax.grown | apply HasMax.alloc | apply HasMax.drew)) (by repeat (first | exact htz | apply HasTz.grown | apply HasTz.alloc | apply HasTz.drew)) (by repeat (first | exact hd | apply HasDec.grown | apply HasDec.alloc | apply HasDec.drew))).mono ?_; rintro e w1 ⟨rfl, hb1⟩; obtain ⟨p1, rfl⟩ := grown_of hb1; clear hb1)
  go_cut [5, 6] (fun s5 s6 wx => ∃ (a : Option Addr) (c b6 lo : Nat), s5 = .slice a R.length c ∧ s6 = .pointer (some ⟨b6, 0, none⟩) ∧ Below w.heap.size w wx ∧ R.length ≤ c ∧ ListIn ruleCod wx a R lo ∧ Var wx b6 (faultR fc fl fk))
  case first =>
    go_wp2_with (go_at_call 33; (with_reducible refine (HP.out _ ?_ ?_ ?_).mono ?_); (exact (by repeat (first | exact hm | apply HasMax.grown | apply HasMax.alloc | apply HasMax.drew))); (exact (by repeat (first | exact htz | apply HasTz.grown | apply HasTz.alloc | apply HasTz.drew))); (exact (by repeat (first | exact hd | apply HasDec.grown | apply HasDec.alloc | apply HasDec.drew))); intro e w1 hg; obtain ⟨a1, c1, rfl, hc1, hb1, hl1⟩ := hg; obtain ⟨p1, rfl⟩ := grown_of hb1; clear hb1)
    go_meet
    exact ⟨_, _, _, _, rfl, rfl, (by repeat (first | exact Below.refl _ _ | assumption | refine below_grown ?_ (by first | omega | (simp [go_sem]; done) | (simp [go_sem] <;> omega)) _ | refine Below.alloc ?_ (by first | omega | (simp [go_sem]; done) | (simp [go_sem] <;> omega)) _ | refine below_bytesW ?_ (by first | omega | (simp [go_sem]; done) | (simp [go_sem] <;> omega)) _ | refine Below.drew ?_ | refine below_drewN ?_ _)), hc1, hl1.alloc _, Var.new _ _ _ rfl (by simp [go_sem])⟩
  case rest =>
  obtain ⟨a, c, b6, lo, rfl, rfl, hbw, hc, hin, hv6⟩ := hcut
  have hbsz := hbw.size
  have hr6 : hasRow wc ⟨b6, 0, none⟩ 3 = true := hv6.hasRow rfl
  have hq6 : rowAt wc ⟨b6, 0, none⟩ 3 = faultV fc fl fk := hv6.rowAt rfl
  have HBC := Lib.hid hbw
  have HIN := Lib.hid hin
  clear hin hv6
  by_cases hz : faultEq fc fl fk 0 0 0 = true
  · obtain ⟨rfl, rfl, rfl⟩ := faultEq_iff.1 hz
    clear HO1 hz
    have HF2 : Hid (∀ w, HasMax m w → HasTz w → HasDec w → Calls Tryz.prog 33 #[.string ⟨(filText R).toArray⟩] w (GivesF ruleCod R (0, 0, 0) w)) := fun w a b c => by
      have := ruleFile_any (filText R) (by omega) m w a b c
      rwa [file_fil R HBK.out HND.out b5 (by omega)] at this
    have HF3 : Hid (∀ r ∈ R, ∀ w, HasMax m w → HasTz w → HasDec w → Calls Tryz.prog 33 #[.string ⟨(filText R ++ ruleTxt r).toArray⟩] w (GivesF ruleCod [] (52, (R.length : Int) + 1, 1) w)) := fun r hr w a b c => by
      have hl := ruleTxt_len r (HOK.out r hr)
      have := ruleFile_any (filText R ++ ruleTxt r) (by rw [List.length_append]; omega) m w a b c
      rwa [file_fil1 R r HBK.out hr HND.out b5 (by rw [List.length_append]; omega)] at this
    clear HBK
    go_wp2
    go_loopw [7, 34] (fun text i wr => ∃ k : Nat, k ≤ R.length ∧ i = .int .i64 k ∧ text = .string ⟨(filText (R.take k)).toArray⟩ ∧ Below wc.heap.size wc wr) (fun _ i _ => R.length - (intOf i).toNat)
    case atStart => exact ⟨0, Nat.zero_le _, rfl, by simp [filText], Below.refl _ _⟩
    case round =>
      obtain ⟨k, hk, rfl, rfl, hbr⟩ := hrel
      have hrsz := hbr.size
      have HBR := Lib.hid hbr
      by_cases hlt : k < R.length
      · obtain ⟨b1, o1, rfl, _, hlt1, hat1⟩ := HIN.out.resolve_left (fun h => by subst h; exact absurd hlt (Nat.not_lt_zero _))
        obtain ⟨rw1, rq1⟩ := ruleRow (hat1.below hbr) k hlt
        have HAT := Lib.hid hat1
        have hok := HOK.out _ (List.getElem_mem hlt)
        have HTK := Lib.hid (filText_take R k hlt)
        have hle := filText_le R k
        have hne : ∀ (n : Nat) (hn : n < k), ruleEq (R[n]'(by omega)).1 (R[n]'(by omega)).2 (R[k]'hlt).1 (R[k]'hlt).2 = false := fun n hn => nodup_ne R HND.out n k hn hlt
        have hkc : (k : Int) ≤ (c : Int) := by omega
        clear hat1 hbr
        obtain ⟨⟨kk, nn⟩, hp⟩ : ∃ r, R[k]'hlt = r := ⟨_, rfl⟩
        rw [hp] at rq1 hok HTK
        simp only [hp] at hne
        have HNE := Lib.hid hne
        clear hne hp
        dsimp only at rq1
        have hk1 : (Lit.int .i64 kk).wf = true := wf_kind' hok.1
        have hn2 : nn.length ≤ 253 := hok.2
        have hn1 : nn.length ≤ maxLen := by unfold maxLen; omega
        have HTX : Hid (∀ w, Calls Tryz.prog 16 #[.agg (ruleV kk nn)] w fun e w' => e = .returned (.string ⟨(ruleTxt (kk, nn)).toArray⟩) ∧ Below w.heap.size w w') := fun w => ruleText_any kk nn (by omega) w
        have htl := ruleTxt_len (kk, nn) hok
        have htk : (filText (R.take k)).length ≤ 4001 := by omega
        generalize ruleTxt (kk, nn) = tx at *
        generalize filText (R.take k) = T at *
        have n1 : ¬ 9223372036854775807 < tx.length + 1 := by omega
        have n2 : ¬ 9223372036854775807 < T.length + (tx.length + 1) := by omega
        clear hok hle
        go_upto_region 12 with fail
        have HB3 : Hid (Below wc.heap.size wc (wr.alloc (Obj.cells (ruleV kk nn) 24))) := HBR.out.alloc (by omega) _
        have HV7 : Hid (Var (wr.alloc (Obj.cells (ruleV kk nn) 24)) wr.heap.size (ruleR kk nn)) := Var.new _ _ _ rfl rfl
        have hsz3 : wr.heap.size + 1 = (wr.alloc (Obj.cells (ruleV kk nn) 24)).heap.size := by simp
        generalize (wr.alloc (Obj.cells (ruleV kk nn) 24)) = w3 at *
        clear rw1 rq1
        go_wp2
        go_loopw [43] (fun j wr' => ∃ n : Nat, n ≤ k ∧ j = .int .i64 n ∧ Below w3.heap.size w3 wr') (fun j _ => k - (intOf j).toNat)
        case atStart => exact ⟨0, Nat.zero_le _, rfl, Below.refl _ _⟩
        case round =>
          obtain ⟨n, hn, rfl, hb'⟩ := hrel
          have hsz4 := hb'.size
          have hv7 := HV7.out.below hb'
          have hB4 : Below wc.heap.size wc wr := HB3.out.trans (hb'.mono (by omega))
          by_cases hnl : n < k
          · obtain ⟨rw2, rq2⟩ := ruleRow (HAT.out.below hB4) n (by omega)
            have hok2 := HOK.out _ (List.getElem_mem (show n < R.length by omega))
            have hne2 := HNE.out n hnl
            obtain ⟨⟨pk, pn⟩, hp⟩ : ∃ r, R[n]'(by omega) = r := ⟨_, rfl⟩
            rw [hp] at rq2 hok2
            simp only [hp] at hne2
            clear hp
            dsimp only at rq2
            have hk3 : (Lit.int .i64 pk).wf = true := wf_kind' hok2.1
            have hn3 : pn.length ≤ maxLen := by have := hok2.2; unfold maxLen; dsimp only at this; omega
            have hr7 : hasRow wr ⟨_, 0, none⟩ 2 = true := hv7.hasRow rfl
            have hq7 : rowAt wr ⟨_, 0, none⟩ 2 = ruleV kk nn := hv7.rowAt rfl
            have hi7 := isOld_iff.2 hv7.lt
            clear hok2 hv7
            go_wp2
            go_roundw
            case rel => exact ⟨n + 1, by omega, by go_num, (by repeat (first | exact Below.refl _ _ | assumption | refine below_grown ?_ (by first | omega | (simp [go_sem]; done) | (simp [go_sem] <;> omega)) _ | refine Below.alloc ?_ (by first | omega | (simp [go_sem]; done) | (simp [go_sem] <;> omega)) _ | refine below_bytesW ?_ (by first | omega | (simp [go_sem]; done) | (simp [go_sem] <;> omega)) _ | refine Below.drew ?_ | refine below_drewN ?_ _))⟩
            case measure => simp [intOf]; omega
          · obtain rfl : n = k := by omega
            have hr7 : hasRow wr ⟨_, 0, none⟩ 2 = true := hv7.hasRow rfl
            have hq7 : rowAt wr ⟨_, 0, none⟩ 2 = ruleV kk nn := hv7.rowAt rfl
            have hi7 := isOld_iff.2 hv7.lt
            clear hv7 hb'
            have hwsz := hB4.size
            go_wp2_with (go_at_call 16; (with_reducible refine (HTX.out _).mono ?_); rintro e w1 ⟨rfl, hb1⟩; obtain ⟨p1, rfl⟩ := grown_of hb1; clear hb1)
            go_roundw
            case rel => (repeat apply Exists.intro); exact ⟨⟨n + 1, by omega, by go_num, by rw [HTK.out], (by repeat (first | exact Below.refl _ _ | assumption | refine below_grown ?_ (by first | omega | (simp [go_sem]; done) | (simp [go_sem] <;> omega)) _ | refine Below.alloc ?_ (by first | omega | (simp [go_sem]; done) | (simp [go_sem] <;> omega)) _ | refine below_bytesW ?_ (by first | omega | (simp [go_sem]; done) | (simp [go_sem] <;> omega)) _ | refine Below.drew ?_ | refine below_drewN ?_ _))⟩, rfl⟩
            case measure => simp [intOf]; omega
      · obtain rfl : k = R.length := by omega
        rw [List.take_length]
        have hbw2 : Below w.heap.size w wr := HBC.out.trans (hbr.mono (by omega))
        have hm1 := hm.below hbw2
        have htz1 := htz.below hbw2
        have hd1 := hd.below hbw2
        have hw2sz := hbw2.size
        have HIN2 : Hid (ListIn ruleCod wr a R lo) := HIN.out.below hbr
        have hin2 := HIN2.out
        have HS := Lib.hid (fun a b ca cb la lb w (h : ListIn ruleCod w a R la) (h' : ListIn ruleCod w b R lb) => refSameR_any R a b ca cb la lb b5 HOK.out w h h')
        have he0 : faultEq 0 0 0 0 0 0 = true := rfl
        by_cases hR0 : R.length = 0
        · obtain rfl : R = [] := List.length_eq_zero_iff.1 hR0
          clear hR0 HF3 HND HOK HIN HIN2
          have hm := hm1
          have htz := htz1
          have hd := hd1
          go_wp2_with (first
            | (go_at_call 33; (with_reducible refine (HF2.out _ ?_ ?_ ?_).mono ?_); (exact (by repeat (first | exact hm | apply HasMax.grown | apply HasMax.alloc | apply HasMax.drew))); (exact (by repeat (first | exact htz | apply HasTz.grown | apply HasTz.alloc | apply HasTz.drew))); (exact (by repeat (first | exact hd | apply HasDec.grown | apply HasDec.alloc | apply HasDec.drew))); intro e w1 hg; obtain ⟨a2, c2, rfl, hc2, hb1, hl2⟩ := hg; obtain ⟨p1, rfl⟩ := grown_of hb1; clear hb1)
            | (go_at_call 34; refine (HS.out _ _ _ _ _ _ _ (by repeat (first | (with_reducible exact hin2) | (with_reducible exact hl2) | (with_reducible apply ListIn.grown) | (with_reducible apply ListIn.alloc))) (by repeat (first | (with_reducible exact hl2) | (with_reducible exact hin2) | (with_reducible apply ListIn.grown) | (with_reducible apply ListIn.alloc)))).mono ?_; rintro e w1 ⟨rfl, hb1⟩; obtain ⟨p1, rfl⟩ := grown_of hb1; clear hb1))
          go_ret
          exact ⟨by first | rfl | exact ret_bool (by simp), (by repeat (first | exact Below.refl _ _ | assumption | refine below_grown ?_ (by first | omega | (simp [go_sem]; done) | (simp [go_sem] <;> omega)) _ | refine Below.alloc ?_ (by first | omega | (simp [go_sem]; done) | (simp [go_sem] <;> omega)) _ | refine below_bytesW ?_ (by first | omega | (simp [go_sem]; done) | (simp [go_sem] <;> omega)) _ | refine Below.drew ?_ | refine below_drewN ?_ _))⟩
        · have h0 : ((R.length : Int) == 0) = false := by rw [beq_eq_false_iff_ne]; omega
          have hpos : 0 < R.length := by omega
          obtain ⟨b1, o1, rfl, _, hlt1, hat1⟩ := HIN2.out.resolve_left (fun h => by rw [h] at hR0; exact hR0 rfl)
          have hj := Nat.mod_lt wh hpos
          have hmod : (wh : Int).tmod (R.length : Int) = ((wh % R.length : Nat) : Int) := tmod_nat wh R.length
          generalize wh % R.length = j at *
          obtain ⟨rw1, rq1⟩ := ruleRow hat1 j hj
          have hi1 : isOld b1 wr = true := isOld_iff.2 hlt1
          have hji : (j : Int) < (R.length : Int) := by omega
          have hwj : IntKind.i64.wrap (j : Int) = (j : Int) := IntWalk.i64_in _ (by omega)
          have hwh : IntKind.i64.wrap (wh : Int) = (wh : Int) := IntWalk.i64_in _ (by omega)
          have hok := HOK.out _ (List.getElem_mem hj)
          have HF4 := Lib.hid (HF3.out _ (List.getElem_mem hj))
          obtain ⟨⟨kk, nn⟩, hp⟩ : ∃ r, R[j]'hj = r := ⟨_, rfl⟩
          rw [hp] at rq1 hok HF4
          clear hp HF3
          dsimp only at rq1
          have hn2 : nn.length ≤ 253 := hok.2
          have HTX : Hid (∀ w, Calls Tryz.prog 16 #[.agg (ruleV kk nn)] w fun e w' => e = .returned (.string ⟨(ruleTxt (kk, nn)).toArray⟩) ∧ Below w.heap.size w w') := fun w => ruleText_any kk nn (by omega) w
          have htl := ruleTxt_len (kk, nn) hok
          have hfl : (filText R).length ≤ 4001 := o4
          generalize ruleTxt (kk, nn) = tx at *
          generalize filText R = FT at *
          have n1 : ¬ 9223372036854775807 < FT.length + tx.length := by omega
          have hwl : IntKind.i64.wrap ((R.length : Int) + 1) = (R.length : Int) + 1 := IntWalk.i64_in _ (by omega)
          have g52 : (Lit.int .i64 52).wf = true := rfl
          have g1 : (Lit.int .i64 1).wf = true := rfl
          have gl : (Lit.int .i64 ((R.length : Int) + 1)).wf = true := wf_small (by omega)
          have he52 : faultEq 52 ((R.length : Int) + 1) 1 52 ((R.length : Int) + 1) 1 = true := faultEq_iff.2 ⟨rfl, rfl, rfl⟩
          clear hok hR0 HND HOK HIN HIN2 hat1
          have hm := hm1
          have htz := htz1
          have hd := hd1
          go_wp2_with (first
            | (go_at_call 33; (with_reducible refine (HF2.out _ ?_ ?_ ?_).mono ?_); (exact (by repeat (first | exact hm | apply HasMax.grown | apply HasMax.alloc | apply HasMax.drew))); (exact (by repeat (first | exact htz | apply HasTz.grown | apply HasTz.alloc | apply HasTz.drew))); (exact (by repeat (first | exact hd | apply HasDec.grown | apply HasDec.alloc | apply HasDec.drew))); intro e w1 hg; obtain ⟨a2, c2, rfl, hc2, hb1, hl2⟩ := hg; obtain ⟨p1, rfl⟩ := grown_of hb1; clear hb1)
            | (go_at_call 33; (with_reducible refine (HF4.out _ ?_ ?_ ?_).mono ?_); (exact (by repeat (first | exact hm | apply HasMax.grown | apply HasMax.alloc | apply HasMax.drew))); (exact (by repeat (first | exact htz | apply HasTz.grown | apply HasTz.alloc | apply HasTz.drew))); (exact (by repeat (first | exact hd | apply HasDec.grown | apply HasDec.alloc | apply HasDec.drew))); intro e w1 hg; obtain ⟨a3, c3, rfl, hc3, hb1, hl3⟩ := hg; obtain ⟨p1, rfl⟩ := grown_of hb1; clear hb1)
            | (go_at_call 16; (with_reducible refine (HTX.out _).mono ?_); rintro e w1 ⟨rfl, hb1⟩; obtain ⟨p1, rfl⟩ := grown_of hb1; clear hb1)
            | (go_at_call 34; refine (HS.out _ _ _ _ _ _ _ (by repeat (first | (with_reducible exact hin2) | (with_reducible exact hl2) | (with_reducible apply ListIn.grown) | (with_reducible apply ListIn.alloc))) (by repeat (first | (with_reducible exact hl2) | (with_reducible exact hin2) | (with_reducible apply ListIn.grown) | (with_reducible apply ListIn.alloc)))).mono ?_; rintro e w1 ⟨rfl, hb1⟩; obtain ⟨p1, rfl⟩ := grown_of hb1; clear hb1))
          go_ret
          exact ⟨by first | rfl | exact ret_bool (by simp), (by repeat (first | exact Below.refl _ _ | assumption | refine below_grown ?_ (by first | omega | (simp [go_sem]; done) | (simp [go_sem] <;> omega)) _ | refine Below.alloc ?_ (by first | omega | (simp [go_sem]; done) | (simp [go_sem] <;> omega)) _ | refine below_bytesW ?_ (by first | omega | (simp [go_sem]; done) | (simp [go_sem] <;> omega)) _ | refine Below.drew ?_ | refine below_drewN ?_ _))⟩
  · have hz1 : faultEq fc fl fk 0 0 0 = false := by simpa using hz
    have hR : R = [] := by
      rcases HO1.out with h | h
      · obtain ⟨h1, h2⟩ := Prod.mk.inj h
        obtain ⟨h2, h3⟩ := Prod.mk.inj h2
        exact absurd (faultEq_iff.2 ⟨h1, h2, h3⟩) hz
      · exact h
    subst hR
    clear hz
    go_wp2
    go_ret
    exact ⟨by first | rfl | exact ret_bool (by simp), (by repeat (first | exact Below.refl _ _ | assumption | refine below_grown ?_ (by first | omega | (simp [go_sem]; done) | (simp [go_sem] <;> omega)) _ | refine Below.alloc ?_ (by first | omega | (simp [go_sem]; done) | (simp [go_sem] <;> omega)) _ | refine below_bytesW ?_ (by first | omega | (simp [go_sem]; done) | (simp [go_sem] <;> omega)) _ | refine Below.drew ?_ | refine below_drewN ?_ _))⟩
set_option maxHeartbeats 1000000 in
theorem ruleOnce_law (s : List UInt8) (which : UInt8) (m : Int) (w : World) (hm : HasMax m w) (htz : HasTz w) (hd : HasDec w) :
    Calls Tryz.prog 12 #[.string ⟨s.toArray⟩, .int .u8 (which.toNat : Int)] w fun e w' => e = .returned (.bool true) ∧ Below w.heap.size w w' := by
  by_cases h1 : (4000 : Int) < s.length
  · go_enter Tryz.func12, Tryz.ntmps12
    go_wp2_with (go_at_call 13; refine (ruleAlive_any m _ (by repeat (first | exact hm | apply HasMax.grown | apply HasMax.alloc | apply HasMax.drew)) (by repeat (first | exact htz | apply HasTz.grown | apply HasTz.alloc | apply HasTz.drew)) (by repeat (first | exact hd | apply HasDec.grown | apply HasDec.alloc | apply HasDec.drew))).mono ?_; rintro e w1 ⟨rfl, hb1⟩; obtain ⟨p1, rfl⟩ := grown_of hb1; clear hb1)
    go_ret
    exact ⟨rfl, (by repeat (first | exact Below.refl _ _ | assumption | refine below_grown ?_ (by first | omega | (simp [go_sem]; done) | (simp [go_sem] <;> omega)) _ | refine Below.alloc ?_ (by first | omega | (simp [go_sem]; done) | (simp [go_sem] <;> omega)) _ | refine below_bytesW ?_ (by first | omega | (simp [go_sem]; done) | (simp [go_sem] <;> omega)) _ | refine Below.drew ?_ | refine below_drewN ?_ _))⟩
  · exact ruleOnce_at s h1 which m w hm htz hd
end
end Go.Proofs.YtlegjkjicdpeeaaGreatDoor
