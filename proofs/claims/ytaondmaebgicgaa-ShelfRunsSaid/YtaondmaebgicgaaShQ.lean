/- What the shelf's doings are to the list, plain. -/
import Derived.Test.YtaondmaebgicgaaShP
namespace Go.Proofs.Ytaondmaebgicgaa
open Go Go.RowKit
set_option maxRecDepth 20000
set_option linter.unusedSimpArgs false
set_option linter.unusedVariables false

theorem Keeps.of_grown {w w' : World} {b : Nat} (h : w.grownBy w' (some b)) : Keeps (fun k => k = b) w w' :=
  ⟨h.os, h.tape, h.output, h.size, fun k hk hq => h.block k hk (fun e => hq (by simpa using e))⟩
def dropW (W : List GKept) (c : GCookie) : List GKept := W.filter (fun k => !samePl k.1 c)
theorem placeLit_key (c : GCookie) {kl : Lit} (h : (placeLit c).sameKey kl = true) : placeLit c = kl := Go.WideAt.sameKey_eq h
theorem sameKey_symm {a b : Lit} (h : a.sameKey b = true) : b.sameKey a = true := by
  have e := Go.WideAt.sameKey_eq h
  subst e
  exact h
theorem allF_drop (W : List GKept) (c : GCookie) : (fun kl => if kl.sameKey (placeLit c) = true then none else allF W kl) = allF (dropW W c) := by
  funext kl
  unfold allF dropW
  rw [List.find?_filter]
  by_cases h : kl.sameKey (placeLit c) = true
  · rw [if_pos h]
    have e := Go.WideAt.sameKey_eq h
    subst e
    have : (fun k : GKept => decide ((!samePl k.1 c) = true ∧ (placeLit k.1).sameKey (placeLit c) = true)) = fun _ => false := by
      funext k
      rw [placeLit_same]
      cases samePl k.1 c <;> rfl
    rw [this, List.find?_eq_none.2 (by intro x hx h; cases h)]
    rfl
  · rw [if_neg h]
    have : (fun k : GKept => decide ((!samePl k.1 c) = true ∧ (placeLit k.1).sameKey kl = true)) = fun k : GKept => (placeLit k.1).sameKey kl := by
      funext k
      cases h2 : (placeLit k.1).sameKey kl
      · simp
      · have e := Go.WideAt.sameKey_eq h2
        cases h3 : samePl k.1 c
        · rfl
        · exfalso
          rw [← placeLit_same, e] at h3
          exact h h3
    rw [this]
theorem drop_none {W : List GKept} {c : GCookie} (h : findW W c = none) : dropW W c = W := by
  unfold findW at h
  rw [List.find?_eq_none] at h
  unfold dropW
  rw [List.filter_eq_self]
  intro k hk
  have := h k hk
  simpa using this
theorem find_place {W : List GKept} {c : GCookie} {k : GKept} (h : findW W c = some k) : samePl k.1 c = true := by
  have := List.find?_some h
  exact this
/-- A list in which none but one stands in a place: ahead of it, it, behind it. -/
theorem find_split {W : List GKept} (hA : Apart W) {c : GCookie} {k : GKept} (h : findW W c = some k) : ∃ A B, W = A ++ k :: B ∧ dropW W c = A ++ B := by
  induction W with
  | nil => cases h
  | cons x W ih =>
    unfold findW at h
    rw [List.find?_cons] at h
    have hA2 := List.pairwise_cons.1 hA
    cases hx : samePl x.1 c
    · rw [hx] at h
      obtain ⟨A, B, h1, h2⟩ := ih hA2.2 h
      refine ⟨x :: A, B, by rw [h1]; rfl, ?_⟩
      unfold dropW at h2 ⊢
      rw [List.filter_cons, hx]
      simp [h2]
    · rw [hx] at h
      simp only [Option.some.injEq] at h
      subst h
      refine ⟨[], W, rfl, ?_⟩
      unfold dropW
      rw [List.filter_cons, hx]
      simp only [Bool.not_true, Bool.false_eq_true, if_false, List.nil_append]
      rw [List.filter_eq_self]
      intro y hy
      have := hA2.1 y hy
      rw [samePl_trans hx, samePl_symm] at this
      simp [this]
theorem drop_length {W : List GKept} (hA : Apart W) (c : GCookie) : (dropW W c).length = if (allF W (placeLit c)).isSome = true then W.length - 1 else W.length := by
  rw [allF_at]
  cases h : findW W c with
  | none => rw [drop_none h]; simp
  | some k =>
    obtain ⟨A, B, h1, h2⟩ := find_split hA h
    rw [h2, h1]
    simp
theorem drop_apart {W : List GKept} (hA : Apart W) (c : GCookie) : Apart (dropW W c) := List.Pairwise.filter _ hA
theorem count_drop {W : List GKept} (hA : Apart W) {c : GCookie} {k : GKept} (h : findW W c = some k) (s : List UInt8) : countW W s = countW (dropW W c) s + (if k.2 = s then 1 else 0) := by
  obtain ⟨A, B, h1, h2⟩ := find_split hA h
  rw [h2, h1]
  unfold countW
  rw [List.filter_append, List.filter_append, List.filter_cons]
  by_cases e : k.2 = s
  · simp [e]
    omega
  · simp [e]
theorem sitesF_str (W : List GKept) (s : List UInt8) : sitesF W (.string s) = if 0 < countW W s then some (.int .i64 (countW W s : Nat)) else none := rfl
/-- One site's count set anew. -/
theorem sitesF_set {W W' : List GKept} (s : List UInt8) (hs : Go.WideAt.IsKeyLit (Lit.string s)) (ho : ∀ x, x ≠ s → countW W' x = countW W x) (hn : 0 < countW W' s) :
    (fun kl => if kl.sameKey (.string s) = true then some (Value.int .i64 (countW W' s : Nat)) else sitesF W kl) = sitesF W' := by
  funext kl
  by_cases h : kl.sameKey (.string s) = true
  · rw [if_pos h]
    have e := Go.WideAt.sameKey_eq h
    subst e
    rw [sitesF_str, if_pos hn]
  · rw [if_neg h]
    cases kl with
    | string x =>
      have hx : x ≠ s := by
        rintro rfl
        exact h (Go.WideAt.sameKey_self hs)
      rw [sitesF_str, sitesF_str, ho x hx]
    | _ => rfl
theorem sitesF_cut {W W' : List GKept} {v : Value} (s : List UInt8) (hs : Go.WideAt.IsKeyLit (Lit.string s)) (ho : ∀ x, x ≠ s → countW W' x = countW W x) (hn : countW W' s = 0) :
    (fun kl => if kl.sameKey (.string s) = true then none else (if kl.sameKey (.string s) = true then some v else sitesF W kl)) = sitesF W' := by
  funext kl
  by_cases h : kl.sameKey (.string s) = true
  · rw [if_pos h]
    have e := Go.WideAt.sameKey_eq h
    subst e
    rw [sitesF_str, if_neg (by omega)]
  · rw [if_neg h, if_neg h]
    cases kl with
    | string x =>
      have hx : x ≠ s := by
        rintro rfl
        exact h (Go.WideAt.sameKey_self hs)
      rw [sitesF_str, sitesF_str, ho x hx]
    | _ => rfl
end Go.Proofs.Ytaondmaebgicgaa
