/- Putting, using, expiring, as what they are to the list, plain. -/
import Derived.Test.YtaondmaebgicgaaShS
namespace Go.Proofs.Ytaondmaebgicgaa
open Go Go.RowKit
set_option maxRecDepth 20000
set_option linter.unusedSimpArgs false
set_option linter.unusedVariables false

/-- The one that stands in a place is another. -/
def replW (W : List GKept) (c : GCookie) (x : GKept) : List GKept := W.map (fun y => if samePl y.1 c = true then x else y)
def putC (c : GCookie) (k : GKept) : GCookie := { c with born := k.1.born, hborn := k.1.hborn, seq := k.1.seq, hseq := k.1.hseq }
def newC (c : GCookie) (n : Int) (h : (Lit.int .i64 n).wf = true) : GCookie := { c with seq := n, hseq := h }
def useC (k : GCookie) (now : Int) (h : (Lit.int .i64 now).wf = true) : GCookie := { k with used := now, hused := h }
def expW (W : List GKept) (now : Int) : List GKept := W.filter (fun k => decide (now < k.1.expires))
theorem place_put (c : GCookie) (k : GKept) : placeV (putC c k) = placeV c := rfl
theorem place_new (c : GCookie) (n : Int) (h : (Lit.int .i64 n).wf = true) : placeV (newC c n h) = placeV c := rfl
theorem place_use (c : GCookie) (n : Int) (h : (Lit.int .i64 n).wf = true) : placeV (useC c n h) = placeV c := rfl
theorem samePl_of {c d : GCookie} (h : placeV c = placeV d) : samePl c d = true := placeV_same.1 h
theorem samePl_trans' {a b c : GCookie} (h : samePl b c = true) : samePl a b = samePl a c := by rw [samePl_symm, samePl_trans h, samePl_symm]
theorem repl_split {W : List GKept} (hA : Apart W) {c : GCookie} {k x : GKept} (h : findW W c = some k) : ∃ A B, W = A ++ k :: B ∧ dropW W c = A ++ B ∧ replW W c x = A ++ x :: B := by
  induction W with
  | nil => cases h
  | cons y W ih =>
    unfold findW at h
    rw [List.find?_cons] at h
    have hA2 := List.pairwise_cons.1 hA
    cases hx : samePl y.1 c
    · rw [hx] at h
      obtain ⟨A, B, h1, h2, h3⟩ := ih hA2.2 h
      refine ⟨y :: A, B, by rw [h1]; rfl, ?_, ?_⟩
      · unfold dropW at h2 ⊢
        rw [List.filter_cons, hx]
        simp [h2]
      · unfold replW at h3 ⊢
        rw [List.map_cons, hx, h3]
        simp
    · rw [hx] at h
      simp only [Option.some.injEq] at h
      subst h
      have hn : ∀ z ∈ W, samePl z.1 c = false := fun z hz => by
        have := hA2.1 z hz
        rw [samePl_trans hx, samePl_symm] at this
        exact this
      refine ⟨[], W, rfl, ?_, ?_⟩
      · unfold dropW
        rw [List.filter_cons, hx]
        simp only [Bool.not_true, Bool.false_eq_true, if_false, List.nil_append]
        rw [List.filter_eq_self]
        intro z hz
        simp [hn z hz]
      · unfold replW
        rw [List.map_cons, hx, if_pos rfl, List.nil_append]
        congr 1
        rw [List.map_congr_left (g := id), List.map_id]
        intro z hz
        simp [hn z hz]
theorem find_repl {W : List GKept} {c : GCookie} {k x : GKept} (h : findW W c = some k) (hx : samePl x.1 c = true) : findW (replW W c x) c = some x := by
  unfold findW replW at *
  rw [List.find?_map]
  have : ((fun k => samePl k.1 c) ∘ fun y => if samePl y.1 c = true then x else y) = fun k : GKept => samePl k.1 c := by
    funext y
    simp only [Function.comp]
    cases hy : samePl y.1 c
    · simp [hy]
    · simp [hx]
  rw [this, h]
  have := List.find?_some h
  simp only [Option.map_some, this, if_true]
theorem allF_other {W W' : List GKept} {c : GCookie} {kl : Lit} (h : kl.sameKey (placeLit c) = false) (he : W'.filter (fun k => !samePl k.1 c) = W.filter (fun k => !samePl k.1 c)) : allF W' kl = allF W kl := by
  have e1 := congrFun (allF_drop W c) kl
  have e2 := congrFun (allF_drop W' c) kl
  simp only [h, Bool.false_eq_true, if_false] at e1 e2
  rw [e1, e2]
  unfold dropW
  rw [he]
theorem allF_at' {W : List GKept} {c : GCookie} {kl : Lit} (h : kl.sameKey (placeLit c) = true) : allF W kl = (findW W c).map (fun k => .agg (keptV k)) := by
  have e := Go.WideAt.sameKey_eq h
  subst e
  exact allF_at W c
theorem repl_filter {W : List GKept} {c : GCookie} {x : GKept} (hx : samePl x.1 c = true) : (replW W c x).filter (fun k => !samePl k.1 c) = W.filter (fun k => !samePl k.1 c) := by
  induction W with
  | nil => rfl
  | cons y W ih =>
    unfold replW at ih ⊢
    rw [List.map_cons, List.filter_cons, List.filter_cons, ih]
    cases hy : samePl y.1 c
    · simp [hy]
    · simp [hx]
/-- The map behind a store in a place that something stood in. -/
theorem allF_repl {W : List GKept} {c : GCookie} {k x : GKept} (h : findW W c = some k) (hx : samePl x.1 c = true) : (fun kl => if kl.sameKey (placeLit c) = true then some (.agg (keptV x)) else allF W kl) = allF (replW W c x) := by
  funext kl
  cases hk : kl.sameKey (placeLit c)
  · rw [if_neg (by decide)]
    exact (allF_other hk (repl_filter hx)).symm
  · rw [if_pos rfl, allF_at' hk, find_repl h hx]
    rfl
theorem allF_repl_drop {W : List GKept} {c : GCookie} {k x : GKept} (h : findW W c = some k) (hx : samePl x.1 c = true) : (fun kl => if kl.sameKey (placeLit c) = true then some (.agg (keptV x)) else allF (dropW W c) kl) = allF (replW W c x) := by
  rw [← allF_repl h hx]
  funext kl
  cases hk : kl.sameKey (placeLit c)
  · rw [if_neg (by decide), if_neg (by decide)]
    have := congrFun (allF_drop W c) kl
    simp only [hk, Bool.false_eq_true, if_false] at this
    exact this.symm
  · rfl
theorem find_snoc {W : List GKept} {c : GCookie} {x : GKept} (h : findW W c = none) (hx : samePl x.1 c = true) : findW (W ++ [x]) c = some x := by
  unfold findW at *
  rw [List.find?_append, h]
  simp [hx]
theorem allF_snoc {W : List GKept} {c : GCookie} {x : GKept} (h : findW W c = none) (hx : samePl x.1 c = true) : (fun kl => if kl.sameKey (placeLit c) = true then some (.agg (keptV x)) else allF W kl) = allF (W ++ [x]) := by
  funext kl
  cases hk : kl.sameKey (placeLit c)
  · rw [if_neg (by decide)]
    refine (allF_other hk ?_).symm
    rw [List.filter_append]
    simp [hx]
  · rw [if_pos rfl, allF_at' hk, find_snoc h hx]
    rfl
theorem repl_length (W : List GKept) (c : GCookie) (x : GKept) : (replW W c x).length = W.length := by simp [replW]
theorem find_drop (W : List GKept) (c : GCookie) : findW (dropW W c) c = none := by
  unfold findW dropW
  rw [List.find?_eq_none]
  intro x hx
  have := (List.mem_filter.1 hx).2
  simpa using this
theorem count_repl {W : List GKept} (hA : Apart W) {c : GCookie} {k x : GKept} (h : findW W c = some k) (s : List UInt8) : countW (replW W c x) s = countW (dropW W c) s + (if x.2 = s then 1 else 0) := by
  obtain ⟨A, B, h1, h2, h3⟩ := repl_split (x := x) hA h
  rw [h2, h3]
  unfold countW
  rw [List.filter_append, List.filter_append, List.filter_cons]
  by_cases e : x.2 = s
  · simp [e]
    omega
  · simp [e]
theorem count_snoc (W : List GKept) (x : GKept) (s : List UInt8) : countW (W ++ [x]) s = countW W s + (if x.2 = s then 1 else 0) := by
  unfold countW
  rw [List.filter_append, List.filter_cons]
  by_cases e : x.2 = s
  · simp [e]
  · simp [e]
theorem apart_snoc {W : List GKept} (hA : Apart W) {c : GCookie} {x : GKept} (h : findW W c = none) (hx : samePl x.1 c = true) : Apart (W ++ [x]) := by
  unfold Apart
  rw [List.pairwise_append]
  refine ⟨hA, by simp, ?_⟩
  intro a ha b hb
  simp only [List.mem_singleton] at hb
  subst hb
  unfold findW at h
  rw [List.find?_eq_none] at h
  have := h a ha
  rw [samePl_trans' hx]
  simpa using this
theorem apart_repl {W : List GKept} (hA : Apart W) {c : GCookie} {k x : GKept} (h : findW W c = some k) (hx : samePl x.1 c = true) : Apart (replW W c x) := by
  obtain ⟨A, B, h1, h2, h3⟩ := repl_split (x := x) hA h
  have hk := find_place h
  unfold Apart at *
  rw [h1, List.pairwise_append, List.pairwise_cons] at hA
  rw [h3, List.pairwise_append, List.pairwise_cons]
  obtain ⟨q1, ⟨q2, q3⟩, q4⟩ := hA
  have hxk : samePl x.1 k.1 = true := by rw [samePl_trans hx, samePl_symm]; exact hk
  refine ⟨q1, ⟨fun b hb => by rw [samePl_trans hxk]; exact q2 b hb, q3⟩, fun a ha b hb => ?_⟩
  rcases List.mem_cons.1 hb with rfl | hb
  · rw [samePl_trans' hxk]
    exact q4 a ha k (by simp)
  · exact q4 a ha b (by simp [hb])
theorem drop_len {W : List GKept} (hA : Apart W) {c : GCookie} {k : GKept} (h : findW W c = some k) : (dropW W c).length + 1 = W.length := by
  obtain ⟨A, B, h1, h2⟩ := find_split hA h
  rw [h2, h1]
  simp
  omega
/-! ### what the list is like -/
/-- Numbers rise, none beyond the last; none twice in a place; sites' names fit. -/
structure OkW (W : List GKept) (last : Nat) : Prop where
  apart : Apart W
  rises : W.Pairwise (fun a b => a.1.seq < b.1.seq)
  most : ∀ k ∈ W, 1 ≤ k.1.seq ∧ k.1.seq ≤ (last : Int)
  site : ∀ k ∈ W, k.2.length ≤ maxLen
theorem OkW.nil : OkW [] 0 := ⟨List.Pairwise.nil, List.Pairwise.nil, fun _ h => (List.not_mem_nil h).elim, fun _ h => (List.not_mem_nil h).elim⟩
theorem OkW.filter {W : List GKept} {last : Nat} (h : OkW W last) (p : GKept → Bool) : OkW (W.filter p) last :=
  ⟨List.Pairwise.filter _ h.apart, List.Pairwise.filter _ h.rises, fun k hk => h.most k (List.mem_filter.1 hk).1, fun k hk => h.site k (List.mem_filter.1 hk).1⟩
theorem OkW.snoc {W : List GKept} {last : Nat} (h : OkW W last) {c : GCookie} {x : GKept} (hf : findW W c = none) (hx : samePl x.1 c = true) (hs : x.1.seq = ((last + 1 : Nat) : Int)) (hl : x.2.length ≤ maxLen) : OkW (W ++ [x]) (last + 1) := by
  refine ⟨apart_snoc h.apart hf hx, ?_, ?_, ?_⟩
  · rw [List.pairwise_append]
    refine ⟨h.rises, by simp, fun a ha b hb => ?_⟩
    simp only [List.mem_singleton] at hb
    subst hb
    have := (h.most a ha).2
    omega
  · intro k hk
    rcases List.mem_append.1 hk with hk | hk
    · have := h.most k hk
      omega
    · simp only [List.mem_singleton] at hk
      subst hk
      omega
  · intro k hk
    rcases List.mem_append.1 hk with hk | hk
    · exact h.site k hk
    · simp only [List.mem_singleton] at hk
      subst hk
      exact hl
theorem OkW.repl {W : List GKept} {last : Nat} (h : OkW W last) {c : GCookie} {k x : GKept} (hf : findW W c = some k) (hx : samePl x.1 c = true) (hs : x.1.seq = k.1.seq) (hl : x.2.length ≤ maxLen) : OkW (replW W c x) last := by
  obtain ⟨A, B, h1, h2, h3⟩ := repl_split (x := x) h.apart hf
  refine ⟨apart_repl h.apart hf hx, ?_, ?_, ?_⟩
  · have hr := h.rises
    rw [h1, List.pairwise_append, List.pairwise_cons] at hr
    rw [h3, List.pairwise_append, List.pairwise_cons]
    obtain ⟨q1, ⟨q2, q3⟩, q4⟩ := hr
    refine ⟨q1, ⟨fun b hb => by rw [hs]; exact q2 b hb, q3⟩, fun a ha b hb => ?_⟩
    rcases List.mem_cons.1 hb with rfl | hb
    · rw [hs]; exact q4 a ha k (by simp)
    · exact q4 a ha b (by simp [hb])
  · intro y hy
    rw [h3] at hy
    rcases List.mem_append.1 hy with hy | hy
    · exact h.most y (by rw [h1]; simp [hy])
    · rcases List.mem_cons.1 hy with rfl | hy
      · rw [hs]; exact h.most k (by rw [h1]; simp)
      · exact h.most y (by rw [h1]; simp [hy])
  · intro y hy
    rw [h3] at hy
    rcases List.mem_append.1 hy with hy | hy
    · exact h.site y (by rw [h1]; simp [hy])
    · rcases List.mem_cons.1 hy with rfl | hy
      · exact hl
      · exact h.site y (by rw [h1]; simp [hy])
theorem find_mem {W : List GKept} {c : GCookie} {k : GKept} (h : findW W c = some k) : k ∈ W := List.mem_of_find?_eq_some h
end Go.Proofs.Ytaondmaebgicgaa
