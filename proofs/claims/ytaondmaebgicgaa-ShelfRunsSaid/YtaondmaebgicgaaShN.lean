/- Ranging over the shelf's map: what has come, what is left. -/
import Derived.Test.YtaondmaebgicgaaShL
namespace Go.Proofs.Ytaondmaebgicgaa
open Go Go.RowKit
set_option maxRecDepth 20000
set_option linter.unusedSimpArgs false
set_option linter.unusedVariables false

/-- These have come; the others of the list are left. -/
def ColW (W : List GKept) (left : Lit → Bool) (ps : List GKept) : Prop := ∃ rest, (ps ++ rest).Perm W ∧ ∀ kl, left kl = rest.any (fun k => (placeLit k.1).sameKey kl)
theorem allF_some {W : List GKept} {kl : Lit} : (allF W kl).isSome = W.any (fun k => (placeLit k.1).sameKey kl) := by
  unfold allF
  rw [Option.isSome_map, Bool.eq_iff_iff, List.find?_isSome, List.any_eq_true]
theorem colW_start (W : List GKept) : ColW W (fun kl => (allF W kl).isSome) [] := ⟨W, List.Perm.refl _, fun kl => allF_some⟩
theorem ColW.isSome {W : List GKept} {left : Lit → Bool} {ps : List GKept} (h : ColW W left ps) : ∀ kl, left kl = true → (allF W kl).isSome = true := by
  obtain ⟨rest, hp, hl⟩ := h
  intro kl h1
  rw [hl, List.any_eq_true] at h1
  obtain ⟨k, hk, hs⟩ := h1
  rw [allF_some, List.any_eq_true]
  exact ⟨k, hp.subset (List.mem_append_right _ hk), hs⟩
theorem ColW.done {W : List GKept} {left : Lit → Bool} {ps : List GKept} (h : ColW W left ps) (hl : ∀ kl, left kl = false) : ps.Perm W := by
  obtain ⟨rest, hp, hh⟩ := h
  cases rest with
  | nil => simpa using hp
  | cons k rest =>
    have := hh (placeLit k.1)
    rw [hl, List.any_cons, placeLit_same, samePl_refl] at this
    simp at this
theorem apart_eq {W : List GKept} (hA : Apart W) {k k' : GKept} (hk : k ∈ W) (hk' : k' ∈ W) (h : samePl k.1 k'.1 = true) : k = k' := by
  induction W with
  | nil => cases hk
  | cons x W ih =>
    have hA2 := List.pairwise_cons.1 hA
    rcases List.mem_cons.1 hk with rfl | hk1
    · rcases List.mem_cons.1 hk' with rfl | hk'2
      · rfl
      · rw [hA2.1 _ hk'2] at h; cases h
    · rcases List.mem_cons.1 hk' with rfl | hk'
      · rw [samePl_symm, hA2.1 _ hk1] at h; cases h
      · exact ih hA2.2 hk1 hk'
theorem apart_perm {W W' : List GKept} (h : W'.Perm W) (hA : Apart W) : Apart W' := (h.pairwise_iff (R := fun a b : GKept => samePl a.1 b.1 = false) (fun {x y} hxy => by rw [samePl_symm]; exact hxy)).2 hA
theorem ColW.step {W : List GKept} (hA : Apart W) {left : Lit → Bool} {ps : List GKept} (h : ColW W left ps) {kl : Lit} {v : Value} (hl : left kl = true) (hv : allF W kl = some v) :
    ∃ k, v = .agg (keptV k) ∧ k ∈ W ∧ ColW W (fun x => left x && !x.sameKey kl) (ps ++ [k]) := by
  obtain ⟨rest, hp, hh⟩ := h
  rw [hh, List.any_eq_true] at hl
  obtain ⟨k, hk, hs⟩ := hl
  have hkW : k ∈ W := hp.subset (List.mem_append_right _ hk)
  have e := Go.WideAt.sameKey_eq hs
  refine ⟨k, ?_, hkW, ?_⟩
  · unfold allF at hv
    rw [Option.map_eq_some_iff] at hv
    obtain ⟨k', hf, rfl⟩ := hv
    have h1 := List.mem_of_find?_eq_some hf
    have h2 := List.find?_some hf
    rw [← e, placeLit_same] at h2
    rw [apart_eq hA h1 hkW h2]
  · obtain ⟨A, B, rfl⟩ := List.append_of_mem hk
    refine ⟨A ++ B, ?_, ?_⟩
    · refine List.Perm.trans ?_ hp
      rw [List.append_assoc, List.singleton_append]
      exact List.Perm.append_left ps (List.perm_middle.symm)
    · have hA2 := apart_perm hp hA
      have hA3 : Apart (A ++ k :: B) := (List.pairwise_append.1 hA2).2.1
      have hno : ∀ y ∈ A ++ B, samePl y.1 k.1 = false := by
        intro y hy
        have h4 := List.pairwise_append.1 hA3
        rcases List.mem_append.1 hy with hy | hy
        · exact h4.2.2 y hy k (by simp)
        · have := (List.pairwise_cons.1 h4.2.1).1 y hy
          rw [samePl_symm]; exact this
      intro x
      show (left x && !x.sameKey kl) = _
      rw [hh x]
      cases hx : x.sameKey kl
      · have hkx : (placeLit k.1).sameKey x = false := by
          rw [e]
          cases h5 : kl.sameKey x
          · rfl
          · rw [sameKey_symm h5] at hx; cases hx
        simp [hkx]
      · have e2 := Go.WideAt.sameKey_eq hx
        rw [e2, ← e]
        symm
        simp only [Bool.not_true, Bool.and_false]
        rw [List.any_eq_false]
        intro y hy
        rw [placeLit_same, hno y hy]
        decide
theorem Var.cellAt {w : World} {b : Nat} {cs : List Value} (h : Var w b cs) {i : Nat} {v : Value} (hi : cs[i]? = some v) : w.cell? ⟨b, i, none⟩ = some v := by
  obtain ⟨hl, rfl⟩ := List.getElem?_eq_some_iff.1 hi
  exact h.cell i hl
theorem by_below {w w' : World} (h : Below w.heap.size w w') : w.grownBy w' none := ⟨h.os, h.tape, h.output, h.size, fun i hi _ => h.block i hi⟩
theorem below_by {B : Nat} {w w' w2 : World} {row : Option Nat} (h : Below B w w') (hg : w'.grownBy w2 row) (hB : B ≤ w'.heap.size) (hr : ∀ r, row = some r → B ≤ r) : Below B w w2 := h.grown hg hB hr
section
variable {ops : Array Oper} {rest : List Oper} {o : Oper} {a : Act} {Q : Exit → Act → World → Prop}
theorem wpList_range_W (w : World) (hg : o.guard = none) (m : Operand) (hop : o.op = Op.range 54 m) (b : Nat) (W : List GKept) (hm : a.eval m = .map (some b)) (hM : MapF Try.prog 62 w b (allF W) W.length)
    (hK : ∀ w', RangeF Try.prog 62 w' b w.heap.size (allF W) W.length (fun kl => (allF W kl).isSome) W.length → w.grownBy w' none → w'.heap.size = w.heap.size + 1 → wpList Try.prog ops Q rest (a.put o.dst (.pointer (some ⟨w.heap.size, 0, none⟩))) w') :
    wpList Try.prog ops Q (o :: rest) a w := by
  refine wpList_plain hg fun K' hK' => ?_
  obtain ⟨w', hrun, r1, r2, r3⟩ := hM.range placeLaw allTy
  unfold Oper.wp
  simp [execOp, hop, hm, hrun, Result.andThen]
  exact hK' _ _ (hK w' r1 r2 r3)
theorem wpList_next_W (w : World) (hg : o.guard = none) (it : Operand) (hop : o.op = Op.next it false) (b r n cnt : Nat) (W ps : List GKept) (hA : Apart W) (left : Lit → Bool) (hit : a.eval it = .pointer (some ⟨r, 0, none⟩))
    (h : RangeF Try.prog 62 w b r (allF W) n left cnt) (hC : ColW W left ps)
    (hDone : ps.Perm W → wpList Try.prog ops Q rest (a.put o.dst (.tuple #[.bool false])) w)
    (hMore : ∀ key k left' w' cnt', RangeF Try.prog 62 w' b r (allF W) n left' cnt' → ColW W left' (ps ++ [k]) → k ∈ W → cnt' < cnt → w.grownBy w' (some r) → w'.heap.size = w.heap.size → (Instr.entry (.pointer (some ⟨r, 0, none⟩))).run Try.prog w' = .ok (.tuple #[key, .agg (keptV k)]) w' → wpList Try.prog ops Q rest (a.put o.dst (.tuple #[.bool true, key, .agg (keptV k)])) w') :
    wpList Try.prog ops Q (o :: rest) a w := by
  refine wpList_plain hg fun K' hK' => ?_
  unfold Oper.wp
  rcases h.next placeLaw o.type hC.isSome with ⟨h0, hl, hrun⟩ | ⟨key, v, kl, w', cnt', hkey, hlk, hv, hrun, hrg, hlt, hgr, hsz, hen⟩
  · simp [execOp, hop, hit, hrun, Result.andThen]
    exact hK' _ _ (hDone (hC.done hl))
  · obtain ⟨k, rfl, hkW, hC'⟩ := hC.step hA hlk hv
    simp [execOp, hop, hit, hrun, Result.andThen]
    exact hK' _ _ (hMore key k _ w' cnt' hrg hC' hkW hlt hgr hsz hen)
end
end Go.Proofs.Ytaondmaebgicgaa
