/- maps.Values over the shelf's map: its iterator, for every loop body. -/
import Derived.Test.YtaondmaebgicgaaShN
import Derived.Test.YtaondmaebgicgaaShW
import Derived.RangeFuncNested
import Derived.RangeFuncLeaves
import Derived.RangeFuncBox
import Derived.Shelf.Abstract
import Derived.WalkKit
import Derived.OwnWalkIn
import Derived.TacticsInMore
import Derived.RegionIn
import Derived.LoopNIn
import Derived.LoopIn
import Derived.Maps.AppendAt
import Derived.Shelf.AbstractIn
import Derived.Sort.MapsRangeIn
namespace Go.Proofs.Ytaondmaebgicgaa
open Go Go.RowKit Go.Shelf
set_option maxRecDepth 20000
set_option linter.unusedSimpArgs false
set_option linter.unusedVariables false
@[go_sem] theorem semAt_go (l : Nat) (ρ : Operand → Value) (o : Oper) (h : ∀ c, o.op ≠ .defer c) : Oper.semAt (some l) ρ o = execOp ρ o := Oper.semAt_some l ρ o h

section
variable {F : Fence} {nF : Nat} {ops : Array Oper} {rest : List Oper} {o : Oper} {a : Act} {Q : Exit → Act → World → Prop}
theorem wpListIn_range_W (w : World) (hg : o.guard = none) (m : Operand) (hop : o.op = Op.range 54 m) (b : Nat) (W : List GKept) (hm : a.eval m = .map (some b)) (hM : MapF Try.prog 62 w b (allF W) W.length)
    (hK : ∀ w', RangeF Try.prog 62 w' b w.heap.size (allF W) W.length (fun kl => (allF W kl).isSome) W.length → w.grownBy w' none → w'.heap.size = w.heap.size + 1 → wpListIn F nF Try.prog ops Q rest (a.put o.dst (.pointer (some ⟨w.heap.size, 0, none⟩))) w') :
    wpListIn F nF Try.prog ops Q (o :: rest) a w := by
  refine wpListIn_plain hg fun K' hK' => ?_
  obtain ⟨w', hrun, r1, r2, r3⟩ := hM.range placeLaw allTy
  unfold Oper.wpIn
  refine ⟨?_, ?_⟩
  · simp [Oper.about, hop]
  · rw [Oper.semAt_plain F _ _ (by rw [hop]; intro c hc'; cases hc')]
    simp [execOp, hop, hm, hrun, Result.andThen]
    exact hK' _ _ (hK w' r1 r2 r3)
theorem wpListIn_next_W (w : World) (hg : o.guard = none) (it : Operand) (hop : o.op = Op.next it false) (b r n cnt : Nat) (W ps : List GKept) (hA : Apart W) (left : Lit → Bool) (hit : a.eval it = .pointer (some ⟨r, 0, none⟩))
    (h : RangeF Try.prog 62 w b r (allF W) n left cnt) (hC : ColW W left ps)
    (hDone : ps.Perm W → wpListIn F nF Try.prog ops Q rest (a.put o.dst (.tuple #[.bool false])) w)
    (hMore : ∀ key k left' w' cnt', RangeF Try.prog 62 w' b r (allF W) n left' cnt' → ColW W left' (ps ++ [k]) → k ∈ W → cnt' < cnt → w.grownBy w' (some r) → w'.heap.size = w.heap.size → (Instr.entry (.pointer (some ⟨r, 0, none⟩))).run Try.prog w' = .ok (.tuple #[key, .agg (keptV k)]) w' → wpListIn F nF Try.prog ops Q rest (a.put o.dst (.tuple #[.bool true, key, .agg (keptV k)])) w') :
    wpListIn F nF Try.prog ops Q (o :: rest) a w := by
  refine wpListIn_plain hg fun K' hK' => ?_
  unfold Oper.wpIn
  refine ⟨by simp [Oper.about, hop], ?_⟩
  rw [Oper.semAt_plain F _ _ (by rw [hop]; intro c hc'; cases hc')]
  rcases h.next placeLaw o.type hC.isSome with ⟨h0, hl, hrun⟩ | ⟨key, v, kl, w', cnt', hkey, hlk, hv, hrun, hrg, hlt, hgr, hsz, hen⟩
  · simp [execOp, hop, hit, hrun, Result.andThen]
    exact hK' _ _ (hDone (hC.done hl))
  · obtain ⟨k, rfl, hkW, hC'⟩ := hC.step hA hlk hv
    simp [execOp, hop, hit, hrun, Result.andThen]
    exact hK' _ _ (hMore key k _ w' cnt' hrg hC' hkW hlt hgr hsz hen)
end
theorem RangeF.of_walks {P : Program} {K : TypeId} {w w' : World} {b n r cnt : Nat} {f : Lit → Option Value} {left : Lit → Bool} (h : RangeF P K w b r f n left cnt) (hk : KeepsWalks w w') : RangeF P K w' b r f n left cnt := by
  obtain ⟨D, h1, h2, h3⟩ := h
  exact ⟨D, h1.of_walks hk, h2, h3⟩
theorem RangeF.iter_walk {P : Program} {K : TypeId} {w : World} {b n r cnt : Nat} {f : Lit → Option Value} {left : Lit → Bool} (h : RangeF P K w b r f n left cnt) : ∃ o : Obj, w.heap[r]? = some o ∧ o.isWalk = true := by
  obtain ⟨D, h1, h2, h3⟩ := h
  exact h1.iter_walk
theorem ColW.length {W : List GKept} {left : Lit → Bool} {ps : List GKept} (h : ColW W left ps) {kl : Lit} (hl : left kl = true) : ps.length < W.length := by
  obtain ⟨rest, hp, hh⟩ := h
  have := hp.length_eq
  rw [hh] at hl
  cases rest with
  | nil => simp at hl
  | cons x rest => simp at this; omega
theorem ColW.length' {W : List GKept} {left : Lit → Bool} {ps : List GKept} (h : ColW W left ps) : ps.length ≤ W.length := by
  obtain ⟨rest, hp, hh⟩ := h
  have := hp.length_eq
  simp at this; omega
theorem semAt_plain' (ro : Option Nat) (ev : Operand → Value) (o : Oper) (h : ∀ c, o.op ≠ .defer c) : Oper.semAt ro ev o = execOp ev o := Oper.semAt_eq ro ev o h
@[go_sem ↓ high] theorem run_semAt_load (P : Program) (ro : Option Nat) (ev : Operand → Value) (dst : Option Tmp) (t : TypeId) (x : Operand) (ty : TypeId) (pos : String) (af : Array Edge) (g : Option (Nat × Bool)) (w : World) (_h : isAggT P t = true) :
    Sem.run P (Oper.semAt ro ev { dst := dst, op := .load t x, type := ty, pos := pos, after := af, guard := g }) w = loadRow P w t (ev x) := by
  rw [semAt_plain' ro ev _ (by intro c hc; cases hc)]; rfl
@[go_sem ↓ high] theorem run_semAt_store (P : Program) (ro : Option Nat) (ev : Operand → Value) (dst : Option Tmp) (t : TypeId) (x y : Operand) (ty : TypeId) (pos : String) (af : Array Edge) (g : Option (Nat × Bool)) (w : World) (_h : isAggT P t = true) :
    Sem.run P (Oper.semAt ro ev { dst := dst, op := .store t x y, type := ty, pos := pos, after := af, guard := g }) w = storeRow P w t (ev x) (ev y) := by
  rw [semAt_plain' ro ev _ (by intro c hc; cases hc)]; rfl
set_option maxRecDepth 100000 in
set_option maxHeartbeats 2000000 in
theorem shVals1_in (W : List GKept) (hA : Apart W) (F : Fence) (n : Nat) (hf : F.fn 37) (hro : F.round = none) (hn : 1 ≤ n) (l Bm b : Nat) (J Jx : List GKept → World → Prop)
    (hY : ∀ pre x w1, J pre w1 → pre.length < W.length → YieldAt F (n - 1) Try.prog l #[.agg (keptV x)] w1 fun e w' =>
      (e = .returned (.bool true) ∧ J (pre ++ [x]) w' ∧ KeepsWalks w1 w') ∨ (e = .returned (.bool false) ∧ Jx (pre ++ [x]) w'))
    (w : World) (hJ : AbidesFrom w.heap.size J) (hm : w.cell? ⟨Bm, 0, none⟩ = some (.map (some b))) (hM : MapF Try.prog 62 w b (allF W) W.length) (h0 : J [] w) :
    CallsIn F n Try.prog 37 #[.func (.yield l) #[] #[], .pointer (some ⟨Bm, 0, none⟩)] w fun e w' => (∃ v, e = .returned v) ∧
      ((∃ ps, ps.Perm W ∧ J ps w') ∨ (∃ pre, True ∧ Jx pre w')) := by
  refine callsIn_of_wp Try.func37 rfl hf ?_ hro
  simp only [Try.ntmps37, List.size_toArray, List.length_cons, List.length_nil, Nat.reduceAdd, Nat.reduceSub, Array.replicate_succ, Array.replicate_zero, List.push_toArray, List.append_toArray, List.nil_append, List.cons_append]
  gi_wp2_with (first
    | (gi_at_range; refine wpListIn_range_W _ rfl _ rfl b W rfl hM ?_; intro w0 hrg0 hg0 hs0)
    | gi_in)
  go_frame
  gi_loopw [] (fun wr => ∃ (left : Lit → Bool) (cnt : Nat) (ps : List GKept), RangeF Try.prog 62 wr b w.heap.size (allF W) W.length left cnt ∧ ColW W left ps ∧ J ps wr)
    (fun wr => wr.rangeLeft b w.heap.size)
  case atStart =>
    exact ⟨_, _, [], hrg0, colW_start W, hJ [] w w0 none h0 hg0 (fun r e => by cases e)⟩
  case round =>
    obtain ⟨left, cnt, ps, hrg, hC, hJs⟩ := hrel
    have HRG := Lib.hid hrg
    have HC := Lib.hid hC
    have HJ := Lib.hid hJs
    have HJA := Lib.hid hJ
    clear hrg hC hJs hJ hm hM hrg0 hg0 hs0
    gi_wp2_with (first
      | (gi_at_next; refine wpListIn_next_W _ rfl _ rfl b w.heap.size _ cnt W ps hA left rfl HRG.out HC.out ?_ ?_)
      | gi_in)
    · intro hperm
      gi_wp2
      go_end0
      exact ⟨⟨_, rfl⟩, .inl ⟨ps, hperm, HJ.out⟩⟩
    · intro key kc ks left' w4 cnt' hrg4 hC4 hkW hlt hg4 hs4 hen
      generalize (kc, ks) = k at *
      have hJ2 : J ps w4 := HJA.out _ wr w4 (some w.heap.size) HJ.out hg4 (fun r e => by cases e; exact ⟨Nat.le_refl _, HRG.out.iter_walk⟩)
      have hJ3 : J ps (w4.alloc (.cells (keptV k) 59)) := HJA.out _ w4 _ none hJ2 (World.grownBy_alloc w4 _ none) (fun r e => by cases e)
      obtain ⟨fn, tmps, assign, body, hy, hR⟩ := hY ps k _ hJ3 (by have := hC4.length'; simp at this; omega)
      clear hs4
      gi_wp2
      refine hR.mono ?_
      rintro e W3 (⟨rfl, hJ9, hk3⟩ | ⟨rfl, hJx3⟩)
      · gi_wp2
        have hrg3 := (hrg4.of_walks (KeepsWalks.alloc w4 _)).of_walks hk3
        go_roundw
        case rel => exact ⟨_, cnt', ps ++ [k], hrg3, hC4, hJ9⟩
        case measure => rw [hrg3.left_eq, HRG.out.left_eq]; exact hlt
      · gi_wp2
        refine bodyPost_ret (results_none rfl _ _ _) rfl ?_
        exact ⟨⟨_, rfl⟩, .inr ⟨ps ++ [k], trivial, hJx3⟩⟩
theorem shVals_stops (W : List GKept) (hA : Apart W) (F : Fence) (n : Nat) (hf : F.fn 37) (hro : F.round = none) (hn : 1 ≤ n) (Bm b : Nat) (w : World) (hBm : Bm < w.heap.size)
    (hm : w.cell? ⟨Bm, 0, none⟩ = some (.map (some b))) (hM : MapF Try.prog 62 w b (allF W) W.length) :
    SeqStopsK F n Try.prog 37 #[.pointer (some ⟨Bm, 0, none⟩)] (fun k : GKept => #[Value.agg (keptV k)]) KeepsWalks (fun ps => ps.Perm W) (fun _ => True) W.length w := fun l J Jx w' hW hJ hJx hY h0 =>
  shVals1_in W hA F n hf hro hn l Bm b J Jx hY w' hJ ((hW.cell (p := ⟨Bm, 0, none⟩) hBm).trans hm) (hM.old (hW.block _ hM.lt)) h0
set_option maxHeartbeats 1000000 in
theorem shVals_in (F : Fence) (n : Nat) (hf : F.fn 21) (hro : F.round = none) (mb : Option Nat) (w : World) :
    CallsIn F n Try.prog 21 #[.map mb] w fun e w' => e = .returned (.func (.func 37) #[] #[.pointer (some ⟨w.heap.size, 0, none⟩)]) ∧ w' = w.alloc (.cells #[.map mb] 54) := by
  refine callsIn_of_wp Try.func21 rfl hf ?_ hro
  simp only [Try.ntmps21, List.size_toArray, List.length_cons, List.length_nil, Nat.reduceAdd, Nat.reduceSub, Array.replicate_succ, Array.replicate_zero, List.push_toArray, List.append_toArray, List.nil_append, List.cons_append]
  gi_wp2
  go_ret
  exact ⟨rfl, rfl⟩
end Go.Proofs.Ytaondmaebgicgaa
