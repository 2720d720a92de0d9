/- What the walk of SuffixGrows leans on. -/
import Derived.Test.YtmfjabpmhkechaaGreatDoorSufAllB
namespace Go.Proofs.YtmfjabpmhkechaaGreatDoor
open Go Go.RowKit
set_option maxRecDepth 20000
set_option linter.unusedSimpArgs false
set_option linter.unusedVariables false

theorem grow_plain (R : List GRule) (x : List UInt8) (hx : x.length ≤ maxLen) (H : GHost) : sufN (R ++ [(1, x)]) H = sufN R H ∨ (sufN R H < sufN (R ++ [(1, x)]) H ∧ (labelsL (nmH x hx)).length = sufN (R ++ [(1, x)]) H) := by
  rcases suf_grows R (1, x) rfl H with h | ⟨h1, h2, h3⟩
  · exact .inl h
  · right
    refine ⟨h1, ?_⟩
    have hl := label_split h3
    have hn : x.length ≤ 253 := (ruleRB_facts h3).2.1
    dsimp only at hl h2
    rw [nmH_name hn hx] at hl
    rw [hl, h2]
theorem own0 {w : World} {b : Nat} (B : Nat) (c : List Value) (h : w.heap[b]? = some (.cells c.toArray 50 (0, 0))) (hc : c = []) : Own ruleCod (Also b B) w (.slice (some ⟨b, 0, none⟩) 0 0) [] := by
  subst hc
  exact ⟨⟨rfl, .inr ⟨b, 0, #[], rfl, Nat.zero_le _, h, Nat.le_refl _, Nat.zero_le _, rfl, rfl⟩⟩, fun g hg => .inl (by cases hg; rfl)⟩
theorem run_append_none (w : World) (ty : TypeId) (g : Nat) (a : Option Addr) (k : Nat) : (Builtin.append_ #[22, 22] ty #[.slice (some ⟨g, 0, none⟩) 0 0, .slice a 0 k]).run Tryz.prog w = .ok (.slice (some ⟨g, 0, none⟩) 0 0) w := by
  have hi0 := ruleCod.info
  cases hi : Tryz.prog.info? ruleCod.E with
  | none => rw [hi] at hi0; cases hi0
  | some i0 =>
    have hu : Tryz.prog.underlying 22 = some (.slice 50) := ruleCod.und
    have hi' : Tryz.prog.info? 50 = some i0 := hi
    cases a <;> simp [Builtin.append_, run_underlying hu, sizeOf, typeInfo, hi', Builtin.lenOf, Builtin.firstCells, loadCells, loadCellsFrom, storeCells]
theorem step_append_none {ops : Array Oper} {o : Oper} {a : Act} {K : Act → World → Prop} {Z : Exit → Act → World → Prop} {F : Prop} (hgd : o.guard = none) (s x : Operand)
    (ho : o.op = .call { callee := .builtin .append, args := #[s, x], argTypes := #[22, 22] }) (w : World) (g : Nat) (a' : Option Addr) (k : Nat) (hs : a.eval s = .slice (some ⟨g, 0, none⟩) 0 0) (hx : a.eval x = .slice a' 0 k)
    (h : K (a.put o.dst (.slice (some ⟨g, 0, none⟩) 0 0)) w) : if Region.wanted o (yielded ops a.tmps) = true then Oper.wp Tryz.prog o a w K Z else F := by
  have hw : Region.wanted o (yielded ops a.tmps) = true := by simp [Region.wanted, hgd]
  rw [if_pos hw]
  unfold Oper.wp execOp
  simp only [ho, resolve, invoke, builtin, Sem.run_bind, Sem.run_pure, Result.andThen_ok, List.map_toArray, List.map_cons, List.map_nil, hs, hx, run_append_none]
  exact h
theorem step_append_nilR {ops : Array Oper} {o : Oper} {a : Act} {K : Act → World → Prop} {Z : Exit → Act → World → Prop} {F : Prop} (hgd : o.guard = none) (s x : Operand)
    (ho : o.op = .call { callee := .builtin .append, args := #[s, x], argTypes := #[22, 22] }) (Q : Nat → Prop) (w : World) (g : Nat) (R : List GRule) (hR : R = []) (a' : Option Addr) (k : Nat) (hs : a.eval s = .slice (some ⟨g, 0, none⟩) 0 0) (hx : a.eval x = .slice a' R.length k)
    (hown : Own ruleCod Q w (.slice (some ⟨g, 0, none⟩) 0 0) []) (hQ : Q w.heap.size) (h : ∀ v' w', Own ruleCod Q w' v' R → Keeps Q w w' → K (a.put o.dst v') w') : if Region.wanted o (yielded ops a.tmps) = true then Oper.wp Tryz.prog o a w K Z else F := by
  subst hR
  exact step_append_none hgd s x ho w g a' k hs hx (h _ _ hown (Keeps.refl _ _))
/-! ### an empty block, and a block of one rule, as the walk asks them -/
noncomputable def emptyB (w : World) (b : Nat) : Bool := @decide (w.heap[b]? = some (.cells #[] 50 (0, 0))) (Classical.propDecidable _)
theorem emptyB_iff {w : World} {b : Nat} : emptyB w b = true ↔ w.heap[b]? = some (.cells #[] 50 (0, 0)) := by
  unfold emptyB
  exact @decide_eq_true_iff _ (Classical.propDecidable _)
theorem emptyB_congr {w w' : World} {b : Nat} (h : w'.heap[b]? = w.heap[b]?) : emptyB w' b = emptyB w b := by
  rw [Bool.eq_iff_iff, emptyB_iff, emptyB_iff, h]
theorem emptyB_new (w : World) (b : Nat) (hb : b = w.heap.size) : emptyB (w.alloc (.cells #[] 50)) b = true := by
  subst hb
  exact emptyB_iff.2 (heap_alloc_new w _)
theorem emptyB_past (w : World) (ob : Obj) (b : Nat) (hb : b < w.heap.size) : emptyB (w.alloc ob) b = emptyB w b := emptyB_congr (((Below.refl w.heap.size w).alloc (Nat.le_refl _) ob).block b hb)
theorem emptyB_drew (w : World) (b : Nat) : emptyB w.drew b = emptyB w b := rfl
theorem own0B {w : World} {b : Nat} (B : Nat) (h : emptyB w b = true) : Own ruleCod (Also b B) w (.slice (some ⟨b, 0, none⟩) 0 0) [] := own0 B [] (emptyB_iff.1 h) rfl
theorem oneB {w : World} {b : Nat} {x : List UInt8} (h1 : w.cell? ⟨b, 0, none⟩ = some (.int .i64 1)) (h2 : w.cell? ⟨b, 1, none⟩ = some (.string ⟨x.toArray⟩)) : ListAt ruleCod w b 0 [(1, x)] := by
  intro j u hj
  match j, hj with
  | 0, hj => 
    have : u = .int .i64 1 := by
      have : (some (Value.int .i64 1)) = some u := hj
      exact (Option.some.inj this).symm
    rw [this]; exact h1
  | 1, hj => 
    have : u = .string ⟨x.toArray⟩ := by
      have : (some (Value.string ⟨x.toArray⟩)) = some u := hj
      exact (Option.some.inj this).symm
    rw [this]; exact h2
  | j + 2, hj => 
    have : (none : Option Value) = some u := hj
    cases this
end Go.Proofs.YtmfjabpmhkechaaGreatDoor
