/- Rules as data: how they lie in cells, when two are one, how one is built. -/
import Derived.Test.YtmfjabpmhkechaaGreatDoorHost
import Derived.Test.YtmfjabpmhkechaaGreatDoorVar
namespace Go.Proofs.YtmfjabpmhkechaaGreatDoor
open Go Go.RowKit
set_option maxRecDepth 20000
set_option linter.unusedSimpArgs false
set_option linter.unusedVariables false

def ruleR (k : Int) (n : List UInt8) : List Value := [.int .i64 k, .string ⟨n.toArray⟩]
def ruleV (k : Int) (n : List UInt8) : Array Value := (ruleR k n).toArray
@[go_sem] theorem ruleV_size (k : Int) (n : List UInt8) : (ruleV k n).size = 2 := by simp [ruleV, ruleR]
theorem rule_one (k : Int) (n : List UInt8) : ∀ v ∈ ruleR k n, v.oneCell' = true := by
  intro v hv
  simp only [ruleR, List.mem_cons, List.not_mem_nil, or_false] at hv
  rcases hv with rfl | rfl <;> rfl
@[go_sem] theorem ruleV_one (k : Int) (n : List UInt8) : allOne (ruleV k n) = true := allOne_of (rule_one k n)
@[go_sem ↓ high] theorem ruleV_0 (k : Int) (n : List UInt8) : (ruleV k n)[0]? = some (.int .i64 k) := by simp [ruleV, ruleR]
@[go_sem ↓ high] theorem ruleV_1 (k : Int) (n : List UInt8) : (ruleV k n)[1]? = some (.string ⟨n.toArray⟩) := by simp [ruleV, ruleR]
@[go_sem] theorem ruleV_all (k : Int) (n : List UInt8) : (ruleV k n).extract 0 2 = ruleV k n := by
  rw [← ruleV_size k n]; simp
@[go_sem ↓ high] theorem ruleV_set0 (k k' : Int) (n : List UInt8) : (ruleV k n).setIfInBounds 0 (.int .i64 k') = ruleV k' n := by simp [ruleV, ruleR]
@[go_sem ↓ high] theorem ruleV_set1 (k : Int) (n n' : List UInt8) : (ruleV k n).setIfInBounds 1 (.string ⟨n'.toArray⟩) = ruleV k n' := by simp [ruleV, ruleR]
@[go_sem] theorem agg_rule : isAggT Tryz.prog 50 = true := by kernel_rfl
@[go_sem] theorem cellsOf_rule : Tryz.prog.cellsOf 50 = 2 := by kernel_rfl
/-! ### when two are one -/
def ruleEq (k : Int) (n : List UInt8) (k' : Int) (n' : List UInt8) : Bool := k == k' && n == n'
theorem ruleEq_iff {k : Int} {n : List UInt8} {k' : Int} {n' : List UInt8} : ruleEq k n k' n' = true ↔ k = k' ∧ n = n' := by
  simp [ruleEq]
theorem keyLits_rule (D : Nat) (k : Int) (n : List UInt8) (h1 : (Lit.int .i64 k).wf = true) (h2 : n.length ≤ maxLen) : Tryz.prog.keyLits (D + 3) 50 (ruleR k n) = some [.int .i64 k, .string n] := by
  unfold Program.keyLits
  rw [Tryz.underlying50]
  simp [cellsOf_rule, ruleR, cellsOf_int, cellsOf_str, keyLits_str, keyLits_i64, h1, h2]
theorem rule_rows (k k' : Int) (n n' : List UInt8) (h1 : (Lit.int .i64 k).wf = true) (h2 : n.length ≤ maxLen) (h1' : (Lit.int .i64 k').wf = true) (h2' : n'.length ≤ maxLen) (x y : Operand) (w : World) :
    eqRow Tryz.prog w 50 x y (.agg (ruleV k n)) (.agg (ruleV k' n')) = .ok (.value (.bool (ruleEq k n k' n'))) w ∧
    neRow Tryz.prog w 50 x y (.agg (ruleV k n)) (.agg (ruleV k' n')) = .ok (.value (.bool (!ruleEq k n k' n'))) w :=
  eq_rows (m := 10) (by kernel_rfl) (by decide) (by kernel_rfl) (keyLits_rule 0 k n h1 h2) (keyLits_rule 0 k' n' h1' h2') (by simp [Value.formed, Tryz.underlying50, cellsOf_rule, ruleR]) (by simp [Value.formed, Tryz.underlying50, cellsOf_rule, ruleR])
    (by rw [ruleEq_iff]; simp) x y w
@[go_sem] theorem eqRow_rule (k k' : Int) (n n' : List UInt8) (h1 : (Lit.int .i64 k).wf = true) (h2 : n.length ≤ maxLen) (h1' : (Lit.int .i64 k').wf = true) (h2' : n'.length ≤ maxLen) (x y : Operand) (w : World) :
    eqRow Tryz.prog w 50 x y (.agg (ruleV k n)) (.agg (ruleV k' n')) = .ok (.value (.bool (ruleEq k n k' n'))) w := (rule_rows k k' n n' h1 h2 h1' h2' x y w).1
@[go_sem] theorem neRow_rule (k k' : Int) (n n' : List UInt8) (h1 : (Lit.int .i64 k).wf = true) (h2 : n.length ≤ maxLen) (h1' : (Lit.int .i64 k').wf = true) (h2' : n'.length ≤ maxLen) (x y : Operand) (w : World) :
    neRow Tryz.prog w 50 x y (.agg (ruleV k n)) (.agg (ruleV k' n')) = .ok (.value (.bool (!ruleEq k n k' n'))) w := (rule_rows k k' n n' h1 h2 h1' h2' x y w).2
/-! ### built -/
theorem run_build_rule0 (w : World) : (Instr.build 50 #[]).run Tryz.prog w = .ok (.agg (ruleV 0 [])) w := by kernel_rfl
theorem run_build_ruleK (k : Int) (w : World) : (Instr.build 50 #[(0, .int .i64 k)]).run Tryz.prog w = .ok (.agg (ruleV k [])) w := by kernel_rfl
theorem run_build_rule (k : Int) (n : List UInt8) (w : World) : (Instr.build 50 #[(0, .int .i64 k), (1, .string ⟨n.toArray⟩)]).run Tryz.prog w = .ok (.agg (ruleV k n)) w := by kernel_rfl
@[go_sem ↓ high] theorem run_op_build_rule0 (ev : Operand → Value) (dst : Option Tmp) (ty : TypeId) (pos : String) (af : Array Edge) (g : Option (Nat × Bool)) (w : World) :
    Sem.run Tryz.prog (execOp ev { dst := dst, op := .build 50 #[], type := ty, pos := pos, after := af, guard := g }) w = .ok (.value (.agg (ruleV 0 []))) w := by
  rw [run_op_build, buildRow, Sem.run_bind]
  simp [run_build_rule0]
@[go_sem ↓ high] theorem run_op_build_ruleK (ev : Operand → Value) (dst : Option Tmp) (x0 : Operand) (ty : TypeId) (pos : String) (af : Array Edge) (g : Option (Nat × Bool)) (w : World) :
    Sem.run Tryz.prog (execOp ev { dst := dst, op := .build 50 #[(0, x0)], type := ty, pos := pos, after := af, guard := g }) w = buildRow Tryz.prog w 50 #[(0, ev x0)] := by
  rw [run_op_build]
  simp
@[go_sem ↓ high] theorem run_op_build_rule (ev : Operand → Value) (dst : Option Tmp) (x0 x1 : Operand) (ty : TypeId) (pos : String) (af : Array Edge) (g : Option (Nat × Bool)) (w : World) :
    Sem.run Tryz.prog (execOp ev { dst := dst, op := .build 50 #[(0, x0), (1, x1)], type := ty, pos := pos, after := af, guard := g }) w = buildRow Tryz.prog w 50 #[(0, ev x0), (1, ev x1)] := by
  rw [run_op_build]
  simp
@[go_sem] theorem buildRuleK_at (k : Int) (w : World) : buildRow Tryz.prog w 50 #[(0, .int .i64 k)] = .ok (.value (.agg (ruleV k []))) w := by
  rw [buildRow, Sem.run_bind, run_build_ruleK]
  rfl
@[go_sem] theorem buildRule_at (k : Int) (n : List UInt8) (w : World) : buildRow Tryz.prog w 50 #[(0, .int .i64 k), (1, .string ⟨n.toArray⟩)] = .ok (.value (.agg (ruleV k n))) w := by
  rw [buildRow, Sem.run_bind, run_build_rule]
  rfl
end Go.Proofs.YtmfjabpmhkechaaGreatDoor
