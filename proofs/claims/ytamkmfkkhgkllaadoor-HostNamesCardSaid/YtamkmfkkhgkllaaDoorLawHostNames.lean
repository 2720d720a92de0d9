/- The walk of the statement HostNames. -/
import Derived.Test.YtamkmfkkhgkllaaDoorHostAlive
namespace Go.Proofs.YtamkmfkkhgkllaaDoor
open Go Go.RowKit
set_option maxRecDepth 20000
set_option linter.unusedSimpArgs false
set_option linter.unusedVariables false

def txA : List UInt8 := [49, 48, 46, 48, 46, 48, 46, 49]
def txB : List UInt8 := [91, 58, 58, 49, 93]
def adrA : GAddr := ⟨[0, 0, 0, 0, 0, 0, 0, 0, 0, 0, 0, 0, 10, 0, 0, 1], rfl⟩
def adrB : GAddr := ⟨[0, 0, 0, 0, 0, 0, 0, 0, 0, 0, 0, 0, 0, 0, 0, 1], rfl⟩
theorem tx_plain : six txA = false ∧ lastD txA = true ∧ v4Ok txA = true ∧ v4B txA = adrA.b ∧ six txB = true ∧ v6Ok (in6 txB) = true ∧ closedB txB = true ∧ (v6A (in6 txB)).b = adrB.b := by decide +kernel
theorem tx_parse : parseH txA = v4H adrA ∧ parseE txA = 0 ∧ parseH txB = v6H adrB ∧ parseE txB = 0 := by
  obtain ⟨a1, a2, a3, a4, b1, b2, b3, b4⟩ := tx_plain
  obtain ⟨e1, e2⟩ := parse_four a1 a2
  obtain ⟨f1, f2⟩ := parse_six b1
  have hA : v4A txA = adrA := addr_ext ((v4_yes a3).trans a4)
  have hB : v6A (in6 txB) = adrB := addr_ext b4
  rw [a3, hA] at e1
  rw [a3] at e2
  rw [b2, b3, hB] at f1
  rw [b2, b3] at f2
  exact ⟨e1, e2, f1, f2⟩
@[go_sem ↓ high] theorem run_op_build_a1 (ev : Operand → Value) (dst : Option Tmp) (x1 : Operand) (ty : TypeId) (pos : String) (af : Array Edge) (g : Option (Nat × Bool)) (w : World) :
    Sem.run Tryd.prog (execOp ev { dst := dst, op := .build 26 #[(15, x1)], type := ty, pos := pos, after := af, guard := g }) w = buildRow Tryd.prog w 26 #[(15, ev x1)] := by
  rw [run_op_build]
  simp
@[go_sem ↓ high] theorem run_op_build_a2 (ev : Operand → Value) (dst : Option Tmp) (x0 x1 : Operand) (ty : TypeId) (pos : String) (af : Array Edge) (g : Option (Nat × Bool)) (w : World) :
    Sem.run Tryd.prog (execOp ev { dst := dst, op := .build 26 #[(12, x0), (15, x1)], type := ty, pos := pos, after := af, guard := g }) w = buildRow Tryd.prog w 26 #[(12, ev x0), (15, ev x1)] := by
  rw [run_op_build]
  simp
theorem run_build_a1 (w : World) : (Instr.build 26 #[(15, .int .u8 1)]).run Tryd.prog w = .ok (.agg (addrC adrB)) w := by kernel_rfl
theorem run_build_a2 (w : World) : (Instr.build 26 #[(12, .int .u8 10), (15, .int .u8 1)]).run Tryd.prog w = .ok (.agg (addrC adrA)) w := by kernel_rfl
@[go_sem] theorem build_a1_at (w : World) : buildRow Tryd.prog w 26 #[(15, .int .u8 1)] = .ok (.value (.agg (addrC adrB))) w := by
  rw [buildRow, Sem.run_bind, run_build_a1]; rfl
@[go_sem] theorem build_a2_at (w : World) : buildRow Tryd.prog w 26 #[(12, .int .u8 10), (15, .int .u8 1)] = .ok (.value (.agg (addrC adrA))) w := by
  rw [buildRow, Sem.run_bind, run_build_a2]; rfl
set_option maxHeartbeats 1000000 in
theorem hostNames_law (m : Int) (w : World) (hm : HasMax m w) (htz : HasTz w) (hd : HasDec w) :
    Calls Tryd.prog 9 #[] w fun e w' => e = .returned (.bool true) ∧ Below w.heap.size w w' := by
  obtain ⟨h1, h2, h3, h4⟩ := tx_parse
  have hA : Hid (∀ w, HasMax m w → Calls Tryd.prog 23 #[.string ⟨txA.toArray⟩] w fun e w' => e = .returned (.tuple #[.agg (hostC (v4H adrA)), .int .i64 0]) ∧ Below w.heap.size w w') := fun w hm => by
    have := parse_any txA (by decide) m w hm
    rwa [h1, h2] at this
  have hB : Hid (∀ w, HasMax m w → Calls Tryd.prog 23 #[.string ⟨txB.toArray⟩] w fun e w' => e = .returned (.tuple #[.agg (hostC (v6H adrB)), .int .i64 0]) ∧ Below w.heap.size w w') := fun w hm => by
    have := parse_any txB (by decide) m w hm
    rwa [h3, h4] at this
  have he1 : hostEq (v4H adrA) (v4H adrA) = true := (hostEq_iff _ _).2 rfl
  have he2 : hostEq (v6H adrB) (v6H adrB) = true := (hostEq_iff _ _).2 rfl
  clear h1 h2 h3 h4
  unfold txA at hA
  unfold txB at hB
  go_enter Tryd.func9, Tryd.ntmps9
  go_wp2_with (first
    | (go_at_call 23; (with_reducible refine (hA.out _ (by repeat (first | exact hm | apply HasMax.grown | apply HasMax.alloc | apply HasMax.drew))).mono ?_); rintro e w1 ⟨rfl, hb1⟩; obtain ⟨p1, rfl⟩ := grown_of hb1; clear hb1)
    | (go_at_call 23; (with_reducible refine (hB.out _ (by repeat (first | exact hm | apply HasMax.grown | apply HasMax.alloc | apply HasMax.drew))).mono ?_); rintro e w1 ⟨rfl, hb1⟩; obtain ⟨p1, rfl⟩ := grown_of hb1; clear hb1)
    | (go_at_call 24; refine (hostAlive_any m _ (by repeat (first | exact hm | apply HasMax.grown | apply HasMax.alloc | apply HasMax.drew)) (by repeat (first | exact htz | apply HasTz.grown | apply HasTz.alloc | apply HasTz.drew)) (by repeat (first | exact hd | apply HasDec.grown | apply HasDec.alloc | apply HasDec.drew))).mono ?_; rintro e w1 ⟨rfl, hb1⟩; obtain ⟨p1, rfl⟩ := grown_of hb1; clear hb1))
  go_ret
  exact ⟨by first | rfl | exact ret_bool (by simp), (by repeat (first | exact Below.refl _ _ | assumption | refine below_grown ?_ (by first | omega | (simp [go_sem]; done) | (simp [go_sem] <;> omega)) _ | refine Below.alloc ?_ (by first | omega | (simp [go_sem]; done) | (simp [go_sem] <;> omega)) _ | refine below_bytesW ?_ (by first | omega | (simp [go_sem]; done) | (simp [go_sem] <;> omega)) _ | refine Below.drew ?_ | refine below_drewN ?_ _))⟩
end Go.Proofs.YtamkmfkkhgkllaaDoor
