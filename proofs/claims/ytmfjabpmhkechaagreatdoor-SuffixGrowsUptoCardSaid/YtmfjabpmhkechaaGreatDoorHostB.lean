/- Hosts built and cut: the rows that literals of hosts make; CutPrefix and CutSuffix over lists; the walk of address. -/
import Derived.Test.YtmfjabpmhkechaaGreatDoorHostL
import Derived.Test.YtmfjabpmhkechaaGreatDoorAddrV4
namespace Go.Proofs.YtmfjabpmhkechaaGreatDoor
open Go Go.RowKit
set_option maxRecDepth 20000
set_option linter.unusedSimpArgs false
set_option linter.unusedVariables false

def hostV (k : Int) (n : List UInt8) (a : GAddr) : Array Value := (([.int .i64 k, .string ⟨n.toArray⟩] : List Value) ++ addrL a).toArray
theorem hostV_size (k : Int) (n : List UInt8) (a : GAddr) : (hostV k n a).size = 18 := by simp [hostV, addrL_length]
theorem hostV_one (k : Int) (n : List UInt8) (a : GAddr) : allOne (hostV k n a) = true := allOne_of (by
  intro v hv
  simp only [List.mem_append, List.mem_cons, List.not_mem_nil, or_false] at hv
  rcases hv with (rfl | rfl) | hv
  · rfl
  · rfl
  · exact addr_one a v hv)
theorem run_build_host0 (w : World) : (Instr.build 26 #[]).run Tryz.prog w = .ok (.agg (hostC zeroH)) w := by kernel_rfl
theorem run_build_hostA (k : Int) (a : GAddr) (w : World) : (Instr.build 26 #[(0, .int .i64 k), (2, .agg (addrC a))]).run Tryz.prog w = .ok (.agg (hostV k [] a)) w := by
  have : ∀ l : List Value, l.length = 16 → (Instr.build 26 #[(0, .int .i64 k), (2, .agg l.toArray)]).run Tryz.prog w = .ok (.agg (([.int .i64 k, .string ⟨([] : List UInt8).toArray⟩] : List Value) ++ l).toArray) w := by
    intro l hl
    obtain ⟨a, b, c, d, e, f, g, i, j, k, m, n, o, p, q, r, rfl⟩ := list16 l hl
    kernel_rfl
  exact this (addrL a) (addrL_length a)
theorem run_build_hostN (k : Int) (n : List UInt8) (w : World) : (Instr.build 26 #[(0, .int .i64 k), (1, .string ⟨n.toArray⟩)]).run Tryz.prog w = .ok (.agg (hostV k n zeroA)) w := by kernel_rfl
@[go_sem ↓ high] theorem run_op_build_host0 (ev : Operand → Value) (dst : Option Tmp) (ty : TypeId) (pos : String) (af : Array Edge) (g : Option (Nat × Bool)) (w : World) :
    Sem.run Tryz.prog (execOp ev { dst := dst, op := .build 26 #[], type := ty, pos := pos, after := af, guard := g }) w = .ok (.value (.agg (hostC zeroH))) w := by
  rw [run_op_build, buildRow, Sem.run_bind]
  simp [run_build_host0]
@[go_sem ↓ high] theorem run_op_build_hostA (ev : Operand → Value) (dst : Option Tmp) (x0 x2 : Operand) (ty : TypeId) (pos : String) (af : Array Edge) (g : Option (Nat × Bool)) (w : World) :
    Sem.run Tryz.prog (execOp ev { dst := dst, op := .build 26 #[(0, x0), (2, x2)], type := ty, pos := pos, after := af, guard := g }) w = buildRow Tryz.prog w 26 #[(0, ev x0), (2, ev x2)] := by
  rw [run_op_build]
  simp
@[go_sem ↓ high] theorem run_op_build_hostN (ev : Operand → Value) (dst : Option Tmp) (x0 x2 : Operand) (ty : TypeId) (pos : String) (af : Array Edge) (g : Option (Nat × Bool)) (w : World) :
    Sem.run Tryz.prog (execOp ev { dst := dst, op := .build 26 #[(0, x0), (1, x2)], type := ty, pos := pos, after := af, guard := g }) w = buildRow Tryz.prog w 26 #[(0, ev x0), (1, ev x2)] := by
  rw [run_op_build]
  simp
@[go_sem] theorem buildHost2_at (a : GAddr) (w : World) : buildRow Tryz.prog w 26 #[(0, .int .i64 2), (2, .agg (addrC a))] = .ok (.value (.agg (hostC (v4H a)))) w := by
  rw [buildRow, Sem.run_bind, run_build_hostA]; rfl
@[go_sem] theorem buildHost3_at (a : GAddr) (w : World) : buildRow Tryz.prog w 26 #[(0, .int .i64 3), (2, .agg (addrC a))] = .ok (.value (.agg (hostC (v6H a)))) w := by
  rw [buildRow, Sem.run_bind, run_build_hostA]; rfl
/-- The cells of a name. -/
def nameV (n : List UInt8) : Array Value := hostV 1 n zeroA
@[go_sem] theorem nameV_size (n : List UInt8) : (nameV n).size = 18 := hostV_size _ _ _
@[go_sem] theorem nameV_one (n : List UInt8) : allOne (nameV n) = true := hostV_one _ _ _
theorem nameV_eq {n : List UInt8} (h : n.length ≤ 253) : nameV n = hostC (nameH n) := by rw [nameH_eq h]; rfl
@[go_sem] theorem buildName_at (n : List UInt8) (w : World) : buildRow Tryz.prog w 26 #[(0, .int .i64 1), (1, .string ⟨n.toArray⟩)] = .ok (.value (.agg (nameV n))) w := by
  rw [buildRow, Sem.run_bind, run_build_hostN]; rfl
theorem cutPre_any (l p : List UInt8) (w : World) : Calls Tryz.prog 68 #[.string ⟨l.toArray⟩, .string ⟨p.toArray⟩] w fun e w' => e = .returned (.tuple #[.string ⟨(Lib.trimPrefix l p).toArray⟩, .bool (Lib.hasPrefix l p)]) ∧ w = w' :=
  (Tryz.strings_CutPrefix ⟨l.toArray⟩ ⟨p.toArray⟩ w).mono fun e w' ⟨h1, h2⟩ => ⟨by simpa using h1, h2.symm⟩
theorem cutSuf_any (l p : List UInt8) (hl : l.length ≤ 9223372036854775807) (w : World) : Calls Tryz.prog 69 #[.string ⟨l.toArray⟩, .string ⟨p.toArray⟩] w fun e w' => e = .returned (.tuple #[.string ⟨(Lib.trimSuffix l p).toArray⟩, .bool (Lib.hasSuffix l p)]) ∧ w = w' :=
  (Tryz.strings_CutSuffix ⟨l.toArray⟩ ⟨p.toArray⟩ w (by simpa [ByteArray.size] using hl)).mono fun e w' ⟨h1, h2⟩ => ⟨by simpa using h1, h2.symm⟩
theorem in1_length (s : List UInt8) : (in1 s).length ≤ s.length := by
  unfold in1 Lib.trimPrefix
  split
  · simp
  · exact Nat.le_refl _
theorem in6_length (s : List UInt8) : (in6 s).length ≤ s.length := by
  have := in1_length s
  unfold in6 Lib.trimSuffix
  split
  · simp; omega
  · exact this
theorem address2_any (a : GAddr) (ok : Bool) (w : World) :
    Calls Tryz.prog 71 #[.int .i64 2, .agg (addrC a), .bool ok] w fun e w' => e = .returned (.tuple #[.agg (hostC (addrOk 2 a ok)), .int .i64 (errOf ok)]) ∧ Below w.heap.size w w' := by
  cases ok
  · go_enter Tryz.func71, Tryz.ntmps71
    go_wp2
    exact ret_cell_tmp (w.heap.size + 1) (hostC zeroH) (.int .i64 31) rfl rfl rfl agg_host (by simp [go_sem]) (by simp [go_sem]) rfl ⟨rfl, (by repeat (first | exact Below.refl _ _ | assumption | refine below_grown ?_ (by first | omega | (simp [go_sem]; done) | (simp [go_sem] <;> omega)) _ | refine Below.alloc ?_ (by first | omega | (simp [go_sem]; done) | (simp [go_sem] <;> omega)) _ | refine below_bytesW ?_ (by first | omega | (simp [go_sem]; done) | (simp [go_sem] <;> omega)) _ | refine Below.drew ?_ | refine below_drewN ?_ _))⟩
  · go_enter Tryz.func71, Tryz.ntmps71
    go_wp2
    exact ret_cell_tmp (w.heap.size + 1) (hostC (v4H a)) (.int .i64 0) rfl rfl rfl agg_host (by simp [go_sem]) (by simp [go_sem]) rfl ⟨rfl, (by repeat (first | exact Below.refl _ _ | assumption | refine below_grown ?_ (by first | omega | (simp [go_sem]; done) | (simp [go_sem] <;> omega)) _ | refine Below.alloc ?_ (by first | omega | (simp [go_sem]; done) | (simp [go_sem] <;> omega)) _ | refine below_bytesW ?_ (by first | omega | (simp [go_sem]; done) | (simp [go_sem] <;> omega)) _ | refine Below.drew ?_ | refine below_drewN ?_ _))⟩
theorem address3_any (a : GAddr) (ok : Bool) (w : World) :
    Calls Tryz.prog 71 #[.int .i64 3, .agg (addrC a), .bool ok] w fun e w' => e = .returned (.tuple #[.agg (hostC (addrOk 3 a ok)), .int .i64 (errOf ok)]) ∧ Below w.heap.size w w' := by
  cases ok
  · go_enter Tryz.func71, Tryz.ntmps71
    go_wp2
    exact ret_cell_tmp (w.heap.size + 1) (hostC zeroH) (.int .i64 31) rfl rfl rfl agg_host (by simp [go_sem]) (by simp [go_sem]) rfl ⟨rfl, (by repeat (first | exact Below.refl _ _ | assumption | refine below_grown ?_ (by first | omega | (simp [go_sem]; done) | (simp [go_sem] <;> omega)) _ | refine Below.alloc ?_ (by first | omega | (simp [go_sem]; done) | (simp [go_sem] <;> omega)) _ | refine below_bytesW ?_ (by first | omega | (simp [go_sem]; done) | (simp [go_sem] <;> omega)) _ | refine Below.drew ?_ | refine below_drewN ?_ _))⟩
  · go_enter Tryz.func71, Tryz.ntmps71
    go_wp2
    exact ret_cell_tmp (w.heap.size + 1) (hostC (v6H a)) (.int .i64 0) rfl rfl rfl agg_host (by simp [go_sem]) (by simp [go_sem]) rfl ⟨rfl, (by repeat (first | exact Below.refl _ _ | assumption | refine below_grown ?_ (by first | omega | (simp [go_sem]; done) | (simp [go_sem] <;> omega)) _ | refine Below.alloc ?_ (by first | omega | (simp [go_sem]; done) | (simp [go_sem] <;> omega)) _ | refine below_bytesW ?_ (by first | omega | (simp [go_sem]; done) | (simp [go_sem] <;> omega)) _ | refine Below.drew ?_ | refine below_drewN ?_ _))⟩
end Go.Proofs.YtmfjabpmhkechaaGreatDoor
