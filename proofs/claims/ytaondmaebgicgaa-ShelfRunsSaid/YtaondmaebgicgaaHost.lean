/- Addresses and hosts as data: how they lie in cells, and when two of them are one. -/
import Derived.Test.YtaondmaebgicgaaProg
import Derived.Test.YtaondmaebgicgaaAgg
import Derived.DeepKeys
import Derived.KernelRfl
namespace Go.Proofs.Ytaondmaebgicgaa
open Go Go.RowKit

/-- An address: sixteen bytes. -/
structure GAddr where
  b : List UInt8
  len : b.length = 16
/-- A host. -/
structure GHost where
  kind : Int
  name : List UInt8
  addr : GAddr
  hk : (Lit.int .i64 kind).wf = true
  hn : name.length ≤ maxLen

def addrL (a : GAddr) : List Value := a.b.map fun x => .int .u8 (x.toNat : Int)
def hostL (h : GHost) : List Value := .int .i64 h.kind :: .string ⟨h.name.toArray⟩ :: addrL h.addr
def addrC (a : GAddr) : Array Value := (addrL a).toArray
def hostC (h : GHost) : Array Value := (hostL h).toArray
def addrEq (a b : GAddr) : Bool := a.b == b.b
def hostEq (a b : GHost) : Bool := a.kind == b.kind && (a.name == b.name && addrEq a.addr b.addr)

theorem addr_ext {a b : GAddr} (h : a.b = b.b) : a = b := by cases a; cases b; simp_all
theorem host_ext {a b : GHost} (h1 : a.kind = b.kind) (h2 : a.name = b.name) (h3 : a.addr = b.addr) : a = b := by cases a; cases b; simp_all
theorem addrEq_iff (a b : GAddr) : addrEq a b = true ↔ a = b :=
  ⟨fun h => addr_ext (by simpa [addrEq] using h), fun h => by subst h; simp [addrEq]⟩
theorem hostEq_iff (a b : GHost) : hostEq a b = true ↔ a = b := by
  constructor
  · intro h
    simp only [hostEq, Bool.and_eq_true, beq_iff_eq, addrEq_iff] at h
    exact host_ext h.1 h.2.1 h.2.2
  · intro h; subst h; simp [hostEq, (addrEq_iff _ _).2 rfl]

theorem addrL_length (a : GAddr) : (addrL a).length = 16 := by simp [addrL, a.len]
theorem hostL_length (h : GHost) : (hostL h).length = 18 := by simp [hostL, addrL_length]
@[go_sem] theorem addrC_size (a : GAddr) : (addrC a).size = 16 := by simp [addrC, addrL_length]
@[go_sem] theorem hostC_size (h : GHost) : (hostC h).size = 18 := by simp [hostC, hostL_length]
@[go_sem ↓ high] theorem hostC_0 (h : GHost) : (hostC h)[0]? = some (.int .i64 h.kind) := by simp [hostC, hostL]
@[go_sem ↓ high] theorem hostC_1 (h : GHost) : (hostC h)[1]? = some (.string ⟨h.name.toArray⟩) := by simp [hostC, hostL]
@[go_sem] theorem addrC_all (a : GAddr) : (addrC a).extract 0 16 = addrC a := by
  have := addrC_size a
  rw [← this]; simp
@[go_sem] theorem hostC_all (h : GHost) : (hostC h).extract 0 18 = hostC h := by
  have := hostC_size h
  rw [← this]; simp
theorem extract_mid (l m r : List Value) (a b : Nat) (ha : l.length = a) (hb : a + m.length = b) : (l ++ (m ++ r)).toArray.extract a b = m.toArray := by
  subst ha hb
  simp
@[go_sem] theorem hostC_addr (h : GHost) : (hostC h).extract 2 18 = addrC h.addr := by
  have := extract_mid [.int .i64 h.kind, .string ⟨h.name.toArray⟩] (addrL h.addr) [] 2 18 rfl (by rw [addrL_length])
  simpa [hostC, hostL, addrC] using this
theorem addr_one (a : GAddr) : ∀ v ∈ addrL a, v.oneCell' = true := by
  intro v hv
  simp only [addrL, List.mem_map] at hv
  obtain ⟨x, _, rfl⟩ := hv
  rfl
theorem host_one (h : GHost) : ∀ v ∈ hostL h, v.oneCell' = true := by
  intro v hv
  simp only [hostL, List.mem_cons] at hv
  rcases hv with rfl | rfl | hv
  · rfl
  · rfl
  · exact addr_one _ v hv

@[go_sem] theorem addrC_one (a : GAddr) : allOne (addrC a) = true := allOne_of (addr_one a)
@[go_sem] theorem hostC_one (h : GHost) : allOne (hostC h) = true := allOne_of (host_one h)

/-! ### their literals, and when two are one -/
def addrK (a : GAddr) : List Lit := a.b.map fun x => .int .u8 (x.toNat : Int)
def hostK (h : GHost) : List Lit := [.int .i64 h.kind] ++ ([.string h.name] ++ (addrK h.addr ++ []))
theorem u8_wf (x : UInt8) : (Lit.int .u8 (x.toNat : Int)).wf = true := by
  have := x.toNat_lt
  simp [Lit.wf, IntKind.min, IntKind.max, IntKind.signed, IntKind.bits]
  omega
theorem toNat_inj : ∀ (l m : List UInt8), l.map UInt8.toNat = m.map UInt8.toNat → l = m
  | [], [], _ => rfl
  | [], _ :: _, h => by simp at h
  | _ :: _, [], h => by simp at h
  | x :: l, y :: m, h => by
    simp only [List.map_cons, List.cons.injEq] at h
    rw [UInt8.toNat_inj.1 h.1, toNat_inj l m h.2]
theorem addrK_inj {a b : GAddr} (h : addrK a = addrK b) : a = b := by
  apply addr_ext
  have h' : a.b.map UInt8.toNat = b.b.map UInt8.toNat := by
    have := congrArg (List.map fun l : Lit => match l with | .int _ n => n.toNat | _ => 0) h
    simpa [addrK, List.map_map, Function.comp_def] using this
  exact toNat_inj _ _ h'
theorem hostK_inj {a b : GHost} (h : hostK a = hostK b) : a = b := by
  simp only [hostK, List.singleton_append, List.cons.injEq, List.append_nil, Lit.int.injEq, true_and, Lit.string.injEq] at h
  exact host_ext h.1 h.2.1 (addrK_inj h.2.2)
theorem list16 {α : Type} (l : List α) (h : l.length = 16) : ∃ a b c d e f g i j k m n o p q r, l = [a, b, c, d, e, f, g, i, j, k, m, n, o, p, q, r] := by
  match l, h with
  | [a, b, c, d, e, f, g, i, j, k, m, n, o, p, q, r], _ => exact ⟨a, b, c, d, e, f, g, i, j, k, m, n, o, p, q, r, rfl⟩
theorem keyLits_u8 (D : Nat) (x : UInt8) : Try.prog.keyLits (D + 1) 5 [.int .u8 (x.toNat : Int)] = some [.int .u8 (x.toNat : Int)] := by
  simp [Program.keyLits, Try.underlying5, u8_wf]
theorem keyLits_i64 (D : Nat) (n : Int) (h : (Lit.int .i64 n).wf = true) : Try.prog.keyLits (D + 1) 3 [.int .i64 n] = some [.int .i64 n] := by
  simp [Program.keyLits, Try.underlying3, h]
theorem keyLits_bool (D : Nat) (b : Bool) : Try.prog.keyLits (D + 1) 4 [.bool b] = some [.bool b] := by
  simp [Program.keyLits, Try.underlying4]
theorem keyLits_str (D : Nat) (s : List UInt8) (h : s.length ≤ maxLen) : Try.prog.keyLits (D + 1) 9 [.string ⟨s.toArray⟩] = some [.string s] := by
  simp [Program.keyLits, Try.underlying9, ByteArray.size, h]
theorem cellsOf_u8 : Try.prog.cellsOf 5 = 1 := by kernel_rfl
@[go_sem] theorem cellsOf_addr : Try.prog.cellsOf 27 = 16 := by kernel_rfl
@[go_sem] theorem cellsOf_host : Try.prog.cellsOf 29 = 18 := by kernel_rfl
theorem cellsOf_str : Try.prog.cellsOf 9 = 1 := by kernel_rfl
theorem cellsOf_int : Try.prog.cellsOf 3 = 1 := by kernel_rfl
theorem cellsOf_bool : Try.prog.cellsOf 4 = 1 := by kernel_rfl
@[go_sem] theorem agg_addr : isAggT Try.prog 27 = true := by kernel_rfl
@[go_sem] theorem agg_host : isAggT Try.prog 29 = true := by kernel_rfl
theorem keyLits_addr (D : Nat) (a : GAddr) : Try.prog.keyLits (D + 2) 27 (addrL a) = some (addrK a) := by
  obtain ⟨l, hl⟩ := a
  obtain ⟨a, b, c, d, e, f, g, i, j, k, m, n, o, p, q, r, rfl⟩ := list16 l hl
  simp [Program.keyLits, Try.underlying27, cellsOf_addr, cellsOf_u8, addrL, addrK, u8_wf, Try.underlying5, List.range_succ]
theorem keyLits_host (D : Nat) (h : GHost) : Try.prog.keyLits (D + 3) 29 (hostL h) = some (hostK h) := by
  have e1 : ((hostL h).drop 2).take 16 = addrL h.addr := by
    simp [hostL, List.take_of_length_le, addrL_length]
  have e2 : (hostL h).tail.take 1 = [.string ⟨h.name.toArray⟩] := by simp [hostL]
  have e3 : (hostL h).take 1 = [.int .i64 h.kind] := by simp [hostL]
  unfold Program.keyLits
  rw [Try.underlying29]
  simp [cellsOf_host, hostL_length, cellsOf_int, cellsOf_str, cellsOf_addr, e1, e2, e3, keyLits_addr, keyLits_str, keyLits_i64, h.hn, h.hk, hostK]
theorem eq_run {t : TypeId} {m : Nat} (hm : Try.prog.keyTypeAt m t = true) (hm' : m ≤ 10000) {xs ys : List Value} {lx ly : List Lit} {D D' : Nat} (hx : Try.prog.keyLits D t xs = some lx) (hy : Try.prog.keyLits D' t ys = some ly)
    (fx : (Value.agg xs.toArray).formed Try.prog t = true) (fy : (Value.agg ys.toArray).formed Try.prog t = true) (w : World) : ∃ r : Bool, (Op.equalIn 10000 t (.agg xs.toArray) (.agg ys.toArray)).run Try.prog w = .ok r w ∧ (r = true ↔ lx = ly) := by
  have := run_equalIn_deep (P := Try.prog) (10000 - m) m t hm
  rw [show 10000 - m + m = 10000 by omega] at this
  exact this w D D' _ _ lx ly fx fy hx hy
/-- '==' and '!=' of two values of a struct type, as a whole operation. -/
def eqRow (P : Program) (w : World) (t : TypeId) (x y : Operand) (u v : Value) : Result Next := Sem.run P (do pure (.value (← (do eqGuard .eql t x y u v; binOp .eql t u v)))) w
def neRow (P : Program) (w : World) (t : TypeId) (x y : Operand) (u v : Value) : Result Next := Sem.run P (do pure (.value (← (do eqGuard .neq t x y u v; binOp .neq t u v)))) w
@[go_sem ↓ high] theorem run_op_eql (P : Program) (ev : Operand → Value) (dst : Option Tmp) (t t' : TypeId) (x y : Operand) (ty : TypeId) (pos : String) (af : Array Edge) (g : Option (Nat × Bool)) (w : World) (_h : isAggT P t = true) :
    Sem.run P (execOp ev { dst := dst, op := .binOp .eql t x y t', type := ty, pos := pos, after := af, guard := g }) w = eqRow P w t x y (ev x) (ev y) := rfl
@[go_sem ↓ high] theorem run_op_neq (P : Program) (ev : Operand → Value) (dst : Option Tmp) (t t' : TypeId) (x y : Operand) (ty : TypeId) (pos : String) (af : Array Edge) (g : Option (Nat × Bool)) (w : World) (_h : isAggT P t = true) :
    Sem.run P (execOp ev { dst := dst, op := .binOp .neq t x y t', type := ty, pos := pos, after := af, guard := g }) w = neRow P w t x y (ev x) (ev y) := rfl
/-- What the two operations come to, of any struct type of literals. -/
theorem eq_rows {t : TypeId} {m : Nat} (hm : Try.prog.keyTypeAt m t = true) (hm' : m ≤ 10000) (hg : Try.prog.eqGuardType Try.prog.depth t = false) {xs ys : List Value} {lx ly : List Lit} {D D' : Nat} (hx : Try.prog.keyLits D t xs = some lx) (hy : Try.prog.keyLits D' t ys = some ly)
    (fx : (Value.agg xs.toArray).formed Try.prog t = true) (fy : (Value.agg ys.toArray).formed Try.prog t = true) {b : Bool} (hb : b = true ↔ lx = ly) (x y : Operand) (w : World) :
    eqRow Try.prog w t x y (.agg xs.toArray) (.agg ys.toArray) = .ok (.value (.bool b)) w ∧ neRow Try.prog w t x y (.agg xs.toArray) (.agg ys.toArray) = .ok (.value (.bool (!b))) w := by
  obtain ⟨r, h1, h2⟩ := eq_run hm hm' hx hy fx fy w
  obtain rfl : r = b := by rw [Bool.eq_iff_iff, h2, hb]
  constructor
  · simp [eqRow, Sem.run_bind, run_eqGuard_agg w .eql t x y _ _ hg, run_eql_struct, h1]
  · simp [neRow, Sem.run_bind, run_eqGuard_agg w .neq t x y _ _ hg, run_neq_struct, h1]
theorem host_rows (a b : GHost) (x y : Operand) (w : World) : eqRow Try.prog w 29 x y (.agg (hostC a)) (.agg (hostC b)) = .ok (.value (.bool (hostEq a b))) w ∧ neRow Try.prog w 29 x y (.agg (hostC a)) (.agg (hostC b)) = .ok (.value (.bool (!hostEq a b))) w :=
  eq_rows (m := 10) (by kernel_rfl) (by decide) (by kernel_rfl) (keyLits_host 0 a) (keyLits_host 0 b) (by simp [Value.formed, Try.underlying29, cellsOf_host, hostL_length]) (by simp [Value.formed, Try.underlying29, cellsOf_host, hostL_length])
    (by rw [hostEq_iff]; exact ⟨fun e => by rw [e], hostK_inj⟩) x y w
@[go_sem] theorem eqRow_host (a b : GHost) (x y : Operand) (w : World) : eqRow Try.prog w 29 x y (.agg (hostC a)) (.agg (hostC b)) = .ok (.value (.bool (hostEq a b))) w := (host_rows a b x y w).1
@[go_sem] theorem neRow_host (a b : GHost) (x y : Operand) (w : World) : neRow Try.prog w 29 x y (.agg (hostC a)) (.agg (hostC b)) = .ok (.value (.bool (!hostEq a b))) w := (host_rows a b x y w).2
end Go.Proofs.Ytaondmaebgicgaa
