/- Bytes and groups in memory: arrays of eight groups as data; noughts. -/
import Derived.Test.YtmfjabpmhkechaaGreatDoorHost
import Derived.Test.YtmfjabpmhkechaaGreatDoorOpenB
import Derived.Test.YtmfjabpmhkechaaGreatDoorVar
namespace Go.Proofs.YtmfjabpmhkechaaGreatDoor
open Go Go.RowKit
set_option maxRecDepth 20000
set_option linter.unusedSimpArgs false
set_option linter.unusedVariables false

theorem u8Cod_one : ∀ (x : UInt8), ∀ v ∈ [Value.int .u8 (x.toNat : Int)], v.oneCell' = true := by
  intro x v hv
  simp only [List.mem_singleton] at hv
  subst hv; rfl
theorem u16Cod_one : ∀ (x : UInt16), ∀ v ∈ [Value.int .u16 (x.toNat : Int)], v.oneCell' = true := by
  intro x v hv
  simp only [List.mem_singleton] at hv
  subst hv; rfl
def u8Cod : Cod UInt8 where
  E := 5
  S := 84
  sz := 1
  bys := 1
  z := .int .u8 0
  enc := fun x => [.int .u8 (x.toNat : Int)]
  und := Tryz.underlying84
  info := by kernel_rfl
  zsz := rfl
  pos := by decide
  len := fun _ => rfl
  one := u8Cod_one
def u16Cod : Cod UInt16 where
  E := 103
  S := 109
  sz := 1
  bys := 2
  z := .int .u16 0
  enc := fun x => [.int .u16 (x.toNat : Int)]
  und := Tryz.underlying109
  info := by kernel_rfl
  zsz := rfl
  pos := by decide
  len := fun _ => rfl
  one := u16Cod_one
theorem u8Encs : ∀ xs : List UInt8, u8Cod.encs xs = xs.map fun x => Value.int .u8 (x.toNat : Int)
  | [] => rfl
  | x :: xs => by
    have ih := u8Encs xs
    show [Value.int .u8 (x.toNat : Int)] ++ u8Cod.encs xs = _
    rw [ih]; rfl
theorem u16Encs : ∀ xs : List UInt16, u16Cod.encs xs = xs.map fun x => Value.int .u16 (x.toNat : Int)
  | [] => rfl
  | x :: xs => by
    have ih := u16Encs xs
    show [Value.int .u16 (x.toNat : Int)] ++ u16Cod.encs xs = _
    rw [ih]; rfl
theorem u16At {w : World} {b o : Nat} {xs : List UInt16} (h : ListAt u16Cod w b o xs) (i : Nat) (hi : i < xs.length) : w.cell? ⟨b, o + i, none⟩ = some (.int .u16 ((xs[i]'hi).toNat : Int)) :=
  h i _ (by rw [u16Encs]; simp [hi])
theorem u8At {w : World} {b o : Nat} {xs : List UInt8} (h : ListAt u8Cod w b o xs) (i : Nat) (hi : i < xs.length) : w.cell? ⟨b, o + i, none⟩ = some (.int .u8 ((xs[i]'hi).toNat : Int)) :=
  h i _ (by rw [u8Encs]; simp [hi])
theorem u8Set (xs : List UInt8) (k : Nat) (x : UInt8) : (u8Cod.encs xs).set k (.int .u8 (x.toNat : Int)) = u8Cod.encs (xs.set k x) := by
  rw [u8Encs, u8Encs, List.map_set]
theorem u16Set (xs : List UInt16) (k : Nat) (x : UInt16) : (u16Cod.encs xs).set k (.int .u16 (x.toNat : Int)) = u16Cod.encs (xs.set k x) := by
  rw [u16Encs, u16Encs, List.map_set]
theorem u8Len (xs : List UInt8) : (u8Cod.encs xs).length = xs.length := by rw [u8Encs, List.length_map]
theorem u16Len (xs : List UInt16) : (u16Cod.encs xs).length = xs.length := by rw [u16Encs, List.length_map]
theorem addrC_encs (a : GAddr) : addrC a = (u8Cod.encs a.b).toArray := by rw [u8Encs]; rfl
theorem addrC_mk (l : List UInt8) (h : l.length = 16) : (u8Cod.encs l).toArray = addrC ⟨l, h⟩ := by rw [addrC_encs]

/-! ### eight groups -/
structure GGroups where
  g : List UInt16
  len : g.length = 8
def groupsL (g : GGroups) : List Value := u16Cod.encs g.g
def groupsC (g : GGroups) : Array Value := (groupsL g).toArray
theorem groups_ext {a b : GGroups} (h : a.g = b.g) : a = b := by cases a; cases b; simp_all
def groupsEq (a b : GGroups) : Bool := a.g == b.g
theorem groupsEq_iff (a b : GGroups) : groupsEq a b = true ↔ a = b :=
  ⟨fun h => groups_ext (by simpa [groupsEq] using h), fun h => by subst h; simp [groupsEq]⟩
theorem groupsL_length (g : GGroups) : (groupsL g).length = 8 := by rw [groupsL, u16Len, g.len]
@[go_sem] theorem groupsC_size (g : GGroups) : (groupsC g).size = 8 := by simp [groupsC, groupsL_length]
@[go_sem] theorem groupsC_all (g : GGroups) : (groupsC g).extract 0 8 = groupsC g := by
  have := groupsC_size g
  rw [← this]; simp
@[go_sem] theorem groupsC_one (g : GGroups) : allOne (groupsC g) = true := allOne_of (u16Cod.encs_one g.g)
theorem groupsC_mk (l : List UInt16) (h : l.length = 8) : (u16Cod.encs l).toArray = groupsC ⟨l, h⟩ := rfl
theorem groups_get (g : GGroups) (k : Nat) (h : k < g.g.length) : (groupsC g)[k]? = some (.int .u16 ((g.g[k]'h).toNat : Int)) := by
  rw [groupsC, groupsL, u16Encs]; simp [h]
@[go_sem] theorem cellsOf_groups : Tryz.prog.cellsOf 104 = 8 := by kernel_rfl
theorem cellsOf_u16 : Tryz.prog.cellsOf 103 = 1 := by kernel_rfl
@[go_sem] theorem agg_groups : isAggT Tryz.prog 104 = true := by kernel_rfl
def groupsK (a : GGroups) : List Lit := a.g.map fun x => .int .u16 (x.toNat : Int)
theorem u16_wf (x : UInt16) : (Lit.int .u16 (x.toNat : Int)).wf = true := by
  have := x.toNat_lt
  simp [Lit.wf, IntKind.min, IntKind.max, IntKind.signed, IntKind.bits]
  omega
theorem toNat_inj16 : ∀ (l m : List UInt16), l.map UInt16.toNat = m.map UInt16.toNat → l = m
  | [], [], _ => rfl
  | [], _ :: _, h => by simp at h
  | _ :: _, [], h => by simp at h
  | x :: l, y :: m, h => by
    simp only [List.map_cons, List.cons.injEq] at h
    rw [UInt16.toNat_inj.1 h.1, toNat_inj16 l m h.2]
theorem groupsK_inj {a b : GGroups} (h : groupsK a = groupsK b) : a = b := by
  apply groups_ext
  have h' : a.g.map UInt16.toNat = b.g.map UInt16.toNat := by
    have := congrArg (List.map fun l : Lit => match l with | .int _ n => n.toNat | _ => 0) h
    simpa [groupsK, List.map_map, Function.comp_def] using this
  exact toNat_inj16 _ _ h'
theorem list8v {α : Type} (l : List α) (h : l.length = 8) : ∃ a b c d e f g i, l = [a, b, c, d, e, f, g, i] := by
  match l, h with
  | [a, b, c, d, e, f, g, i], _ => exact ⟨a, b, c, d, e, f, g, i, rfl⟩
theorem keyLits_groups (D : Nat) (a : GGroups) : Tryz.prog.keyLits (D + 2) 104 (groupsL a) = some (groupsK a) := by
  obtain ⟨l, hl⟩ := a
  obtain ⟨a, b, c, d, e, f, g, i, rfl⟩ := list8v l hl
  rw [groupsL, u16Encs]
  simp [Program.keyLits, Tryz.underlying104, cellsOf_groups, cellsOf_u16, groupsK, u16_wf, Tryz.underlying103, List.range_succ]
theorem groups_rows (a b : GGroups) (x y : Operand) (w : World) : eqRow Tryz.prog w 104 x y (.agg (groupsC a)) (.agg (groupsC b)) = .ok (.value (.bool (groupsEq a b))) w ∧ neRow Tryz.prog w 104 x y (.agg (groupsC a)) (.agg (groupsC b)) = .ok (.value (.bool (!groupsEq a b))) w :=
  eq_rows (m := 10) (by kernel_rfl) (by decide) (by kernel_rfl) (keyLits_groups 0 a) (keyLits_groups 0 b) (by simp [Value.formed, Tryz.underlying104, cellsOf_groups, groupsL_length]) (by simp [Value.formed, Tryz.underlying104, cellsOf_groups, groupsL_length])
    (by rw [groupsEq_iff]; exact ⟨fun e => by rw [e], groupsK_inj⟩) x y w
@[go_sem] theorem eqRow_groups (a b : GGroups) (x y : Operand) (w : World) : eqRow Tryz.prog w 104 x y (.agg (groupsC a)) (.agg (groupsC b)) = .ok (.value (.bool (groupsEq a b))) w := (groups_rows a b x y w).1
@[go_sem] theorem neRow_groups (a b : GGroups) (x y : Operand) (w : World) : neRow Tryz.prog w 104 x y (.agg (groupsC a)) (.agg (groupsC b)) = .ok (.value (.bool (!groupsEq a b))) w := (groups_rows a b x y w).2
theorem addr_rows (a b : GAddr) (x y : Operand) (w : World) : eqRow Tryz.prog w 24 x y (.agg (addrC a)) (.agg (addrC b)) = .ok (.value (.bool (addrEq a b))) w ∧ neRow Tryz.prog w 24 x y (.agg (addrC a)) (.agg (addrC b)) = .ok (.value (.bool (!addrEq a b))) w :=
  eq_rows (m := 10) (by kernel_rfl) (by decide) (by kernel_rfl) (keyLits_addr 0 a) (keyLits_addr 0 b) (by simp [Value.formed, Tryz.underlying24, cellsOf_addr, addrL_length]) (by simp [Value.formed, Tryz.underlying24, cellsOf_addr, addrL_length])
    (by rw [addrEq_iff]; exact ⟨fun e => by rw [e], addrK_inj⟩) x y w
@[go_sem] theorem eqRow_addr (a b : GAddr) (x y : Operand) (w : World) : eqRow Tryz.prog w 24 x y (.agg (addrC a)) (.agg (addrC b)) = .ok (.value (.bool (addrEq a b))) w := (addr_rows a b x y w).1
@[go_sem] theorem neRow_addr (a b : GAddr) (x y : Operand) (w : World) : neRow Tryz.prog w 24 x y (.agg (addrC a)) (.agg (addrC b)) = .ok (.value (.bool (!addrEq a b))) w := (addr_rows a b x y w).2
/-! ### noughts -/
def zeroA : GAddr := ⟨List.replicate 16 0, rfl⟩
def zeroG : GGroups := ⟨List.replicate 8 0, rfl⟩
theorem run_build_addr (w : World) : (Instr.build 24 #[]).run Tryz.prog w = .ok (.agg (addrC zeroA)) w := by kernel_rfl
theorem run_build_groups (w : World) : (Instr.build 104 #[]).run Tryz.prog w = .ok (.agg (groupsC zeroG)) w := by kernel_rfl
@[go_sem ↓ high] theorem run_op_build_addr (ev : Operand → Value) (dst : Option Tmp) (ty : TypeId) (pos : String) (af : Array Edge) (g : Option (Nat × Bool)) (w : World) :
    Sem.run Tryz.prog (execOp ev { dst := dst, op := .build 24 #[], type := ty, pos := pos, after := af, guard := g }) w = .ok (.value (.agg (addrC zeroA))) w := by
  rw [run_op_build, buildRow, Sem.run_bind]
  simp [run_build_addr]
@[go_sem ↓ high] theorem run_op_build_groups (ev : Operand → Value) (dst : Option Tmp) (ty : TypeId) (pos : String) (af : Array Edge) (g : Option (Nat × Bool)) (w : World) :
    Sem.run Tryz.prog (execOp ev { dst := dst, op := .build 104 #[], type := ty, pos := pos, after := af, guard := g }) w = .ok (.value (.agg (groupsC zeroG))) w := by
  rw [run_op_build, buildRow, Sem.run_bind]
  simp [run_build_groups]
section
variable {w : World} {r : Reach} {base : Nat}
theorem cell_u16 {P : Program} {t : TypeId} {v : Value} (ht : P.underlying t = some (.int .u16)) (h : Cell.okWide P w r base t v) : ∃ x : UInt16, v = .int .u16 (x.toNat : Int) := by
  obtain ⟨n, rfl, hw⟩ := cell_int ht h
  simp [Lit.wf, IntKind.min, IntKind.max, IntKind.signed, IntKind.bits] at hw
  refine ⟨UInt16.ofNat n.toNat, ?_⟩
  have : (UInt16.ofNat n.toNat).toNat = n.toNat := by
    rw [UInt16.toNat_ofNat']; omega
  rw [this]
  congr 1
  omega
theorem rowFits_u16 {P : Program} {t : TypeId} (ht : P.underlying t = some (.int .u16)) : ∀ {n : Nat} {vs : List Value}, RowFits P w r base (List.replicate n t) vs → ∃ l : List UInt16, l.length = n ∧ vs = l.map fun x => .int .u16 (x.toNat : Int)
  | 0, vs, h => ⟨[], rfl, by rw [rowFits_nil h]; rfl⟩
  | n + 1, vs, h => by
    rw [List.replicate_succ] at h
    obtain ⟨v, b, rfl, h1, h2⟩ := rowFits_cons h
    obtain ⟨x, rfl⟩ := cell_u16 ht h1
    obtain ⟨l, hl, rfl⟩ := rowFits_u16 ht h2
    exact ⟨x :: l, by simp [hl], rfl⟩
def groupsT : List TypeId := List.replicate 8 103
theorem open_groups {v : Value} (h : Value.okWide Tryz.prog w r base 104 v) : ∃ a : GGroups, v = .agg (groupsC a) := by
  unfold Value.okWide at h
  rw [Tryz.underlying104] at h
  obtain ⟨cs, rfl, hs, hr⟩ := h
  obtain ⟨l, hl, ha⟩ := rowFits_u16 Tryz.underlying103 (rowFits_row (ts := groupsT) (by kernel_rfl) (by rw [hs, cellsOf_groups]; rfl) hr)
  exact ⟨⟨l, hl⟩, by rw [groupsC, groupsL, u16Encs, ← ha]⟩
end
end Go.Proofs.YtmfjabpmhkechaaGreatDoor
