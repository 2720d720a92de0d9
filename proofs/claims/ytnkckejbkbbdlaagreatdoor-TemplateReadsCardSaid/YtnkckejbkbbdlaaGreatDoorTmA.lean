/- Merged: Base, Agg, Host, OpenB, Cod, Var, Grp, Pieces, Bytes, Lower. -/
import Derived.WalkKit
import Derived.WalkSpells
import Derived.WalkLawsBesides
import Derived.Lib.Strings
import Derived.Lib.Hide
import Derived.Laws.CopyRow
import Derived.Deep.WholeRow
import Derived.Deep.MidRow
import Derived.Lib.QuietBelow
import Derived.BigQuiet
import Derived.Test.YtnkckejbkbbdlaaGreatDoorProg
import Derived.DeepKeys
import Derived.KernelRfl
import Derived.ProofKit
import Derived.Deep.RegionLaw
import Derived.Lib.SplitLaws
import Derived.Lib.ConvBytes
import Derived.Laws.BytesString
namespace Go.Proofs.YtnkckejbkbbdlaaGreatDoor
section
open Go Go.RowKit

/-! ### strings as lists of bytes -/
@[go_sem] theorem bs_get (l : List UInt8) (i : Nat) (h : i < (ByteArray.mk l.toArray).size) : (ByteArray.mk l.toArray)[i]'h = l[i]'(by simpa [ByteArray.size] using h) := rfl
@[go_sem] theorem bs_extract (l : List UInt8) (a b : Nat) : (ByteArray.mk l.toArray).extract a b = ⟨((l.drop a).take (b - a)).toArray⟩ := by
  rw [Go.Lib.extract_eq]
@[go_sem high] theorem bs_extract_end (l : List UInt8) (a : Nat) : (ByteArray.mk l.toArray).extract a l.length = ⟨(l.drop a).toArray⟩ := by
  rw [Go.Lib.extract_eq]
  congr 2
  exact List.take_of_length_le (by simp)
@[go_sem] theorem bs_append (a b : List UInt8) : ByteArray.mk a.toArray ++ ByteArray.mk b.toArray = ⟨(a ++ b).toArray⟩ := by
  apply ByteArray.ext
  simp
theorem bs_mk (s : ByteArray) : ∃ l : List UInt8, s = ⟨l.toArray⟩ := ⟨s.data.toList, by cases s; rfl⟩

/-- A byte against a literal, as the walk spells it. -/
theorem u8_lit (c d : UInt8) (k : Int) (h : (d.toNat : Int) = k) : ((c.toNat : Int) == k) = (c == d) := by
  subst h
  rw [Bool.eq_iff_iff, beq_iff_eq, beq_iff_eq, Int.ofNat_inj, UInt8.toNat_inj]
theorem u8_lit_ne (c d : UInt8) (k : Int) (h : (d.toNat : Int) = k) : ((c.toNat : Int) != k) = (c != d) := by
  rw [bne, bne, u8_lit c d k h]
/-- Both tests at once. -/
theorem u8_both (c d : UInt8) (k : Int) (h : (d.toNat : Int) = k) : ((c.toNat : Int) == k) = (c == d) ∧ ((c.toNat : Int) != k) = !(c == d) :=
  ⟨u8_lit c d k h, by rw [bne, u8_lit c d k h]⟩
theorem ret_bool {a b : Bool} (h : a = b) : Ending.returned (.bool a) = .returned (.bool b) := by rw [h]
theorem ret_str {a b : List UInt8} (h : a = b) : Ending.returned (.string ⟨a.toArray⟩) = .returned (.string ⟨b.toArray⟩) := by rw [h]
theorem ret_int {k : IntKind} {a b : Int} (h : a = b) : Ending.returned (.int k a) = .returned (.int k b) := by rw [h]

def strLen : Value → Nat
  | .string s => s.data.size
  | _ => 0
theorem strLen_mk (l : List UInt8) : strLen (.string ⟨l.toArray⟩) = l.length := by simp [strLen]

/-! ### what a contract that makes memory leaves -/
theorem bcell {W w1 : World} (hb : Below W.heap.size W w1) : (∀ b o, b < W.heap.size → w1.cell? ⟨b, o, none⟩ = W.cell? ⟨b, o, none⟩) ∧ (∀ b o, b < W.heap.size → w1.frozen? ⟨b, o, none⟩ = W.frozen? ⟨b, o, none⟩) :=
  ⟨fun b o h => hb.cell (p := ⟨b, o, none⟩) h, fun b o h => hb.frozen (p := ⟨b, o, none⟩) h⟩
end

section
open Go Go.RowKit

/-- The n cells that lie from an address on. -/
def rowAt (w : World) (a : Addr) (n : Nat) : Array Value := ((List.range n).map fun j => (w.cell? (a.add j)).getD undef).toArray
/-- Are there so many? -/
def hasRow (w : World) (a : Addr) (n : Nat) : Bool := (List.range n).all fun j => (w.cell? (a.add j)).isSome

theorem hasRow_iff {w : World} {a : Addr} {n : Nat} : hasRow w a n = true ↔ ∀ j, j < n → (w.cell? (a.add j)).isSome = true := by
  simp [hasRow]

theorem run_row {P : Program} (w : World) (a : Addr) (n : Nat) (h : hasRow w a n = true) : Sem.run P (loadCellsFrom a 0 n #[]) w = .ok (rowAt w a n) w := by
  rw [hasRow_iff] at h
  have := run_loadCellsFrom (P := P) w a (fun j => (w.cell? (a.add j)).getD undef) n 0 #[] (fun j hj => by
    have := h j hj
    rw [Nat.zero_add]
    cases hc : w.cell? (a.add j)
    · rw [hc] at this; cases this
    · rfl)
  simpa [rowAt] using this

theorem add_mk (b o j : Nat) : (⟨b, o, none⟩ : Addr).add j = ⟨b, o + j, none⟩ := by unfold Addr.add; split <;> simp_all

theorem row_congr {w w' : World} {a a' : Addr} {n : Nat} (h : ∀ j, j < n → w.cell? (a.add j) = w'.cell? (a'.add j)) : rowAt w a n = rowAt w' a' n := by
  unfold rowAt
  congr 1
  apply List.map_congr_left
  intro j hj
  rw [h j (by simpa using hj)]
theorem has_congr {w w' : World} {a a' : Addr} {n : Nat} (h : ∀ j, j < n → w.cell? (a.add j) = w'.cell? (a'.add j)) : hasRow w a n = hasRow w' a' n := by
  rw [Bool.eq_iff_iff, hasRow_iff, hasRow_iff]
  constructor <;> intro hh j hj <;> have := hh j hj
  · rwa [← h j hj]
  · rwa [h j hj]

@[go_sem] theorem hasRow_new (w : World) (c : Array Value) (t : TypeId) (b o n : Nat) (hb : b = w.heap.size) (hn : o + n ≤ c.size) : hasRow (w.alloc (.cells c t)) ⟨b, o, none⟩ n = true := by
  rw [hasRow_iff]
  intro j hj
  rw [add_mk, World.cell?_alloc_at _ _ _ _ hb]
  simp; omega
@[go_sem] theorem rowAt_new (w : World) (c : Array Value) (t : TypeId) (b o n : Nat) (hb : b = w.heap.size) (hn : o + n ≤ c.size) : rowAt (w.alloc (.cells c t)) ⟨b, o, none⟩ n = c.extract o (o + n) := by
  apply Array.ext_getElem?
  intro j
  simp only [rowAt, List.getElem?_toArray, List.getElem?_map, add_mk, World.cell?_alloc_at _ _ _ _ hb, Array.getElem?_extract]
  by_cases hj : j < n
  · have e : (List.range n)[j]? = some j := by simp [hj]
    rw [if_pos (by omega), e, Option.map_some, Array.getElem?_eq_getElem (by omega)]
    rfl
  · have e : (List.range n)[j]? = none := by simp; omega
    rw [if_neg (by omega), e]
    rfl
/-- Does a block lie in a world? (As a Bool, so that the walk reckons it without side goals.) -/
def isOld (b : Nat) (w : World) : Bool := decide (b < w.heap.size)
theorem isOld_iff {b : Nat} {w : World} : isOld b w = true ↔ b < w.heap.size := by simp [isOld]
@[go_sem] theorem isOld_alloc (b : Nat) (w : World) (o : Obj) : isOld b (w.alloc o) = (isOld b w || b == w.heap.size) := by
  rw [Bool.eq_iff_iff, Bool.or_eq_true, isOld_iff, isOld_iff, beq_iff_eq]
  simp
  omega
@[go_sem] theorem isOld_drew (b : Nat) (w : World) : isOld b w.drew = isOld b w := rfl
@[go_sem] theorem isOld_drewN (b : Nat) (w : World) (n : Nat) : isOld b (w.drewN n) = isOld b w := by
  rw [Bool.eq_iff_iff, isOld_iff, isOld_iff]
  simp
@[go_sem] theorem isOld_setCell (b : Nat) (w : World) (a : Addr) (v : Value) : isOld b (w.setCell a v) = isOld b w := by simp [isOld, World.setCell]
@[go_sem ↓ high] theorem cell_alloc_old (w : World) (ob : Obj) (b i : Nat) (h : isOld b w = true) : (w.alloc ob).cell? ⟨b, i, none⟩ = w.cell? ⟨b, i, none⟩ := World.cell?_alloc_past ob b i (isOld_iff.1 h)
@[go_sem ↓ high] theorem frozen_alloc_old (w : World) (ob : Obj) (b i : Nat) (h : isOld b w = true) : (w.alloc ob).frozen? ⟨b, i, none⟩ = w.frozen? ⟨b, i, none⟩ := World.frozen?_alloc_past ob b i (isOld_iff.1 h)
@[go_sem] theorem hasRow_past (w : World) (ob : Obj) (b o n : Nat) (hb : isOld b w = true) : hasRow (w.alloc ob) ⟨b, o, none⟩ n = hasRow w ⟨b, o, none⟩ n :=
  has_congr fun j _ => by rw [add_mk]; exact World.cell?_alloc_past ob b (o + j) (isOld_iff.1 hb)
@[go_sem] theorem rowAt_past (w : World) (ob : Obj) (b o n : Nat) (hb : isOld b w = true) : rowAt (w.alloc ob) ⟨b, o, none⟩ n = rowAt w ⟨b, o, none⟩ n :=
  row_congr fun j _ => by rw [add_mk]; exact World.cell?_alloc_past ob b (o + j) (isOld_iff.1 hb)
@[go_sem] theorem hasRow_drew (w : World) (a : Addr) (n : Nat) : hasRow w.drew a n = hasRow w a n := rfl
@[go_sem] theorem rowAt_drew (w : World) (a : Addr) (n : Nat) : rowAt w.drew a n = rowAt w a n := rfl
@[go_sem] theorem hasRow_drewN (w : World) (k : Nat) (a : Addr) (n : Nat) : hasRow (w.drewN k) a n = hasRow w a n := has_congr fun j _ => by simp
@[go_sem] theorem rowAt_drewN (w : World) (k : Nat) (a : Addr) (n : Nat) : rowAt (w.drewN k) a n = rowAt w a n := row_congr fun j _ => by simp

/-! ### 'grown w p': w, with some draws more and some blocks behind it: what every call of ours leaves -/
def grown (w : World) (p : Regrown) : World := Sort.grow (redrawn w p.d) p.os
theorem below_grown' (w : World) (p : Regrown) : Below w.heap.size w (grown w p) := below_regrown w p.d p.os
theorem grown_of {w w' : World} (h : Below w.heap.size w w') : ∃ p : Regrown, w' = grown w p := regrown_of_below h
@[go_sem] theorem size_grown (w : World) (p : Regrown) : (grown w p).heap.size = w.heap.size + p.os.size := by simp [grown, redrawn]
/-- Two steps are one. -/
def Regrown.next (p q : Regrown) : Regrown := ⟨q.d, p.os ++ q.os⟩
theorem grown_grown (w : World) (p q : Regrown) : grown (grown w p) q = grown w (Regrown.next p q) := by
  simp [grown, redrawn, Sort.grow, Regrown.next]
/-- Does a block lie among those that a call left behind a world? (Nothing is reckoned of it.) -/
def isOldIn (b : Nat) (w : World) (p : Regrown) : Bool := decide (b < w.heap.size + p.os.size)
@[go_sem] theorem isOld_grown (b : Nat) (w : World) (p : Regrown) : isOld b (grown w p) = (isOld b w || isOldIn b w p) := by
  rw [Bool.eq_iff_iff, Bool.or_eq_true, isOld_iff, isOld_iff, size_grown, isOldIn, decide_eq_true_eq]
  omega
@[go_sem] theorem lt_add_r (a b c : Nat) (h : a < b) : a < b + c := by omega
@[go_sem] theorem rowAt_grown (w : World) (p : Regrown) (b o n : Nat) (hb : isOld b w = true) : rowAt (grown w p) ⟨b, o, none⟩ n = rowAt w ⟨b, o, none⟩ n :=
  row_congr fun j _ => by rw [add_mk]; exact (below_grown' w p).cell (p := ⟨b, o + j, none⟩) (isOld_iff.1 hb)
@[go_sem] theorem hasRow_grown (w : World) (p : Regrown) (b o n : Nat) (hb : isOld b w = true) : hasRow (grown w p) ⟨b, o, none⟩ n = hasRow w ⟨b, o, none⟩ n :=
  has_congr fun j _ => by rw [add_mk]; exact (below_grown' w p).cell (p := ⟨b, o + j, none⟩) (isOld_iff.1 hb)
@[go_sem] theorem cell_grown (w : World) (p : Regrown) (b o : Nat) (hb : isOld b w = true) : (grown w p).cell? ⟨b, o, none⟩ = w.cell? ⟨b, o, none⟩ :=
  (below_grown' w p).cell (p := ⟨b, o, none⟩) (isOld_iff.1 hb)
@[go_sem] theorem frozen_grown (w : World) (p : Regrown) (b o : Nat) (hb : isOld b w = true) : (grown w p).frozen? ⟨b, o, none⟩ = w.frozen? ⟨b, o, none⟩ :=
  (below_grown' w p).frozen (p := ⟨b, o, none⟩) (isOld_iff.1 hb)
theorem below_grown {B : Nat} {w w2 : World} (h : Below B w w2) (hB : B ≤ w2.heap.size) (p : Regrown) : Below B w (grown w2 p) := h.trans ((below_grown' w2 p).mono hB)
theorem below_drewN {B : Nat} {w w2 : World} (h : Below B w w2) (n : Nat) : Below B w (w2.drewN n) := h.trans ⟨rfl, rfl, rfl, Nat.le_refl _, fun _ _ => rfl⟩
theorem below_drew {B : Nat} {w w2 : World} (h : Below B w w2) : Below B w w2.drew := below_drewN h 1
theorem bel_up {w w1 w2 : World} (h : Below w.heap.size w w1) (hb : Below w1.heap.size w1 w2) : Below w.heap.size w w2 := h.trans (hb.mono h.size)
/-- A region that draws its order, whose own operations only read, and whose callees leave the world grown: walked once, in the order of the text. -/
theorem wp_region_quiet_grown {P : Program} {id : Nat} {Q : Exit → Act → World → Prop} {a : Act} {w : World} {l : List Oper} (hm : P.follows .mixedOrders = true) (hB : Region.lexB .any l.toArray = true)
    (h : wpQuiet P l.toArray (fun w' => ∃ p : Regrown, w' = grown w p) (fun a' => ∀ w', (∃ p : Regrown, w' = grown w p) → Q .normal a' w') l a) : (Code.region id l.toArray true).wp P Q a w :=
  wp_region_quiet_below hm hB h
/-- A callee's contract, met in a world of the class. -/
theorem quiet_grown {P : Program} {f : FuncId} {args : Array Value} {w : World} {p : Regrown} {v : Value}
    (h : Calls P f args (grown w p) fun e w' => e = .returned v ∧ Below (grown w p).heap.size (grown w p) w') : Calls P f args (grown w p) fun e w'' => e = .returned v ∧ ∃ p : Regrown, w'' = grown w p :=
  Calls.regrown_of h
/-- .. one that leaves the world as it was. -/
theorem quiet_still {P : Program} {f : FuncId} {args : Array Value} {w : World} {p : Regrown} {v : Value}
    (h : Calls P f args (grown w p) fun e w' => e = .returned v ∧ grown w p = w') : Calls P f args (grown w p) fun e w'' => e = .returned v ∧ ∃ p : Regrown, w'' = grown w p :=
  h.mono fun _ _ ⟨he, hw⟩ => ⟨he, p, hw.symm⟩
/-- What a contract that makes memory leaves of whole rows. -/
theorem brow {W w1 : World} (hb : Below W.heap.size W w1) : (∀ b o n, b < W.heap.size → rowAt w1 ⟨b, o, none⟩ n = rowAt W ⟨b, o, none⟩ n) ∧ (∀ b o n, b < W.heap.size → hasRow w1 ⟨b, o, none⟩ n = hasRow W ⟨b, o, none⟩ n) :=
  ⟨fun b o n h => row_congr fun j _ => by rw [add_mk]; exact hb.cell (p := ⟨b, o + j, none⟩) h, fun b o n h => has_congr fun j _ => by rw [add_mk]; exact hb.cell (p := ⟨b, o + j, none⟩) h⟩

/-! ### a whole struct stored into a block that was just made -/
theorem store_new {P : Program} (w : World) (c : Array Value) (t : TypeId) (b : Nat) (vs : List Value) (hb : b = w.heap.size) (hn : c.size = vs.length) (h1 : ∀ v ∈ vs, v.oneCell' = true) :
    Sem.run P (storeCells ⟨b, 0, none⟩ vs 0) (w.alloc (.cells c t)) = .ok () (w.alloc (.cells vs.toArray t)) := by
  subst hb
  have := run_storeCells_at (P := P) w.heap.size 0 t vs 0 c (w.alloc (.cells c t)) (heap_alloc_last w _) (by omega) h1
  rw [this]
  congr 1
  rw [World.setRow_alloc_new]
  congr 2
  simp [← hn]
/-- Is each cell one that may be stored? -/
def allOne (cs : Array Value) : Bool := cs.toList.all fun v => v.oneCell'
theorem allOne_of {l : List Value} (h : ∀ v ∈ l, v.oneCell' = true) : allOne l.toArray = true := List.all_eq_true.2 h

/-! ### WHOLE OPERATIONS at a type whose values are structs or arrays: met ahead of the walk's own rules, which would go cell by cell -/
/-- Is a type's value a struct or an array, of as many cells as the table says? -/
def isAggT (P : Program) (t : TypeId) : Bool := (match P.underlying t with | some (.struct _) | some (.array _ _) => true | _ => false) && (P.info? t).isSome
def loadRow (P : Program) (w : World) (t : TypeId) (v : Value) : Result Next := Sem.run P (do pure (.value (← Instr.loadAt t v))) w
def storeRow (P : Program) (w : World) (t : TypeId) (v x : Value) : Result Next := Sem.run P (do Instr.storeAt t v x; pure .skip) w
@[go_sem ↓ high] theorem run_op_load (P : Program) (ev : Operand → Value) (dst : Option Tmp) (t : TypeId) (x : Operand) (ty : TypeId) (pos : String) (af : Array Edge) (g : Option (Nat × Bool)) (w : World) (_h : isAggT P t = true) :
    Sem.run P (execOp ev { dst := dst, op := .load t x, type := ty, pos := pos, after := af, guard := g }) w = loadRow P w t (ev x) := rfl
@[go_sem ↓ high] theorem run_op_store (P : Program) (ev : Operand → Value) (dst : Option Tmp) (t : TypeId) (x y : Operand) (ty : TypeId) (pos : String) (af : Array Edge) (g : Option (Nat × Bool)) (w : World) (_h : isAggT P t = true) :
    Sem.run P (execOp ev { dst := dst, op := .store t x y, type := ty, pos := pos, after := af, guard := g }) w = storeRow P w t (ev x) (ev y) := rfl
theorem isAggT_run {P : Program} {t : TypeId} (h : isAggT P t = true) (w : World) : (isAgg t).run P w = .ok true w ∧ (sizeOf t).run P w = .ok (P.cellsOf t) w := by
  unfold isAggT at h
  rw [Bool.and_eq_true] at h
  obtain ⟨h1, h2⟩ := h
  cases hu : P.underlying t with
  | none => rw [hu] at h1; cases h1
  | some d =>
    obtain ⟨i, hi⟩ := Option.isSome_iff_exists.1 h2
    rw [hu] at h1
    constructor
    · cases d <;> first | (unfold isAgg; rw [Sem.run_bind, run_underlying hu]; rfl) | cases h1
    · simp [sizeOf, typeInfo, hi, Program.cellsOf]
theorem loadRow_at' {P : Program} {t : TypeId} (a : Addr) (w : World) (h : isAggT P t = true) (hr : hasRow w a (P.cellsOf t) = true) : loadRow P w t (.pointer (some a)) = .ok (.value (.agg (rowAt w a (P.cellsOf t)))) w := by
  obtain ⟨h1, h2⟩ := isAggT_run h w
  have := run_row (P := P) w a _ hr
  simp [loadRow, Instr.loadAt, Instr.sureAddr, loadVar, Sem.run_bind, h1, h2, loadCells, this]
/-- The same load, when it is not known whether so many cells are there. -/
def loadRow' (P : Program) (w : World) (t : TypeId) (v : Value) : Result Next := loadRow P w t v
@[go_sem] theorem loadRow_at {P : Program} {t : TypeId} (a : Addr) (w : World) (h : isAggT P t = true) : loadRow P w t (.pointer (some a)) = if hasRow w a (P.cellsOf t) = true then .ok (.value (.agg (rowAt w a (P.cellsOf t)))) w else loadRow' P w t (.pointer (some a)) := by
  split
  · rename_i hr
    exact loadRow_at' a w h hr
  · rfl
@[go_sem] theorem storeRow_new {P : Program} {t : TypeId} (w : World) (c cs : Array Value) (t' : TypeId) (b : Nat) (hb : b = w.heap.size) (h : isAggT P t = true) (hs : cs.size = P.cellsOf t) (hn : c.size = cs.size) (h1 : allOne cs = true) :
    storeRow P (w.alloc (.cells c t')) t (.pointer (some ⟨b, 0, none⟩)) (.agg cs) = .ok .skip (w.alloc (.cells cs t')) := by
  obtain ⟨_, h2⟩ := isAggT_run h (w.alloc (.cells c t'))
  have h3 : (Value.agg cs).cells = cs := rfl
  have := store_new (P := P) w c t' b cs.toList hb (by simpa using hn) (List.all_eq_true.1 h1)
  simp only [storeRow, Instr.storeAt, Instr.sureAddr, storeVar, Sem.run_bind, Sem.run_pure, Result.andThen_ok, h2, h3, hs]
  simp [this]
def buildRow (P : Program) (w : World) (t : TypeId) (parts : Array (Nat × Value)) : Result Next := Sem.run P (do pure (.value (← Instr.build t parts))) w
theorem run_op_build (P : Program) (ev : Operand → Value) (dst : Option Tmp) (t : TypeId) (parts : Array (Nat × Operand)) (ty : TypeId) (pos : String) (af : Array Edge) (g : Option (Nat × Bool)) (w : World) :
    Sem.run P (execOp ev { dst := dst, op := .build t parts, type := ty, pos := pos, after := af, guard := g }) w = buildRow P w t (parts.map fun (i, x) => (i, ev x)) := rfl

/-! ### a result that is a struct: it is read out of its variable at the end -/
theorem run_loadVar_agg {P : Program} {ty : TypeId} (hagg : isAggT P ty = true) (a : Addr) (w : World) (hr : hasRow w a (P.cellsOf ty) = true) : (loadVar ty a).run P w = .ok (.agg (rowAt w a (P.cellsOf ty))) w := by
  obtain ⟨h1, h2⟩ := isAggT_run hagg w
  have := run_row (P := P) w a _ hr
  simp [loadVar, Sem.run_bind, h1, h2, loadCells, this]
theorem ret_cell {P : Program} {fn : Func} {p : Tmp} {ty : TypeId} {R : Ending → World → Prop} {a : Act} {w : World} (g : Nat) (cs : Array Value) (h : fn.results = #[.cell p ty]) (hp : a.tmps.getD p undef = .pointer (some ⟨g, 0, none⟩)) (hagg : isAggT P ty = true)
    (hr : hasRow w ⟨g, 0, none⟩ (P.cellsOf ty) = true) (hc : rowAt w ⟨g, 0, none⟩ (P.cellsOf ty) = cs) (hd : a.defers = []) (hR : R (.returned (.agg cs)) w) : bodyPost P fn R .ret a w := by
  refine bodyPost_ret (v := .agg cs) ?_ hd hR
  have hp' : a.tmps[p]?.getD undef = .pointer (some ⟨g, 0, none⟩) := by simpa using hp
  have := run_loadVar_agg (P := P) hagg ⟨g, 0, none⟩ w hr
  rw [hc] at this
  simp [results, h, hp', asAddr, this]
theorem ret_cell_tmp {P : Program} {fn : Func} {p u : Tmp} {ty : TypeId} {R : Ending → World → Prop} {a : Act} {w : World} (g : Nat) (cs : Array Value) (v : Value) (h : fn.results = #[.cell p ty, .tmp u]) (hp : a.tmps.getD p undef = .pointer (some ⟨g, 0, none⟩)) (hv : a.tmps.getD u undef = v) (hagg : isAggT P ty = true)
    (hr : hasRow w ⟨g, 0, none⟩ (P.cellsOf ty) = true) (hc : rowAt w ⟨g, 0, none⟩ (P.cellsOf ty) = cs) (hd : a.defers = []) (hR : R (.returned (.tuple #[.agg cs, v])) w) : bodyPost P fn R .ret a w := by
  refine bodyPost_ret (v := .tuple #[.agg cs, v]) ?_ hd hR
  have := run_loadVar_agg (P := P) hagg ⟨g, 0, none⟩ w hr
  rw [hc] at this
  rw [Go.results_cell_tmp h, hp, hv]
  simp [asAddr, this, Result.andThen]
end

section
open Go Go.RowKit

/-- An address: sixteen bytes. -/
structure GAddr where
  b : List UInt8
  len : b.length = 16
/-- A host. -/
structure GHost where
  kind : Int
  name : List UInt8
  addr : GAddr
  hk : (Lit.int .i64 kind).wf = true
  hn : name.length ≤ maxLen

def addrL (a : GAddr) : List Value := a.b.map fun x => .int .u8 (x.toNat : Int)
def hostL (h : GHost) : List Value := .int .i64 h.kind :: .string ⟨h.name.toArray⟩ :: addrL h.addr
def addrC (a : GAddr) : Array Value := (addrL a).toArray
def hostC (h : GHost) : Array Value := (hostL h).toArray
def addrEq (a b : GAddr) : Bool := a.b == b.b
def hostEq (a b : GHost) : Bool := a.kind == b.kind && (a.name == b.name && addrEq a.addr b.addr)

theorem addr_ext {a b : GAddr} (h : a.b = b.b) : a = b := by cases a; cases b; simp_all
theorem host_ext {a b : GHost} (h1 : a.kind = b.kind) (h2 : a.name = b.name) (h3 : a.addr = b.addr) : a = b := by cases a; cases b; simp_all
theorem addrEq_iff (a b : GAddr) : addrEq a b = true ↔ a = b :=
  ⟨fun h => addr_ext (by simpa [addrEq] using h), fun h => by subst h; simp [addrEq]⟩
theorem hostEq_iff (a b : GHost) : hostEq a b = true ↔ a = b := by
  constructor
  · intro h
    simp only [hostEq, Bool.and_eq_true, beq_iff_eq, addrEq_iff] at h
    exact host_ext h.1 h.2.1 h.2.2
  · intro h; subst h; simp [hostEq, (addrEq_iff _ _).2 rfl]

theorem addrL_length (a : GAddr) : (addrL a).length = 16 := by simp [addrL, a.len]
theorem hostL_length (h : GHost) : (hostL h).length = 18 := by simp [hostL, addrL_length]
@[go_sem] theorem addrC_size (a : GAddr) : (addrC a).size = 16 := by simp [addrC, addrL_length]
@[go_sem] theorem hostC_size (h : GHost) : (hostC h).size = 18 := by simp [hostC, hostL_length]
@[go_sem ↓ high] theorem hostC_0 (h : GHost) : (hostC h)[0]? = some (.int .i64 h.kind) := by simp [hostC, hostL]
@[go_sem ↓ high] theorem hostC_1 (h : GHost) : (hostC h)[1]? = some (.string ⟨h.name.toArray⟩) := by simp [hostC, hostL]
@[go_sem] theorem addrC_all (a : GAddr) : (addrC a).extract 0 16 = addrC a := by
  have := addrC_size a
  rw [← this]; simp
@[go_sem] theorem hostC_all (h : GHost) : (hostC h).extract 0 18 = hostC h := by
  have := hostC_size h
  rw [← this]; simp
theorem extract_mid (l m r : List Value) (a b : Nat) (ha : l.length = a) (hb : a + m.length = b) : (l ++ (m ++ r)).toArray.extract a b = m.toArray := by
  subst ha hb
  simp
@[go_sem] theorem hostC_addr (h : GHost) : (hostC h).extract 2 18 = addrC h.addr := by
  have := extract_mid [.int .i64 h.kind, .string ⟨h.name.toArray⟩] (addrL h.addr) [] 2 18 rfl (by rw [addrL_length])
  simpa [hostC, hostL, addrC] using this
theorem addr_one (a : GAddr) : ∀ v ∈ addrL a, v.oneCell' = true := by
  intro v hv
  simp only [addrL, List.mem_map] at hv
  obtain ⟨x, _, rfl⟩ := hv
  rfl
theorem host_one (h : GHost) : ∀ v ∈ hostL h, v.oneCell' = true := by
  intro v hv
  simp only [hostL, List.mem_cons] at hv
  rcases hv with rfl | rfl | hv
  · rfl
  · rfl
  · exact addr_one _ v hv

@[go_sem] theorem addrC_one (a : GAddr) : allOne (addrC a) = true := allOne_of (addr_one a)
@[go_sem] theorem hostC_one (h : GHost) : allOne (hostC h) = true := allOne_of (host_one h)

/-! ### their literals, and when two are one -/
def addrK (a : GAddr) : List Lit := a.b.map fun x => .int .u8 (x.toNat : Int)
def hostK (h : GHost) : List Lit := [.int .i64 h.kind] ++ ([.string h.name] ++ (addrK h.addr ++ []))
theorem u8_wf (x : UInt8) : (Lit.int .u8 (x.toNat : Int)).wf = true := by
  have := x.toNat_lt
  simp [Lit.wf, IntKind.min, IntKind.max, IntKind.signed, IntKind.bits]
  omega
theorem toNat_inj : ∀ (l m : List UInt8), l.map UInt8.toNat = m.map UInt8.toNat → l = m
  | [], [], _ => rfl
  | [], _ :: _, h => by simp at h
  | _ :: _, [], h => by simp at h
  | x :: l, y :: m, h => by
    simp only [List.map_cons, List.cons.injEq] at h
    rw [UInt8.toNat_inj.1 h.1, toNat_inj l m h.2]
theorem addrK_inj {a b : GAddr} (h : addrK a = addrK b) : a = b := by
  apply addr_ext
  have h' : a.b.map UInt8.toNat = b.b.map UInt8.toNat := by
    have := congrArg (List.map fun l : Lit => match l with | .int _ n => n.toNat | _ => 0) h
    simpa [addrK, List.map_map, Function.comp_def] using this
  exact toNat_inj _ _ h'
theorem hostK_inj {a b : GHost} (h : hostK a = hostK b) : a = b := by
  simp only [hostK, List.singleton_append, List.cons.injEq, List.append_nil, Lit.int.injEq, true_and, Lit.string.injEq] at h
  exact host_ext h.1 h.2.1 (addrK_inj h.2.2)
theorem list16 {α : Type} (l : List α) (h : l.length = 16) : ∃ a b c d e f g i j k m n o p q r, l = [a, b, c, d, e, f, g, i, j, k, m, n, o, p, q, r] := by
  match l, h with
  | [a, b, c, d, e, f, g, i, j, k, m, n, o, p, q, r], _ => exact ⟨a, b, c, d, e, f, g, i, j, k, m, n, o, p, q, r, rfl⟩
theorem keyLits_u8 (D : Nat) (x : UInt8) : Tryz.prog.keyLits (D + 1) 5 [.int .u8 (x.toNat : Int)] = some [.int .u8 (x.toNat : Int)] := by
  simp [Program.keyLits, Tryz.underlying5, u8_wf]
theorem keyLits_i64 (D : Nat) (n : Int) (h : (Lit.int .i64 n).wf = true) : Tryz.prog.keyLits (D + 1) 3 [.int .i64 n] = some [.int .i64 n] := by
  simp [Program.keyLits, Tryz.underlying3, h]
theorem keyLits_bool (D : Nat) (b : Bool) : Tryz.prog.keyLits (D + 1) 4 [.bool b] = some [.bool b] := by
  simp [Program.keyLits, Tryz.underlying4]
theorem keyLits_str (D : Nat) (s : List UInt8) (h : s.length ≤ maxLen) : Tryz.prog.keyLits (D + 1) 9 [.string ⟨s.toArray⟩] = some [.string s] := by
  simp [Program.keyLits, Tryz.underlying9, ByteArray.size, h]
theorem cellsOf_u8 : Tryz.prog.cellsOf 5 = 1 := by kernel_rfl
@[go_sem] theorem cellsOf_addr : Tryz.prog.cellsOf 35 = 16 := by kernel_rfl
@[go_sem] theorem cellsOf_host : Tryz.prog.cellsOf 37 = 18 := by kernel_rfl
theorem cellsOf_str : Tryz.prog.cellsOf 9 = 1 := by kernel_rfl
theorem cellsOf_int : Tryz.prog.cellsOf 3 = 1 := by kernel_rfl
theorem cellsOf_bool : Tryz.prog.cellsOf 4 = 1 := by kernel_rfl
@[go_sem] theorem agg_addr : isAggT Tryz.prog 35 = true := by kernel_rfl
@[go_sem] theorem agg_host : isAggT Tryz.prog 37 = true := by kernel_rfl
theorem keyLits_addr (D : Nat) (a : GAddr) : Tryz.prog.keyLits (D + 2) 35 (addrL a) = some (addrK a) := by
  obtain ⟨l, hl⟩ := a
  obtain ⟨a, b, c, d, e, f, g, i, j, k, m, n, o, p, q, r, rfl⟩ := list16 l hl
  simp [Program.keyLits, Tryz.underlying35, cellsOf_addr, cellsOf_u8, addrL, addrK, u8_wf, Tryz.underlying5, List.range_succ]
theorem keyLits_host (D : Nat) (h : GHost) : Tryz.prog.keyLits (D + 3) 37 (hostL h) = some (hostK h) := by
  have e1 : ((hostL h).drop 2).take 16 = addrL h.addr := by
    simp [hostL, List.take_of_length_le, addrL_length]
  have e2 : (hostL h).tail.take 1 = [.string ⟨h.name.toArray⟩] := by simp [hostL]
  have e3 : (hostL h).take 1 = [.int .i64 h.kind] := by simp [hostL]
  unfold Program.keyLits
  rw [Tryz.underlying37]
  simp [cellsOf_host, hostL_length, cellsOf_int, cellsOf_str, cellsOf_addr, e1, e2, e3, keyLits_addr, keyLits_str, keyLits_i64, h.hn, h.hk, hostK]
theorem eq_run {t : TypeId} {m : Nat} (hm : Tryz.prog.keyTypeAt m t = true) (hm' : m ≤ 10000) {xs ys : List Value} {lx ly : List Lit} {D D' : Nat} (hx : Tryz.prog.keyLits D t xs = some lx) (hy : Tryz.prog.keyLits D' t ys = some ly)
    (fx : (Value.agg xs.toArray).formed Tryz.prog t = true) (fy : (Value.agg ys.toArray).formed Tryz.prog t = true) (w : World) : ∃ r : Bool, (Op.equalIn 10000 t (.agg xs.toArray) (.agg ys.toArray)).run Tryz.prog w = .ok r w ∧ (r = true ↔ lx = ly) := by
  have := run_equalIn_deep (P := Tryz.prog) (10000 - m) m t hm
  rw [show 10000 - m + m = 10000 by omega] at this
  exact this w D D' _ _ lx ly fx fy hx hy
/-- '==' and '!=' of two values of a struct type, as a whole operation. -/
def eqRow (P : Program) (w : World) (t : TypeId) (x y : Operand) (u v : Value) : Result Next := Sem.run P (do pure (.value (← (do eqGuard .eql t x y u v; binOp .eql t u v)))) w
def neRow (P : Program) (w : World) (t : TypeId) (x y : Operand) (u v : Value) : Result Next := Sem.run P (do pure (.value (← (do eqGuard .neq t x y u v; binOp .neq t u v)))) w
@[go_sem ↓ high] theorem run_op_eql (P : Program) (ev : Operand → Value) (dst : Option Tmp) (t t' : TypeId) (x y : Operand) (ty : TypeId) (pos : String) (af : Array Edge) (g : Option (Nat × Bool)) (w : World) (_h : isAggT P t = true) :
    Sem.run P (execOp ev { dst := dst, op := .binOp .eql t x y t', type := ty, pos := pos, after := af, guard := g }) w = eqRow P w t x y (ev x) (ev y) := rfl
@[go_sem ↓ high] theorem run_op_neq (P : Program) (ev : Operand → Value) (dst : Option Tmp) (t t' : TypeId) (x y : Operand) (ty : TypeId) (pos : String) (af : Array Edge) (g : Option (Nat × Bool)) (w : World) (_h : isAggT P t = true) :
    Sem.run P (execOp ev { dst := dst, op := .binOp .neq t x y t', type := ty, pos := pos, after := af, guard := g }) w = neRow P w t x y (ev x) (ev y) := rfl
/-- What the two operations come to, of any struct type of literals. -/
theorem eq_rows {t : TypeId} {m : Nat} (hm : Tryz.prog.keyTypeAt m t = true) (hm' : m ≤ 10000) (hg : Tryz.prog.eqGuardType Tryz.prog.depth t = false) {xs ys : List Value} {lx ly : List Lit} {D D' : Nat} (hx : Tryz.prog.keyLits D t xs = some lx) (hy : Tryz.prog.keyLits D' t ys = some ly)
    (fx : (Value.agg xs.toArray).formed Tryz.prog t = true) (fy : (Value.agg ys.toArray).formed Tryz.prog t = true) {b : Bool} (hb : b = true ↔ lx = ly) (x y : Operand) (w : World) :
    eqRow Tryz.prog w t x y (.agg xs.toArray) (.agg ys.toArray) = .ok (.value (.bool b)) w ∧ neRow Tryz.prog w t x y (.agg xs.toArray) (.agg ys.toArray) = .ok (.value (.bool (!b))) w := by
  obtain ⟨r, h1, h2⟩ := eq_run hm hm' hx hy fx fy w
  obtain rfl : r = b := by rw [Bool.eq_iff_iff, h2, hb]
  constructor
  · simp [eqRow, Sem.run_bind, run_eqGuard_agg w .eql t x y _ _ hg, run_eql_struct, h1]
  · simp [neRow, Sem.run_bind, run_eqGuard_agg w .neq t x y _ _ hg, run_neq_struct, h1]
theorem host_rows (a b : GHost) (x y : Operand) (w : World) : eqRow Tryz.prog w 37 x y (.agg (hostC a)) (.agg (hostC b)) = .ok (.value (.bool (hostEq a b))) w ∧ neRow Tryz.prog w 37 x y (.agg (hostC a)) (.agg (hostC b)) = .ok (.value (.bool (!hostEq a b))) w :=
  eq_rows (m := 10) (by kernel_rfl) (by decide) (by kernel_rfl) (keyLits_host 0 a) (keyLits_host 0 b) (by simp [Value.formed, Tryz.underlying37, cellsOf_host, hostL_length]) (by simp [Value.formed, Tryz.underlying37, cellsOf_host, hostL_length])
    (by rw [hostEq_iff]; exact ⟨fun e => by rw [e], hostK_inj⟩) x y w
@[go_sem] theorem eqRow_host (a b : GHost) (x y : Operand) (w : World) : eqRow Tryz.prog w 37 x y (.agg (hostC a)) (.agg (hostC b)) = .ok (.value (.bool (hostEq a b))) w := (host_rows a b x y w).1
@[go_sem] theorem neRow_host (a b : GHost) (x y : Operand) (w : World) : neRow Tryz.prog w 37 x y (.agg (hostC a)) (.agg (hostC b)) = .ok (.value (.bool (!hostEq a b))) w := (host_rows a b x y w).2
end

section
open Go Go.RowKit
set_option maxRecDepth 20000

def RowFits (P : Program) (w : World) (r : Reach) (base : Nat) : List TypeId → List Value → Prop
  | [], [] => True
  | t :: ts, v :: vs => Cell.okWide P w r base t v ∧ RowFits P w r base ts vs
  | _, _ => False
section
variable {P : Program} {w : World} {r : Reach} {base : Nat}
theorem rowFits_of {ts : List TypeId} : ∀ {vs : List Value}, vs.length = ts.length → (∀ (i : Nat) (v : Value), vs[i]? = some v → ∃ u, ts[i]? = some u ∧ Cell.okWide P w r base u v) → RowFits P w r base ts vs := by
  induction ts with
  | nil =>
    intro vs hl _
    rcases vs with _ | ⟨v, vs⟩
    · exact trivial
    · simp at hl
  | cons t ts ih =>
    intro vs hl h
    rcases vs with _ | ⟨v, vs⟩
    · simp at hl
    · obtain ⟨u, hu, hc⟩ := h 0 v rfl
      obtain rfl : t = u := by simpa using hu
      exact ⟨hc, ih (by simpa using hl) (fun i x hx => h (i + 1) x hx)⟩
theorem rowFits_row {t : TypeId} {ts : List TypeId} {cs : Array Value} (ht : P.cellTypes P.depth t = some ts) (hs : cs.size = ts.length) (h : Row.okWide P w r base t cs) : RowFits P w r base ts cs.toList := by
  obtain ⟨us, hu, _, hc⟩ := h
  obtain rfl : ts = us := by rw [ht] at hu; exact Option.some.inj hu
  refine rowFits_of (by simpa using hs) fun i v hv => ?_
  have hi : i < ts.length := by
    rw [← hs]
    rw [← Array.length_toList]
    exact (List.getElem?_eq_some_iff.1 hv).1
  obtain ⟨u, hu, hc'⟩ := hc i v (by rw [← Array.getElem?_toList]; exact hv)
  rw [Nat.mod_eq_of_lt hi] at hu
  exact ⟨u, hu, hc'⟩
theorem rowFits_split : ∀ {ts us : List TypeId} {vs : List Value}, RowFits P w r base (ts ++ us) vs → ∃ a b, vs = a ++ b ∧ RowFits P w r base ts a ∧ RowFits P w r base us b
  | [], us, vs, h => ⟨[], vs, rfl, trivial, h⟩
  | t :: ts, us, [], h => by simp [RowFits] at h
  | t :: ts, us, v :: vs, h => by
    obtain ⟨h1, h2⟩ := h
    obtain ⟨a, b, e, ha, hb⟩ := rowFits_split h2
    exact ⟨v :: a, b, by rw [e]; rfl, ⟨h1, ha⟩, hb⟩
theorem rowFits_cons {t : TypeId} {ts : List TypeId} {vs : List Value} (h : RowFits P w r base (t :: ts) vs) : ∃ v b, vs = v :: b ∧ Cell.okWide P w r base t v ∧ RowFits P w r base ts b := by
  rcases vs with _ | ⟨v, vs⟩
  · simp [RowFits] at h
  · exact ⟨v, vs, rfl, h.1, h.2⟩
theorem rowFits_nil {vs : List Value} (h : RowFits P w r base [] vs) : vs = [] := by
  rcases vs with _ | ⟨v, vs⟩
  · rfl
  · simp [RowFits] at h

theorem cell_str {t : TypeId} {v : Value} (ht : P.underlying t = some .string) (h : Cell.okWide P w r base t v) : ∃ s : List UInt8, v = .string ⟨s.toArray⟩ ∧ s.length ≤ maxLen := by
  unfold Cell.okWide Cell.ok at h
  rw [ht] at h
  cases v <;> simp at h
  rename_i s
  refine ⟨s.data.toList, by cases s; rfl, ?_⟩
  have : s.data.toList.length = s.size := by cases s; rfl
  unfold maxLen
  omega
theorem cell_bool {t : TypeId} {v : Value} (ht : P.underlying t = some .bool) (h : Cell.okWide P w r base t v) : ∃ b : Bool, v = .bool b := by
  unfold Cell.okWide Cell.ok at h
  rw [ht] at h
  cases v <;> simp at h
  exact ⟨_, rfl⟩
theorem cell_int {t : TypeId} {k : IntKind} {v : Value} (ht : P.underlying t = some (.int k)) (h : Cell.okWide P w r base t v) : ∃ n : Int, v = .int k n ∧ (Lit.int k n).wf = true := by
  unfold Cell.okWide Cell.ok at h
  rw [ht] at h
  cases v <;> simp at h
  obtain ⟨rfl, h⟩ := h
  exact ⟨_, rfl, by simpa [Lit.wf, IntKind.has] using h⟩
theorem cell_u8 {t : TypeId} {v : Value} (ht : P.underlying t = some (.int .u8)) (h : Cell.okWide P w r base t v) : ∃ x : UInt8, v = .int .u8 (x.toNat : Int) := by
  obtain ⟨n, rfl, hw⟩ := cell_int ht h
  simp [Lit.wf, IntKind.min, IntKind.max, IntKind.signed, IntKind.bits] at hw
  refine ⟨UInt8.ofNat n.toNat, ?_⟩
  have : (UInt8.ofNat n.toNat).toNat = n.toNat := by
    rw [UInt8.toNat_ofNat']; omega
  rw [this]
  congr 1
  omega
theorem rowFits_u8 {t : TypeId} (ht : P.underlying t = some (.int .u8)) : ∀ {n : Nat} {vs : List Value}, RowFits P w r base (List.replicate n t) vs → ∃ l : List UInt8, l.length = n ∧ vs = l.map fun x => .int .u8 (x.toNat : Int)
  | 0, vs, h => ⟨[], rfl, by rw [rowFits_nil h]; rfl⟩
  | n + 1, vs, h => by
    rw [List.replicate_succ] at h
    obtain ⟨v, b, rfl, h1, h2⟩ := rowFits_cons h
    obtain ⟨x, rfl⟩ := cell_u8 ht h1
    obtain ⟨l, hl, rfl⟩ := rowFits_u8 ht h2
    exact ⟨x :: l, by simp [hl], rfl⟩
end

section
variable {w : World} {r : Reach} {base : Nat}
theorem open_str {v : Value} (h : Value.okWide Tryz.prog w r base 9 v) : ∃ s : List UInt8, v = .string ⟨s.toArray⟩ ∧ s.length ≤ maxLen := by
  unfold Value.okWide at h
  rw [Tryz.underlying9] at h
  exact cell_str Tryz.underlying9 h
theorem open_boolv {v : Value} (h : Value.okWide Tryz.prog w r base 4 v) : ∃ b : Bool, v = .bool b := by
  unfold Value.okWide at h
  rw [Tryz.underlying4] at h
  exact cell_bool Tryz.underlying4 h
theorem open_u8v {v : Value} (h : Value.okWide Tryz.prog w r base 5 v) : ∃ x : UInt8, v = .int .u8 (x.toNat : Int) := by
  unfold Value.okWide at h
  rw [Tryz.underlying5] at h
  exact cell_u8 Tryz.underlying5 h
theorem open_int64 {v : Value} (h : Value.okWide Tryz.prog w r base 3 v) : ∃ n : Int, v = .int .i64 n ∧ (Lit.int .i64 n).wf = true := by
  unfold Value.okWide at h
  rw [Tryz.underlying3] at h
  exact cell_int Tryz.underlying3 h
theorem open_int64' {v : Value} (h : Value.okWide Tryz.prog w r base 2 v) : ∃ n : Int, v = .int .i64 n ∧ (Lit.int .i64 n).wf = true := by
  unfold Value.okWide at h
  rw [Tryz.underlying2] at h
  exact cell_int Tryz.underlying2 h
end
end

section
open Go Go.RowKit
set_option linter.unusedSimpArgs false
set_option linter.unusedVariables false

/-- How the values of an element type lie in cells, and the slice type over it. -/
structure Cod (α : Type) where
  E : TypeId
  S : TypeId
  sz : Nat
  bys : Nat
  z : Value
  enc : α → List Value
  und : Tryz.prog.underlying S = some (.slice E)
  info : (Tryz.prog.info? E).map (fun i => (i.zero, i.size, i.bytes)) = some (some z, sz, bys)
  zsz : z.cells.size = sz
  pos : 0 < sz
  len : ∀ x, (enc x).length = sz
  one : ∀ x, ∀ v ∈ enc x, v.oneCell' = true

section
variable {α : Type} (c : Cod α)
def Cod.encs (xs : List α) : List Value := xs.flatMap c.enc
theorem Cod.encs_length (xs : List α) : (c.encs xs).length = xs.length * c.sz := by
  induction xs with
  | nil => simp [Cod.encs]
  | cons x xs ih =>
    have : c.encs (x :: xs) = c.enc x ++ c.encs xs := by simp [Cod.encs]
    rw [this, List.length_append, c.len, ih, List.length_cons, Nat.succ_mul, Nat.add_comm]
theorem Cod.encs_append (xs ys : List α) : c.encs (xs ++ ys) = c.encs xs ++ c.encs ys := by simp [Cod.encs]
theorem Cod.encs_one (xs : List α) : ∀ v ∈ c.encs xs, v.oneCell' = true := by
  intro v hv
  simp only [Cod.encs, List.mem_flatMap] at hv
  obtain ⟨x, _, hx⟩ := hv
  exact c.one x v hx
theorem Cod.encs_get (xs : List α) (i : Nat) (h : i < xs.length) (j : Nat) (hj : j < c.sz) : (c.encs xs)[i * c.sz + j]? = (c.enc (xs[i]'h))[j]? := by
  induction xs generalizing i with
  | nil => simp at h
  | cons x xs ih =>
    have e : c.encs (x :: xs) = c.enc x ++ c.encs xs := by simp [Cod.encs]
    rw [e]
    cases i with
    | zero => rw [Nat.zero_mul, Nat.zero_add, List.getElem?_append_left (by rw [c.len]; exact hj)]; rfl
    | succ i =>
      rw [List.getElem?_append_right (by rw [c.len, Nat.succ_mul]; omega), c.len, show (i + 1) * c.sz + j - c.sz = i * c.sz + j by rw [Nat.succ_mul]; omega, ih i (by simpa using h)]
      rfl
/-- From an address on lie these values. -/
def ListAt (w : World) (b o : Nat) (xs : List α) : Prop := ∀ j u, (c.encs xs)[j]? = some u → w.cell? ⟨b, o + j, none⟩ = some u
/-- A slice value stands for these values, in memory from a block on. -/
def ListIn (w : World) (a : Option Addr) (xs : List α) (lo : Nat) : Prop :=
  xs = [] ∨ ∃ b o, a = some ⟨b, o, none⟩ ∧ lo ≤ b ∧ b < w.heap.size ∧ ListAt c w b o xs
/-- A call hands back a slice of these values, in memory of its own. -/
def Gives (xs : List α) (w : World) (e : Ending) (w' : World) : Prop :=
  ∃ a cap, e = .returned (.slice a xs.length cap) ∧ xs.length ≤ cap ∧ Below w.heap.size w w' ∧ ListIn c w' a xs w.heap.size
/-- .. and a bool. -/
def Gives2 (xs : List α) (ok : Bool) (w : World) (e : Ending) (w' : World) : Prop :=
  ∃ a cap, e = .returned (.tuple #[.slice a xs.length cap, .bool ok]) ∧ xs.length ≤ cap ∧ Below w.heap.size w w' ∧ ListIn c w' a xs w.heap.size
variable {c}
theorem ListAt.below {w w' : World} {b o : Nat} {xs : List α} (h : ListAt c w b o xs) (hb : Below w.heap.size w w') : ListAt c w' b o xs := fun j u hj => by
  have := h j u hj
  rw [hb.cell (p := ⟨b, o + j, none⟩) (block_lt_of_cell this)]
  exact this
theorem ListAt.get {w : World} {b o : Nat} {xs : List α} (h : ListAt c w b o xs) (i : Nat) (hi : i < xs.length) (j : Nat) (u : Value) (hj : (c.enc (xs[i]'hi))[j]? = some u) : w.cell? ⟨b, o + (i * c.sz + j), none⟩ = some u := by
  have hl : j < c.sz := by
    have := (List.getElem?_eq_some_iff.1 hj).1
    rwa [c.len] at this
  exact h _ u (by rw [c.encs_get xs i hi j hl]; exact hj)
theorem ListAt.drop {w : World} {b o : Nat} {xs : List α} (h : ListAt c w b o xs) (k : Nat) (hk : k ≤ xs.length) : ListAt c w b (o + k * c.sz) (xs.drop k) := fun j u hj => by
  have e : c.encs xs = c.encs (xs.take k) ++ c.encs (xs.drop k) := by rw [← c.encs_append, List.take_append_drop]
  have := h (k * c.sz + j) u (by
    have hl : (c.encs (xs.take k)).length = k * c.sz := by rw [c.encs_length, List.length_take, Nat.min_eq_left hk]
    rw [e, List.getElem?_append_right (by omega), hl, Nat.add_sub_cancel_left]
    exact hj)
  rw [show o + k * c.sz + j = o + (k * c.sz + j) by omega]
  exact this
theorem ListAt.take {w : World} {b o : Nat} {xs : List α} (h : ListAt c w b o xs) (k : Nat) : ListAt c w b o (xs.take k) := fun j u hj => by
  refine h j u ?_
  have e : c.encs xs = c.encs (xs.take k) ++ c.encs (xs.drop k) := by rw [← c.encs_append, List.take_append_drop]
  rw [e, List.getElem?_append_left (List.getElem?_eq_some_iff.1 hj).1]
  exact hj
theorem ListIn.below {w w' : World} {a : Option Addr} {xs : List α} {lo : Nat} (h : ListIn c w a xs lo) (hb : Below w.heap.size w w') : ListIn c w' a xs lo := by
  rcases h with h | ⟨b, o, h1, h2, h3, h4⟩
  · exact .inl h
  · exact .inr ⟨b, o, h1, h2, Nat.lt_of_lt_of_le h3 hb.size, h4.below hb⟩
theorem ListIn.grown {w : World} {a : Option Addr} {xs : List α} {lo : Nat} (h : ListIn c w a xs lo) (p : Regrown) : ListIn c (grown w p) a xs lo := h.below (below_grown' w p)
theorem ListIn.mono {w : World} {a : Option Addr} {xs : List α} {lo lo' : Nat} (h : ListIn c w a xs lo) (hl : lo' ≤ lo) : ListIn c w a xs lo' := by
  rcases h with h | ⟨b, o, h1, h2, h3, h4⟩
  · exact .inl h
  · exact .inr ⟨b, o, h1, Nat.le_trans hl h2, h3, h4⟩
theorem Gives.of_below {xs : List α} {w wr w' : World} {e : Ending} (hb : Below w.heap.size w wr) (h : Gives c xs wr e w') : Gives c xs w e w' := by
  obtain ⟨a, cap, he, hc, hb2, hs⟩ := h
  exact ⟨a, cap, he, hc, hb.trans (hb2.mono hb.size), hs.mono hb.size⟩
theorem Gives2.of_below {xs : List α} {ok : Bool} {w wr w' : World} {e : Ending} (hb : Below w.heap.size w wr) (h : Gives2 c xs ok wr e w') : Gives2 c xs ok w e w' := by
  obtain ⟨a, cap, he, hc, hb2, hs⟩ := h
  exact ⟨a, cap, he, hc, hb.trans (hb2.mono hb.size), hs.mono hb.size⟩
/-- A world in which at most blocks of a kind, and new ones, are others. -/
structure Keeps (Q : Nat → Prop) (w w' : World) : Prop where
  os : w'.os = w.os
  tape : w'.tape = w.tape
  output : w'.output = w.output
  size : w.heap.size ≤ w'.heap.size
  block : ∀ k, k < w.heap.size → ¬ Q k → w'.heap[k]? = w.heap[k]?
theorem Keeps.refl (Q : Nat → Prop) (w : World) : Keeps Q w w := ⟨rfl, rfl, rfl, Nat.le_refl _, fun _ _ _ => rfl⟩
theorem Keeps.trans {Q : Nat → Prop} {w w1 w2 : World} (h : Keeps Q w w1) (h' : Keeps Q w1 w2) : Keeps Q w w2 :=
  ⟨h'.os.trans h.os, h'.tape.trans h.tape, h'.output.trans h.output, Nat.le_trans h.size h'.size, fun k hk hq => (h'.block k (Nat.lt_of_lt_of_le hk h.size) hq).trans (h.block k hk hq)⟩
theorem Keeps.of_below {Q : Nat → Prop} {w w' : World} (h : Below w.heap.size w w') : Keeps Q w w' :=
  ⟨h.os, h.tape, h.output, h.size, fun k hk _ => h.block k hk⟩
theorem Keeps.below {Q : Nat → Prop} {w w' : World} (h : Keeps Q w w') {B : Nat} (hB : ∀ k, k < B → k < w.heap.size ∧ ¬ Q k) : Below B w w' :=
  ⟨h.os, h.tape, h.output, h.size, fun k hk => h.block k (hB k hk).1 (hB k hk).2⟩
/-- The blocks from one on. -/
def From (B : Nat) : Nat → Prop := fun k => B ≤ k
/-- One block, and those from one on. -/
def Also (g B : Nat) : Nat → Prop := fun k => k = g ∨ B ≤ k
theorem Keeps.below_from {B : Nat} {w w' : World} (h : Keeps (From B) w w') (hB : B ≤ w.heap.size) : Below B w w' :=
  h.below fun k hk => ⟨Nat.lt_of_lt_of_le hk hB, Nat.not_le.2 hk⟩
theorem Keeps.below_also {g B : Nat} {w w' : World} (h : Keeps (Also g B) w w') (hg : g ≤ B) (hB : B ≤ w.heap.size) : Below g w w' :=
  h.below fun k hk => ⟨by omega, fun h => by rcases h with h | h <;> omega⟩
theorem Keeps.alloc {Q : Nat → Prop} {w w' : World} (h : Keeps Q w w') (o : Obj) : Keeps Q w (w'.alloc o) := h.trans (.of_below ((Below.refl _ _).alloc (Nat.le_refl _) o))
theorem Keeps.drew {Q : Nat → Prop} {w w' : World} (h : Keeps Q w w') : Keeps Q w w'.drew := h.trans (.of_below ⟨rfl, rfl, rfl, Nat.le_refl _, fun _ _ => rfl⟩)
theorem Keeps.grown {Q : Nat → Prop} {w w' : World} (h : Keeps Q w w') (p : Regrown) : Keeps Q w (grown w' p) := h.trans (.of_below (below_grown' w' p))
theorem Keeps.bel {Q : Nat → Prop} {w w' w2 : World} (h : Keeps Q w w') (hb : Below w'.heap.size w' w2) : Keeps Q w w2 := h.trans (.of_below hb)
theorem ListAt.keeps {Q : Nat → Prop} {w w' : World} {b o : Nat} {xs : List α} (h : ListAt c w b o xs) (hk : Keeps Q w w') (hb : b < w.heap.size) (hq : ¬ Q b) : ListAt c w' b o xs := fun j u hj => by
  have := h j u hj
  rw [World.cell?_of_block (a := ⟨b, o + j, none⟩) (hk.block b hb hq)]
  exact this
theorem ListIn.keeps {Q : Nat → Prop} {w w' : World} {a : Option Addr} {xs : List α} {lo : Nat} (h : ListIn c w a xs lo) (hk : Keeps Q w w') (hq : ∀ k, lo ≤ k → k < w.heap.size → ¬ Q k) : ListIn c w' a xs lo := by
  rcases h with h | ⟨b, o, h1, h2, h3, h4⟩
  · exact .inl h
  · exact .inr ⟨b, o, h1, h2, Nat.lt_of_lt_of_le h3 hk.size, h4.keeps hk h3 (hq b h2 h3)⟩
variable (c)
/-- A slice of one's own, in a block of a kind, holds these values. -/
def Own (Q : Nat → Prop) (w : World) (v : Value) (xs : List α) : Prop := w.ownsRow 0 c.E c.sz v xs.length (c.encs xs) ∧ ∀ g, v.ownBlock = some g → Q g
variable {c}
theorem Own.nil (Q : Nat → Prop) (w : World) : Own c Q w (.slice none 0 0) [] := ⟨World.ownsRow_nil w 0 _ _, fun g h => by cases h⟩
theorem Own.made0 {Q : Nat → Prop} {w : World} (h : Q w.heap.size) {t : TypeId} (ht : t = c.E) : Own c Q (w.alloc (.cells #[] t)) (.slice (some ⟨w.heap.size, 0, none⟩) 0 0) [] := by
  subst ht
  exact ⟨World.ownsRow_made w #[] 0 (Nat.zero_le _) (Nat.zero_le _) (by simp), fun g hg => by cases hg; exact h⟩
theorem Own.sub {Q Q' : Nat → Prop} {w : World} {v : Value} {xs : List α} (h : Own c Q w v xs) (hq : ∀ k, Q k → Q' k) : Own c Q' w v xs := ⟨h.1, fun g hg => hq g (h.2 g hg)⟩
theorem Own.blocks {Q : Nat → Prop} {w w' : World} {v : Value} {xs : List α} (h : Own c Q w v xs) (hb : ∀ g, v.ownBlock = some g → g < w.heap.size → w'.heap[g]? = w.heap[g]?) : Own c Q w' v xs := by
  obtain ⟨⟨h1, h2⟩, hq⟩ := h
  refine ⟨⟨h1, ?_⟩, hq⟩
  rcases h2 with h2 | ⟨g, cap, cur, hv, hg, hh, r⟩
  · exact .inl h2
  · refine .inr ⟨g, cap, cur, hv, hg, ?_, r⟩
    rw [hb g (by rw [hv]; rfl) ?_]; exact hh
    rcases Nat.lt_or_ge g w.heap.size with h' | h'
    · exact h'
    · rw [Array.getElem?_eq_none h'] at hh; cases hh
theorem Own.below {Q : Nat → Prop} {w w' : World} {v : Value} {xs : List α} (h : Own c Q w v xs) (hb : Below w.heap.size w w') : Own c Q w' v xs := h.blocks fun g _ hg => hb.block g hg
theorem Own.keeps {Q Q' : Nat → Prop} {w w' : World} {v : Value} {xs : List α} (h : Own c Q w v xs) (hb : Keeps Q' w w') (hd : ∀ g, Q g → g < w.heap.size → ¬ Q' g) : Own c Q w' v xs := h.blocks fun g hv hg => hb.block g hg (hd g (h.2 g hv) hg)
theorem Own.alloc {Q : Nat → Prop} {w : World} {v : Value} {xs : List α} (h : Own c Q w v xs) (o : Obj) : Own c Q (w.alloc o) v xs := h.below ((Below.refl _ _).alloc (Nat.le_refl _) o)
theorem Own.drew {Q : Nat → Prop} {w : World} {v : Value} {xs : List α} (h : Own c Q w v xs) : Own c Q w.drew v xs := h
theorem Own.grown {Q : Nat → Prop} {w : World} {v : Value} {xs : List α} (h : Own c Q w v xs) (p : Regrown) : Own c Q (grown w p) v xs := h.below (below_grown' w p)
theorem Own.form {Q : Nat → Prop} {w : World} {v : Value} {xs : List α} (h : Own c Q w v xs) : (v = .slice none 0 0 ∧ xs = []) ∨ ∃ g cap, v = .slice (some ⟨g, 0, none⟩) xs.length cap ∧ xs.length ≤ cap ∧ Q g ∧ g < w.heap.size ∧ ListAt c w g 0 xs ∧ ∀ j, w.frozen? ⟨g, j, none⟩ = false := by
  obtain ⟨⟨h1, ⟨hv, h0⟩ | ⟨g, cap, cur, hv, hg, hh, hnc, _, hcur, hx⟩⟩, hq⟩ := h
  · exact .inl ⟨hv, List.length_eq_zero_iff.1 h0⟩
  · refine .inr ⟨g, cap, hv, hnc, hq g (by rw [hv]; rfl), ?_, fun j u hj => ?_, fun j => ?_⟩
    · rcases Nat.lt_or_ge g w.heap.size with h' | h'
      · exact h'
      · rw [Array.getElem?_eq_none h'] at hh; cases hh
    · rw [← hx] at hj
      rw [List.getElem?_take] at hj
      split at hj
      · simp only [World.cell?, hh, Nat.zero_add]
        rw [← Array.getElem?_toList]
        exact hj
      · cases hj
    · simp [World.frozen?, hh]
/-- What a slice of one's own is good for. -/
theorem Own.slice {Q : Nat → Prop} {w : World} {v : Value} {xs : List α} (h : Own c Q w v xs) {B : Nat} (hB : ∀ k, Q k → B ≤ k) : ∃ a cap, v = .slice a xs.length cap ∧ xs.length ≤ cap ∧ ListIn c w a xs B := by
  rcases h.form with ⟨rfl, rfl⟩ | ⟨g, cap, rfl, hc, h1, h2, h3, _⟩
  · exact ⟨none, 0, rfl, Nat.le_refl _, .inl rfl⟩
  · exact ⟨_, cap, rfl, hc, .inr ⟨g, 0, rfl, hB g h1, h2, h3⟩⟩
theorem Own.gives {Q : Nat → Prop} {w w' : World} {v : Value} {xs : List α} (h : Own c Q w' v xs) (hQ : ∀ k, Q k → w.heap.size ≤ k) (hb : Below w.heap.size w w') : Gives c xs w (.returned v) w' := by
  obtain ⟨a, cap, rfl, hc, hl⟩ := h.slice hQ
  exact ⟨a, cap, rfl, hc, hb, hl⟩
theorem from_le {B k : Nat} (h : From B k) : B ≤ k := h
theorem also_le {g B k : Nat} (hg : g ≤ B) (h : Also g B k) : g ≤ k := by rcases h with h | h <;> omega
theorem listAt_new (w : World) (cs : Array Value) (xs : List α) (t : TypeId) (h : cs.toList = c.encs xs) {b : Nat} (hb : b = w.heap.size) : ListAt c (w.alloc (.cells cs t)) b 0 xs := by
  subst hb
  intro j u hj
  rw [← h, Array.getElem?_toList] at hj
  rw [World.cell?_alloc_at _ _ _ _ rfl, Nat.zero_add]
  exact hj
theorem ListAt.drew {w : World} {b o : Nat} {xs : List α} (h : ListAt c w b o xs) : ListAt c w.drew b o xs := h
/-- Where the slice lies that an append hands back: where the old one lay, or in a new block. -/
theorem append_block {w : World} {t ty e : TypeId} {i : TypeInfo} {z : Value} {size bytes : Nat} (ht : Tryz.prog.underlying t = some (.slice e)) (hi : Tryz.prog.info? e = some i) (hz : i.zero = some z)
    (hsize : i.size = size) (hby : i.bytes = bytes) (hsz : 0 < size) {v : Value} {n : Nat} {xs : List Value} (hown : w.ownsRow 0 e size v n xs)
    {a : Addr} {m k : Nat} {news : List Value} (hl : news.length = m * size) (hnews : ∀ j u, news[j]? = some u → w.cell? (a.add j) = some u) (h1 : ∀ u ∈ news, u.oneCell' = true)
    (h63 : n + m ≤ maxLen) (hbytes : (n + m) * bytes ≤ 140737488355328) {v' : Value} {w' : World} (hr : (Builtin.append_ #[t, t] ty #[v, .slice (some a) m k]).run Tryz.prog w = .ok v' w') : v'.ownBlock = v.ownBlock ∨ v'.ownBlock = some w.heap.size := by
  subst hsize hby
  have hx := hown.1
  unfold maxLen at h63
  rcases hown.2 with ⟨rfl, rfl⟩ | ⟨g, cap, cur, rfl, -, hg, hnc, -, hcs, htake⟩
  · by_cases hm : m = 0
    · subst hm
      obtain rfl : news = [] := List.eq_nil_of_length_eq_zero (by simpa using hl)
      have : (Builtin.append_ #[t, t] ty #[.slice none 0 0, .slice (some a) 0 k]).run Tryz.prog w = .ok (.slice none 0 0) w := by
        simp [Builtin.append_, run_underlying ht, sizeOf, typeInfo, hi, Builtin.lenOf, Builtin.firstCells, loadCells, loadCellsFrom]
      rw [this] at hr
      cases hr
      exact .inl rfl
    · have := run_append_nil (P := Tryz.prog) w t ty e i z ht hi hz a m k news hl hnews (by omega) (by omega) (by rw [Nat.zero_add] at hbytes; omega)
      rw [this] at hr
      cases hr
      exact .inr rfl
  · by_cases hroom : n + m ≤ cap
    · have := run_append_room (P := Tryz.prog) w t ty e i ht hi g n cap cur hg a m k news hl hnews h1 hroom (by rw [hl, hcs, ← Nat.add_mul]; exact Nat.mul_le_mul_right _ hroom)
      rw [this] at hr
      cases hr
      exact .inl rfl
    · have := run_append_grow (P := Tryz.prog) w t ty e i z ht hi hz ⟨g, 0, none⟩ n cap xs hx (hown.cells (g := g) rfl) a m k news hl hnews (by omega) (by omega) (growslice_fits (by omega) hbytes)
      rw [this] at hr
      cases hr
      exact .inr rfl
theorem wp_append_list {o : Oper} {a : Act} {K : Act → World → Prop} {Z : Exit → Act → World → Prop} (c : Cod α) (s x : Operand) (t : TypeId)
    (ho : o.op = .call { callee := .builtin .append, args := #[s, x], argTypes := #[t, t] }) (ht : t = c.S) (Q : Nat → Prop) (w : World) (v : Value) (xs : List α) (hs : a.eval s = v) (hown : Own c Q w v xs)
    (b off n cap : Nat) (news : List α) (hx : a.eval x = .slice (some ⟨b, off, none⟩) n cap) (hn : n = news.length) (hnew : ListAt c w b off news) (hlen : (xs.length + news.length) * c.bys ≤ 140737488355328) (hl2 : xs.length + news.length ≤ 140737488355328) (hQ : Q w.heap.size)
    (h : ∀ v' w', Own c Q w' v' (xs ++ news) → Keeps Q w w' → K (a.put o.dst v') w') : Oper.wp Tryz.prog o a w K Z := by
  subst ht
  subst hn
  have hi0 := c.info
  cases hi : Tryz.prog.info? c.E with
  | none => rw [hi] at hi0; cases hi0
  | some i0 =>
    rw [hi] at hi0
    simp only [Option.map_some, Option.some.injEq, Prod.mk.injEq] at hi0
    obtain ⟨hz, hsz, hby⟩ := hi0
    have hnews : ∀ j u, (c.encs news)[j]? = some u → w.cell? ((⟨b, off, none⟩ : Addr).add j) = some u := fun j u hu => by rw [add_mk]; exact hnew j u hu
    obtain ⟨v', w', hr, h2, h3, _⟩ := run_append_own (P := Tryz.prog) w 0 c.S o.type c.E i0 c.z c.sz c.bys c.und hi hz hsz hby c.zsz c.pos v xs.length (c.encs xs) hown.1 ⟨b, off, none⟩ news.length cap (c.encs news) (c.encs_length news) hnews (c.encs_one news) (by unfold maxLen; omega) hlen (Nat.zero_le _)
    have hblk := append_block c.und hi hz hsz hby c.pos hown.1 (c.encs_length news) hnews (c.encs_one news) (by unfold maxLen; omega) hlen hr
    unfold Oper.wp execOp
    simp only [ho, resolve, invoke, builtin, Sem.run_bind, Sem.run_pure, Result.andThen_ok, List.map_toArray, List.map_cons, List.map_nil, hs, hx, hr]
    refine h v' w' ⟨?_, fun g hg => ?_⟩ ⟨h3.os, h3.tape, h3.output, h3.size, fun k hk hq => h3.block k hk fun e => hq (hown.2 k e.symm)⟩
    · rw [← c.encs_append] at h2
      show w'.ownsRow 0 c.E c.sz v' (xs ++ news).length (c.encs (xs ++ news))
      rwa [List.length_append]
    · rcases hblk with e | e
      · exact hown.2 g (e ▸ hg)
      · rw [e] at hg; cases hg; exact hQ
theorem step_append_list {ops : Array Oper} {o : Oper} {a : Act} {K : Act → World → Prop} {Z : Exit → Act → World → Prop} {F : Prop} (hgd : o.guard = none) (c : Cod α) (s x : Operand) (t : TypeId)
    (ho : o.op = .call { callee := .builtin .append, args := #[s, x], argTypes := #[t, t] }) (ht : t = c.S) (Q : Nat → Prop) (w : World) (v : Value) (xs : List α) (hs : a.eval s = v) (hown : Own c Q w v xs)
    (b off n cap : Nat) (news : List α) (hx : a.eval x = .slice (some ⟨b, off, none⟩) n cap) (hn : n = news.length) (hnew : ListAt c w b off news) (hlen : (xs.length + news.length) * c.bys ≤ 140737488355328) (hl2 : xs.length + news.length ≤ 140737488355328) (hQ : Q w.heap.size)
    (h : ∀ v' w', Own c Q w' v' (xs ++ news) → Keeps Q w w' → K (a.put o.dst v') w') : if Region.wanted o (yielded ops a.tmps) = true then Oper.wp Tryz.prog o a w K Z else F := by
  have hw : Region.wanted o (yielded ops a.tmps) = true := by simp [Region.wanted, hgd]
  rw [if_pos hw]
  exact wp_append_list c s x t ho ht Q w v xs hs hown b off n cap news hx hn hnew hlen hl2 hQ h
theorem wpList_append_list {ops : Array Oper} {rest : List Oper} {o : Oper} {a : Act} {Z : Exit → Act → World → Prop} (hgd : o.guard = none) (c : Cod α) (s x : Operand) (t : TypeId)
    (ho : o.op = .call { callee := .builtin .append, args := #[s, x], argTypes := #[t, t] }) (ht : t = c.S) (Q : Nat → Prop) (w : World) (v : Value) (xs : List α) (hs : a.eval s = v) (hown : Own c Q w v xs)
    (b off n cap : Nat) (news : List α) (hx : a.eval x = .slice (some ⟨b, off, none⟩) n cap) (hn : n = news.length) (hnew : ListAt c w b off news) (hlen : (xs.length + news.length) * c.bys ≤ 140737488355328) (hl2 : xs.length + news.length ≤ 140737488355328) (hQ : Q w.heap.size)
    (h : ∀ v' w', Own c Q w' v' (xs ++ news) → Keeps Q w w' → wpList Tryz.prog ops Z rest (a.put o.dst v') w') : wpList Tryz.prog ops Z (o :: rest) a w :=
  wpList_plain hgd fun _ hK => wp_append_list c s x t ho ht Q w v xs hs hown b off n cap news hx hn hnew hlen hl2 hQ fun v' w' h1 h2 => hK _ _ (h v' w' h1 h2)
end

/-! ### texts -/
theorem strCod_one : ∀ (x : List UInt8), ∀ v ∈ [Value.string ⟨x.toArray⟩], v.oneCell' = true := by
  intro x v hv
  simp only [List.mem_singleton] at hv
  subst hv; rfl
def strCod : Cod (List UInt8) where
  E := 9
  S := 26
  sz := 1
  bys := 16
  z := .string ByteArray.empty
  enc := fun x => [.string ⟨x.toArray⟩]
  und := Tryz.underlying26
  info := by kernel_rfl
  zsz := rfl
  pos := by decide
  len := fun _ => rfl
  one := strCod_one
theorem strAt {w : World} {b o : Nat} {xs : List (List UInt8)} (h : ListAt strCod w b o xs) (i : Nat) (hi : i < xs.length) : w.cell? ⟨b, o + i, none⟩ = some (.string ⟨(xs[i]'hi).toArray⟩) := by
  have := h.get i hi 0 _ rfl
  rwa [show o + (i * strCod.sz + 0) = o + i by show o + (i * 1 + 0) = _; omega] at this
theorem strEncs : ∀ xs : List (List UInt8), strCod.encs xs = xs.map fun x => Value.string ⟨x.toArray⟩
  | [] => rfl
  | x :: xs => by
    have ih := strEncs xs
    show [Value.string ⟨x.toArray⟩] ++ strCod.encs xs = _
    rw [ih]; rfl
theorem strAt_of {w : World} {b o : Nat} {xs : List (List UInt8)} (h : ∀ i (hi : i < xs.length), w.cell? ⟨b, o + i, none⟩ = some (.string ⟨(xs[i]'hi).toArray⟩)) : ListAt strCod w b o xs := fun j u hj => by
  rw [strEncs, List.getElem?_map, Option.map_eq_some_iff] at hj
  obtain ⟨x, hx, rfl⟩ := hj
  obtain ⟨hl, rfl⟩ := List.getElem?_eq_some_iff.1 hx
  exact h j hl
end

section
open Go Go.RowKit
set_option linter.unusedSimpArgs false
set_option linter.unusedVariables false

/-- Is a block one of n cells, free to be written? -/
def hasVar (w : World) (b n : Nat) : Bool := match w.heap[b]? with
  | some (.cells c _ fr) => c.size == n && fr == (0, 0)
  | _ => false
theorem hasVar_iff {w : World} {b n : Nat} : hasVar w b n = true ↔ ∃ c t, w.heap[b]? = some (.cells c t (0, 0)) ∧ c.size = n := by
  unfold hasVar
  cases hh : w.heap[b]? with
  | none => simp
  | some o =>
    cases o with
    | cells c t fr =>
      simp only [Bool.and_eq_true, beq_iff_eq]
      constructor
      · rintro ⟨h1, rfl⟩; exact ⟨c, t, rfl, h1⟩
      · rintro ⟨c', t', h', h1⟩; cases h'; exact ⟨h1, rfl⟩
    | _ => simp
theorem hasVar_congr {w w' : World} {b n : Nat} (h : w'.heap[b]? = w.heap[b]?) : hasVar w' b n = hasVar w b n := by unfold hasVar; rw [h]
@[go_sem] theorem hasVar_new (w : World) (c : Array Value) (t : TypeId) (b n : Nat) (hb : b = w.heap.size) (hn : c.size = n) : hasVar (w.alloc (.cells c t)) b n = true := by
  subst hb
  exact hasVar_iff.2 ⟨c, t, heap_alloc_new w _, hn⟩
@[go_sem] theorem hasVar_past (w : World) (ob : Obj) (b n : Nat) (hb : isOld b w = true) : hasVar (w.alloc ob) b n = hasVar w b n := hasVar_congr (((Below.refl w.heap.size w).alloc (Nat.le_refl _) ob).block b (isOld_iff.1 hb))
@[go_sem] theorem hasVar_drew (w : World) (b n : Nat) : hasVar w.drew b n = hasVar w b n := rfl
@[go_sem] theorem hasVar_drewN (w : World) (k b n : Nat) : hasVar (w.drewN k) b n = hasVar w b n := hasVar_congr (by simp)
@[go_sem] theorem hasVar_grown (w : World) (p : Regrown) (b n : Nat) (hb : isOld b w = true) : hasVar (grown w p) b n = hasVar w b n := hasVar_congr ((below_grown' w p).block b (isOld_iff.1 hb))
@[go_sem] theorem hasVar_setCell (w : World) (a : Addr) (v : Value) (b n : Nat) : hasVar (w.setCell a v) b n = hasVar w b n := by
  have e : (w.setCell a v).heap[b]? = if a.block = b then (w.heap[b]?).map (fun x => match x with | .cells c elem fr => .cells (if a.spot.isSome = true then c else c.setIfInBounds a.off v) elem fr | o => o) else w.heap[b]? := by
    simp only [World.setCell, Array.getElem?_modify]
    split <;> rfl
  unfold hasVar
  rw [e]
  by_cases h : a.block = b
  · rw [if_pos h]
    cases hh : w.heap[b]? with
    | none => rfl
    | some o => cases o with
      | cells c t fr =>
        have : (if a.spot.isSome = true then c else c.setIfInBounds a.off v).size = c.size := by split <;> simp
        simp only [Option.map_some, this]
      | _ => rfl
  · rw [if_neg h]
theorem setRow_size' (w : World) (g : Nat) (cs : Array Value) : (w.setRow g cs).heap.size = w.heap.size := by simp [World.setRow]
@[go_sem] theorem size_setRow (w : World) (g : Nat) (cs : Array Value) : (w.setRow g cs).heap.size = w.heap.size := setRow_size' w g cs
@[go_sem] theorem isOld_setRow (b : Nat) (w : World) (g : Nat) (cs : Array Value) : isOld b (w.setRow g cs) = isOld b w := by simp [isOld, setRow_size']
@[go_sem] theorem hasVar_setRow_other (w : World) (g : Nat) (cs : Array Value) (b n : Nat) (h : b ≠ g) : hasVar (w.setRow g cs) b n = hasVar w b n := hasVar_congr (setRow_other w g b cs h)
theorem setRow_var {w : World} {b : Nat} {cs : Array Value} (hv : hasVar w b cs.size = true) : ∃ t, (w.setRow b cs).heap[b]? = some (.cells cs t (0, 0)) := by
  obtain ⟨c, t, h, _⟩ := hasVar_iff.1 hv
  exact ⟨t, setRow_heap w b c cs t _ h⟩
@[go_sem] theorem hasVar_setRow_same (w : World) (b : Nat) (cs : Array Value) (n : Nat) (hv : hasVar w b cs.size = true) (hn : cs.size = n) : hasVar (w.setRow b cs) b n = true := by
  obtain ⟨t, h⟩ := setRow_var hv
  exact hasVar_iff.2 ⟨cs, t, h, hn⟩
@[go_sem] theorem cell_setRow_same (w : World) (b : Nat) (cs : Array Value) (i : Nat) (hv : hasVar w b cs.size = true) : (w.setRow b cs).cell? ⟨b, i, none⟩ = cs[i]? := by
  obtain ⟨t, h⟩ := setRow_var hv
  simp [World.cell?, h]
@[go_sem] theorem cell_setRow_other (w : World) (g : Nat) (cs : Array Value) (b i : Nat) (h : b ≠ g) : (w.setRow g cs).cell? ⟨b, i, none⟩ = w.cell? ⟨b, i, none⟩ := by
  simp [World.cell?, setRow_other w g b cs h]
@[go_sem] theorem frozen_setRow (w : World) (g : Nat) (cs : Array Value) (b i : Nat) : (w.setRow g cs).frozen? ⟨b, i, none⟩ = w.frozen? ⟨b, i, none⟩ := by
  by_cases h : b = g
  · subst h
    have e : (w.setRow b cs).heap[b]? = (w.heap[b]?).map (fun x => match x with | .cells _ elem fr => .cells cs elem fr | o => o) := by
      simp only [World.setRow, Array.getElem?_modify]
      simp
      congr 1
    simp only [World.frozen?, e]
    cases hh : w.heap[b]? with
    | none => rfl
    | some o => cases o <;> rfl
  · simp only [World.frozen?, setRow_other w g b cs h]
@[go_sem] theorem hasRow_setRow_same (w : World) (b : Nat) (cs : Array Value) (o n : Nat) (hv : hasVar w b cs.size = true) (hn : o + n ≤ cs.size) : hasRow (w.setRow b cs) ⟨b, o, none⟩ n = true := by
  rw [hasRow_iff]
  intro j hj
  rw [add_mk, cell_setRow_same w b cs _ hv]
  simp; omega
@[go_sem] theorem rowAt_setRow_same (w : World) (b : Nat) (cs : Array Value) (o n : Nat) (hv : hasVar w b cs.size = true) (hn : o + n ≤ cs.size) : rowAt (w.setRow b cs) ⟨b, o, none⟩ n = cs.extract o (o + n) := by
  apply Array.ext_getElem?
  intro j
  simp only [rowAt, List.getElem?_toArray, List.getElem?_map, add_mk, cell_setRow_same w b cs _ hv, Array.getElem?_extract]
  by_cases hj : j < n
  · have e : (List.range n)[j]? = some j := by simp [hj]
    rw [if_pos (by omega), e, Option.map_some, Array.getElem?_eq_getElem (by omega)]
    rfl
  · have e : (List.range n)[j]? = none := by simp; omega
    rw [if_neg (by omega), e]
    rfl
@[go_sem] theorem hasRow_setRow_other (w : World) (g : Nat) (cs : Array Value) (b o n : Nat) (h : b ≠ g) : hasRow (w.setRow g cs) ⟨b, o, none⟩ n = hasRow w ⟨b, o, none⟩ n :=
  has_congr fun j _ => by rw [add_mk]; exact cell_setRow_other w g cs b (o + j) h
@[go_sem] theorem rowAt_setRow_other (w : World) (g : Nat) (cs : Array Value) (b o n : Nat) (h : b ≠ g) : rowAt (w.setRow g cs) ⟨b, o, none⟩ n = rowAt w ⟨b, o, none⟩ n :=
  row_congr fun j _ => by rw [add_mk]; exact cell_setRow_other w g cs b (o + j) h
theorem keeps_setRow {Q : Nat → Prop} {w w' : World} (h : Keeps Q w w') {b : Nat} (hb : w.heap.size ≤ b ∨ Q b) (cs : Array Value) : Keeps Q w (w'.setRow b cs) :=
  ⟨h.os, h.tape, h.output, by rw [setRow_size']; exact h.size, fun k hk hq => by
    rw [setRow_other w' b k cs (fun e => by subst e; rcases hb with hb | hb; exact absurd hk (Nat.not_lt.2 hb); exact hq hb)]
    exact h.block k hk hq⟩
theorem below_setRow {B : Nat} {w w2 : World} (h : Below B w w2) {b : Nat} (hB : B ≤ b) (cs : Array Value) : Below B w (w2.setRow b cs) :=
  ⟨h.os, h.tape, h.output, by rw [setRow_size']; exact h.size, fun k hk => by rw [setRow_other w2 b k cs (by omega)]; exact h.block k hk⟩
theorem setCell_other' (w : World) (a : Addr) (v : Value) (k : Nat) (h : k ≠ a.block) : (w.setCell a v).heap[k]? = w.heap[k]? := by
  simp [World.setCell, Array.getElem?_modify, Ne.symm h]
theorem keeps_setCell {Q : Nat → Prop} {w w' : World} (h : Keeps Q w w') {a : Addr} (hb : w.heap.size ≤ a.block ∨ Q a.block) (v : Value) : Keeps Q w (w'.setCell a v) :=
  ⟨h.os, h.tape, h.output, by have := h.size; simp [World.setCell]; exact this, fun k hk hq => by
    rw [setCell_other' w' a v k (fun e => by subst e; rcases hb with hb | hb; exact absurd hk (Nat.not_lt.2 hb); exact hq hb)]
    exact h.block k hk hq⟩
/-- A whole struct or array stored into a variable. -/
@[go_sem low] theorem storeRow_var {P : Program} {t : TypeId} (w : World) (b : Nat) (cs : Array Value) (h : isAggT P t = true) (hs : cs.size = P.cellsOf t) (hv : hasVar w b (P.cellsOf t) = true) (h1 : allOne cs = true) :
    storeRow P w t (.pointer (some ⟨b, 0, none⟩)) (.agg cs) = .ok .skip (w.setRow b cs) := by
  obtain ⟨_, h2⟩ := isAggT_run h w
  obtain ⟨c, t', hh, hc⟩ := hasVar_iff.1 hv
  have h3 : (Value.agg cs).cells = cs := rfl
  have := run_storeCells_at P b 0 t' cs.toList 0 c w hh (by simp; omega) (List.all_eq_true.1 h1)
  simp only [storeRow, Instr.storeAt, Instr.sureAddr, storeVar, Sem.run_bind, Sem.run_pure, Result.andThen_ok, h2, h3, hs]
  simp only [Nat.add_zero] at this
  have e : (c.toList.take 0 ++ cs.toList ++ c.toList.drop (0 + cs.toList.length)).toArray = cs := by
    rw [List.drop_of_length_le (by simp; omega)]; simp
  rw [e] at this
  simp [this]

/-- A block is a variable that holds just these cells. -/
def Var (w : World) (b : Nat) (cs : List Value) : Prop := ∃ t, w.heap[b]? = some (.cells cs.toArray t (0, 0))
theorem Var.lt {w : World} {b : Nat} {cs : List Value} (h : Var w b cs) : b < w.heap.size := by
  obtain ⟨t, h⟩ := h
  exact (Array.getElem?_eq_some_iff.1 h).1
theorem Var.has {w : World} {b : Nat} {cs : List Value} (h : Var w b cs) {n : Nat} (hn : cs.length = n) : hasVar w b n = true := by
  obtain ⟨t, h⟩ := h
  exact hasVar_iff.2 ⟨_, t, h, by simpa using hn⟩
theorem Var.cell {w : World} {b : Nat} {cs : List Value} (h : Var w b cs) (j : Nat) (hj : j < cs.length) : w.cell? ⟨b, j, none⟩ = some (cs[j]'hj) := by
  obtain ⟨t, h⟩ := h
  simp [World.cell?, h, hj]
theorem Var.free {w : World} {b : Nat} {cs : List Value} (h : Var w b cs) (j : Nat) : w.frozen? ⟨b, j, none⟩ = false := by
  obtain ⟨t, h⟩ := h
  simp [World.frozen?, h]
theorem Var.hasRow {w : World} {b : Nat} {cs : List Value} (h : Var w b cs) {n : Nat} (hn : cs.length = n) : hasRow w ⟨b, 0, none⟩ n = true := by
  rw [hasRow_iff]
  intro j hj
  rw [add_mk, Nat.zero_add, h.cell j (by omega)]; rfl
theorem Var.rowAt {w : World} {b : Nat} {cs : List Value} (h : Var w b cs) {n : Nat} (hn : cs.length = n) : rowAt w ⟨b, 0, none⟩ n = cs.toArray := by
  subst hn
  apply Array.ext_getElem?
  intro j
  simp only [Go.Proofs.YtnkckejbkbbdlaaGreatDoor.rowAt, List.getElem?_toArray, List.getElem?_map, add_mk, Nat.zero_add]
  by_cases hj : j < cs.length
  · have e : (List.range cs.length)[j]? = some j := by simp [hj]
    rw [e, Option.map_some, h.cell j hj, List.getElem?_eq_getElem hj]; rfl
  · have e : (List.range cs.length)[j]? = none := by simp; omega
    rw [e, List.getElem?_eq_none (by omega)]; rfl
theorem Var.new (w : World) (arr : Array Value) (t : TypeId) {cs : List Value} (h : arr.toList = cs) {b : Nat} (hb : b = w.heap.size) : Var (w.alloc (.cells arr t)) b cs := by
  subst hb h
  exact ⟨t, heap_alloc_new w _⟩
theorem Var.old {w w' : World} {b : Nat} {cs : List Value} (h : Var w b cs) (he : w'.heap[b]? = w.heap[b]?) : Var w' b cs := by
  obtain ⟨t, h⟩ := h
  exact ⟨t, he.trans h⟩
theorem Var.below {w w' : World} {b : Nat} {cs : List Value} (h : Var w b cs) (hb : Below w.heap.size w w') : Var w' b cs := h.old (hb.block b h.lt)
theorem Var.alloc {w : World} {b : Nat} {cs : List Value} (h : Var w b cs) (o : Obj) : Var (w.alloc o) b cs := h.below ((Below.refl _ _).alloc (Nat.le_refl _) o)
theorem Var.grown {w : World} {b : Nat} {cs : List Value} (h : Var w b cs) (p : Regrown) : Var (grown w p) b cs := h.below (below_grown' w p)
theorem Var.drew {w : World} {b : Nat} {cs : List Value} (h : Var w b cs) : Var w.drew b cs := h
theorem Var.keeps {Q : Nat → Prop} {w w' : World} {b : Nat} {cs : List Value} (h : Var w b cs) (hk : Keeps Q w w') (hq : ¬ Q b) : Var w' b cs := h.old (hk.block b h.lt hq)
theorem Var.setCell {w : World} {b : Nat} {cs : List Value} (h : Var w b cs) (j : Nat) (v : Value) : Var (w.setCell ⟨b, j, none⟩ v) b (cs.set j v) := by
  obtain ⟨t, h⟩ := h
  refine ⟨t, ?_⟩
  simp [World.setCell, Array.getElem?_modify, h]
theorem Var.setCell_other {w : World} {b : Nat} {cs : List Value} (h : Var w b cs) (a : Addr) (v : Value) (hne : b ≠ a.block) : Var (w.setCell a v) b cs := h.old (setCell_other' w a v b hne)
theorem Var.setRow {w : World} {b : Nat} {cs : List Value} (h : Var w b cs) (cs' : List Value) : Var (w.setRow b cs'.toArray) b cs' := by
  obtain ⟨t, h⟩ := h
  exact ⟨t, setRow_heap w b _ _ t _ h⟩
theorem Var.setRow_other {w : World} {b : Nat} {cs : List Value} (h : Var w b cs) (g : Nat) (arr : Array Value) (hne : b ≠ g) : Var (w.setRow g arr) b cs := h.old (Go.setRow_other w g b arr hne)
theorem Var.setRow_same {w : World} {b : Nat} {cs : List Value} (h : Var w b cs) (arr : Array Value) {cs' : List Value} (he : arr.toList = cs') : Var (w.setRow b arr) b cs' := by
  subst he
  exact h.setRow arr.toList
theorem Var.list {α : Type} {c : Cod α} {w : World} {b : Nat} {xs : List α} (h : Var w b (c.encs xs)) : ListAt c w b 0 xs := fun j u hj => by
  obtain ⟨hl, rfl⟩ := List.getElem?_eq_some_iff.1 hj
  rw [Nat.zero_add, h.cell j hl]
end

section
open Go Go.RowKit
set_option maxRecDepth 20000
set_option linter.unusedSimpArgs false
set_option linter.unusedVariables false

theorem u8Cod_one : ∀ (x : UInt8), ∀ v ∈ [Value.int .u8 (x.toNat : Int)], v.oneCell' = true := by
  intro x v hv
  simp only [List.mem_singleton] at hv
  subst hv; rfl
theorem u16Cod_one : ∀ (x : UInt16), ∀ v ∈ [Value.int .u16 (x.toNat : Int)], v.oneCell' = true := by
  intro x v hv
  simp only [List.mem_singleton] at hv
  subst hv; rfl
def u8Cod : Cod UInt8 where
  E := 5
  S := 72
  sz := 1
  bys := 1
  z := .int .u8 0
  enc := fun x => [.int .u8 (x.toNat : Int)]
  und := Tryz.underlying72
  info := by kernel_rfl
  zsz := rfl
  pos := by decide
  len := fun _ => rfl
  one := u8Cod_one
def u16Cod : Cod UInt16 where
  E := 163
  S := 160
  sz := 1
  bys := 2
  z := .int .u16 0
  enc := fun x => [.int .u16 (x.toNat : Int)]
  und := Tryz.underlying160
  info := by kernel_rfl
  zsz := rfl
  pos := by decide
  len := fun _ => rfl
  one := u16Cod_one
theorem u8Encs : ∀ xs : List UInt8, u8Cod.encs xs = xs.map fun x => Value.int .u8 (x.toNat : Int)
  | [] => rfl
  | x :: xs => by
    have ih := u8Encs xs
    show [Value.int .u8 (x.toNat : Int)] ++ u8Cod.encs xs = _
    rw [ih]; rfl
theorem u16Encs : ∀ xs : List UInt16, u16Cod.encs xs = xs.map fun x => Value.int .u16 (x.toNat : Int)
  | [] => rfl
  | x :: xs => by
    have ih := u16Encs xs
    show [Value.int .u16 (x.toNat : Int)] ++ u16Cod.encs xs = _
    rw [ih]; rfl
theorem u16At {w : World} {b o : Nat} {xs : List UInt16} (h : ListAt u16Cod w b o xs) (i : Nat) (hi : i < xs.length) : w.cell? ⟨b, o + i, none⟩ = some (.int .u16 ((xs[i]'hi).toNat : Int)) :=
  h i _ (by rw [u16Encs]; simp [hi])
theorem u8At {w : World} {b o : Nat} {xs : List UInt8} (h : ListAt u8Cod w b o xs) (i : Nat) (hi : i < xs.length) : w.cell? ⟨b, o + i, none⟩ = some (.int .u8 ((xs[i]'hi).toNat : Int)) :=
  h i _ (by rw [u8Encs]; simp [hi])
theorem u8Set (xs : List UInt8) (k : Nat) (x : UInt8) : (u8Cod.encs xs).set k (.int .u8 (x.toNat : Int)) = u8Cod.encs (xs.set k x) := by
  rw [u8Encs, u8Encs, List.map_set]
theorem u16Set (xs : List UInt16) (k : Nat) (x : UInt16) : (u16Cod.encs xs).set k (.int .u16 (x.toNat : Int)) = u16Cod.encs (xs.set k x) := by
  rw [u16Encs, u16Encs, List.map_set]
theorem u8Len (xs : List UInt8) : (u8Cod.encs xs).length = xs.length := by rw [u8Encs, List.length_map]
theorem u16Len (xs : List UInt16) : (u16Cod.encs xs).length = xs.length := by rw [u16Encs, List.length_map]
theorem addrC_encs (a : GAddr) : addrC a = (u8Cod.encs a.b).toArray := by rw [u8Encs]; rfl
theorem addrC_mk (l : List UInt8) (h : l.length = 16) : (u8Cod.encs l).toArray = addrC ⟨l, h⟩ := by rw [addrC_encs]

/-! ### eight groups -/
structure GGroups where
  g : List UInt16
  len : g.length = 8
def groupsL (g : GGroups) : List Value := u16Cod.encs g.g
def groupsC (g : GGroups) : Array Value := (groupsL g).toArray
theorem groups_ext {a b : GGroups} (h : a.g = b.g) : a = b := by cases a; cases b; simp_all
def groupsEq (a b : GGroups) : Bool := a.g == b.g
theorem groupsEq_iff (a b : GGroups) : groupsEq a b = true ↔ a = b :=
  ⟨fun h => groups_ext (by simpa [groupsEq] using h), fun h => by subst h; simp [groupsEq]⟩
theorem groupsL_length (g : GGroups) : (groupsL g).length = 8 := by rw [groupsL, u16Len, g.len]
@[go_sem] theorem groupsC_size (g : GGroups) : (groupsC g).size = 8 := by simp [groupsC, groupsL_length]
@[go_sem] theorem groupsC_all (g : GGroups) : (groupsC g).extract 0 8 = groupsC g := by
  have := groupsC_size g
  rw [← this]; simp
@[go_sem] theorem groupsC_one (g : GGroups) : allOne (groupsC g) = true := allOne_of (u16Cod.encs_one g.g)
theorem groupsC_mk (l : List UInt16) (h : l.length = 8) : (u16Cod.encs l).toArray = groupsC ⟨l, h⟩ := rfl
theorem groups_get (g : GGroups) (k : Nat) (h : k < g.g.length) : (groupsC g)[k]? = some (.int .u16 ((g.g[k]'h).toNat : Int)) := by
  rw [groupsC, groupsL, u16Encs]; simp [h]
@[go_sem] theorem cellsOf_groups : Tryz.prog.cellsOf 164 = 8 := by kernel_rfl
theorem cellsOf_u16 : Tryz.prog.cellsOf 163 = 1 := by kernel_rfl
@[go_sem] theorem agg_groups : isAggT Tryz.prog 164 = true := by kernel_rfl
def groupsK (a : GGroups) : List Lit := a.g.map fun x => .int .u16 (x.toNat : Int)
theorem u16_wf (x : UInt16) : (Lit.int .u16 (x.toNat : Int)).wf = true := by
  have := x.toNat_lt
  simp [Lit.wf, IntKind.min, IntKind.max, IntKind.signed, IntKind.bits]
  omega
theorem toNat_inj16 : ∀ (l m : List UInt16), l.map UInt16.toNat = m.map UInt16.toNat → l = m
  | [], [], _ => rfl
  | [], _ :: _, h => by simp at h
  | _ :: _, [], h => by simp at h
  | x :: l, y :: m, h => by
    simp only [List.map_cons, List.cons.injEq] at h
    rw [UInt16.toNat_inj.1 h.1, toNat_inj16 l m h.2]
theorem groupsK_inj {a b : GGroups} (h : groupsK a = groupsK b) : a = b := by
  apply groups_ext
  have h' : a.g.map UInt16.toNat = b.g.map UInt16.toNat := by
    have := congrArg (List.map fun l : Lit => match l with | .int _ n => n.toNat | _ => 0) h
    simpa [groupsK, List.map_map, Function.comp_def] using this
  exact toNat_inj16 _ _ h'
theorem list8v {α : Type} (l : List α) (h : l.length = 8) : ∃ a b c d e f g i, l = [a, b, c, d, e, f, g, i] := by
  match l, h with
  | [a, b, c, d, e, f, g, i], _ => exact ⟨a, b, c, d, e, f, g, i, rfl⟩
theorem keyLits_groups (D : Nat) (a : GGroups) : Tryz.prog.keyLits (D + 2) 164 (groupsL a) = some (groupsK a) := by
  obtain ⟨l, hl⟩ := a
  obtain ⟨a, b, c, d, e, f, g, i, rfl⟩ := list8v l hl
  rw [groupsL, u16Encs]
  simp [Program.keyLits, Tryz.underlying164, cellsOf_groups, cellsOf_u16, groupsK, u16_wf, Tryz.underlying163, List.range_succ]
theorem groups_rows (a b : GGroups) (x y : Operand) (w : World) : eqRow Tryz.prog w 164 x y (.agg (groupsC a)) (.agg (groupsC b)) = .ok (.value (.bool (groupsEq a b))) w ∧ neRow Tryz.prog w 164 x y (.agg (groupsC a)) (.agg (groupsC b)) = .ok (.value (.bool (!groupsEq a b))) w :=
  eq_rows (m := 10) (by kernel_rfl) (by decide) (by kernel_rfl) (keyLits_groups 0 a) (keyLits_groups 0 b) (by simp [Value.formed, Tryz.underlying164, cellsOf_groups, groupsL_length]) (by simp [Value.formed, Tryz.underlying164, cellsOf_groups, groupsL_length])
    (by rw [groupsEq_iff]; exact ⟨fun e => by rw [e], groupsK_inj⟩) x y w
@[go_sem] theorem eqRow_groups (a b : GGroups) (x y : Operand) (w : World) : eqRow Tryz.prog w 164 x y (.agg (groupsC a)) (.agg (groupsC b)) = .ok (.value (.bool (groupsEq a b))) w := (groups_rows a b x y w).1
@[go_sem] theorem neRow_groups (a b : GGroups) (x y : Operand) (w : World) : neRow Tryz.prog w 164 x y (.agg (groupsC a)) (.agg (groupsC b)) = .ok (.value (.bool (!groupsEq a b))) w := (groups_rows a b x y w).2
theorem addr_rows (a b : GAddr) (x y : Operand) (w : World) : eqRow Tryz.prog w 35 x y (.agg (addrC a)) (.agg (addrC b)) = .ok (.value (.bool (addrEq a b))) w ∧ neRow Tryz.prog w 35 x y (.agg (addrC a)) (.agg (addrC b)) = .ok (.value (.bool (!addrEq a b))) w :=
  eq_rows (m := 10) (by kernel_rfl) (by decide) (by kernel_rfl) (keyLits_addr 0 a) (keyLits_addr 0 b) (by simp [Value.formed, Tryz.underlying35, cellsOf_addr, addrL_length]) (by simp [Value.formed, Tryz.underlying35, cellsOf_addr, addrL_length])
    (by rw [addrEq_iff]; exact ⟨fun e => by rw [e], addrK_inj⟩) x y w
@[go_sem] theorem eqRow_addr (a b : GAddr) (x y : Operand) (w : World) : eqRow Tryz.prog w 35 x y (.agg (addrC a)) (.agg (addrC b)) = .ok (.value (.bool (addrEq a b))) w := (addr_rows a b x y w).1
@[go_sem] theorem neRow_addr (a b : GAddr) (x y : Operand) (w : World) : neRow Tryz.prog w 35 x y (.agg (addrC a)) (.agg (addrC b)) = .ok (.value (.bool (!addrEq a b))) w := (addr_rows a b x y w).2
/-! ### noughts -/
def zeroA : GAddr := ⟨List.replicate 16 0, rfl⟩
def zeroG : GGroups := ⟨List.replicate 8 0, rfl⟩
theorem run_build_addr (w : World) : (Instr.build 35 #[]).run Tryz.prog w = .ok (.agg (addrC zeroA)) w := by kernel_rfl
theorem run_build_groups (w : World) : (Instr.build 164 #[]).run Tryz.prog w = .ok (.agg (groupsC zeroG)) w := by kernel_rfl
@[go_sem ↓ high] theorem run_op_build_addr (ev : Operand → Value) (dst : Option Tmp) (ty : TypeId) (pos : String) (af : Array Edge) (g : Option (Nat × Bool)) (w : World) :
    Sem.run Tryz.prog (execOp ev { dst := dst, op := .build 35 #[], type := ty, pos := pos, after := af, guard := g }) w = .ok (.value (.agg (addrC zeroA))) w := by
  rw [run_op_build, buildRow, Sem.run_bind]
  simp [run_build_addr]
@[go_sem ↓ high] theorem run_op_build_groups (ev : Operand → Value) (dst : Option Tmp) (ty : TypeId) (pos : String) (af : Array Edge) (g : Option (Nat × Bool)) (w : World) :
    Sem.run Tryz.prog (execOp ev { dst := dst, op := .build 164 #[], type := ty, pos := pos, after := af, guard := g }) w = .ok (.value (.agg (groupsC zeroG))) w := by
  rw [run_op_build, buildRow, Sem.run_bind]
  simp [run_build_groups]
section
variable {w : World} {r : Reach} {base : Nat}
theorem cell_u16 {P : Program} {t : TypeId} {v : Value} (ht : P.underlying t = some (.int .u16)) (h : Cell.okWide P w r base t v) : ∃ x : UInt16, v = .int .u16 (x.toNat : Int) := by
  obtain ⟨n, rfl, hw⟩ := cell_int ht h
  simp [Lit.wf, IntKind.min, IntKind.max, IntKind.signed, IntKind.bits] at hw
  refine ⟨UInt16.ofNat n.toNat, ?_⟩
  have : (UInt16.ofNat n.toNat).toNat = n.toNat := by
    rw [UInt16.toNat_ofNat']; omega
  rw [this]
  congr 1
  omega
theorem rowFits_u16 {P : Program} {t : TypeId} (ht : P.underlying t = some (.int .u16)) : ∀ {n : Nat} {vs : List Value}, RowFits P w r base (List.replicate n t) vs → ∃ l : List UInt16, l.length = n ∧ vs = l.map fun x => .int .u16 (x.toNat : Int)
  | 0, vs, h => ⟨[], rfl, by rw [rowFits_nil h]; rfl⟩
  | n + 1, vs, h => by
    rw [List.replicate_succ] at h
    obtain ⟨v, b, rfl, h1, h2⟩ := rowFits_cons h
    obtain ⟨x, rfl⟩ := cell_u16 ht h1
    obtain ⟨l, hl, rfl⟩ := rowFits_u16 ht h2
    exact ⟨x :: l, by simp [hl], rfl⟩
def groupsT : List TypeId := List.replicate 8 163
theorem open_groups {v : Value} (h : Value.okWide Tryz.prog w r base 164 v) : ∃ a : GGroups, v = .agg (groupsC a) := by
  unfold Value.okWide at h
  rw [Tryz.underlying164] at h
  obtain ⟨cs, rfl, hs, hr⟩ := h
  obtain ⟨l, hl, ha⟩ := rowFits_u16 Tryz.underlying163 (rowFits_row (ts := groupsT) (by kernel_rfl) (by rw [hs, cellsOf_groups]; rfl) hr)
  exact ⟨⟨l, hl⟩, by rw [groupsC, groupsL, u16Encs, ← ha]⟩
end
end

section
open Go

/-- The pieces between the bytes c. -/
def splitL (c : UInt8) : List UInt8 → List (List UInt8)
  | [] => [[]]
  | x :: l => if x = c then [] :: splitL c l else (x :: (splitL c l).headD []) :: (splitL c l).tail
theorem splitL_ne (c : UInt8) : ∀ l, splitL c l ≠ []
  | [] => by simp [splitL]
  | x :: l => by rw [splitL]; split <;> simp
theorem splitL_pos (c : UInt8) (l : List UInt8) : 0 < (splitL c l).length := List.length_pos_iff.2 (splitL_ne c l)
theorem index_cons (c x : UInt8) (l : List UInt8) : Lib.index (x :: l) [c] = if x = c then 0 else if Lib.index l [c] == -1 then -1 else Lib.index l [c] + 1 := by
  rw [Lib.index]
  by_cases h : x = c
  · subst h; simp
  · have h1 : ([c].isPrefixOf (x :: l)) = false := by
      simp only [List.isPrefixOf, Bool.and_true]
      exact beq_eq_false_iff_ne.2 (fun e => h e.symm)
    rw [h1, if_neg h]
    simp
theorem splitK_one (c : UInt8) : ∀ l : List UInt8, Lib.splitK [c] 0 (Lib.count l [c]) l = splitL c l
  | [] => by
    rw [Lib.count_one]
    rfl
  | x :: l => by
    have ih := splitK_one c l
    by_cases h : x = c
    · subst h
      rw [Lib.count_cons_eq, Nat.add_comm, Lib.splitK, index_cons]
      simp [splitL, ih]
    · rw [Lib.count_cons_ne x c l h, splitL, if_neg h]
      cases hn : Lib.count l [c] with
      | zero =>
        rw [hn] at ih
        rw [← ih]
        simp [Lib.splitK]
      | succ k =>
        rw [hn] at ih
        have hi : (Lib.index l [c] == -1) = false := by
          rw [beq_eq_false_iff_ne]
          intro e
          rw [Lib.count_miss e] at hn
          cases hn
        have hge := Lib.index_ge l [c]
        have hi' : Lib.index l [c] ≠ -1 := beq_eq_false_iff_ne.1 hi
        rw [Lib.splitK, hi] at ih
        rw [Lib.splitK, index_cons, if_neg h, hi]
        have h1 : (Lib.index l [c] + 1 == -1) = false := beq_eq_false_iff_ne.2 (by omega)
        have h2 : (Lib.index l [c] + 1).toNat = (Lib.index l [c]).toNat + 1 := by omega
        simp only [Bool.false_eq_true, if_false, h1, h2] at ih ⊢
        rw [← ih]
        simp [List.take_succ_cons, Nat.add_assoc]
theorem splitB_one (c : UInt8) (l : List UInt8) : (Lib.splitB ⟨[c].toArray⟩ 0 (Lib.countB ⟨l.toArray⟩ ⟨[c].toArray⟩) ⟨l.toArray⟩).map (·.data.toList) = splitL c l := by
  rw [Lib.splitB_data]
  exact splitK_one c l
theorem splitB_count (c : UInt8) (l : List UInt8) : Lib.countB ⟨l.toArray⟩ ⟨[c].toArray⟩ + 1 = (splitL c l).length := by
  rw [← splitB_one, List.length_map]
  exact (Lib.splitB_all ⟨[c].toArray⟩ (Nat.le_refl 1) 0 _ ⟨l.toArray⟩ rfl).symm

/-! ### a list of texts as cells -/
def strsL (L : List (List UInt8)) : List Value := L.map fun l => Value.string ⟨l.toArray⟩
def strsV (L : List (List UInt8)) : Array Value := (strsL L).toArray
@[go_sem] theorem strsV_size (L : List (List UInt8)) : (strsV L).size = L.length := by simp [strsV, strsL]
@[go_sem ↓ high] theorem strsV_get (L : List (List UInt8)) (i : Nat) (h : i < L.length) : (strsV L)[i]? = some (.string ⟨(L[i]'h).toArray⟩) := by
  simp [strsV, strsL, h]
theorem splitB_cells (c : UInt8) (l : List UInt8) : ((Lib.splitB ⟨[c].toArray⟩ 0 (Lib.countB ⟨l.toArray⟩ ⟨[c].toArray⟩) ⟨l.toArray⟩).map Value.string).toArray = strsV (splitL c l) := by
  rw [strsV, strsL, ← splitB_one, List.map_map]
  rfl

/-! ### pieces and the whole -/
/-- The texts with a byte between each two. -/
def joinL (c : UInt8) : List (List UInt8) → List UInt8
  | [] => []
  | [l] => l
  | l :: m :: L => l ++ c :: joinL c (m :: L)
theorem splitL_cons (c x : UInt8) (l : List UInt8) (h : x ≠ c) : ∃ p ps, splitL c l = p :: ps ∧ splitL c (x :: l) = (x :: p) :: ps := by
  rcases hs : splitL c l with _ | ⟨p, ps⟩
  · exact absurd hs (splitL_ne c l)
  · exact ⟨p, ps, rfl, by rw [splitL, if_neg h, hs]; rfl⟩
theorem join_split (c : UInt8) : ∀ l, joinL c (splitL c l) = l
  | [] => rfl
  | x :: l => by
    have ih := join_split c l
    by_cases h : x = c
    · subst h
      rw [splitL, if_pos rfl]
      rcases hs : splitL x l with _ | ⟨p, ps⟩
      · exact absurd hs (splitL_ne x l)
      · rw [hs] at ih
        rw [joinL, ih]; rfl
    · obtain ⟨p, ps, h1, h2⟩ := splitL_cons c x l h
      rw [h1] at ih
      rw [h2]
      rcases ps with _ | ⟨q, ps⟩
      · rw [joinL] at ih ⊢; rw [ih]
      · rw [joinL] at ih ⊢; rw [List.cons_append, ih]
theorem splitL_no (c : UInt8) : ∀ l p, p ∈ splitL c l → c ∉ p
  | [], p, h => by simp [splitL] at h; subst h; simp
  | x :: l, p, h => by
    by_cases hx : x = c
    · rw [splitL, if_pos hx, List.mem_cons] at h
      rcases h with rfl | h
      · simp
      · exact splitL_no c l p h
    · obtain ⟨q, qs, h1, h2⟩ := splitL_cons c x l hx
      rw [h2, List.mem_cons] at h
      rcases h with rfl | h
      · simp only [List.mem_cons, not_or]
        exact ⟨fun e => hx e.symm, splitL_no c l q (by rw [h1]; simp)⟩
      · exact splitL_no c l p (by rw [h1]; simp [h])
theorem splitL_append (c : UInt8) (a b : List UInt8) (ha : c ∉ a) : splitL c (a ++ c :: b) = a :: splitL c b := by
  induction a with
  | nil => rw [List.nil_append, splitL, if_pos rfl]
  | cons x a ih =>
    have hx : x ≠ c := fun e => ha (by simp [e])
    have := ih (fun h => ha (by simp [h]))
    rw [List.cons_append, splitL, if_neg hx, this]; rfl
theorem splitL_none (c : UInt8) (a : List UInt8) (ha : c ∉ a) : splitL c a = [a] := by
  induction a with
  | nil => rfl
  | cons x a ih =>
    have hx : x ≠ c := fun e => ha (by simp [e])
    have := ih (fun h => ha (by simp [h]))
    rw [splitL, if_neg hx, this]; rfl
theorem splitL_length_le (c : UInt8) : ∀ l : List UInt8, (splitL c l).length ≤ l.length + 1
  | [] => by simp [splitL]
  | x :: l => by
    have ih := splitL_length_le c l
    rw [splitL]
    split
    · simp; omega
    · simp; omega
theorem splitL_piece_le (c : UInt8) : ∀ l p, p ∈ splitL c l → p.length ≤ l.length
  | [], p, h => by simp [splitL] at h; subst h; simp
  | x :: l, p, h => by
    by_cases hx : x = c
    · rw [splitL, if_pos hx, List.mem_cons] at h
      rcases h with rfl | h
      · simp
      · have := splitL_piece_le c l p h; simp; omega
    · obtain ⟨q, qs, h1, h2⟩ := splitL_cons c x l hx
      rw [h2, List.mem_cons] at h
      rcases h with rfl | h
      · have := splitL_piece_le c l q (by rw [h1]; simp); simp; omega
      · have := splitL_piece_le c l p (by rw [h1]; simp [h]); simp; omega
end

section
open Go Go.RowKit
set_option maxRecDepth 20000

/-- The world behind '[]byte(s)'. -/
def bytesW (w : World) (l : List UInt8) : World := Lib.bytesWorld w 5 ⟨l.toArray⟩
def bytesCap (w : World) (l : List UInt8) : Nat := grownCap w l.length 0 5
theorem bytesW_old (w : World) (l : List UInt8) (j : Nat) (hj : j < w.heap.size) : (bytesW w l).heap[j]? = w.heap[j]? := Lib.bytesWorld_at_old w _ _ j hj
@[go_sem] theorem bytesW_size (w : World) (l : List UInt8) : (bytesW w l).heap.size = w.heap.size + 1 := Lib.bytesWorld_size w _ _
theorem below_bytesW' (w : World) (l : List UInt8) : Below w.heap.size w (bytesW w l) :=
  ⟨rfl, rfl, rfl, by rw [bytesW_size]; omega, fun k hk => bytesW_old w l k hk⟩
theorem below_bytesW {B : Nat} {w w2 : World} (h : Below B w w2) (hB : B ≤ w2.heap.size) (l : List UInt8) : Below B w (bytesW w2 l) := h.trans ((below_bytesW' w2 l).mono hB)
@[go_sem] theorem isOld_bytesW (b : Nat) (w : World) (l : List UInt8) : isOld b (bytesW w l) = (isOld b w || b == w.heap.size) := by
  rw [Bool.eq_iff_iff, Bool.or_eq_true, isOld_iff, isOld_iff, beq_iff_eq, bytesW_size]
  omega
@[go_sem] theorem cell_bytesW_old (w : World) (l : List UInt8) (b i : Nat) (h : isOld b w = true) : (bytesW w l).cell? ⟨b, i, none⟩ = w.cell? ⟨b, i, none⟩ := (below_bytesW' w l).cell (p := ⟨b, i, none⟩) (isOld_iff.1 h)
@[go_sem] theorem frozen_bytesW_old (w : World) (l : List UInt8) (b i : Nat) (h : isOld b w = true) : (bytesW w l).frozen? ⟨b, i, none⟩ = w.frozen? ⟨b, i, none⟩ := (below_bytesW' w l).frozen (p := ⟨b, i, none⟩) (isOld_iff.1 h)
@[go_sem] theorem rowAt_bytesW (w : World) (l : List UInt8) (b o n : Nat) (h : isOld b w = true) : rowAt (bytesW w l) ⟨b, o, none⟩ n = rowAt w ⟨b, o, none⟩ n :=
  row_congr fun j _ => by rw [add_mk]; exact cell_bytesW_old w l b (o + j) h
@[go_sem] theorem hasRow_bytesW (w : World) (l : List UInt8) (b o n : Nat) (h : isOld b w = true) : hasRow (bytesW w l) ⟨b, o, none⟩ n = hasRow w ⟨b, o, none⟩ n :=
  has_congr fun j _ => by rw [add_mk]; exact cell_bytesW_old w l b (o + j) h
@[go_sem] theorem cell_bytesW (w : World) (l : List UInt8) (i : Nat) (h : i < l.length) : (bytesW w l).cell? ⟨w.heap.size, i, none⟩ = some (.int .u8 ((l[i]'h).toNat : Int)) := by
  have := Lib.bytesWorld_cell w 5 ⟨l.toArray⟩ i (by simpa [ByteArray.size] using h)
  rw [bytesW, this]
  simp [List.getD, h]
@[go_sem] theorem frozen_bytesW (w : World) (l : List UInt8) (i : Nat) (h : i < l.length) : (bytesW w l).frozen? ⟨w.heap.size, i, none⟩ = false := by
  have := Lib.bytesWorld_at_new w 5 ⟨l.toArray⟩
  simp only [bytesW, World.frozen?, this]
  simp [Lib.bytesCells]
  omega

/-- '[]byte(s)' as a whole operation. -/
def convSB (P : Program) (w : World) (v : Value) : Result Next := Sem.run P (do pure (.value (← convert 9 72 v))) w
@[go_sem ↓ high] theorem run_op_convSB (ev : Operand → Value) (dst : Option Tmp) (x : Operand) (ty : TypeId) (pos : String) (af : Array Edge) (g : Option (Nat × Bool)) (w : World) :
    Sem.run Tryz.prog (execOp ev { dst := dst, op := .convert 9 72 x, type := ty, pos := pos, after := af, guard := g }) w = convSB Tryz.prog w (ev x) := rfl
@[go_sem] theorem convSB_at (l : List UInt8) (w : World) : convSB Tryz.prog w (.string ⟨l.toArray⟩) = .ok (.value (.slice (some ⟨w.heap.size, 0, none⟩) l.length (bytesCap w l))) (bytesW w l) := by
  have := Lib.run_convert_string_bytes (P := Tryz.prog) w 9 72 5 ⟨l.toArray⟩ Tryz.underlying9 Tryz.underlying72 Tryz.underlying5
  simp [convSB, this, bytesW, bytesCap, ByteArray.size]

/-! ### bytes that lie in memory, as a text -/
/-- The byte at an address. -/
def byteAt (w : World) (a : Addr) : Option UInt8 := match w.cell? a with
  | some (.int .u8 n) => some (UInt8.ofNat n.toNat)
  | _ => none
/-- The text that a slice of bytes holds. -/
def strOf (w : World) : Value → Option (List UInt8)
  | .slice none _ _ => some []
  | .slice (some a) n _ => (List.range n).mapM fun j => byteAt w (a.add j)
  | _ => none
/-- From an address on lie these bytes. -/
def bytesAt (w : World) (a : Addr) (l : List UInt8) : Prop := ∀ j (h : j < l.length), w.cell? (a.add j) = some (.int .u8 ((l[j]'h).toNat : Int))
theorem mapM_range {α : Type} (f : Nat → Option α) : ∀ (l : List α) (k : Nat), (∀ j (h : j < l.length), f (k + j) = some (l[j]'h)) → ((List.range' k l.length).mapM f) = some l
  | [], k, _ => rfl
  | x :: l, k, h => by
    have h0 := h 0 (by simp)
    have ih := mapM_range f l (k + 1) (fun j hj => by have := h (j + 1) (by simp; omega); rw [show k + 1 + j = k + (j + 1) by omega]; simpa using this)
    simp only [List.length_cons, List.range'_succ, List.mapM_cons]
    rw [show k = k + 0 by omega, h0]
    simp [ih]
theorem strOf_bytes {w : World} {a : Addr} {l : List UInt8} (h : bytesAt w a l) (c : Nat) : strOf w (.slice (some a) l.length c) = some l := by
  show (List.range l.length).mapM _ = _
  rw [List.range_eq_range']
  exact mapM_range _ l 0 fun j hj => by
    have := h j hj
    rw [Nat.zero_add, byteAt, this]
    simp
theorem strOf_nil (w : World) (a : Option Addr) (c : Nat) : strOf w (.slice a 0 c) = some [] := by
  cases a <;> rfl
@[go_sem] theorem strOf_one (w : World) (n : Int) (t : TypeId) (b c : Nat) (hb : b = w.heap.size) : strOf (w.alloc (.cells #[.int .u8 n] t)) (.slice (some ⟨b, 0, none⟩) 1 c) = some [UInt8.ofNat n.toNat] := by
  subst hb
  show (List.range 1).mapM _ = _
  simp [List.range_succ, byteAt, add_mk]
@[go_sem] theorem ofNat_toNat_int (x : UInt8) : UInt8.ofNat ((x.toNat : Int).toNat) = x := by simp
theorem bytesAt_of_strOf {w : World} {a : Addr} {n c : Nat} {l : List UInt8} (h : strOf w (.slice (some a) n c) = some l) : l.length = n ∧ ∀ j (hj : j < l.length), byteAt w (a.add j) = some (l[j]'hj) := by
  have h : (List.range n).mapM (fun j => byteAt w (a.add j)) = some l := h
  have key : ∀ (k : Nat) (n : Nat) (l : List UInt8), (List.range' k n).mapM (fun j => byteAt w (a.add j)) = some l → l.length = n ∧ ∀ j (hj : j < l.length), byteAt w (a.add (k + j)) = some (l[j]'hj) := by
    intro k n
    induction n generalizing k with
    | zero => intro l h; simp at h; subst h; exact ⟨rfl, fun j hj => by simp at hj⟩
    | succ n ih =>
      intro l h
      rw [List.range'_succ, List.mapM_cons] at h
      cases hb : byteAt w (a.add k) with
      | none => rw [hb] at h; cases h
      | some x =>
        rw [hb] at h
        cases hm : (List.range' (k + 1) n).mapM (fun j => byteAt w (a.add j)) with
        | none => rw [hm] at h; cases h
        | some t =>
          rw [hm] at h
          obtain rfl : x :: t = l := by simpa using h
          obtain ⟨h1, h2⟩ := ih (k + 1) t hm
          refine ⟨by simp [h1], fun j hj => ?_⟩
          rcases j with _ | j
          · simpa using hb
          · have := h2 j (by simpa using hj)
            rw [show k + 1 + j = k + (j + 1) by omega] at this
            simpa using this
  rw [List.range_eq_range'] at h
  have := key 0 n l h
  exact ⟨this.1, fun j hj => by have := this.2 j hj; rwa [Nat.zero_add] at this⟩

theorem bytesAt_get {w : World} {b o : Nat} {l : List UInt8} (h : bytesAt w ⟨b, o, none⟩ l) (j : Nat) (hj : j < l.length) : w.cell? ⟨b, o + j, none⟩ = some (.int .u8 ((l[j]'hj).toNat : Int)) := by
  have := h j hj
  rwa [add_mk] at this
theorem bytesAt_set {w : World} {b o : Nat} {l : List UInt8} (h : bytesAt w ⟨b, o, none⟩ l) (k : Nat) (hk : k < l.length) (x : UInt8) : bytesAt (w.setCell ⟨b, o + k, none⟩ (.int .u8 (x.toNat : Int))) ⟨b, o, none⟩ (l.set k x) := by
  intro j hj
  rw [add_mk]
  have hj' : j < l.length := by simpa using hj
  by_cases e : j = k
  · subst e
    rw [World.cell?_setCell_same _ _ _ (bytesAt_get h j hj')]
    simp
  · rw [World.cell?_setCell_other _ _ _ _ (by intro e'; apply e; have := congrArg Addr.off e'; simp at this; omega), bytesAt_get h j hj']
    rw [List.getElem_set_ne (by omega)]
theorem bytesAt_grown {w : World} {b o : Nat} {l : List UInt8} (h : bytesAt w ⟨b, o, none⟩ l) (p : Regrown) : bytesAt (grown w p) ⟨b, o, none⟩ l := fun j hj => by
  have := bytesAt_get h j hj
  rw [add_mk, cell_grown w p b (o + j) (isOld_iff.2 (block_lt_of_cell this)), this]
theorem bytesAt_bytesW (w : World) (l : List UInt8) : bytesAt (bytesW w l) ⟨w.heap.size, 0, none⟩ l := fun j hj => by
  rw [add_mk, Nat.zero_add]; exact cell_bytesW w l j hj

theorem strOf_below {w w' : World} {b n c : Nat} {l : List UInt8} (h : strOf w (.slice (some ⟨b, 0, none⟩) n c) = some l) (hb : b < w.heap.size) (hbl : Below w.heap.size w w') : strOf w' (.slice (some ⟨b, 0, none⟩) n c) = some l := by
  rw [← h]
  show (List.range n).mapM _ = (List.range n).mapM _
  congr 1
  funext j
  unfold byteAt
  rw [add_mk, hbl.cell (p := ⟨b, 0 + j, none⟩) hb]
/-- 'string(b)' as a whole operation. -/
def convBS (P : Program) (w : World) (v : Value) : Result Next := Sem.run P (do pure (.value (← convert 72 9 v))) w
def convBS' (P : Program) (w : World) (v : Value) : Result Next := convBS P w v
@[go_sem ↓ high] theorem run_op_convBS (ev : Operand → Value) (dst : Option Tmp) (x : Operand) (ty : TypeId) (pos : String) (af : Array Edge) (g : Option (Nat × Bool)) (w : World) :
    Sem.run Tryz.prog (execOp ev { dst := dst, op := .convert 72 9 x, type := ty, pos := pos, after := af, guard := g }) w = convBS Tryz.prog w (ev x) := rfl
theorem convBS_none (w : World) (n c : Nat) : convBS Tryz.prog w (.slice none n c) = .ok (.value (.string ⟨([] : List UInt8).toArray⟩)) w := by
  have := run_convert_bytes_string (P := Tryz.prog) w 72 9 5 none n c Tryz.underlying72 Tryz.underlying5 Tryz.underlying9
  simp [convBS, this, Conv.bytesToString]
  rfl
theorem push_foldl (l : List UInt8) : ∀ s : ByteArray, l.foldl (fun r x => r.push x) s = s ++ ⟨l.toArray⟩ := by
  induction l with
  | nil => intro s; apply ByteArray.ext; simp
  | cons x l ih => intro s; rw [List.foldl_cons, ih]; apply ByteArray.ext; simp
theorem convBS_some (w : World) (a : Addr) (n c : Nat) (l : List UInt8) (h : strOf w (.slice (some a) n c) = some l) : convBS Tryz.prog w (.slice (some a) n c) = .ok (.value (.string ⟨l.toArray⟩)) w := by
  obtain ⟨rfl, hb⟩ := bytesAt_of_strOf h
  have hcells : ∀ j, j < l.length → ∃ k : Int, w.cell? (a.add j) = some (.int .u8 k) ∧ UInt8.ofNat k.toNat = l.getD j 0 := fun j hj => by
    have := hb j hj
    unfold byteAt at this
    split at this
    · rename_i k hk
      exact ⟨k, hk, by simpa [List.getD, hj] using this⟩
    · cases this
  have hl := run_loadCells (P := Tryz.prog) w a l.length (fun j => (w.cell? (a.add j)).getD undef) (fun j hj => by
    obtain ⟨k, hk, _⟩ := hcells j hj
    rw [hk]; rfl)
  have hns : ((List.range l.length).map fun j => (w.cell? (a.add j)).getD undef) = ((List.range l.length).map fun j => match w.cell? (a.add j) with | some (.int .u8 k) => k | _ => 0).map (Value.int .u8) := by
    rw [List.map_map]
    apply List.map_congr_left
    intro j hj
    obtain ⟨k, hk, _⟩ := hcells j (by simpa using hj)
    simp [hk]
  rw [hns] at hl
  have h2 := run_bytesToString (P := Tryz.prog) w a l.length c _ hl
  have h1 := run_convert_bytes_string (P := Tryz.prog) w 72 9 5 (some a) l.length c Tryz.underlying72 Tryz.underlying5 Tryz.underlying9
  rw [convBS, Sem.run_bind, h1, h2]
  show Result.ok _ _ = _
  congr 2
  congr 1
  have hm : ((List.range l.length).map fun j => match w.cell? (a.add j) with | some (.int .u8 k) => k | _ => 0).map (fun n => UInt8.ofNat n.toNat) = l := by
    rw [List.map_map]
    apply List.ext_getElem
    · simp
    · intro j h1 h2
      obtain ⟨k, hk, hk2⟩ := hcells j h2
      simp [hk, hk2, List.getD, h2]
  have := push_foldl l ByteArray.empty
  rw [← hm, List.foldl_map] at this
  rw [this]
  apply ByteArray.ext
  simp [hm]
@[go_sem] theorem convBS_at (w : World) (a : Option Addr) (n c : Nat) : convBS Tryz.prog w (.slice a n c) = match strOf w (.slice a n c) with | some l => .ok (.value (.string ⟨l.toArray⟩)) w | none => convBS' Tryz.prog w (.slice a n c) := by
  split
  · rename_i l hl
    cases a with
    | none => obtain rfl : [] = l := by simpa [strOf] using hl
              exact convBS_none w n c
    | some a => exact convBS_some w a n c l hl
  · rfl
end

section
open Go Go.RowKit

def lowC (c : UInt8) : UInt8 := if 65 ≤ c ∧ c ≤ 90 then c + 32 else c
def lowerL (l : List UInt8) : List UInt8 := l.map lowC
def lowTo (l : List UInt8) (k : Nat) : List UInt8 := (l.take k).map lowC ++ l.drop k
theorem lowTo_length (l : List UInt8) (k : Nat) : (lowTo l k).length = l.length := by simp [lowTo]; omega
theorem lowTo_at (l : List UInt8) (k : Nat) (hk : k ≤ l.length) (j : Nat) : (lowTo l k)[j]? = if j < k then (l[j]?).map lowC else l[j]? := by
  rw [lowTo, List.getElem?_append, List.length_map, List.length_take, Nat.min_eq_left hk]
  split
  · rw [List.getElem?_map, List.getElem?_take, if_pos (by assumption)]
  · rw [List.getElem?_drop]
    congr 1
    omega
theorem lowTo_get (l : List UInt8) (k : Nat) (h : k < l.length) (h' : k < (lowTo l k).length) : (lowTo l k)[k]'h' = l[k]'h := by
  have := lowTo_at l k (by omega) k
  rw [if_neg (by omega), List.getElem?_eq_getElem h', List.getElem?_eq_getElem h] at this
  exact Option.some.inj this
theorem lowTo_succ (l : List UInt8) (k : Nat) (h : k < l.length) : lowTo l (k + 1) = (lowTo l k).set k (lowC (l[k]'h)) := by
  apply List.ext_getElem?
  intro j
  rw [lowTo_at l (k + 1) (by omega), List.getElem?_set, lowTo_length, lowTo_at l k (by omega)]
  by_cases e : k = j
  · subst e
    rw [if_pos (by omega), if_pos rfl, if_pos h, List.getElem?_eq_getElem h]
    rfl
  · rw [if_neg e]
    by_cases hj : j < k
    · rw [if_pos (by omega), if_pos hj]
    · rw [if_neg (by omega), if_neg hj]
theorem lowTo_same (l : List UInt8) (k : Nat) (h : k < l.length) (hc : lowC (l[k]'h) = l[k]'h) : lowTo l (k + 1) = lowTo l k := by
  rw [lowTo_succ l k h, hc]
  apply List.ext_getElem
  · simp
  · intro j h1 h2
    rw [List.getElem_set]
    split
    · rename_i e; subst e; rw [lowTo_get l k h]
    · rfl
theorem lowTo_zero (l : List UInt8) : lowTo l 0 = l := by simp [lowTo]
theorem lowTo_all (l : List UInt8) : lowTo l l.length = lowerL l := by simp [lowTo, lowerL]
theorem lowC_yes {c : UInt8} (h1 : (65 : Int) ≤ c.toNat) (h2 : (c.toNat : Int) ≤ 90) : ((lowC c).toNat : Int) = (c.toNat : Int) - 65 + 97 := by
  have e : lowC c = c + 32 := if_pos ⟨by rw [UInt8.le_iff_toNat_le]; show 65 ≤ c.toNat; omega, by rw [UInt8.le_iff_toNat_le]; show c.toNat ≤ 90; omega⟩
  have h32 : (32 : UInt8).toNat = 32 := rfl
  rw [e, UInt8.toNat_add, h32]
  omega
theorem lowC_no {c : UInt8} (h : ¬ ((65 : Int) ≤ c.toNat ∧ (c.toNat : Int) ≤ 90)) : lowC c = c :=
  if_neg fun h' => h ⟨by have := UInt8.le_iff_toNat_le.1 h'.1; have h65 : (65 : UInt8).toNat = 65 := rfl; omega, by have := UInt8.le_iff_toNat_le.1 h'.2; have h90 : (90 : UInt8).toNat = 90 := rfl; omega⟩

theorem lower_any (l : List UInt8) (hl : l.length ≤ maxLen) (w : World) :
    Calls Tryz.prog 115 #[.string ⟨l.toArray⟩] w fun e w' => e = .returned (.string ⟨(lowerL l).toArray⟩) ∧ Below w.heap.size w w' := by
  unfold maxLen at hl
  go_enter Tryz.func115, Tryz.ntmps115
  go_wp2
  go_loopw [10] (fun i wr => ∃ k : Nat, k ≤ l.length ∧ i = .int .i64 k ∧ Below w.heap.size w wr ∧ bytesAt wr ⟨w.heap.size, 0, none⟩ (lowTo l k) ∧ (∀ j, j < l.length → wr.frozen? ⟨w.heap.size, j, none⟩ = false)) (fun i _ => l.length - (intOf i).toNat)
  case atStart => exact ⟨0, Nat.zero_le _, rfl, below_bytesW' w l, by rw [lowTo_zero]; exact bytesAt_bytesW w l, fun j hj => frozen_bytesW w l j hj⟩
  case round =>
    obtain ⟨k, hk, rfl, hb, hby, hfr⟩ := hrel
    by_cases hlt : k < l.length
    · have hcell : wr.cell? ⟨w.heap.size, k, none⟩ = some (.int .u8 ((l[k]'hlt).toNat : Int)) := by
        have := bytesAt_get hby k (by rw [lowTo_length]; exact hlt)
        rwa [lowTo_get l k hlt, Nat.zero_add] at this
      have hz := hfr k hlt
      have HB := Lib.hid hby
      have HF := Lib.hid hfr
      clear hby hfr
      obtain ⟨c, hc⟩ : ∃ c, l[k]'hlt = c := ⟨_, rfl⟩
      rw [hc] at hcell
      have HC := Lib.hid hc
      clear hc
      by_cases h1 : (65 : Int) ≤ c.toNat
      · by_cases h2 : (c.toNat : Int) ≤ 90
        · go_wp2
          go_roundw
          case rel =>
            have e : lowTo l (k + 1) = (lowTo l k).set k (lowC c) := by rw [lowTo_succ l k hlt, HC.out]
            refine ⟨k + 1, by omega, by go_num, hb.setCell (Nat.le_refl _) _, ?_, fun j hj => ?_⟩
            · have := bytesAt_set HB.out k (by rw [lowTo_length]; exact hlt) (lowC c)
              rw [e]
              rw [lowC_yes h1 h2, Nat.zero_add] at this
              exact this
            · rw [World.frozen?_setCell]; exact HF.out j hj
          case measure => simp [intOf]; omega
        · have e : lowTo l (k + 1) = lowTo l k := lowTo_same l k hlt (by rw [HC.out]; exact lowC_no (by omega))
          have HE := Lib.hid e
          clear e
          go_wp2
          go_roundw
          case rel => exact ⟨k + 1, by omega, by go_num, hb, by rw [HE.out]; exact HB.out, HF.out⟩
          case measure => simp [intOf]; omega
      · have e : lowTo l (k + 1) = lowTo l k := lowTo_same l k hlt (by rw [HC.out]; exact lowC_no (by omega))
        have HE := Lib.hid e
        clear e
        go_wp2
        go_roundw
        case rel => exact ⟨k + 1, by omega, by go_num, hb, by rw [HE.out]; exact HB.out, HF.out⟩
        case measure => simp [intOf]; omega
    · obtain rfl : k = l.length := by omega
      have hs : strOf wr (.slice (some ⟨w.heap.size, 0, none⟩) l.length (bytesCap w l)) = some (lowerL l) := by
        rw [lowTo_all] at hby
        have := strOf_bytes hby (bytesCap w l)
        rwa [show (lowerL l).length = l.length by simp [lowerL]] at this
      clear hby hfr
      go_wp2
      go_ret
      exact ⟨rfl, hb⟩
theorem lowerL_take (l : List UInt8) (k : Nat) (h : k < l.length) : lowerL (l.take (k + 1)) = lowerL (l.take k) ++ [lowC (l[k]'h)] := by
  rw [lowerL, List.take_succ_eq_append_getElem h, List.map_append]
  rfl
theorem refLower_any (l : List UInt8) (hl : l.length ≤ maxLen) (w : World) :
    Calls Tryz.prog 65 #[.string ⟨l.toArray⟩] w fun e w' => e = .returned (.string ⟨(lowerL l).toArray⟩) ∧ Below w.heap.size w w' := by
  unfold maxLen at hl
  go_enter Tryz.func65, Tryz.ntmps65
  go_wp2
  go_loopw [3, 4] (fun s i wr => ∃ k : Nat, k ≤ l.length ∧ i = .int .i64 k ∧ s = .string ⟨(lowerL (l.take k)).toArray⟩ ∧ Below w.heap.size w wr) (fun _ i _ => l.length - (intOf i).toNat)
  case atStart => exact ⟨0, Nat.zero_le _, rfl, rfl, Below.refl _ _⟩
  case round =>
    obtain ⟨k, hk, rfl, rfl, hb⟩ := hrel
    by_cases hlt : k < l.length
    · have e := lowerL_take l k hlt
      obtain ⟨c, hc⟩ : ∃ c, l[k]'hlt = c := ⟨_, rfl⟩
      rw [hc] at e
      have hc' : ∀ h, l[k]'h = c := fun _ => hc
      clear hc
      have HE := Lib.hid e
      clear e
      have hA : (lowerL (l.take k)).length ≤ k := by simp [lowerL]; omega
      generalize lowerL (l.take k) = A at *
      have hz := hb.size
      by_cases h1 : (65 : Int) ≤ c.toNat
      · by_cases h2 : (c.toNat : Int) ≤ 90
        · have h3 : (c.toNat : Int) + 32 = (lowC c).toNat := by rw [lowC_yes h1 h2]; omega
          go_wp2
          go_roundw
          case rel => exact ⟨k + 1, by omega, by go_num, by rw [HE.out], (by repeat (first | exact Below.refl _ _ | assumption | refine below_grown ?_ (by first | omega | (simp [go_sem]; done) | (simp [go_sem] <;> omega)) _ | refine Below.alloc ?_ (by first | omega | (simp [go_sem]; done) | (simp [go_sem] <;> omega)) _ | refine below_bytesW ?_ (by first | omega | (simp [go_sem]; done) | (simp [go_sem] <;> omega)) _ | refine Below.drew ?_ | refine below_drewN ?_ _))⟩
          case measure => simp [intOf]; omega
        · have h3 : lowC c = c := lowC_no (by omega)
          go_wp2
          go_roundw
          case rel => exact ⟨k + 1, by omega, by go_num, by rw [HE.out, h3], (by repeat (first | exact Below.refl _ _ | assumption | refine below_grown ?_ (by first | omega | (simp [go_sem]; done) | (simp [go_sem] <;> omega)) _ | refine Below.alloc ?_ (by first | omega | (simp [go_sem]; done) | (simp [go_sem] <;> omega)) _ | refine below_bytesW ?_ (by first | omega | (simp [go_sem]; done) | (simp [go_sem] <;> omega)) _ | refine Below.drew ?_ | refine below_drewN ?_ _))⟩
          case measure => simp [intOf]; omega
      · have h3 : lowC c = c := lowC_no (by omega)
        go_wp2
        go_roundw
        case rel => exact ⟨k + 1, by omega, by go_num, by rw [HE.out, h3], (by repeat (first | exact Below.refl _ _ | assumption | refine below_grown ?_ (by first | omega | (simp [go_sem]; done) | (simp [go_sem] <;> omega)) _ | refine Below.alloc ?_ (by first | omega | (simp [go_sem]; done) | (simp [go_sem] <;> omega)) _ | refine below_bytesW ?_ (by first | omega | (simp [go_sem]; done) | (simp [go_sem] <;> omega)) _ | refine Below.drew ?_ | refine below_drewN ?_ _))⟩
        case measure => simp [intOf]; omega
    · obtain rfl : k = l.length := by omega
      have e : lowerL (l.take l.length) = lowerL l := by simp
      go_wp2
      go_ret
      exact ⟨ret_str e, hb⟩
def sameB (a b : List UInt8) : Bool := lowerL a == lowerL b
theorem same_any (a b : List UInt8) (ha : a.length ≤ maxLen) (hb : b.length ≤ maxLen) (w : World) :
    Calls Tryz.prog 98 #[.string ⟨a.toArray⟩, .string ⟨b.toArray⟩] w fun e w' => e = .returned (.bool (sameB a b)) ∧ Below w.heap.size w w' := by
  go_enter Tryz.func98, Tryz.ntmps98
  go_wp2_with (go_at_call 115; refine (lower_any _ (by assumption) _).mono ?_; rintro e w1 ⟨rfl, hb1⟩; obtain ⟨p1, rfl⟩ := grown_of hb1; clear hb1)
  go_ret
  exact ⟨rfl, (by repeat (first | exact Below.refl _ _ | assumption | refine below_grown ?_ (by first | omega | (simp [go_sem]; done) | (simp [go_sem] <;> omega)) _ | refine Below.alloc ?_ (by first | omega | (simp [go_sem]; done) | (simp [go_sem] <;> omega)) _ | refine below_bytesW ?_ (by first | omega | (simp [go_sem]; done) | (simp [go_sem] <;> omega)) _ | refine Below.drew ?_ | refine below_drewN ?_ _))⟩
end
end Go.Proofs.YtnkckejbkbbdlaaGreatDoor
