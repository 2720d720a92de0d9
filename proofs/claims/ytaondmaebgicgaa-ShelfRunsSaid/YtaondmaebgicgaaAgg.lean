/- Rules of one's own for the walk: a whole struct read out of a block, as one row of cells, without a step a cell. No program in sight. -/
import Derived.Test.YtaondmaebgicgaaBase
import Derived.Laws.CopyRow
import Derived.Deep.WholeRow
import Derived.Deep.MidRow
import Derived.Lib.QuietBelow
import Derived.BigQuiet
namespace Go.Proofs.Ytaondmaebgicgaa
open Go Go.RowKit

/-- The n cells that lie from an address on. -/
def rowAt (w : World) (a : Addr) (n : Nat) : Array Value := ((List.range n).map fun j => (w.cell? (a.add j)).getD undef).toArray
/-- Are there so many? -/
def hasRow (w : World) (a : Addr) (n : Nat) : Bool := (List.range n).all fun j => (w.cell? (a.add j)).isSome

theorem hasRow_iff {w : World} {a : Addr} {n : Nat} : hasRow w a n = true ↔ ∀ j, j < n → (w.cell? (a.add j)).isSome = true := by
  simp [hasRow]

theorem run_row {P : Program} (w : World) (a : Addr) (n : Nat) (h : hasRow w a n = true) : Sem.run P (loadCellsFrom a 0 n #[]) w = .ok (rowAt w a n) w := by
  rw [hasRow_iff] at h
  have := run_loadCellsFrom (P := P) w a (fun j => (w.cell? (a.add j)).getD undef) n 0 #[] (fun j hj => by
    have := h j hj
    rw [Nat.zero_add]
    cases hc : w.cell? (a.add j)
    · rw [hc] at this; cases this
    · rfl)
  simpa [rowAt] using this

theorem add_mk (b o j : Nat) : (⟨b, o, none⟩ : Addr).add j = ⟨b, o + j, none⟩ := by unfold Addr.add; split <;> simp_all

theorem row_congr {w w' : World} {a a' : Addr} {n : Nat} (h : ∀ j, j < n → w.cell? (a.add j) = w'.cell? (a'.add j)) : rowAt w a n = rowAt w' a' n := by
  unfold rowAt
  congr 1
  apply List.map_congr_left
  intro j hj
  rw [h j (by simpa using hj)]
theorem has_congr {w w' : World} {a a' : Addr} {n : Nat} (h : ∀ j, j < n → w.cell? (a.add j) = w'.cell? (a'.add j)) : hasRow w a n = hasRow w' a' n := by
  rw [Bool.eq_iff_iff, hasRow_iff, hasRow_iff]
  constructor <;> intro hh j hj <;> have := hh j hj
  · rwa [← h j hj]
  · rwa [h j hj]

@[go_sem] theorem hasRow_new (w : World) (c : Array Value) (t : TypeId) (b o n : Nat) (hb : b = w.heap.size) (hn : o + n ≤ c.size) : hasRow (w.alloc (.cells c t)) ⟨b, o, none⟩ n = true := by
  rw [hasRow_iff]
  intro j hj
  rw [add_mk, World.cell?_alloc_at _ _ _ _ hb]
  simp; omega
@[go_sem] theorem rowAt_new (w : World) (c : Array Value) (t : TypeId) (b o n : Nat) (hb : b = w.heap.size) (hn : o + n ≤ c.size) : rowAt (w.alloc (.cells c t)) ⟨b, o, none⟩ n = c.extract o (o + n) := by
  apply Array.ext_getElem?
  intro j
  simp only [rowAt, List.getElem?_toArray, List.getElem?_map, add_mk, World.cell?_alloc_at _ _ _ _ hb, Array.getElem?_extract]
  by_cases hj : j < n
  · have e : (List.range n)[j]? = some j := by simp [hj]
    rw [if_pos (by omega), e, Option.map_some, Array.getElem?_eq_getElem (by omega)]
    rfl
  · have e : (List.range n)[j]? = none := by simp; omega
    rw [if_neg (by omega), e]
    rfl
/-- Does a block lie in a world? (As a Bool, so that the walk reckons it without side goals.) -/
def isOld (b : Nat) (w : World) : Bool := decide (b < w.heap.size)
theorem isOld_iff {b : Nat} {w : World} : isOld b w = true ↔ b < w.heap.size := by simp [isOld]
@[go_sem] theorem isOld_alloc (b : Nat) (w : World) (o : Obj) : isOld b (w.alloc o) = (isOld b w || b == w.heap.size) := by
  rw [Bool.eq_iff_iff, Bool.or_eq_true, isOld_iff, isOld_iff, beq_iff_eq]
  simp
  omega
@[go_sem] theorem isOld_drew (b : Nat) (w : World) : isOld b w.drew = isOld b w := rfl
@[go_sem] theorem isOld_drewN (b : Nat) (w : World) (n : Nat) : isOld b (w.drewN n) = isOld b w := by
  rw [Bool.eq_iff_iff, isOld_iff, isOld_iff]
  simp
@[go_sem] theorem isOld_setCell (b : Nat) (w : World) (a : Addr) (v : Value) : isOld b (w.setCell a v) = isOld b w := by simp [isOld, World.setCell]
@[go_sem ↓ high] theorem cell_alloc_old (w : World) (ob : Obj) (b i : Nat) (h : isOld b w = true) : (w.alloc ob).cell? ⟨b, i, none⟩ = w.cell? ⟨b, i, none⟩ := World.cell?_alloc_past ob b i (isOld_iff.1 h)
@[go_sem ↓ high] theorem frozen_alloc_old (w : World) (ob : Obj) (b i : Nat) (h : isOld b w = true) : (w.alloc ob).frozen? ⟨b, i, none⟩ = w.frozen? ⟨b, i, none⟩ := World.frozen?_alloc_past ob b i (isOld_iff.1 h)
@[go_sem] theorem hasRow_past (w : World) (ob : Obj) (b o n : Nat) (hb : isOld b w = true) : hasRow (w.alloc ob) ⟨b, o, none⟩ n = hasRow w ⟨b, o, none⟩ n :=
  has_congr fun j _ => by rw [add_mk]; exact World.cell?_alloc_past ob b (o + j) (isOld_iff.1 hb)
@[go_sem] theorem rowAt_past (w : World) (ob : Obj) (b o n : Nat) (hb : isOld b w = true) : rowAt (w.alloc ob) ⟨b, o, none⟩ n = rowAt w ⟨b, o, none⟩ n :=
  row_congr fun j _ => by rw [add_mk]; exact World.cell?_alloc_past ob b (o + j) (isOld_iff.1 hb)
@[go_sem] theorem hasRow_drew (w : World) (a : Addr) (n : Nat) : hasRow w.drew a n = hasRow w a n := rfl
@[go_sem] theorem rowAt_drew (w : World) (a : Addr) (n : Nat) : rowAt w.drew a n = rowAt w a n := rfl
@[go_sem] theorem hasRow_drewN (w : World) (k : Nat) (a : Addr) (n : Nat) : hasRow (w.drewN k) a n = hasRow w a n := has_congr fun j _ => by simp
@[go_sem] theorem rowAt_drewN (w : World) (k : Nat) (a : Addr) (n : Nat) : rowAt (w.drewN k) a n = rowAt w a n := row_congr fun j _ => by simp

/-! ### 'grown w p': w, with some draws more and some blocks behind it: what every call of ours leaves -/
def grown (w : World) (p : Regrown) : World := Sort.grow (redrawn w p.d) p.os
theorem below_grown' (w : World) (p : Regrown) : Below w.heap.size w (grown w p) := below_regrown w p.d p.os
theorem grown_of {w w' : World} (h : Below w.heap.size w w') : ∃ p : Regrown, w' = grown w p := regrown_of_below h
@[go_sem] theorem size_grown (w : World) (p : Regrown) : (grown w p).heap.size = w.heap.size + p.os.size := by simp [grown, redrawn]
/-- Two steps are one. -/
def Regrown.next (p q : Regrown) : Regrown := ⟨q.d, p.os ++ q.os⟩
theorem grown_grown (w : World) (p q : Regrown) : grown (grown w p) q = grown w (Regrown.next p q) := by
  simp [grown, redrawn, Sort.grow, Regrown.next]
/-- Does a block lie among those that a call left behind a world? (Nothing is reckoned of it.) -/
def isOldIn (b : Nat) (w : World) (p : Regrown) : Bool := decide (b < w.heap.size + p.os.size)
@[go_sem] theorem isOld_grown (b : Nat) (w : World) (p : Regrown) : isOld b (grown w p) = (isOld b w || isOldIn b w p) := by
  rw [Bool.eq_iff_iff, Bool.or_eq_true, isOld_iff, isOld_iff, size_grown, isOldIn, decide_eq_true_eq]
  omega
@[go_sem] theorem lt_add_r (a b c : Nat) (h : a < b) : a < b + c := by omega
@[go_sem] theorem rowAt_grown (w : World) (p : Regrown) (b o n : Nat) (hb : isOld b w = true) : rowAt (grown w p) ⟨b, o, none⟩ n = rowAt w ⟨b, o, none⟩ n :=
  row_congr fun j _ => by rw [add_mk]; exact (below_grown' w p).cell (p := ⟨b, o + j, none⟩) (isOld_iff.1 hb)
@[go_sem] theorem hasRow_grown (w : World) (p : Regrown) (b o n : Nat) (hb : isOld b w = true) : hasRow (grown w p) ⟨b, o, none⟩ n = hasRow w ⟨b, o, none⟩ n :=
  has_congr fun j _ => by rw [add_mk]; exact (below_grown' w p).cell (p := ⟨b, o + j, none⟩) (isOld_iff.1 hb)
@[go_sem] theorem cell_grown (w : World) (p : Regrown) (b o : Nat) (hb : isOld b w = true) : (grown w p).cell? ⟨b, o, none⟩ = w.cell? ⟨b, o, none⟩ :=
  (below_grown' w p).cell (p := ⟨b, o, none⟩) (isOld_iff.1 hb)
@[go_sem] theorem frozen_grown (w : World) (p : Regrown) (b o : Nat) (hb : isOld b w = true) : (grown w p).frozen? ⟨b, o, none⟩ = w.frozen? ⟨b, o, none⟩ :=
  (below_grown' w p).frozen (p := ⟨b, o, none⟩) (isOld_iff.1 hb)
theorem below_grown {B : Nat} {w w2 : World} (h : Below B w w2) (hB : B ≤ w2.heap.size) (p : Regrown) : Below B w (grown w2 p) := h.trans ((below_grown' w2 p).mono hB)
theorem below_drewN {B : Nat} {w w2 : World} (h : Below B w w2) (n : Nat) : Below B w (w2.drewN n) := h.trans ⟨rfl, rfl, rfl, Nat.le_refl _, fun _ _ => rfl⟩
theorem below_drew {B : Nat} {w w2 : World} (h : Below B w w2) : Below B w w2.drew := below_drewN h 1
theorem bel_up {w w1 w2 : World} (h : Below w.heap.size w w1) (hb : Below w1.heap.size w1 w2) : Below w.heap.size w w2 := h.trans (hb.mono h.size)
/-- A region that draws its order, whose own operations only read, and whose callees leave the world grown: walked once, in the order of the text. -/
theorem wp_region_quiet_grown {P : Program} {id : Nat} {Q : Exit → Act → World → Prop} {a : Act} {w : World} {l : List Oper} (hm : P.follows .mixedOrders = true) (hB : Region.lexB .any l.toArray = true)
    (h : wpQuiet P l.toArray (fun w' => ∃ p : Regrown, w' = grown w p) (fun a' => ∀ w', (∃ p : Regrown, w' = grown w p) → Q .normal a' w') l a) : (Code.region id l.toArray true).wp P Q a w :=
  wp_region_quiet_below hm hB h
/-- A callee's contract, met in a world of the class. -/
theorem quiet_grown {P : Program} {f : FuncId} {args : Array Value} {w : World} {p : Regrown} {v : Value}
    (h : Calls P f args (grown w p) fun e w' => e = .returned v ∧ Below (grown w p).heap.size (grown w p) w') : Calls P f args (grown w p) fun e w'' => e = .returned v ∧ ∃ p : Regrown, w'' = grown w p :=
  Calls.regrown_of h
/-- .. one that leaves the world as it was. -/
theorem quiet_still {P : Program} {f : FuncId} {args : Array Value} {w : World} {p : Regrown} {v : Value}
    (h : Calls P f args (grown w p) fun e w' => e = .returned v ∧ grown w p = w') : Calls P f args (grown w p) fun e w'' => e = .returned v ∧ ∃ p : Regrown, w'' = grown w p :=
  h.mono fun _ _ ⟨he, hw⟩ => ⟨he, p, hw.symm⟩
/-- What a contract that makes memory leaves of whole rows. -/
theorem brow {W w1 : World} (hb : Below W.heap.size W w1) : (∀ b o n, b < W.heap.size → rowAt w1 ⟨b, o, none⟩ n = rowAt W ⟨b, o, none⟩ n) ∧ (∀ b o n, b < W.heap.size → hasRow w1 ⟨b, o, none⟩ n = hasRow W ⟨b, o, none⟩ n) :=
  ⟨fun b o n h => row_congr fun j _ => by rw [add_mk]; exact hb.cell (p := ⟨b, o + j, none⟩) h, fun b o n h => has_congr fun j _ => by rw [add_mk]; exact hb.cell (p := ⟨b, o + j, none⟩) h⟩

/-! ### a whole struct stored into a block that was just made -/
theorem store_new {P : Program} (w : World) (c : Array Value) (t : TypeId) (b : Nat) (vs : List Value) (hb : b = w.heap.size) (hn : c.size = vs.length) (h1 : ∀ v ∈ vs, v.oneCell' = true) :
    Sem.run P (storeCells ⟨b, 0, none⟩ vs 0) (w.alloc (.cells c t)) = .ok () (w.alloc (.cells vs.toArray t)) := by
  subst hb
  have := run_storeCells_at (P := P) w.heap.size 0 t vs 0 c (w.alloc (.cells c t)) (heap_alloc_last w _) (by omega) h1
  rw [this]
  congr 1
  rw [World.setRow_alloc_new]
  congr 2
  simp [← hn]
/-- Is each cell one that may be stored? -/
def allOne (cs : Array Value) : Bool := cs.toList.all fun v => v.oneCell'
theorem allOne_of {l : List Value} (h : ∀ v ∈ l, v.oneCell' = true) : allOne l.toArray = true := List.all_eq_true.2 h

/-! ### WHOLE OPERATIONS at a type whose values are structs or arrays: met ahead of the walk's own rules, which would go cell by cell -/
/-- Is a type's value a struct or an array, of as many cells as the table says? -/
def isAggT (P : Program) (t : TypeId) : Bool := (match P.underlying t with | some (.struct _) | some (.array _ _) => true | _ => false) && (P.info? t).isSome
def loadRow (P : Program) (w : World) (t : TypeId) (v : Value) : Result Next := Sem.run P (do pure (.value (← Instr.loadAt t v))) w
def storeRow (P : Program) (w : World) (t : TypeId) (v x : Value) : Result Next := Sem.run P (do Instr.storeAt t v x; pure .skip) w
@[go_sem ↓ high] theorem run_op_load (P : Program) (ev : Operand → Value) (dst : Option Tmp) (t : TypeId) (x : Operand) (ty : TypeId) (pos : String) (af : Array Edge) (g : Option (Nat × Bool)) (w : World) (_h : isAggT P t = true) :
    Sem.run P (execOp ev { dst := dst, op := .load t x, type := ty, pos := pos, after := af, guard := g }) w = loadRow P w t (ev x) := rfl
@[go_sem ↓ high] theorem run_op_store (P : Program) (ev : Operand → Value) (dst : Option Tmp) (t : TypeId) (x y : Operand) (ty : TypeId) (pos : String) (af : Array Edge) (g : Option (Nat × Bool)) (w : World) (_h : isAggT P t = true) :
    Sem.run P (execOp ev { dst := dst, op := .store t x y, type := ty, pos := pos, after := af, guard := g }) w = storeRow P w t (ev x) (ev y) := rfl
theorem isAggT_run {P : Program} {t : TypeId} (h : isAggT P t = true) (w : World) : (isAgg t).run P w = .ok true w ∧ (sizeOf t).run P w = .ok (P.cellsOf t) w := by
  unfold isAggT at h
  rw [Bool.and_eq_true] at h
  obtain ⟨h1, h2⟩ := h
  cases hu : P.underlying t with
  | none => rw [hu] at h1; cases h1
  | some d =>
    obtain ⟨i, hi⟩ := Option.isSome_iff_exists.1 h2
    rw [hu] at h1
    constructor
    · cases d <;> first | (unfold isAgg; rw [Sem.run_bind, run_underlying hu]; rfl) | cases h1
    · simp [sizeOf, typeInfo, hi, Program.cellsOf]
theorem loadRow_at' {P : Program} {t : TypeId} (a : Addr) (w : World) (h : isAggT P t = true) (hr : hasRow w a (P.cellsOf t) = true) : loadRow P w t (.pointer (some a)) = .ok (.value (.agg (rowAt w a (P.cellsOf t)))) w := by
  obtain ⟨h1, h2⟩ := isAggT_run h w
  have := run_row (P := P) w a _ hr
  simp [loadRow, Instr.loadAt, Instr.sureAddr, loadVar, Sem.run_bind, h1, h2, loadCells, this]
/-- The same load, when it is not known whether so many cells are there. -/
def loadRow' (P : Program) (w : World) (t : TypeId) (v : Value) : Result Next := loadRow P w t v
@[go_sem] theorem loadRow_at {P : Program} {t : TypeId} (a : Addr) (w : World) (h : isAggT P t = true) : loadRow P w t (.pointer (some a)) = if hasRow w a (P.cellsOf t) = true then .ok (.value (.agg (rowAt w a (P.cellsOf t)))) w else loadRow' P w t (.pointer (some a)) := by
  split
  · rename_i hr
    exact loadRow_at' a w h hr
  · rfl
@[go_sem] theorem storeRow_new {P : Program} {t : TypeId} (w : World) (c cs : Array Value) (t' : TypeId) (b : Nat) (hb : b = w.heap.size) (h : isAggT P t = true) (hs : cs.size = P.cellsOf t) (hn : c.size = cs.size) (h1 : allOne cs = true) :
    storeRow P (w.alloc (.cells c t')) t (.pointer (some ⟨b, 0, none⟩)) (.agg cs) = .ok .skip (w.alloc (.cells cs t')) := by
  obtain ⟨_, h2⟩ := isAggT_run h (w.alloc (.cells c t'))
  have h3 : (Value.agg cs).cells = cs := rfl
  have := store_new (P := P) w c t' b cs.toList hb (by simpa using hn) (List.all_eq_true.1 h1)
  simp only [storeRow, Instr.storeAt, Instr.sureAddr, storeVar, Sem.run_bind, Sem.run_pure, Result.andThen_ok, h2, h3, hs]
  simp [this]
def buildRow (P : Program) (w : World) (t : TypeId) (parts : Array (Nat × Value)) : Result Next := Sem.run P (do pure (.value (← Instr.build t parts))) w
theorem run_op_build (P : Program) (ev : Operand → Value) (dst : Option Tmp) (t : TypeId) (parts : Array (Nat × Operand)) (ty : TypeId) (pos : String) (af : Array Edge) (g : Option (Nat × Bool)) (w : World) :
    Sem.run P (execOp ev { dst := dst, op := .build t parts, type := ty, pos := pos, after := af, guard := g }) w = buildRow P w t (parts.map fun (i, x) => (i, ev x)) := rfl

/-! ### a result that is a struct: it is read out of its variable at the end -/
theorem run_loadVar_agg {P : Program} {ty : TypeId} (hagg : isAggT P ty = true) (a : Addr) (w : World) (hr : hasRow w a (P.cellsOf ty) = true) : (loadVar ty a).run P w = .ok (.agg (rowAt w a (P.cellsOf ty))) w := by
  obtain ⟨h1, h2⟩ := isAggT_run hagg w
  have := run_row (P := P) w a _ hr
  simp [loadVar, Sem.run_bind, h1, h2, loadCells, this]
theorem ret_cell {P : Program} {fn : Func} {p : Tmp} {ty : TypeId} {R : Ending → World → Prop} {a : Act} {w : World} (g : Nat) (cs : Array Value) (h : fn.results = #[.cell p ty]) (hp : a.tmps.getD p undef = .pointer (some ⟨g, 0, none⟩)) (hagg : isAggT P ty = true)
    (hr : hasRow w ⟨g, 0, none⟩ (P.cellsOf ty) = true) (hc : rowAt w ⟨g, 0, none⟩ (P.cellsOf ty) = cs) (hd : a.defers = []) (hR : R (.returned (.agg cs)) w) : bodyPost P fn R .ret a w := by
  refine bodyPost_ret (v := .agg cs) ?_ hd hR
  have hp' : a.tmps[p]?.getD undef = .pointer (some ⟨g, 0, none⟩) := by simpa using hp
  have := run_loadVar_agg (P := P) hagg ⟨g, 0, none⟩ w hr
  rw [hc] at this
  simp [results, h, hp', asAddr, this]
theorem ret_cell_tmp {P : Program} {fn : Func} {p u : Tmp} {ty : TypeId} {R : Ending → World → Prop} {a : Act} {w : World} (g : Nat) (cs : Array Value) (v : Value) (h : fn.results = #[.cell p ty, .tmp u]) (hp : a.tmps.getD p undef = .pointer (some ⟨g, 0, none⟩)) (hv : a.tmps.getD u undef = v) (hagg : isAggT P ty = true)
    (hr : hasRow w ⟨g, 0, none⟩ (P.cellsOf ty) = true) (hc : rowAt w ⟨g, 0, none⟩ (P.cellsOf ty) = cs) (hd : a.defers = []) (hR : R (.returned (.tuple #[.agg cs, v])) w) : bodyPost P fn R .ret a w := by
  refine bodyPost_ret (v := .tuple #[.agg cs, v]) ?_ hd hR
  have := run_loadVar_agg (P := P) hagg ⟨g, 0, none⟩ w hr
  rw [hc] at this
  rw [Go.results_cell_tmp h, hp, hv]
  simp [asAddr, this, Result.andThen]
end Go.Proofs.Ytaondmaebgicgaa
