/- Variables in memory: a block that holds one array or one struct: loads of it, stores into it, as whole operations and cell by cell. -/
import Derived.Test.YtaondmaebgicgaaCod
namespace Go.Proofs.Ytaondmaebgicgaa
open Go Go.RowKit
set_option linter.unusedSimpArgs false
set_option linter.unusedVariables false

/-- Is a block one of n cells, free to be written? -/
def hasVar (w : World) (b n : Nat) : Bool := match w.heap[b]? with
  | some (.cells c _ fr) => c.size == n && fr == (0, 0)
  | _ => false
theorem hasVar_iff {w : World} {b n : Nat} : hasVar w b n = true ↔ ∃ c t, w.heap[b]? = some (.cells c t (0, 0)) ∧ c.size = n := by
  unfold hasVar
  cases hh : w.heap[b]? with
  | none => simp
  | some o =>
    cases o with
    | cells c t fr =>
      simp only [Bool.and_eq_true, beq_iff_eq]
      constructor
      · rintro ⟨h1, rfl⟩; exact ⟨c, t, rfl, h1⟩
      · rintro ⟨c', t', h', h1⟩; cases h'; exact ⟨h1, rfl⟩
    | _ => simp
theorem hasVar_congr {w w' : World} {b n : Nat} (h : w'.heap[b]? = w.heap[b]?) : hasVar w' b n = hasVar w b n := by unfold hasVar; rw [h]
@[go_sem] theorem hasVar_new (w : World) (c : Array Value) (t : TypeId) (b n : Nat) (hb : b = w.heap.size) (hn : c.size = n) : hasVar (w.alloc (.cells c t)) b n = true := by
  subst hb
  exact hasVar_iff.2 ⟨c, t, heap_alloc_new w _, hn⟩
@[go_sem] theorem hasVar_past (w : World) (ob : Obj) (b n : Nat) (hb : isOld b w = true) : hasVar (w.alloc ob) b n = hasVar w b n := hasVar_congr (((Below.refl w.heap.size w).alloc (Nat.le_refl _) ob).block b (isOld_iff.1 hb))
@[go_sem] theorem hasVar_drew (w : World) (b n : Nat) : hasVar w.drew b n = hasVar w b n := rfl
@[go_sem] theorem hasVar_drewN (w : World) (k b n : Nat) : hasVar (w.drewN k) b n = hasVar w b n := hasVar_congr (by simp)
@[go_sem] theorem hasVar_grown (w : World) (p : Regrown) (b n : Nat) (hb : isOld b w = true) : hasVar (grown w p) b n = hasVar w b n := hasVar_congr ((below_grown' w p).block b (isOld_iff.1 hb))
@[go_sem] theorem hasVar_setCell (w : World) (a : Addr) (v : Value) (b n : Nat) : hasVar (w.setCell a v) b n = hasVar w b n := by
  have e : (w.setCell a v).heap[b]? = if a.block = b then (w.heap[b]?).map (fun x => match x with | .cells c elem fr => .cells (if a.spot.isSome = true then c else c.setIfInBounds a.off v) elem fr | o => o) else w.heap[b]? := by
    simp only [World.setCell, Array.getElem?_modify]
    split <;> rfl
  unfold hasVar
  rw [e]
  by_cases h : a.block = b
  · rw [if_pos h]
    cases hh : w.heap[b]? with
    | none => rfl
    | some o => cases o with
      | cells c t fr =>
        have : (if a.spot.isSome = true then c else c.setIfInBounds a.off v).size = c.size := by split <;> simp
        simp only [Option.map_some, this]
      | _ => rfl
  · rw [if_neg h]
theorem setRow_size' (w : World) (g : Nat) (cs : Array Value) : (w.setRow g cs).heap.size = w.heap.size := by simp [World.setRow]
@[go_sem] theorem size_setRow (w : World) (g : Nat) (cs : Array Value) : (w.setRow g cs).heap.size = w.heap.size := setRow_size' w g cs
@[go_sem] theorem isOld_setRow (b : Nat) (w : World) (g : Nat) (cs : Array Value) : isOld b (w.setRow g cs) = isOld b w := by simp [isOld, setRow_size']
@[go_sem] theorem hasVar_setRow_other (w : World) (g : Nat) (cs : Array Value) (b n : Nat) (h : b ≠ g) : hasVar (w.setRow g cs) b n = hasVar w b n := hasVar_congr (setRow_other w g b cs h)
theorem setRow_var {w : World} {b : Nat} {cs : Array Value} (hv : hasVar w b cs.size = true) : ∃ t, (w.setRow b cs).heap[b]? = some (.cells cs t (0, 0)) := by
  obtain ⟨c, t, h, _⟩ := hasVar_iff.1 hv
  exact ⟨t, setRow_heap w b c cs t _ h⟩
@[go_sem] theorem hasVar_setRow_same (w : World) (b : Nat) (cs : Array Value) (n : Nat) (hv : hasVar w b cs.size = true) (hn : cs.size = n) : hasVar (w.setRow b cs) b n = true := by
  obtain ⟨t, h⟩ := setRow_var hv
  exact hasVar_iff.2 ⟨cs, t, h, hn⟩
@[go_sem] theorem cell_setRow_same (w : World) (b : Nat) (cs : Array Value) (i : Nat) (hv : hasVar w b cs.size = true) : (w.setRow b cs).cell? ⟨b, i, none⟩ = cs[i]? := by
  obtain ⟨t, h⟩ := setRow_var hv
  simp [World.cell?, h]
@[go_sem] theorem cell_setRow_other (w : World) (g : Nat) (cs : Array Value) (b i : Nat) (h : b ≠ g) : (w.setRow g cs).cell? ⟨b, i, none⟩ = w.cell? ⟨b, i, none⟩ := by
  simp [World.cell?, setRow_other w g b cs h]
@[go_sem] theorem frozen_setRow (w : World) (g : Nat) (cs : Array Value) (b i : Nat) : (w.setRow g cs).frozen? ⟨b, i, none⟩ = w.frozen? ⟨b, i, none⟩ := by
  by_cases h : b = g
  · subst h
    have e : (w.setRow b cs).heap[b]? = (w.heap[b]?).map (fun x => match x with | .cells _ elem fr => .cells cs elem fr | o => o) := by
      simp only [World.setRow, Array.getElem?_modify]
      simp
      congr 1
    simp only [World.frozen?, e]
    cases hh : w.heap[b]? with
    | none => rfl
    | some o => cases o <;> rfl
  · simp only [World.frozen?, setRow_other w g b cs h]
@[go_sem] theorem hasRow_setRow_same (w : World) (b : Nat) (cs : Array Value) (o n : Nat) (hv : hasVar w b cs.size = true) (hn : o + n ≤ cs.size) : hasRow (w.setRow b cs) ⟨b, o, none⟩ n = true := by
  rw [hasRow_iff]
  intro j hj
  rw [add_mk, cell_setRow_same w b cs _ hv]
  simp; omega
@[go_sem] theorem rowAt_setRow_same (w : World) (b : Nat) (cs : Array Value) (o n : Nat) (hv : hasVar w b cs.size = true) (hn : o + n ≤ cs.size) : rowAt (w.setRow b cs) ⟨b, o, none⟩ n = cs.extract o (o + n) := by
  apply Array.ext_getElem?
  intro j
  simp only [rowAt, List.getElem?_toArray, List.getElem?_map, add_mk, cell_setRow_same w b cs _ hv, Array.getElem?_extract]
  by_cases hj : j < n
  · have e : (List.range n)[j]? = some j := by simp [hj]
    rw [if_pos (by omega), e, Option.map_some, Array.getElem?_eq_getElem (by omega)]
    rfl
  · have e : (List.range n)[j]? = none := by simp; omega
    rw [if_neg (by omega), e]
    rfl
@[go_sem] theorem hasRow_setRow_other (w : World) (g : Nat) (cs : Array Value) (b o n : Nat) (h : b ≠ g) : hasRow (w.setRow g cs) ⟨b, o, none⟩ n = hasRow w ⟨b, o, none⟩ n :=
  has_congr fun j _ => by rw [add_mk]; exact cell_setRow_other w g cs b (o + j) h
@[go_sem] theorem rowAt_setRow_other (w : World) (g : Nat) (cs : Array Value) (b o n : Nat) (h : b ≠ g) : rowAt (w.setRow g cs) ⟨b, o, none⟩ n = rowAt w ⟨b, o, none⟩ n :=
  row_congr fun j _ => by rw [add_mk]; exact cell_setRow_other w g cs b (o + j) h
theorem keeps_setRow {Q : Nat → Prop} {w w' : World} (h : Keeps Q w w') {b : Nat} (hb : w.heap.size ≤ b ∨ Q b) (cs : Array Value) : Keeps Q w (w'.setRow b cs) :=
  ⟨h.os, h.tape, h.output, by rw [setRow_size']; exact h.size, fun k hk hq => by
    rw [setRow_other w' b k cs (fun e => by subst e; rcases hb with hb | hb; exact absurd hk (Nat.not_lt.2 hb); exact hq hb)]
    exact h.block k hk hq⟩
theorem below_setRow {B : Nat} {w w2 : World} (h : Below B w w2) {b : Nat} (hB : B ≤ b) (cs : Array Value) : Below B w (w2.setRow b cs) :=
  ⟨h.os, h.tape, h.output, by rw [setRow_size']; exact h.size, fun k hk => by rw [setRow_other w2 b k cs (by omega)]; exact h.block k hk⟩
theorem setCell_other' (w : World) (a : Addr) (v : Value) (k : Nat) (h : k ≠ a.block) : (w.setCell a v).heap[k]? = w.heap[k]? := by
  simp [World.setCell, Array.getElem?_modify, Ne.symm h]
theorem keeps_setCell {Q : Nat → Prop} {w w' : World} (h : Keeps Q w w') {a : Addr} (hb : w.heap.size ≤ a.block ∨ Q a.block) (v : Value) : Keeps Q w (w'.setCell a v) :=
  ⟨h.os, h.tape, h.output, by have := h.size; simp [World.setCell]; exact this, fun k hk hq => by
    rw [setCell_other' w' a v k (fun e => by subst e; rcases hb with hb | hb; exact absurd hk (Nat.not_lt.2 hb); exact hq hb)]
    exact h.block k hk hq⟩
/-- A whole struct or array stored into a variable. -/
@[go_sem low] theorem storeRow_var {P : Program} {t : TypeId} (w : World) (b : Nat) (cs : Array Value) (h : isAggT P t = true) (hs : cs.size = P.cellsOf t) (hv : hasVar w b (P.cellsOf t) = true) (h1 : allOne cs = true) :
    storeRow P w t (.pointer (some ⟨b, 0, none⟩)) (.agg cs) = .ok .skip (w.setRow b cs) := by
  obtain ⟨_, h2⟩ := isAggT_run h w
  obtain ⟨c, t', hh, hc⟩ := hasVar_iff.1 hv
  have h3 : (Value.agg cs).cells = cs := rfl
  have := run_storeCells_at P b 0 t' cs.toList 0 c w hh (by simp; omega) (List.all_eq_true.1 h1)
  simp only [storeRow, Instr.storeAt, Instr.sureAddr, storeVar, Sem.run_bind, Sem.run_pure, Result.andThen_ok, h2, h3, hs]
  simp only [Nat.add_zero] at this
  have e : (c.toList.take 0 ++ cs.toList ++ c.toList.drop (0 + cs.toList.length)).toArray = cs := by
    rw [List.drop_of_length_le (by simp; omega)]; simp
  rw [e] at this
  simp [this]

/-- A block is a variable that holds just these cells. -/
def Var (w : World) (b : Nat) (cs : List Value) : Prop := ∃ t, w.heap[b]? = some (.cells cs.toArray t (0, 0))
theorem Var.lt {w : World} {b : Nat} {cs : List Value} (h : Var w b cs) : b < w.heap.size := by
  obtain ⟨t, h⟩ := h
  exact (Array.getElem?_eq_some_iff.1 h).1
theorem Var.has {w : World} {b : Nat} {cs : List Value} (h : Var w b cs) {n : Nat} (hn : cs.length = n) : hasVar w b n = true := by
  obtain ⟨t, h⟩ := h
  exact hasVar_iff.2 ⟨_, t, h, by simpa using hn⟩
theorem Var.cell {w : World} {b : Nat} {cs : List Value} (h : Var w b cs) (j : Nat) (hj : j < cs.length) : w.cell? ⟨b, j, none⟩ = some (cs[j]'hj) := by
  obtain ⟨t, h⟩ := h
  simp [World.cell?, h, hj]
theorem Var.free {w : World} {b : Nat} {cs : List Value} (h : Var w b cs) (j : Nat) : w.frozen? ⟨b, j, none⟩ = false := by
  obtain ⟨t, h⟩ := h
  simp [World.frozen?, h]
theorem Var.hasRow {w : World} {b : Nat} {cs : List Value} (h : Var w b cs) {n : Nat} (hn : cs.length = n) : hasRow w ⟨b, 0, none⟩ n = true := by
  rw [hasRow_iff]
  intro j hj
  rw [add_mk, Nat.zero_add, h.cell j (by omega)]; rfl
theorem Var.rowAt {w : World} {b : Nat} {cs : List Value} (h : Var w b cs) {n : Nat} (hn : cs.length = n) : rowAt w ⟨b, 0, none⟩ n = cs.toArray := by
  subst hn
  apply Array.ext_getElem?
  intro j
  simp only [Go.Proofs.Ytaondmaebgicgaa.rowAt, List.getElem?_toArray, List.getElem?_map, add_mk, Nat.zero_add]
  by_cases hj : j < cs.length
  · have e : (List.range cs.length)[j]? = some j := by simp [hj]
    rw [e, Option.map_some, h.cell j hj, List.getElem?_eq_getElem hj]; rfl
  · have e : (List.range cs.length)[j]? = none := by simp; omega
    rw [e, List.getElem?_eq_none (by omega)]; rfl
theorem Var.new (w : World) (arr : Array Value) (t : TypeId) {cs : List Value} (h : arr.toList = cs) {b : Nat} (hb : b = w.heap.size) : Var (w.alloc (.cells arr t)) b cs := by
  subst hb h
  exact ⟨t, heap_alloc_new w _⟩
theorem Var.old {w w' : World} {b : Nat} {cs : List Value} (h : Var w b cs) (he : w'.heap[b]? = w.heap[b]?) : Var w' b cs := by
  obtain ⟨t, h⟩ := h
  exact ⟨t, he.trans h⟩
theorem Var.below {w w' : World} {b : Nat} {cs : List Value} (h : Var w b cs) (hb : Below w.heap.size w w') : Var w' b cs := h.old (hb.block b h.lt)
theorem Var.alloc {w : World} {b : Nat} {cs : List Value} (h : Var w b cs) (o : Obj) : Var (w.alloc o) b cs := h.below ((Below.refl _ _).alloc (Nat.le_refl _) o)
theorem Var.grown {w : World} {b : Nat} {cs : List Value} (h : Var w b cs) (p : Regrown) : Var (grown w p) b cs := h.below (below_grown' w p)
theorem Var.drew {w : World} {b : Nat} {cs : List Value} (h : Var w b cs) : Var w.drew b cs := h
theorem Var.keeps {Q : Nat → Prop} {w w' : World} {b : Nat} {cs : List Value} (h : Var w b cs) (hk : Keeps Q w w') (hq : ¬ Q b) : Var w' b cs := h.old (hk.block b h.lt hq)
theorem Var.setCell {w : World} {b : Nat} {cs : List Value} (h : Var w b cs) (j : Nat) (v : Value) : Var (w.setCell ⟨b, j, none⟩ v) b (cs.set j v) := by
  obtain ⟨t, h⟩ := h
  refine ⟨t, ?_⟩
  simp [World.setCell, Array.getElem?_modify, h]
theorem Var.setCell_other {w : World} {b : Nat} {cs : List Value} (h : Var w b cs) (a : Addr) (v : Value) (hne : b ≠ a.block) : Var (w.setCell a v) b cs := h.old (setCell_other' w a v b hne)
theorem Var.setRow {w : World} {b : Nat} {cs : List Value} (h : Var w b cs) (cs' : List Value) : Var (w.setRow b cs'.toArray) b cs' := by
  obtain ⟨t, h⟩ := h
  exact ⟨t, setRow_heap w b _ _ t _ h⟩
theorem Var.setRow_other {w : World} {b : Nat} {cs : List Value} (h : Var w b cs) (g : Nat) (arr : Array Value) (hne : b ≠ g) : Var (w.setRow g arr) b cs := h.old (Go.setRow_other w g b arr hne)
theorem Var.setRow_same {w : World} {b : Nat} {cs : List Value} (h : Var w b cs) (arr : Array Value) {cs' : List Value} (he : arr.toList = cs') : Var (w.setRow b arr) b cs' := by
  subst he
  exact h.setRow arr.toList
theorem Var.list {α : Type} {c : Cod α} {w : World} {b : Nat} {xs : List α} (h : Var w b (c.encs xs)) : ListAt c w b 0 xs := fun j u hj => by
  obtain ⟨hl, rfl⟩ := List.getElem?_eq_some_iff.1 hj
  rw [Nat.zero_add, h.cell j hl]
end Go.Proofs.Ytaondmaebgicgaa
