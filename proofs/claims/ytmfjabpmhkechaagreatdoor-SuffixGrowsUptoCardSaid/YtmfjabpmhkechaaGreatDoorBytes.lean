/- Rules of one's own for the walk: a string made into bytes and back, as whole operations. -/
import Derived.Test.YtmfjabpmhkechaaGreatDoorProg
import Derived.Test.YtmfjabpmhkechaaGreatDoorAgg
import Derived.Lib.ConvBytes
import Derived.Laws.BytesString
import Derived.KernelRfl
namespace Go.Proofs.YtmfjabpmhkechaaGreatDoor
open Go Go.RowKit
set_option maxRecDepth 20000

/-- The world behind '[]byte(s)'. -/
def bytesW (w : World) (l : List UInt8) : World := Lib.bytesWorld w 5 ⟨l.toArray⟩
def bytesCap (w : World) (l : List UInt8) : Nat := grownCap w l.length 0 5
theorem bytesW_old (w : World) (l : List UInt8) (j : Nat) (hj : j < w.heap.size) : (bytesW w l).heap[j]? = w.heap[j]? := Lib.bytesWorld_at_old w _ _ j hj
@[go_sem] theorem bytesW_size (w : World) (l : List UInt8) : (bytesW w l).heap.size = w.heap.size + 1 := Lib.bytesWorld_size w _ _
theorem below_bytesW' (w : World) (l : List UInt8) : Below w.heap.size w (bytesW w l) :=
  ⟨rfl, rfl, rfl, by rw [bytesW_size]; omega, fun k hk => bytesW_old w l k hk⟩
theorem below_bytesW {B : Nat} {w w2 : World} (h : Below B w w2) (hB : B ≤ w2.heap.size) (l : List UInt8) : Below B w (bytesW w2 l) := h.trans ((below_bytesW' w2 l).mono hB)
@[go_sem] theorem isOld_bytesW (b : Nat) (w : World) (l : List UInt8) : isOld b (bytesW w l) = (isOld b w || b == w.heap.size) := by
  rw [Bool.eq_iff_iff, Bool.or_eq_true, isOld_iff, isOld_iff, beq_iff_eq, bytesW_size]
  omega
@[go_sem] theorem cell_bytesW_old (w : World) (l : List UInt8) (b i : Nat) (h : isOld b w = true) : (bytesW w l).cell? ⟨b, i, none⟩ = w.cell? ⟨b, i, none⟩ := (below_bytesW' w l).cell (p := ⟨b, i, none⟩) (isOld_iff.1 h)
@[go_sem] theorem frozen_bytesW_old (w : World) (l : List UInt8) (b i : Nat) (h : isOld b w = true) : (bytesW w l).frozen? ⟨b, i, none⟩ = w.frozen? ⟨b, i, none⟩ := (below_bytesW' w l).frozen (p := ⟨b, i, none⟩) (isOld_iff.1 h)
@[go_sem] theorem rowAt_bytesW (w : World) (l : List UInt8) (b o n : Nat) (h : isOld b w = true) : rowAt (bytesW w l) ⟨b, o, none⟩ n = rowAt w ⟨b, o, none⟩ n :=
  row_congr fun j _ => by rw [add_mk]; exact cell_bytesW_old w l b (o + j) h
@[go_sem] theorem hasRow_bytesW (w : World) (l : List UInt8) (b o n : Nat) (h : isOld b w = true) : hasRow (bytesW w l) ⟨b, o, none⟩ n = hasRow w ⟨b, o, none⟩ n :=
  has_congr fun j _ => by rw [add_mk]; exact cell_bytesW_old w l b (o + j) h
@[go_sem] theorem cell_bytesW (w : World) (l : List UInt8) (i : Nat) (h : i < l.length) : (bytesW w l).cell? ⟨w.heap.size, i, none⟩ = some (.int .u8 ((l[i]'h).toNat : Int)) := by
  have := Lib.bytesWorld_cell w 5 ⟨l.toArray⟩ i (by simpa [ByteArray.size] using h)
  rw [bytesW, this]
  simp [List.getD, h]
@[go_sem] theorem frozen_bytesW (w : World) (l : List UInt8) (i : Nat) (h : i < l.length) : (bytesW w l).frozen? ⟨w.heap.size, i, none⟩ = false := by
  have := Lib.bytesWorld_at_new w 5 ⟨l.toArray⟩
  simp only [bytesW, World.frozen?, this]
  simp [Lib.bytesCells]
  omega

/-- '[]byte(s)' as a whole operation. -/
def convSB (P : Program) (w : World) (v : Value) : Result Next := Sem.run P (do pure (.value (← convert 9 84 v))) w
@[go_sem ↓ high] theorem run_op_convSB (ev : Operand → Value) (dst : Option Tmp) (x : Operand) (ty : TypeId) (pos : String) (af : Array Edge) (g : Option (Nat × Bool)) (w : World) :
    Sem.run Tryz.prog (execOp ev { dst := dst, op := .convert 9 84 x, type := ty, pos := pos, after := af, guard := g }) w = convSB Tryz.prog w (ev x) := rfl
@[go_sem] theorem convSB_at (l : List UInt8) (w : World) : convSB Tryz.prog w (.string ⟨l.toArray⟩) = .ok (.value (.slice (some ⟨w.heap.size, 0, none⟩) l.length (bytesCap w l))) (bytesW w l) := by
  have := Lib.run_convert_string_bytes (P := Tryz.prog) w 9 84 5 ⟨l.toArray⟩ Tryz.underlying9 Tryz.underlying84 Tryz.underlying5
  simp [convSB, this, bytesW, bytesCap, ByteArray.size]

/-! ### bytes that lie in memory, as a text -/
/-- The byte at an address. -/
def byteAt (w : World) (a : Addr) : Option UInt8 := match w.cell? a with
  | some (.int .u8 n) => some (UInt8.ofNat n.toNat)
  | _ => none
/-- The text that a slice of bytes holds. -/
def strOf (w : World) : Value → Option (List UInt8)
  | .slice none _ _ => some []
  | .slice (some a) n _ => (List.range n).mapM fun j => byteAt w (a.add j)
  | _ => none
/-- From an address on lie these bytes. -/
def bytesAt (w : World) (a : Addr) (l : List UInt8) : Prop := ∀ j (h : j < l.length), w.cell? (a.add j) = some (.int .u8 ((l[j]'h).toNat : Int))
theorem mapM_range {α : Type} (f : Nat → Option α) : ∀ (l : List α) (k : Nat), (∀ j (h : j < l.length), f (k + j) = some (l[j]'h)) → ((List.range' k l.length).mapM f) = some l
  | [], k, _ => rfl
  | x :: l, k, h => by
    have h0 := h 0 (by simp)
    have ih := mapM_range f l (k + 1) (fun j hj => by have := h (j + 1) (by simp; omega); rw [show k + 1 + j = k + (j + 1) by omega]; simpa using this)
    simp only [List.length_cons, List.range'_succ, List.mapM_cons]
    rw [show k = k + 0 by omega, h0]
    simp [ih]
theorem strOf_bytes {w : World} {a : Addr} {l : List UInt8} (h : bytesAt w a l) (c : Nat) : strOf w (.slice (some a) l.length c) = some l := by
  show (List.range l.length).mapM _ = _
  rw [List.range_eq_range']
  exact mapM_range _ l 0 fun j hj => by
    have := h j hj
    rw [Nat.zero_add, byteAt, this]
    simp
theorem strOf_nil (w : World) (a : Option Addr) (c : Nat) : strOf w (.slice a 0 c) = some [] := by
  cases a <;> rfl
@[go_sem] theorem strOf_one (w : World) (n : Int) (t : TypeId) (b c : Nat) (hb : b = w.heap.size) : strOf (w.alloc (.cells #[.int .u8 n] t)) (.slice (some ⟨b, 0, none⟩) 1 c) = some [UInt8.ofNat n.toNat] := by
  subst hb
  show (List.range 1).mapM _ = _
  simp [List.range_succ, byteAt, add_mk]
@[go_sem] theorem ofNat_toNat_int (x : UInt8) : UInt8.ofNat ((x.toNat : Int).toNat) = x := by simp
theorem bytesAt_of_strOf {w : World} {a : Addr} {n c : Nat} {l : List UInt8} (h : strOf w (.slice (some a) n c) = some l) : l.length = n ∧ ∀ j (hj : j < l.length), byteAt w (a.add j) = some (l[j]'hj) := by
  have h : (List.range n).mapM (fun j => byteAt w (a.add j)) = some l := h
  have key : ∀ (k : Nat) (n : Nat) (l : List UInt8), (List.range' k n).mapM (fun j => byteAt w (a.add j)) = some l → l.length = n ∧ ∀ j (hj : j < l.length), byteAt w (a.add (k + j)) = some (l[j]'hj) := by
    intro k n
    induction n generalizing k with
    | zero => intro l h; simp at h; subst h; exact ⟨rfl, fun j hj => by simp at hj⟩
    | succ n ih =>
      intro l h
      rw [List.range'_succ, List.mapM_cons] at h
      cases hb : byteAt w (a.add k) with
      | none => rw [hb] at h; cases h
      | some x =>
        rw [hb] at h
        cases hm : (List.range' (k + 1) n).mapM (fun j => byteAt w (a.add j)) with
        | none => rw [hm] at h; cases h
        | some t =>
          rw [hm] at h
          obtain rfl : x :: t = l := by simpa using h
          obtain ⟨h1, h2⟩ := ih (k + 1) t hm
          refine ⟨by simp [h1], fun j hj => ?_⟩
          rcases j with _ | j
          · simpa using hb
          · have := h2 j (by simpa using hj)
            rw [show k + 1 + j = k + (j + 1) by omega] at this
            simpa using this
  rw [List.range_eq_range'] at h
  have := key 0 n l h
  exact ⟨this.1, fun j hj => by have := this.2 j hj; rwa [Nat.zero_add] at this⟩

theorem bytesAt_get {w : World} {b o : Nat} {l : List UInt8} (h : bytesAt w ⟨b, o, none⟩ l) (j : Nat) (hj : j < l.length) : w.cell? ⟨b, o + j, none⟩ = some (.int .u8 ((l[j]'hj).toNat : Int)) := by
  have := h j hj
  rwa [add_mk] at this
theorem bytesAt_set {w : World} {b o : Nat} {l : List UInt8} (h : bytesAt w ⟨b, o, none⟩ l) (k : Nat) (hk : k < l.length) (x : UInt8) : bytesAt (w.setCell ⟨b, o + k, none⟩ (.int .u8 (x.toNat : Int))) ⟨b, o, none⟩ (l.set k x) := by
  intro j hj
  rw [add_mk]
  have hj' : j < l.length := by simpa using hj
  by_cases e : j = k
  · subst e
    rw [World.cell?_setCell_same _ _ _ (bytesAt_get h j hj')]
    simp
  · rw [World.cell?_setCell_other _ _ _ _ (by intro e'; apply e; have := congrArg Addr.off e'; simp at this; omega), bytesAt_get h j hj']
    rw [List.getElem_set_ne (by omega)]
theorem bytesAt_grown {w : World} {b o : Nat} {l : List UInt8} (h : bytesAt w ⟨b, o, none⟩ l) (p : Regrown) : bytesAt (grown w p) ⟨b, o, none⟩ l := fun j hj => by
  have := bytesAt_get h j hj
  rw [add_mk, cell_grown w p b (o + j) (isOld_iff.2 (block_lt_of_cell this)), this]
theorem bytesAt_bytesW (w : World) (l : List UInt8) : bytesAt (bytesW w l) ⟨w.heap.size, 0, none⟩ l := fun j hj => by
  rw [add_mk, Nat.zero_add]; exact cell_bytesW w l j hj

theorem strOf_below {w w' : World} {b n c : Nat} {l : List UInt8} (h : strOf w (.slice (some ⟨b, 0, none⟩) n c) = some l) (hb : b < w.heap.size) (hbl : Below w.heap.size w w') : strOf w' (.slice (some ⟨b, 0, none⟩) n c) = some l := by
  rw [← h]
  show (List.range n).mapM _ = (List.range n).mapM _
  congr 1
  funext j
  unfold byteAt
  rw [add_mk, hbl.cell (p := ⟨b, 0 + j, none⟩) hb]
/-- 'string(b)' as a whole operation. -/
def convBS (P : Program) (w : World) (v : Value) : Result Next := Sem.run P (do pure (.value (← convert 84 9 v))) w
def convBS' (P : Program) (w : World) (v : Value) : Result Next := convBS P w v
@[go_sem ↓ high] theorem run_op_convBS (ev : Operand → Value) (dst : Option Tmp) (x : Operand) (ty : TypeId) (pos : String) (af : Array Edge) (g : Option (Nat × Bool)) (w : World) :
    Sem.run Tryz.prog (execOp ev { dst := dst, op := .convert 84 9 x, type := ty, pos := pos, after := af, guard := g }) w = convBS Tryz.prog w (ev x) := rfl
theorem convBS_none (w : World) (n c : Nat) : convBS Tryz.prog w (.slice none n c) = .ok (.value (.string ⟨([] : List UInt8).toArray⟩)) w := by
  have := run_convert_bytes_string (P := Tryz.prog) w 84 9 5 none n c Tryz.underlying84 Tryz.underlying5 Tryz.underlying9
  simp [convBS, this, Conv.bytesToString]
  rfl
theorem push_foldl (l : List UInt8) : ∀ s : ByteArray, l.foldl (fun r x => r.push x) s = s ++ ⟨l.toArray⟩ := by
  induction l with
  | nil => intro s; apply ByteArray.ext; simp
  | cons x l ih => intro s; rw [List.foldl_cons, ih]; apply ByteArray.ext; simp
theorem convBS_some (w : World) (a : Addr) (n c : Nat) (l : List UInt8) (h : strOf w (.slice (some a) n c) = some l) : convBS Tryz.prog w (.slice (some a) n c) = .ok (.value (.string ⟨l.toArray⟩)) w := by
  obtain ⟨rfl, hb⟩ := bytesAt_of_strOf h
  have hcells : ∀ j, j < l.length → ∃ k : Int, w.cell? (a.add j) = some (.int .u8 k) ∧ UInt8.ofNat k.toNat = l.getD j 0 := fun j hj => by
    have := hb j hj
    unfold byteAt at this
    split at this
    · rename_i k hk
      exact ⟨k, hk, by simpa [List.getD, hj] using this⟩
    · cases this
  have hl := run_loadCells (P := Tryz.prog) w a l.length (fun j => (w.cell? (a.add j)).getD undef) (fun j hj => by
    obtain ⟨k, hk, _⟩ := hcells j hj
    rw [hk]; rfl)
  have hns : ((List.range l.length).map fun j => (w.cell? (a.add j)).getD undef) = ((List.range l.length).map fun j => match w.cell? (a.add j) with | some (.int .u8 k) => k | _ => 0).map (Value.int .u8) := by
    rw [List.map_map]
    apply List.map_congr_left
    intro j hj
    obtain ⟨k, hk, _⟩ := hcells j (by simpa using hj)
    simp [hk]
  rw [hns] at hl
  have h2 := run_bytesToString (P := Tryz.prog) w a l.length c _ hl
  have h1 := run_convert_bytes_string (P := Tryz.prog) w 84 9 5 (some a) l.length c Tryz.underlying84 Tryz.underlying5 Tryz.underlying9
  rw [convBS, Sem.run_bind, h1, h2]
  show Result.ok _ _ = _
  congr 2
  congr 1
  have hm : ((List.range l.length).map fun j => match w.cell? (a.add j) with | some (.int .u8 k) => k | _ => 0).map (fun n => UInt8.ofNat n.toNat) = l := by
    rw [List.map_map]
    apply List.ext_getElem
    · simp
    · intro j h1 h2
      obtain ⟨k, hk, hk2⟩ := hcells j h2
      simp [hk, hk2, List.getD, h2]
  have := push_foldl l ByteArray.empty
  rw [← hm, List.foldl_map] at this
  rw [this]
  apply ByteArray.ext
  simp [hm]
@[go_sem] theorem convBS_at (w : World) (a : Option Addr) (n c : Nat) : convBS Tryz.prog w (.slice a n c) = match strOf w (.slice a n c) with | some l => .ok (.value (.string ⟨l.toArray⟩)) w | none => convBS' Tryz.prog w (.slice a n c) := by
  split
  · rename_i l hl
    cases a with
    | none => obtain rfl : [] = l := by simpa [strOf] using hl
              exact convBS_none w n c
    | some a => exact convBS_some w a n c l hl
  · rfl
end Go.Proofs.YtmfjabpmhkechaaGreatDoor
