/- The walks of Split and Words. -/
import Derived.Test.YthklfbakffaioaaDoorBytes
import Derived.Test.YthklfbakffaioaaDoorPieces
import Derived.Test.YthklfbakffaioaaDoorShelf
namespace Go.Proofs.YthklfbakffaioaaDoor
open Go Go.RowKit

/-- The library's own variable holds an int. -/
def HasMax (m : Int) (w : World) : Prop := w.cell? ⟨0, 0, none⟩ = some (.int .i64 m)
theorem HasMax.lt {m : Int} {w : World} (h : HasMax m w) : 0 < w.heap.size := block_lt_of_cell h
theorem HasMax.below {m : Int} {w w' : World} (h : HasMax m w) (hb : Below w.heap.size w w') : HasMax m w' := (hb.cell (p := ⟨0, 0, none⟩) h.lt).trans h
theorem HasMax.alloc {m : Int} {w : World} (h : HasMax m w) (o : Obj) : HasMax m (w.alloc o) := h.below ((Below.refl _ _).alloc (Nat.le_refl _) o)
theorem HasMax.grown {m : Int} {w : World} (h : HasMax m w) (p : Regrown) : HasMax m (grown w p) := h.below (below_grown' w p)
theorem HasMax.bytesW {m : Int} {w : World} (h : HasMax m w) (l : List UInt8) : HasMax m (bytesW w l) := h.below (below_bytesW' w l)
theorem HasMax.drew {m : Int} {w : World} (h : HasMax m w) : HasMax m w.drew := h

theorem split_any (l : List UInt8) (c : UInt8) (hl : l.length ≤ 4294967280) (m : Int) (w : World) (hm : HasMax m w) :
    Calls Tryd.prog 16 #[.string ⟨l.toArray⟩, .int .u8 (c.toNat : Int)] w fun e w' =>
      e = .returned (.slice (some ⟨w.heap.size + 1, 0, none⟩) (splitL c l).length (splitL c l).length) ∧ w' = (w.alloc (.cells #[.int .u8 (c.toNat : Int)] 5)).alloc (.cells (strsV (splitL c l)) 9) := by
  have hs : (ByteArray.mk l.toArray).size < 4294967281 := by simp [ByteArray.size]; omega
  have hm' : (w.alloc (.cells #[.int .u8 (c.toNat : Int)] 5)).cell? ⟨0, 0, none⟩ = some (.int .i64 m) := hm.alloc _
  have e1 := splitB_count c l
  have e2 := splitB_cells c l
  have hcall := Tryd.strings_Split ⟨l.toArray⟩ ⟨[c].toArray⟩ m _ hs hm' (Nat.le_refl 1)
  rw [e1, e2] at hcall
  have HC := Lib.hid hcall
  clear hcall e1 e2 hm' hm hs
  go_enter Tryd.func16, Tryd.ntmps16
  go_wp2_with (go_at_call 31; refine (HC.out).mono ?_; rintro e w' ⟨rfl, rfl⟩)
  go_ret
  exact ⟨by simp, rfl⟩

theorem bs_empty_iff (l : List UInt8) : ByteArray.mk l.toArray = ByteArray.empty ↔ l = [] := by
  constructor
  · intro h
    have := congrArg (fun b : ByteArray => b.data.toList) h
    simpa using this
  · rintro rfl; rfl
theorem containsS_nil (L : List (List UInt8)) : Lib.containsS (L.map fun l => ByteArray.mk l.toArray) ByteArray.empty = L.any (·.isEmpty) := by
  rw [Bool.eq_iff_iff, Lib.containsS_iff, List.any_eq_true, List.mem_map]
  constructor
  · rintro ⟨l, h1, h2⟩
    exact ⟨l, h1, List.isEmpty_iff.2 ((bs_empty_iff l).1 h2)⟩
  · rintro ⟨l, h1, h2⟩
    exact ⟨l, h1, (bs_empty_iff l).2 (List.isEmpty_iff.1 h2)⟩
theorem strsV_getD (L : List (List UInt8)) (j : Nat) (hj : j < L.length) : (strsV L)[j]? = some (.string ((L.map fun l => ByteArray.mk l.toArray).getD j ByteArray.empty)) := by
  rw [strsV_get L j hj]
  simp [List.getD, hj]

/-- A line's words: none, if a piece is empty. -/
def wordsOk (l : List UInt8) : Bool := !(splitL 32 l).any (·.isEmpty)
theorem words_any (l : List UInt8) (hl : l.length ≤ 4294967280) (m : Int) (w : World) (hm : HasMax m w) :
    Calls Tryd.prog 20 #[.string ⟨l.toArray⟩] w fun e w' =>
      e = .returned (if wordsOk l = true then .tuple #[.slice (some ⟨w.heap.size + 1, 0, none⟩) (splitL 32 l).length (splitL 32 l).length, .bool true] else .tuple #[.slice none 0 0, .bool false]) ∧ w' = (w.alloc (.cells #[.int .u8 32] 5)).alloc (.cells (strsV (splitL 32 l)) 9) := by
  have hn := splitL_length_le 32 l
  have hc := Tryd.slices_Contains_string (w.heap.size + 1) 0 (splitL 32 l).length (splitL 32 l).length ((splitL 32 l).map fun l => ByteArray.mk l.toArray) ByteArray.empty ((w.alloc (.cells #[.int .u8 32] 5)).alloc (.cells (strsV (splitL 32 l)) 9)) (by simp) (by omega) (fun j hj => by
    rw [World.cell?_alloc_at _ _ _ _ (by simp), Nat.zero_add]
    exact strsV_getD _ j (by simpa using hj))
  have e : (((splitL 32 l).map fun l => ByteArray.mk l.toArray).take (splitL 32 l).length) = ((splitL 32 l).map fun l => ByteArray.mk l.toArray) := List.take_of_length_le (by simp)
  rw [e, containsS_nil] at hc
  have HC := Lib.hid hc
  clear hc e hn
  have h32 : ((32 : UInt8).toNat : Int) = 32 := rfl
  have hs := split_any l 32 hl m w hm
  rw [h32] at hs
  have HS := Lib.hid hs
  clear hs h32 hm hl
  unfold wordsOk
  cases hw : (splitL 32 l).any (·.isEmpty)
  all_goals
    rw [hw] at HC
    generalize splitL 32 l = L at *
    go_enter Tryd.func20, Tryd.ntmps20
    go_wp2_with (first | (go_at_call 16; refine (HS.out).mono ?_; rintro e w' ⟨rfl, rfl⟩) | (go_at_call 33; refine (HC.out).mono ?_; rintro e w' ⟨rfl, rfl⟩))
    go_ret2
    exact ⟨rfl, rfl⟩
end Go.Proofs.YthklfbakffaioaaDoor
