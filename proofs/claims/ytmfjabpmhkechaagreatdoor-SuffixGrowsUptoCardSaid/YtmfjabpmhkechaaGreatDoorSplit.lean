/- The walks of Split and Words. -/
import Derived.Test.YtmfjabpmhkechaaGreatDoorBytes
import Derived.Test.YtmfjabpmhkechaaGreatDoorPieces
import Derived.Test.YtmfjabpmhkechaaGreatDoorShelf
namespace Go.Proofs.YtmfjabpmhkechaaGreatDoor
open Go Go.RowKit

/-- The library's own variable holds an int. -/
def HasMax (m : Int) (w : World) : Prop := w.cell? ⟨0, 0, none⟩ = some (.int .i64 m)
theorem HasMax.lt {m : Int} {w : World} (h : HasMax m w) : 0 < w.heap.size := block_lt_of_cell h
theorem HasMax.below {m : Int} {w w' : World} (h : HasMax m w) (hb : Below w.heap.size w w') : HasMax m w' := (hb.cell (p := ⟨0, 0, none⟩) h.lt).trans h
theorem HasMax.alloc {m : Int} {w : World} (h : HasMax m w) (o : Obj) : HasMax m (w.alloc o) := h.below ((Below.refl _ _).alloc (Nat.le_refl _) o)
theorem HasMax.grown {m : Int} {w : World} (h : HasMax m w) (p : Regrown) : HasMax m (grown w p) := h.below (below_grown' w p)
theorem HasMax.bytesW {m : Int} {w : World} (h : HasMax m w) (l : List UInt8) : HasMax m (bytesW w l) := h.below (below_bytesW' w l)
theorem HasMax.drew {m : Int} {w : World} (h : HasMax m w) : HasMax m w.drew := h

theorem split_any (l : List UInt8) (c : UInt8) (hl : l.length ≤ 4294967280) (m : Int) (w : World) (hm : HasMax m w) :
    Calls Tryz.prog 50 #[.string ⟨l.toArray⟩, .int .u8 (c.toNat : Int)] w fun e w' =>
      e = .returned (.slice (some ⟨w.heap.size + 1, 0, none⟩) (splitL c l).length (splitL c l).length) ∧ w' = (w.alloc (.cells #[.int .u8 (c.toNat : Int)] 5)).alloc (.cells (strsV (splitL c l)) 9) := by
  have hs : (ByteArray.mk l.toArray).size < 4294967281 := by simp [ByteArray.size]; omega
  have hm' : (w.alloc (.cells #[.int .u8 (c.toNat : Int)] 5)).cell? ⟨0, 0, none⟩ = some (.int .i64 m) := hm.alloc _
  have e1 := splitB_count c l
  have e2 := splitB_cells c l
  have hcall := Tryz.strings_Split ⟨l.toArray⟩ ⟨[c].toArray⟩ m _ hs hm' (Nat.le_refl 1)
  rw [e1, e2] at hcall
  have HC := Lib.hid hcall
  clear hcall e1 e2 hm' hm hs
  go_enter Tryz.func50, Tryz.ntmps50
  go_wp2_with (go_at_call 78; refine (HC.out).mono ?_; rintro e w' ⟨rfl, rfl⟩)
  go_ret
  exact ⟨by simp, rfl⟩

theorem bs_empty_iff (l : List UInt8) : ByteArray.mk l.toArray = ByteArray.empty ↔ l = [] := by
  constructor
  · intro h
    have := congrArg (fun b : ByteArray => b.data.toList) h
    simpa using this
  · rintro rfl; rfl
theorem containsS_nil (L : List (List UInt8)) : Lib.containsS (L.map fun l => ByteArray.mk l.toArray) ByteArray.empty = L.any (·.isEmpty) := by
  rw [Bool.eq_iff_iff, Lib.containsS_iff, List.any_eq_true, List.mem_map]
  constructor
  · rintro ⟨l, h1, h2⟩
    exact ⟨l, h1, List.isEmpty_iff.2 ((bs_empty_iff l).1 h2)⟩
  · rintro ⟨l, h1, h2⟩
    exact ⟨l, h1, (bs_empty_iff l).2 (List.isEmpty_iff.1 h2)⟩
theorem strsV_getD (L : List (List UInt8)) (j : Nat) (hj : j < L.length) : (strsV L)[j]? = some (.string ((L.map fun l => ByteArray.mk l.toArray).getD j ByteArray.empty)) := by
  rw [strsV_get L j hj]
  simp [List.getD, hj]

/-- A line's words: none, if a piece is empty. -/
def wordsOk (l : List UInt8) : Bool := !(splitL 32 l).any (·.isEmpty)
end Go.Proofs.YtmfjabpmhkechaaGreatDoor
