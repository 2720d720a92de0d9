/- The walks of the document's Word. -/
import Derived.Test.YtmfjabpmhkechaaGreatDoorWord
namespace Go.Proofs.YtmfjabpmhkechaaGreatDoor
open Go Go.RowKit

theorem OwnB.made0 (B : Nat) (w : World) (h : B ≤ w.heap.size) : OwnB B (w.alloc (.cells #[] 5)) (.slice (some ⟨w.heap.size, 0, none⟩) 0 0) [] := by
  exact ⟨rfl, .inr ⟨w.heap.size, 0, #[], rfl, h, Array.getElem?_push_size, Nat.le_refl _, by decide, rfl, rfl⟩⟩
theorem wordBody_pos (l : List UInt8) (h : l ≠ []) : 0 < (wordBody l).length := by
  cases l with
  | nil => exact absurd rfl h
  | cons c l => 
    have : wordBody (c :: l) = wordC c ++ wordBody l := by simp [wordBody]
    rw [this, List.length_append]
    have : 0 < (wordC c).length := by unfold wordC; split <;> simp
    omega
theorem wrap_quo (c : UInt8) : IntKind.i64.wrap ((IntKind.i64.wrap (c.toNat : Int)).tdiv 16) = ((c.toNat / 16 : Nat) : Int) := by
  have : ∀ i : Fin 256, IntKind.i64.wrap ((IntKind.i64.wrap (i.val : Int)).tdiv 16) = ((i.val / 16 : Nat) : Int) := by decide +kernel
  exact this ⟨c.toNat, c.toNat_lt⟩
theorem wrap_rem (c : UInt8) : (IntKind.i64.wrap (c.toNat : Int)).tmod 16 = ((c.toNat % 16 : Nat) : Int) := by
  have : ∀ i : Fin 256, (IntKind.i64.wrap (i.val : Int)).tmod 16 = ((i.val % 16 : Nat) : Int) := by decide +kernel
  exact this ⟨c.toNat, c.toNat_lt⟩
end Go.Proofs.YtmfjabpmhkechaaGreatDoor
