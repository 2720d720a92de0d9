/- Decimal texts of small numbers: what Itoa hands back where its table is laid. -/
import Derived.Test.YtmfjabpmhkechaaGreatDoorShelf
import Derived.Test.YtmfjabpmhkechaaGreatDoorBytes
import Derived.Test.YtmfjabpmhkechaaGreatDoorAgg
import Derived.Lib.LaidTab
import Derived.KernelRfl
namespace Go.Proofs.YtmfjabpmhkechaaGreatDoor
open Go Go.RowKit

def HasDec (w : World) : Prop := Lib.TabIs Tryz.prog w "internal/strconv.uint64pow10" .u64 Lib.pow10Tab
theorem pow10_global : Tryz.prog.globalNamed "internal/strconv.uint64pow10" = some 3 := by kernel_rfl
theorem HasDec.lt {w : World} (h : HasDec w) : 3 < w.heap.size :=
  block_lt_of_cell (Lib.TabIs.cell (g := 3) h pow10_global 0 (by decide))
theorem HasDec.below {w w' : World} (h : HasDec w) (hb : Below w.heap.size w w') : HasDec w' := by
  have hl := h.lt
  unfold HasDec Lib.TabIs World.var? at h ⊢
  rw [pow10_global, Option.bind_some] at h ⊢
  rw [hb.block _ hl]
  exact h
theorem HasDec.alloc {w : World} (h : HasDec w) (o : Obj) : HasDec (w.alloc o) := h.below ((Below.refl _ _).alloc (Nat.le_refl _) o)
theorem HasDec.grown {w : World} (h : HasDec w) (p : Regrown) : HasDec (grown w p) := h.below (below_grown' w p)
theorem HasDec.drew {w : World} (h : HasDec w) : HasDec w.drew := h
theorem itoa_any (n : Nat) (hn : n ≤ 9223372036854775807) (w : World) (h : HasDec w) :
    Calls Tryz.prog 79 #[.int .i64 (n : Int)] w fun e w' => e = .returned (.string ⟨(Lib.decDigits n).toArray⟩) ∧ Below w.heap.size w w' := by
  refine (Tryz.strconv_Itoa (n : Int) (by omega) (by omega) w h).mono fun e w' hp => ?_
  obtain ⟨he, k, os, hw⟩ := hp
  refine ⟨?_, ?_⟩
  · rw [he, Lib.itoa, if_neg (by omega)]; rfl
  · rw [hw]; exact ⟨rfl, rfl, rfl, by simp [Sort.grow], fun j hj => by simp [Sort.grow, Array.getElem?_append_left hj]⟩
end Go.Proofs.YtmfjabpmhkechaaGreatDoor
