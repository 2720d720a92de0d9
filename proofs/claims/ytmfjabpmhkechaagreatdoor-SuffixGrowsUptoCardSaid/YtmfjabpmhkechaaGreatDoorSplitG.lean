/- Slices that calls hand back; the contract of Split in that form. -/
import Derived.Test.YtmfjabpmhkechaaGreatDoorSplit
import Derived.Test.YtmfjabpmhkechaaGreatDoorCod
namespace Go.Proofs.YtmfjabpmhkechaaGreatDoor
open Go Go.RowKit
set_option linter.unusedSimpArgs false
set_option linter.unusedVariables false

theorem Gives.some {α : Type} {c : Cod α} {xs : List α} {w w' : World} {e : Ending} (h : Gives c xs w e w') (hx : xs ≠ []) :
    ∃ b o cap, e = .returned (.slice (some ⟨b, o, none⟩) xs.length cap) ∧ xs.length ≤ cap ∧ Below w.heap.size w w' ∧ w.heap.size ≤ b ∧ b < w'.heap.size ∧ ListAt c w' b o xs := by
  obtain ⟨a, cap, he, hc, hb, h | ⟨b, o, rfl, h1, h2, h3⟩⟩ := h
  · exact absurd h hx
  · exact ⟨b, o, cap, he, hc, hb, h1, h2, h3⟩
theorem Gives2.of_some {α : Type} {c : Cod α} {xs : List α} {ok : Bool} {w w' : World} {b o cap : Nat} (hc : xs.length ≤ cap) (hb : Below w.heap.size w w') (hlo : w.heap.size ≤ b) (hhi : b < w'.heap.size) (h : ListAt c w' b o xs) :
    Gives2 c xs ok w (.returned (.tuple #[.slice (some ⟨b, o, none⟩) xs.length cap, .bool ok])) w' := ⟨_, cap, rfl, hc, hb, .inr ⟨b, o, rfl, hlo, hhi, h⟩⟩
theorem Gives2.some2 {α : Type} {c : Cod α} {xs : List α} {ok : Bool} {w w' : World} {e : Ending} (h : Gives2 c xs ok w e w') (hx : xs ≠ []) :
    ∃ b o cap, e = .returned (.tuple #[.slice (Option.some ⟨b, o, none⟩) xs.length cap, .bool ok]) ∧ xs.length ≤ cap ∧ Below w.heap.size w w' ∧ w.heap.size ≤ b ∧ b < w'.heap.size ∧ ListAt c w' b o xs := by
  obtain ⟨a, cap, he, hc, hb, h | ⟨b, o, rfl, h1, h2, h3⟩⟩ := h
  · exact absurd h hx
  · exact ⟨b, o, cap, he, hc, hb, h1, h2, h3⟩
theorem map_take_succ {α β : Type} (f : α → β) (L : List α) (k : Nat) (hk : k < L.length) : (L.take (k + 1)).map f = (L.take k).map f ++ [f (L[k]'hk)] := by
  rw [List.take_succ_eq_append_getElem hk, List.map_append]; rfl

theorem split_gives (l : List UInt8) (c : UInt8) (hl : l.length ≤ 4294967280) (m : Int) (w : World) (hm : HasMax m w) :
    Calls Tryz.prog 50 #[.string ⟨l.toArray⟩, .int .u8 (c.toNat : Int)] w (Gives strCod (splitL c l) w) := by
  refine (split_any l c hl m w hm).mono fun e w' ⟨he, hw⟩ => ?_
  have hb : Below w.heap.size w w' := by rw [hw]; exact ((Below.refl _ _).alloc (Nat.le_refl _) _).alloc (by simp) _
  have hat : ListAt strCod w' (w.heap.size + 1) 0 (splitL c l) := by
    rw [hw]; exact listAt_new _ _ _ _ (by rw [strEncs]; rfl) (by simp)
  exact ⟨_, _, he, Nat.le_refl _, hb, .inr ⟨_, 0, rfl, Nat.le_succ _, by rw [hw]; simp, hat⟩⟩

end Go.Proofs.YtmfjabpmhkechaaGreatDoor
