/- strings.Join over a list of texts. -/
import Derived.Test.YtmfjabpmhkechaaGreatDoorCod
import Derived.Test.YtmfjabpmhkechaaGreatDoorPieces
import Derived.Test.YtmfjabpmhkechaaGreatDoorShelf
namespace Go.Proofs.YtmfjabpmhkechaaGreatDoor
open Go Go.RowKit
set_option maxRecDepth 20000
set_option linter.unusedSimpArgs false
set_option linter.unusedVariables false

theorem join_eq (c : UInt8) : ∀ L : List (List UInt8), Lib.join L [c] = joinL c L
  | [] => rfl
  | [l] => by simp [Lib.join, joinL]
  | l :: m :: L => by
    have ih := join_eq c (m :: L)
    simp [Lib.join, joinL] at ih ⊢
    try rw [← ih]
theorem join_any (L : List (List UInt8)) (ch : UInt8) (a : Option Addr) (c lo : Nat) (hc : L.length ≤ c) (hN : L.length ≤ 140737488355328) (hlen : (joinL ch L).length ≤ 140737488355328) (w : World) (h : ListIn strCod w a L lo) :
    Calls Tryz.prog 54 #[.slice a L.length c, .string ⟨[ch].toArray⟩] w fun e w' => e = .returned (.string ⟨(joinL ch L).toArray⟩) ∧ Below w.heap.size w w' := by
  rcases h with rfl | ⟨b, o, rfl, _, hb, h⟩
  · refine (Tryz.strings_Join_none a c ⟨[ch].toArray⟩ w).mono fun e w' ⟨he, hw⟩ => ⟨he, by rw [hw]; exact Below.refl _ _⟩
  · have e1 : (L.map fun l => ByteArray.mk l.toArray).map (·.data.toList) = L := by
      rw [List.map_map]
      conv => rhs; rw [← List.map_id L]
      exact List.map_congr_left fun x _ => by simp
    have := Tryz.strings_Join b o c (L.map fun l => ByteArray.mk l.toArray) ⟨[ch].toArray⟩ w (fun j x hx => by
      simp only [List.getElem?_map, Option.map_eq_some_iff] at hx
      obtain ⟨y, hy, rfl⟩ := hx
      obtain ⟨hl, rfl⟩ := List.getElem?_eq_some_iff.1 hy
      exact strAt h j hl) hb (by simpa using hN) (by simpa using hc) (by rw [e1]; simpa [join_eq] using hlen)
    rw [e1, List.length_map] at this
    refine this.mono fun e w' ⟨he, hw⟩ => ⟨?_, hw⟩
    rw [he]
    simp [join_eq]
end Go.Proofs.YtmfjabpmhkechaaGreatDoor
