/- A slice of acts among the arguments. -/
import Derived.Test.YtaondmaebgicgaaOpenSs
import Derived.Test.YtaondmaebgicgaaShAct
namespace Go.Proofs.Ytaondmaebgicgaa
open Go Go.RowKit Go.WideShapes Go.ChangeShapes
set_option maxRecDepth 20000
set_option linter.unusedSimpArgs false
set_option linter.unusedVariables false

section
variable {H : Type} {enc : TypeId × Value → H} {w : World} {base : Nat} {spare : Nat → Bool} {held : Bool}
theorem trod_cookie {fuel : Nat} {cs : List Value} {x : DataW H × List MemPlace} (h : DataW.trod enc Try.prog w base spare held fuel 31 cs = some x) : RowFits Try.prog w .any 0 cookieT cs := by
  have := struct_fit [[9], [9], hostT, [4], [9], [4], [4], [3], [2], [2], [2], [3]] Try.underlying31 (by kernel_rfl) (by kernel_rfl)
    ⟨fun _ _ _ h => leaf_str Try.underlying9 h, fun _ _ _ h => leaf_str Try.underlying9 h, fun _ _ _ h => trod_host h, fun _ _ _ h => leaf_bool Try.underlying4 h, fun _ _ _ h => leaf_str Try.underlying9 h, fun _ _ _ h => leaf_bool Try.underlying4 h, fun _ _ _ h => leaf_bool Try.underlying4 h,
      fun _ _ _ h => leaf_int Try.underlying3 h, fun _ _ _ h => leaf_int Try.underlying2 h, fun _ _ _ h => leaf_int Try.underlying2 h, fun _ _ _ h => leaf_int Try.underlying2 h, fun _ _ _ h => leaf_int Try.underlying3 h, trivial⟩ h
  simpa [cookieT, hostT] using this
theorem trod_act {fuel : Nat} {cs : List Value} {x : DataW H × List MemPlace} (h : DataW.trod enc Try.prog w base spare held fuel 33 cs = some x) : RowFits Try.prog w .any 0 ([3] ++ (cookieT ++ [9, 2])) cs := by
  have := struct_fit [[3], cookieT, [9], [2]] Try.underlying33 (by kernel_rfl) (by kernel_rfl)
    ⟨fun _ _ _ h => leaf_int Try.underlying3 h, fun _ _ _ h => trod_cookie h, fun _ _ _ h => leaf_str Try.underlying9 h, fun _ _ _ h => leaf_int Try.underlying2 h, trivial⟩ h
  simpa using this
theorem fits_act {r : Reach} {b : Nat} {vs : List Value} (h : RowFits Try.prog w r b ([3] ++ (cookieT ++ [9, 2])) vs) : ∃ x : GAct, vs = actL x := by
  obtain ⟨v0, vs, rfl, h0, h⟩ := rowFits_cons h
  obtain ⟨vh, vs, rfl, hh, h⟩ := rowFits_split (ts := cookieT) h
  obtain ⟨v1, vs, rfl, h1, h⟩ := rowFits_cons h
  obtain ⟨v2, vs, rfl, h2, h⟩ := rowFits_cons h
  obtain rfl := rowFits_nil h
  obtain ⟨k, rfl, g0⟩ := cell_int Try.underlying3 h0
  obtain ⟨c, rfl⟩ := fits_cookie hh
  obtain ⟨s, rfl, g1⟩ := cell_str Try.underlying9 h1
  obtain ⟨n, rfl, g2⟩ := cell_int Try.underlying2 h2
  exact ⟨⟨k, c, s, n, g0, g1, g2⟩, rfl⟩
theorem open_acts {v : Value} {x : DataW H × List MemPlace} {r : Reach} {b : Nat} (hv : Value.okWide Try.prog w r b 22 v) (h : ∃ fuel, DataW.trod enc Try.prog w base spare held fuel 22 v.cells.toList = some x) :
    ∃ (a : Option Addr) (xs : List GAct) (cap : Nat), v = .slice a xs.length cap ∧ xs.length ≤ cap ∧ cap ≤ maxLen ∧ ListIn actCod w a xs 0 := by
  obtain ⟨fuel, h⟩ := h
  obtain ⟨a, xs, cap, h1, h2, h3, h4, _⟩ := open_slice actCod (fun _ => True) (by kernel_rfl) (fun f cs y hy => by obtain ⟨u, rfl⟩ := fits_act (trod_act hy); exact ⟨u, rfl, trivial⟩) hv h
  exact ⟨a, xs, cap, h1, h2, h3, h4⟩
end
end Go.Proofs.Ytaondmaebgicgaa
