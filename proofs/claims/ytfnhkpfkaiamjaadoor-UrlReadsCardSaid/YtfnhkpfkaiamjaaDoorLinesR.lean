/- The walks of the document's Lines, Words and Same. -/
import Derived.Test.YtfnhkpfkaiamjaaDoorLines
import Derived.Test.YtfnhkpfkaiamjaaDoorSplitR
import Derived.Test.YtfnhkpfkaiamjaaDoorSplitG
namespace Go.Proofs.YtfnhkpfkaiamjaaDoor
open Go Go.RowKit
set_option linter.unusedSimpArgs false
set_option linter.unusedVariables false

theorem cutCR_nil : cutCR [] = [] := rfl
theorem suffix_snoc (y : List UInt8) (d e : UInt8) : Lib.hasSuffix (y ++ [d]) [e] = (d == e) := by
  rw [Lib.hasSuffix, Bool.eq_iff_iff, List.isSuffixOf_iff_suffix, beq_iff_eq]
  constructor
  · rintro ⟨t, h⟩
    have := (List.append_inj' h rfl).2
    simpa using this.symm
  · rintro rfl
    exact ⟨y, rfl⟩
theorem cutCR_snoc (x : List UInt8) (h : 0 < x.length) : cutCR x = if x[x.length - 1]'(by omega) = 13 then x.take (x.length - 1) else x := by
  rcases List.eq_nil_or_concat x with e | ⟨y, d, e⟩
  · subst e; simp at h
  · rw [List.concat_eq_append] at e
    subst e
    simp only [cutCR, Lib.trimSuffix, suffix_snoc]
    simp
theorem getLast_of (L : List (List UInt8)) (k : Nat) (hk : k < L.length) (h : k = L.length - 1) : L.getLast? = Option.some (L[k]'hk) := by
  rw [List.getLast?_eq_getElem?, ← h, List.getElem?_eq_getElem hk]
def LinesInv (L : List (List UInt8)) (k : Nat) : Prop := k = L.length → L.getLast? ≠ Option.some []
end Go.Proofs.YtfnhkpfkaiamjaaDoor
