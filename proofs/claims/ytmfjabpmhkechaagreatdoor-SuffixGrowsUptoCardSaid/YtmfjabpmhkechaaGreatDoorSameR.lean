/- The walks of the document's Words and Same. -/
import Derived.Test.YtmfjabpmhkechaaGreatDoorLinesR
namespace Go.Proofs.YtmfjabpmhkechaaGreatDoor
open Go Go.RowKit
set_option linter.unusedSimpArgs false
set_option linter.unusedVariables false

def wordsL (l : List UInt8) : List (List UInt8) := if wordsOk l = true then splitL 32 l else []
theorem any_take (L : List (List UInt8)) (k : Nat) (h : k < L.length) : (L.take (k + 1)).any (·.isEmpty) = ((L.take k).any (·.isEmpty) || (L[k]'h).isEmpty) := by
  rw [List.take_succ_eq_append_getElem h, List.any_append]
  simp
theorem any_of_get (L : List (List UInt8)) (k : Nat) (h : k < L.length) (he : (L[k]'h).isEmpty = true) : L.any (·.isEmpty) = true :=
  List.any_eq_true.2 ⟨_, List.getElem_mem h, he⟩
theorem wordsL_le (l : List UInt8) : (wordsL l).length ≤ l.length + 1 := by
  unfold wordsL
  split
  · exact splitL_length_le 32 l
  · simp
theorem linesL_le (l : List UInt8) : (linesL l).length ≤ l.length + 1 := by
  have := splitL_length_le 10 l
  unfold linesL dropEmpty
  rw [List.length_map]
  split
  · rw [List.length_dropLast]; omega
  · exact this
theorem take_succ_same (A B : List (List UInt8)) (k : Nat) (ha : k < A.length) (hb : k < B.length) (h : A.take k = B.take k) (he : A[k]'ha = B[k]'hb) : A.take (k + 1) = B.take (k + 1) := by
  rw [List.take_succ_eq_append_getElem ha, List.take_succ_eq_append_getElem hb, h, he]
theorem ne_of_get (A B : List (List UInt8)) (k : Nat) (ha : k < A.length) (hb : k < B.length) (he : A[k]'ha ≠ B[k]'hb) : (A == B) = false := by
  rw [beq_eq_false_iff_ne]; rintro rfl; exact he rfl
theorem ne_of_len (A B : List (List UInt8)) (he : A.length ≠ B.length) : (A == B) = false := by
  rw [beq_eq_false_iff_ne]; rintro rfl; exact he rfl
end Go.Proofs.YtmfjabpmhkechaaGreatDoor
