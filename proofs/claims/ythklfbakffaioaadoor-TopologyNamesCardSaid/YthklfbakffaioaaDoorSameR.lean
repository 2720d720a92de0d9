/- The walks of the document's Words and Same. -/
import Derived.Test.YthklfbakffaioaaDoorLinesR
namespace Go.Proofs.YthklfbakffaioaaDoor
open Go Go.RowKit
set_option linter.unusedSimpArgs false
set_option linter.unusedVariables false

def wordsL (l : List UInt8) : List (List UInt8) := if wordsOk l = true then splitL 32 l else []
theorem any_take (L : List (List UInt8)) (k : Nat) (h : k < L.length) : (L.take (k + 1)).any (·.isEmpty) = ((L.take k).any (·.isEmpty) || (L[k]'h).isEmpty) := by
  rw [List.take_succ_eq_append_getElem h, List.any_append]
  simp
theorem any_of_get (L : List (List UInt8)) (k : Nat) (h : k < L.length) (he : (L[k]'h).isEmpty = true) : L.any (·.isEmpty) = true :=
  List.any_eq_true.2 ⟨_, List.getElem_mem h, he⟩
theorem words_gives (l : List UInt8) (hl : l.length ≤ 4294967280) (m : Int) (w : World) (hm : HasMax m w) :
    Calls Tryd.prog 20 #[.string ⟨l.toArray⟩] w (Gives2 strCod (wordsL l) (wordsOk l) w) := by
  refine (words_any l hl m w hm).mono fun e w' ⟨he, hw⟩ => ?_
  have hb : Below w.heap.size w w' := by rw [hw]; exact ((Below.refl _ _).alloc (Nat.le_refl _) _).alloc (by simp) _
  have hat : ListAt strCod w' (w.heap.size + 1) 0 (splitL 32 l) := by
    rw [hw]; exact listAt_new _ _ _ _ (by rw [strEncs]; rfl) (by simp)
  unfold wordsL
  cases hok : wordsOk l
  · rw [hok] at he
    exact ⟨none, 0, he, Nat.le_refl _, hb, .inl rfl⟩
  · rw [hok] at he
    rw [he]
    exact Gives2.of_some (Nat.le_refl _) hb (Nat.le_succ _) (by rw [hw]; simp) hat
theorem wordsL_le (l : List UInt8) : (wordsL l).length ≤ l.length + 1 := by
  unfold wordsL
  split
  · exact splitL_length_le 32 l
  · simp
theorem linesL_le (l : List UInt8) : (linesL l).length ≤ l.length + 1 := by
  have := splitL_length_le 10 l
  unfold linesL dropEmpty
  rw [List.length_map]
  split
  · rw [List.length_dropLast]; omega
  · exact this
theorem take_succ_same (A B : List (List UInt8)) (k : Nat) (ha : k < A.length) (hb : k < B.length) (h : A.take k = B.take k) (he : A[k]'ha = B[k]'hb) : A.take (k + 1) = B.take (k + 1) := by
  rw [List.take_succ_eq_append_getElem ha, List.take_succ_eq_append_getElem hb, h, he]
theorem ne_of_get (A B : List (List UInt8)) (k : Nat) (ha : k < A.length) (hb : k < B.length) (he : A[k]'ha ≠ B[k]'hb) : (A == B) = false := by
  rw [beq_eq_false_iff_ne]; rintro rfl; exact he rfl
theorem ne_of_len (A B : List (List UInt8)) (he : A.length ≠ B.length) : (A == B) = false := by
  rw [beq_eq_false_iff_ne]; rintro rfl; exact he rfl
end Go.Proofs.YthklfbakffaioaaDoor
