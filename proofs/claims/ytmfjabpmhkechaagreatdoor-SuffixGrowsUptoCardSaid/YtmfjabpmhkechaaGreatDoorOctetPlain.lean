/- Plain words on words and pieces. -/
import Derived.Test.YtmfjabpmhkechaaGreatDoorSameR
import Derived.Test.YtmfjabpmhkechaaGreatDoorUnword
import Derived.Test.YtmfjabpmhkechaaGreatDoorLower
namespace Go.Proofs.YtmfjabpmhkechaaGreatDoor
open Go Go.RowKit
set_option linter.unusedSimpArgs false
set_option linter.unusedVariables false

theorem wordC_vis (c x : UInt8) (h : x ∈ wordC c) : (33 : Int) ≤ x.toNat ∧ (x.toNat : Int) ≤ 126 := by
  have key : ∀ i : Fin 16, (33 : Int) ≤ (hexU i.val).toNat ∧ ((hexU i.val).toNat : Int) ≤ 126 := by decide +kernel
  rw [wordC] at h
  by_cases hp : plainC c = true
  · rw [if_pos hp, List.mem_singleton] at h
    subst h
    simp [plainC] at hp
    exact ⟨by omega, by omega⟩
  · rw [if_neg hp] at h
    simp only [List.mem_cons, List.not_mem_nil, or_false] at h
    rcases h with rfl | rfl | rfl
    · decide
    · exact key ⟨c.toNat / 16, by have := c.toNat_lt; omega⟩
    · exact key ⟨c.toNat % 16, by omega⟩
theorem word_vis (l : List UInt8) (x : UInt8) (h : x ∈ wordL l) : (33 : Int) ≤ x.toNat ∧ (x.toNat : Int) ≤ 126 := by
  unfold wordL at h
  by_cases h0 : l = []
  · rw [if_pos h0, List.mem_singleton] at h
    subst h; decide
  · rw [if_neg h0] at h
    simp only [wordBody, List.mem_flatMap] at h
    obtain ⟨c, _, hc⟩ := h
    exact wordC_vis c x hc
theorem wordL_le (l : List UInt8) : (wordL l).length ≤ 3 * l.length + 1 := by
  unfold wordL
  have := wordBody_length l
  split
  · simp
  · omega
theorem wordL_pos (l : List UInt8) : 0 < (wordL l).length := by
  unfold wordL
  by_cases h0 : l = []
  · rw [if_pos h0]; decide
  · rw [if_neg h0]; exact wordBody_pos l h0
theorem lowC_lowC (c : UInt8) : lowC (lowC c) = lowC c := by
  have key : ∀ i : Fin 256, lowC (lowC (UInt8.ofNat i.val)) = lowC (UInt8.ofNat i.val) := by decide +kernel
  have := key ⟨c.toNat, c.toNat_lt⟩
  simpa using this
theorem lowerL_lowerL (l : List UInt8) : lowerL (lowerL l) = lowerL l := by
  simp [lowerL, lowC_lowC]
theorem lowerL_length (l : List UInt8) : (lowerL l).length = l.length := by simp [lowerL]
theorem joinL_snoc (c : UInt8) : ∀ (P : List (List UInt8)) (x : List UInt8), P ≠ [] → joinL c (P ++ [x]) = joinL c P ++ [c] ++ x
  | [], x, h => absurd rfl h
  | [p], x, _ => by simp [joinL]
  | p :: q :: P, x, _ => by
    have ih := joinL_snoc c (q :: P) x (by simp)
    show p ++ c :: joinL c ((q :: P) ++ [x]) = p ++ c :: joinL c (q :: P) ++ [c] ++ x
    rw [ih]; simp
theorem joinL_take (c : UInt8) (L : List (List UInt8)) (k : Nat) (hk : k < L.length) (h0 : 0 < k) : joinL c (L.take (k + 1)) = joinL c (L.take k) ++ [c] ++ L[k]'hk := by
  rw [List.take_succ_eq_append_getElem hk, joinL_snoc]
  intro h
  have := congrArg List.length h
  rw [List.length_take, List.length_nil] at this
  omega
theorem joinL_one (c : UInt8) (L : List (List UInt8)) (hk : 0 < L.length) : joinL c (L.take 1) = L[0]'hk := by
  cases L with
  | nil => simp at hk
  | cons x L => rfl
theorem joinL_le (c : UInt8) : ∀ (L : List (List UInt8)) (n : Nat), (∀ p ∈ L, p.length ≤ n) → (joinL c L).length ≤ L.length * (n + 1)
  | [], n, _ => by simp [joinL]
  | [p], n, h => by have := h p (by simp); simp [joinL]; omega
  | p :: q :: L, n, h => by
    have ih := joinL_le c (q :: L) n (fun x hx => h x (by simp only [List.mem_cons] at hx ⊢; exact .inr hx))
    have := h p (by simp)
    rw [joinL, List.length_append, List.length_cons, List.length_cons, Nat.succ_mul]
    omega

theorem splitL_two (x y : List UInt8) (hx : (32 : UInt8) ∉ x) (hy : (32 : UInt8) ∉ y) : splitL 32 (x ++ [32] ++ y) = [x, y] := by
  rw [List.append_assoc, List.singleton_append, splitL_append 32 x y hx, splitL_none 32 y hy]
theorem word_no32 (l : List UInt8) : (32 : UInt8) ∉ wordL l := fun h => by
  have := (word_vis l 32 h).1
  revert this; decide
theorem words_two (a b : List UInt8) : wordsOk (wordL a ++ [32] ++ wordL b) = true ∧ wordsL (wordL a ++ [32] ++ wordL b) = [wordL a, wordL b] := by
  have e := splitL_two _ _ (word_no32 a) (word_no32 b)
  have ha := wordL_pos a
  have hb := wordL_pos b
  have hok : wordsOk (wordL a ++ [32] ++ wordL b) = true := by
    rw [wordsOk, e]
    cases h1 : wordL a with
    | nil => rw [h1] at ha; cases ha
    | cons _ _ => cases h2 : wordL b with
      | nil => rw [h2] at hb; cases hb
      | cons _ _ => rfl
  exact ⟨hok, by rw [wordsL, if_pos hok, e]⟩
end Go.Proofs.YtmfjabpmhkechaaGreatDoor
