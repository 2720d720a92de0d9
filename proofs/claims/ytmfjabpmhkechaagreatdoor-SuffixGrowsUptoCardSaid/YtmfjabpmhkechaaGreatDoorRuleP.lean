/- Rules, plain: what a line says, and the text of a rule. -/
import Derived.Test.YtmfjabpmhkechaaGreatDoorRule
import Derived.Test.YtmfjabpmhkechaaGreatDoorUrlP
import Derived.Test.YtmfjabpmhkechaaGreatDoorTrim
namespace Go.Proofs.YtmfjabpmhkechaaGreatDoor
open Go Go.RowKit
set_option maxRecDepth 20000
set_option linter.unusedSimpArgs false
set_option linter.unusedVariables false

def ruleKind (u : List UInt8) : Int × List UInt8 := if Lib.hasPrefix u [42, 46] = true then (2, u.drop 2) else if Lib.hasPrefix u [33] = true then (3, u.drop 1) else (1, u)
def blankTake (t : List UInt8) : List UInt8 := t.take (cutAny t [32, 9])
/-- The kind and the name, whether the line says a rule, the error. -/
def ruleOut (s : List UInt8) : (Int × List UInt8) × Bool × Int :=
  let t := trimL s
  if t = [] ∨ Lib.hasPrefix t [47, 47] = true then ((0, []), false, 0)
  else
    let u := ruleKind (blankTake t)
    if parseOk u.2 = false ∨ (parseH u.2).kind ≠ 1 ∨ (u.1 = 3 ∧ (labelsL (parseH u.2)).length < 2) then ((0, []), false, 51)
    else ((u.1, (parseH u.2).name), true, 0)
def markL (k : Int) : List UInt8 := if k = 2 then [42, 46] else if k = 3 then [33] else []
def ruleTextL (k : Int) (n : List UInt8) : List UInt8 := markL k ++ n
theorem ruleKind_1 (u : List UInt8) : (ruleKind u).1 = 1 ∨ (ruleKind u).1 = 2 ∨ (ruleKind u).1 = 3 := by
  unfold ruleKind
  split
  · exact .inr (.inl rfl)
  · split
    · exact .inr (.inr rfl)
    · exact .inl rfl
theorem ruleKind_len (u : List UInt8) : (ruleKind u).2.length ≤ u.length := by
  unfold ruleKind
  split
  · simp
  · split <;> simp
theorem pre_two {u : List UInt8} (h : Lib.hasPrefix u [42, 46] = true) : Lib.hasPrefix u [33] = false := by
  unfold Lib.hasPrefix at h ⊢
  rw [List.isPrefixOf_iff_prefix] at h
  obtain ⟨t, rfl⟩ := h
  rfl
/-- The ways through Line: no rule; the host's fault; a rule. -/
theorem rule_ways (s : List UInt8) :
    (trimL s = [] ∧ ruleOut s = ((0, []), false, 0)) ∨
    (trimL s ≠ [] ∧ Lib.hasPrefix (trimL s) [47, 47] = true ∧ ruleOut s = ((0, []), false, 0)) ∨
    (trimL s ≠ [] ∧ Lib.hasPrefix (trimL s) [47, 47] = false ∧
      ((parseOk (ruleKind (blankTake (trimL s))).2 = false ∧ ruleOut s = ((0, []), false, 51)) ∨
       (parseOk (ruleKind (blankTake (trimL s))).2 = true ∧ (parseH (ruleKind (blankTake (trimL s))).2).kind ≠ 1 ∧ ruleOut s = ((0, []), false, 51)) ∨
       (parseOk (ruleKind (blankTake (trimL s))).2 = true ∧ (parseH (ruleKind (blankTake (trimL s))).2).kind = 1 ∧ (ruleKind (blankTake (trimL s))).1 = 3 ∧ (labelsL (parseH (ruleKind (blankTake (trimL s))).2)).length < 2 ∧ ruleOut s = ((0, []), false, 51)) ∨
       (parseOk (ruleKind (blankTake (trimL s))).2 = true ∧ (parseH (ruleKind (blankTake (trimL s))).2).kind = 1 ∧ (ruleKind (blankTake (trimL s))).1 = 3 ∧ ¬ (labelsL (parseH (ruleKind (blankTake (trimL s))).2)).length < 2 ∧ ruleOut s = ((3, (parseH (ruleKind (blankTake (trimL s))).2).name), true, 0)) ∨
       (parseOk (ruleKind (blankTake (trimL s))).2 = true ∧ (parseH (ruleKind (blankTake (trimL s))).2).kind = 1 ∧ (ruleKind (blankTake (trimL s))).1 ≠ 3 ∧ ruleOut s = (((ruleKind (blankTake (trimL s))).1, (parseH (ruleKind (blankTake (trimL s))).2).name), true, 0)))) := by
  unfold ruleOut
  dsimp only
  generalize trimL s = t
  by_cases h1 : t = []
  · exact .inl ⟨h1, by rw [if_pos (.inl h1)]⟩
  · cases h2 : Lib.hasPrefix t [47, 47]
    · refine .inr (.inr ⟨h1, rfl, ?_⟩)
      rw [if_neg (by simp [h1])]
      generalize ruleKind (blankTake t) = u
      cases h3 : parseOk u.2
      · exact .inl ⟨rfl, by rw [if_pos (.inl rfl)]⟩
      · by_cases h4 : (parseH u.2).kind = 1
        · by_cases h5 : u.1 = 3
          · by_cases h6 : (labelsL (parseH u.2)).length < 2
            · exact .inr (.inr (.inl ⟨rfl, h4, h5, h6, by rw [if_pos (.inr (.inr ⟨h5, h6⟩))]⟩))
            · exact .inr (.inr (.inr (.inl ⟨rfl, h4, h5, h6, by rw [if_neg (by simp [h4, h6]), h5]⟩)))
          · exact .inr (.inr (.inr (.inr ⟨rfl, h4, h5, by rw [if_neg (by simp [h4, h5])]⟩)))
        · exact .inr (.inl ⟨rfl, h4, by rw [if_pos (.inr (.inl h4))]⟩)
    · exact .inr (.inl ⟨h1, rfl, by rw [if_pos (.inr rfl)]⟩)
theorem trimLeft_len (cs : List UInt8) (l : List UInt8) : (Lib.trimLeftS l cs).length ≤ l.length := by
  unfold Lib.trimLeftS
  exact (List.dropWhile_sublist _).length_le
theorem trimRight_len (cs : List UInt8) (l : List UInt8) : (Lib.trimRightS l cs).length ≤ l.length := by
  unfold Lib.trimRightS
  rw [List.length_reverse]
  have := (List.dropWhile_sublist (fun x => cs.contains x) (l := l.reverse)).length_le
  rwa [List.length_reverse] at this
theorem trimL_length (l : List UInt8) : (trimL l).length ≤ l.length := by
  unfold trimL Lib.trimS
  first
    | exact Nat.le_trans (trimLeft_len _ _) (trimRight_len _ _)
    | exact Nat.le_trans (trimRight_len _ _) (trimLeft_len _ _)
theorem parseH_name (s : List UInt8) : (parseH s).name.length ≤ 253 := by
  unfold parseH
  split
  · split
    · exact Nat.zero_le _
    · split
      · exact Nat.zero_le _
      · unfold nameH
        split
        · assumption
        · exact Nat.zero_le _
  · exact Nat.zero_le _
end Go.Proofs.YtmfjabpmhkechaaGreatDoor
