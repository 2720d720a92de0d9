/- Merged: MatchPath, MatchDef, MatchAlive. -/
import Derived.Test.YtfnhkpfkaiamjaaGreatDoorShelf
import Derived.Test.YtfnhkpfkaiamjaaGreatDoorBase
namespace Go.Proofs.YtfnhkpfkaiamjaaGreatDoor
section
open Go.RowKit Go.Lib

/-- Is path p one that belongs to o? -/
def pathB (p o : List UInt8) : Bool := hasPrefix p o && ((trimPrefix p o).isEmpty || (trimPrefix p o)[0]? == some 47 || hasSuffix o [47])

set_option maxHeartbeats 400000 in
theorem path_any (p o : List UInt8) (ho : o.length ≤ maxLen) (w : World) :
    Calls Tryz.prog 21 #[.string ⟨p.toArray⟩, .string ⟨o.toArray⟩] w fun e w' => e = .returned (.bool (pathB p o)) ∧ w = w' := by
  unfold maxLen at ho
  cases hh : hasPrefix p o
  · have hf : pathB p o = false := by simp [pathB, hh]
    rw [hf]
    clear hf
    go_enter Tryz.func21, Tryz.ntmps21
    go_wp2_with (first | (go_at_call 40; refine (Tryz.strings_CutPrefix _ _ _).mono ?_; rintro e w' ⟨rfl, rfl⟩))
    go_ret
    exact ⟨rfl, rfl⟩
  · rcases hR : trimPrefix p o with _ | ⟨c, t⟩
    · have hf : pathB p o = true := by simp [pathB, hh, hR]
      rw [hf]
      clear hf
      go_enter Tryz.func21, Tryz.ntmps21
      go_wp2_with (first | (go_at_call 40; refine (Tryz.strings_CutPrefix _ _ _).mono ?_; rintro e w' ⟨rfl, rfl⟩))
      go_ret
      exact ⟨rfl, rfl⟩
    · have hf : pathB p o = (c == 47 || hasSuffix o [47]) := by simp [pathB, hh, hR]
      rw [hf]
      clear hf
      have hc := u8_lit c 47 47 rfl
      cases hcc : c == 47 <;> rw [hcc] at hc
      all_goals
        go_enter Tryz.func21, Tryz.ntmps21
        go_wp2_with (first | (go_at_call 40; refine (Tryz.strings_CutPrefix _ _ _).mono ?_; rintro e w' ⟨rfl, rfl⟩) | (go_at_call 41; refine (Tryz.strings_HasSuffix _ _ _ (by simp [ByteArray.size]; omega)).mono ?_; rintro e w' ⟨rfl, rfl⟩))
        go_ret
        exact ⟨by simp, rfl⟩

theorem path_cases (p o : List UInt8) : p = o ∨ (p ≠ o ∧ p.length ≤ o.length) ∨ (o.length < p.length ∧ p.take o.length ≠ o) ∨ ∃ c t, p = o ++ c :: t := by
  by_cases h1 : p = o
  · exact .inl h1
  by_cases h2 : p.length ≤ o.length
  · exact .inr (.inl ⟨h1, h2⟩)
  by_cases h3 : p.take o.length = o
  · refine .inr (.inr (.inr ?_))
    rcases h4 : p.drop o.length with _ | ⟨c, t⟩
    · simp at h4; omega
    · exact ⟨c, t, by rw [← h4]; conv => lhs; rw [← List.take_append_drop o.length p, h3]⟩
  · exact .inr (.inr (.inl ⟨by omega, h3⟩))

theorem pathB_self (p : List UInt8) : pathB p p = true := by simp [pathB, hasPrefix, trimPrefix]
theorem pathB_short (p o : List UInt8) (h1 : p ≠ o) (h2 : p.length ≤ o.length) : pathB p o = false := by
  have : hasPrefix p o = false := by
    rw [hasPrefix, Bool.eq_false_iff, Ne, List.isPrefixOf_iff_prefix]
    intro h
    exact h1 (h.eq_of_length (by have := h.length_le; omega)).symm
  simp [pathB, this]
theorem pathB_other (p o : List UInt8) (h2 : p.take o.length ≠ o) : pathB p o = false := by
  have : hasPrefix p o = false := by
    rw [hasPrefix, Bool.eq_false_iff, Ne, List.isPrefixOf_iff_prefix]
    intro h
    exact h2 (List.prefix_iff_eq_take.1 h).symm
  simp [pathB, this]
theorem hasPrefix_app (o t : List UInt8) : hasPrefix (o ++ t) o = true := by simp [hasPrefix]
theorem trimPrefix_app (o t : List UInt8) : trimPrefix (o ++ t) o = t := by simp [trimPrefix, hasPrefix_app]
theorem pathB_app (o : List UInt8) (c : UInt8) (t : List UInt8) : pathB (o ++ c :: t) o = (c == 47 || hasSuffix o [47]) := by
  simp [pathB, hasPrefix_app, trimPrefix_app]
theorem hasSuffix_nil (d : UInt8) : hasSuffix [] [d] = false := by simp [hasSuffix]
theorem hasSuffix_snoc (o : List UInt8) (c d : UInt8) : hasSuffix (o ++ [c]) [d] = (c == d) := by
  rw [hasSuffix, Bool.eq_iff_iff, List.isSuffixOf_iff_suffix, beq_iff_eq]
  constructor
  · rintro ⟨t, h⟩
    have := (List.append_inj' h rfl).2
    simpa using this.symm
  · rintro rfl
    exact ⟨o, rfl⟩

set_option maxHeartbeats 400000 in
theorem refPath_any (p o : List UInt8) (hp : p.length ≤ maxLen) (ho : o.length ≤ maxLen) (w : World) :
    Calls Tryz.prog 28 #[.string ⟨p.toArray⟩, .string ⟨o.toArray⟩] w fun e w' => e = .returned (.bool (pathB p o)) ∧ w = w' := by
  unfold maxLen at hp ho
  rcases path_cases p o with rfl | ⟨h1, h2⟩ | ⟨h1, h2⟩ | ⟨c, t, rfl⟩
  · rw [pathB_self]
    go_enter Tryz.func28, Tryz.ntmps28
    go_wp2
    go_ret
    exact ⟨rfl, rfl⟩
  · rw [pathB_short p o h1 h2]
    have h1' : (p == o) = false := by simp [h1]
    clear h1
    go_enter Tryz.func28, Tryz.ntmps28
    go_wp2
    go_ret
    exact ⟨rfl, rfl⟩
  · rw [pathB_other p o h2]
    have h1' : (p == o) = false := by simp; rintro rfl; omega
    have h2' : (p.take o.length == o) = false := by simp [h2]
    have h3 : ¬ p.length ≤ o.length := by omega
    clear h2
    go_enter Tryz.func28, Tryz.ntmps28
    go_wp2
    go_ret
    exact ⟨rfl, rfl⟩
  · rw [pathB_app]
    have hc := u8_lit c 47 47 rfl
    have hn : (o ++ c :: t == o) = false := by simp
    have hx : o = [] ∨ ∃ o' d, o = o' ++ [d] := by
      rcases List.eq_nil_or_concat o with h | ⟨o', d, h⟩
      · exact .inl h
      · exact .inr ⟨o', d, by rw [h, List.concat_eq_append]⟩
    rcases hx with rfl | hx
    · rw [hasSuffix_nil]
      cases hcc : c == 47 <;> rw [hcc] at hc
      all_goals
        go_enter Tryz.func28, Tryz.ntmps28
        go_wp2
        go_ret
        exact ⟨rfl, rfl⟩
    · obtain ⟨d, hd1, hd2, hd3⟩ : ∃ d, (∀ h, o[o.length - 1]'h = d) ∧ hasSuffix o [47] = (d == 47) ∧ 0 < o.length := by
        obtain ⟨o', d, rfl⟩ := hx
        exact ⟨d, by simp, by rw [hasSuffix_snoc], by simp⟩
      rw [hd2]
      clear hd2 hx
      have hd := u8_lit d 47 47 rfl
      cases hcc : c == 47 <;> rw [hcc] at hc <;> cases hdd : d == 47 <;> rw [hdd] at hd
      all_goals
        go_enter Tryz.func28, Tryz.ntmps28
        go_wp2
        go_ret
        exact ⟨rfl, rfl⟩
end

section
open Go.RowKit

/-- The last place of a slash among the first k bytes; 0: there is none. -/
def lastTo (p : List UInt8) : Nat → Nat
  | 0 => 0
  | k + 1 => if p[k]? = some 47 then k else lastTo p k
def lastAt (p : List UInt8) : Nat := lastTo p p.length
def defaultL (p : List UInt8) : List UInt8 := if 0 < lastAt p ∧ p[0]? = some 47 then p.take (lastAt p) else [47]

theorem lastTo_lib (p : List UInt8) : ∀ k, k ≤ p.length → (Lib.lastIdx ⟨p.toArray⟩ 47 k = -1 ∧ lastTo p k = 0) ∨ (Lib.lastIdx ⟨p.toArray⟩ 47 k = (lastTo p k : Nat) ∧ lastTo p k < k)
  | 0, _ => .inl ⟨rfl, rfl⟩
  | k + 1, h => by
    have e : ((ByteArray.mk p.toArray).data[k]!) = p[k]'(by omega) := by
      show p.toArray[k]! = _
      simp [show k < p.length by omega]
    have e2 : p[k]? = some (p[k]'(by omega)) := List.getElem?_eq_getElem (by omega)
    unfold Lib.lastIdx lastTo
    rw [e, e2]
    by_cases hc : p[k]'(by omega) = 47
    · rw [hc]; simp
    · have h1 : ¬ ((p[k]'(by omega)).toNat : Int) = 47 := by
        intro h'
        exact hc (UInt8.toNat_inj.1 (by have : (p[k]'(by omega)).toNat = 47 := by omega
                                        rw [this]; rfl))
      rw [if_neg h1, if_neg (by simpa using hc)]
      rcases lastTo_lib p k (by omega) with ⟨a, b⟩ | ⟨a, b⟩
      · exact .inl ⟨a, b⟩
      · exact .inr ⟨a, by omega⟩

set_option maxHeartbeats 400000 in
theorem default_any (p : List UInt8) (hp : p.length ≤ 4611686018427387903) (w : World) :
    Calls Tryz.prog 22 #[.string ⟨p.toArray⟩] w fun e w' => e = .returned (.string ⟨(defaultL p).toArray⟩) ∧ w = w' := by
  have hs : (ByteArray.mk p.toArray).size < 4611686018427387904 := by simp [ByteArray.size]; omega
  have hl : Lib.lastIndexByte ⟨p.toArray⟩ 47 = -1 ∧ lastAt p = 0 ∨ Lib.lastIndexByte ⟨p.toArray⟩ 47 = (lastAt p : Nat) ∧ lastAt p < p.length := lastTo_lib p p.length (Nat.le_refl _)
  by_cases h0 : 0 < lastAt p
  · have hk : Lib.lastIndexByte ⟨p.toArray⟩ 47 = (lastAt p : Nat) ∧ lastAt p < p.length := by
      rcases hl with ⟨_, h⟩ | h
      · omega
      · exact h
    clear hl
    obtain ⟨hk, hlt⟩ := hk
    obtain ⟨c, hc0, hc1⟩ : ∃ c, (∀ h, p[0]'h = c) ∧ p[0]? = some c := ⟨p[0]'(by omega), fun _ => rfl, List.getElem?_eq_getElem (by omega)⟩
    have hd : defaultL p = if c == 47 then p.take (lastAt p) else [47] := by
      simp [defaultL, h0, hc1]
    rw [hd]
    clear hd hc1
    generalize lastAt p = k at *
    have hc := u8_lit c 47 47 rfl
    cases hcc : c == 47 <;> rw [hcc] at hc
    all_goals
      go_enter Tryz.func22, Tryz.ntmps22
      go_wp2_with (first | (go_at_call 42; refine (Tryz.strings_LastIndexByte _ _ hs _).mono ?_; rintro e w' ⟨rfl, rfl⟩))
      go_ret
      exact ⟨rfl, rfl⟩
  · have hd : defaultL p = [47] := by simp [defaultL, h0]
    rw [hd]
    have hk : Lib.lastIndexByte ⟨p.toArray⟩ 47 ≤ 0 := by
      rcases hl with ⟨h, _⟩ | ⟨h, _⟩ <;> omega
    clear hd h0 hl
    generalize hx : Lib.lastIndexByte ⟨p.toArray⟩ 47 = x at *
    go_enter Tryz.func22, Tryz.ntmps22
    go_wp2_with (first | (go_at_call 42; refine (Tryz.strings_LastIndexByte _ _ hs _).mono ?_; rintro e w' ⟨rfl, rfl⟩))
    go_ret
    exact ⟨rfl, rfl⟩
end

section
open Go.RowKit

theorem matchAlive_any (w : World) : Calls Tryz.prog 8 #[] w fun e w' => e = .returned (.bool true) ∧ w = w' := by
  have e1 : pathB [47, 97, 47, 98] [47, 97] = true := by decide
  have e2 : pathB [47, 97, 47, 98] [47, 97, 47] = true := by decide
  have e3 : pathB [47, 97, 98] [47, 97] = false := by decide
  have e4 : defaultL [47, 97, 47, 98] = [47, 97] := by decide
  go_enter Tryz.func8, Tryz.ntmps8
  go_wp2_with (first | (go_at_call 21; refine (path_any _ _ (by decide) _).mono ?_; rintro e w' ⟨rfl, rfl⟩) | (go_at_call 22; refine (default_any _ (by decide) _).mono ?_; rintro e w' ⟨rfl, rfl⟩))
  go_ret
  exact ⟨rfl, rfl⟩
end
end Go.Proofs.YtfnhkpfkaiamjaaGreatDoor
