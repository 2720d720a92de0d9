/- The law on defaults: a path belongs to its own default, whose default is no longer; what belongs to that which belongs to something belongs to it. No condition. -/
import Derived.Test.YtmophphkhajjaaaMatchPathsLaw
namespace Go.Proofs.Ytmophphkhajjaaa
open Go.RowKit

theorem lastTo_lt (p : List UInt8) : ∀ k, 0 < lastTo p k → lastTo p k < k ∧ p[lastTo p k]? = some 47
  | 0, h => absurd h (by simp [lastTo])
  | k + 1, h => by
    rw [lastTo] at h ⊢
    by_cases hc : p[k]? = some 47
    · rw [if_pos hc]; exact ⟨by omega, hc⟩
    · rw [if_neg hc] at h ⊢
      have := lastTo_lt p k h
      exact ⟨by omega, this.2⟩
theorem lastAt_lt (p : List UInt8) (h : 0 < lastAt p) : lastAt p < p.length ∧ p[lastAt p]? = some 47 := lastTo_lt p _ h
theorem defaultL_length (p : List UInt8) (h : 0 < p.length) : (defaultL p).length ≤ p.length := by
  unfold defaultL
  split
  · simp
    omega
  · simp; omega
theorem defaultL_pos (p : List UInt8) : 0 < (defaultL p).length := by
  unfold defaultL
  split
  · rename_i h
    have := (lastAt_lt p h.1).1
    simp; omega
  · simp
theorem pathB_default (p : List UInt8) (h : p[0]? = some 47) : pathB p (defaultL p) = true := by
  unfold defaultL
  by_cases h0 : 0 < lastAt p
  · rw [if_pos ⟨h0, h⟩]
    obtain ⟨hl, hc⟩ := lastAt_lt p h0
    have e : p = p.take (lastAt p) ++ 47 :: p.drop (lastAt p + 1) := by
      conv => lhs; rw [← List.take_append_drop (lastAt p) p]
      congr 1
      rw [List.drop_eq_getElem_cons hl]
      congr 1
      rw [List.getElem?_eq_getElem hl] at hc
      exact Option.some.inj hc
    have := pathB_app (p.take (lastAt p)) 47 (p.drop (lastAt p + 1))
    rw [← e] at this
    rw [this]; simp
  · rw [if_neg (fun x => h0 x.1)]
    rcases p with _ | ⟨c, t⟩
    · simp at h
    · have : c = 47 := by simpa using h
      subst this
      have : (47 :: t) = [47] ++ t := rfl
      rw [this]
      rcases t with _ | ⟨d, t⟩
      · simp [pathB_self]
      · rw [pathB_app]; simp [Go.Lib.hasSuffix]

theorem pathB_parts (p o : List UInt8) : pathB p o = true ↔ ∃ t, p = o ++ t ∧ (t = [] ∨ t[0]? = some 47 ∨ Go.Lib.hasSuffix o [47] = true) := by
  constructor
  · intro h
    rcases path_cases p o with rfl | ⟨h1, h2⟩ | ⟨h1, h2⟩ | ⟨c, t, rfl⟩
    · exact ⟨[], by simp, .inl rfl⟩
    · rw [pathB_short p o h1 h2] at h; cases h
    · rw [pathB_other p o h2] at h; cases h
    · rw [pathB_app] at h
      refine ⟨c :: t, rfl, ?_⟩
      simpa using h
  · rintro ⟨t, rfl, h⟩
    rcases t with _ | ⟨c, t⟩
    · simp [pathB_self]
    · rw [pathB_app]
      simpa using h
theorem pathB_trans (a b c : List UInt8) (h1 : pathB a b = true) (h2 : pathB b c = true) : pathB a c = true := by
  rw [pathB_parts] at *
  obtain ⟨t, rfl, ht⟩ := h1
  obtain ⟨u, rfl, hu⟩ := h2
  refine ⟨u ++ t, by simp, ?_⟩
  rcases u with _ | ⟨d, u⟩
  · simpa using ht
  · rcases hu with hu | hu | hu
    · cases hu
    · exact .inr (.inl (by simpa using hu))
    · exact .inr (.inr hu)
/-- What the law's last row comes to. -/
theorem pathB_last (a b c : List UInt8) : (!pathB a b || !pathB b c || pathB a c) = true := by
  have := pathB_trans a b c
  cases h1 : pathB a b <;> cases h2 : pathB b c <;> simp_all

set_option maxRecDepth 100000 in
set_option maxHeartbeats 2000000 in
theorem matchDefault_walk (a b c : List UInt8) (ha : a.length ≤ maxLen) (hb : b.length ≤ maxLen) (hc : c.length ≤ maxLen) (w : World) :
    Calls Try.prog 4 #[.string ⟨a.toArray⟩, .string ⟨b.toArray⟩, .string ⟨c.toArray⟩] w fun e w' => e = .returned (.bool true) ∧ w = w' := by
  have ha' := ha
  have hb' := hb
  have hc' := hc
  unfold maxLen at ha' hb' hc'
  by_cases h1 : a.length ≤ 2000
  · by_cases h2 : b.length ≤ 2000
    · by_cases h3 : c.length ≤ 2000
      · have hcase : pathB a b = false ∨ (pathB a b = true ∧ pathB b c = false) ∨ (pathB a b = true ∧ pathB b c = true ∧ pathB a c = true) := by
          have := pathB_trans a b c
          cases h1 : pathB a b <;> cases h2 : pathB b c <;> simp_all
        have hone : a.length = 0 ∨ ∃ x, 0 < a.length ∧ (∀ h, a[0]'h = x) ∧ a[0]? = some x := by
          by_cases h : 0 < a.length
          · exact .inr ⟨a[0]'h, h, fun _ => rfl, List.getElem?_eq_getElem h⟩
          · exact .inl (by omega)
        rcases hone with h0 | ⟨x, h0, hx0, hx1⟩
        · have h0' : ¬ 0 < a.length := by omega
          clear h0
          rcases hcase with hab | ⟨hab, hbc⟩ | ⟨hab, hbc, hac⟩
          all_goals
            go_enter Try.func4, Try.ntmps4
            go_wp2_with (first | (go_at_call 6; refine (matchAlive_any _).mono ?_; rintro e w' ⟨rfl, rfl⟩) | (go_at_call 7; refine (path_any _ _ (by assumption) _).mono ?_; rintro e w' ⟨rfl, rfl⟩))
            go_ret
            exact ⟨rfl, rfl⟩
        · have g1 : x = 47 → pathB a (defaultL a) = true := fun e => pathB_default a (by rw [hx1, e])
          have g2 := defaultL_length a h0
          have g3 := defaultL_length (defaultL a) (defaultL_pos _)
          clear hx1
          have hx := u8_lit x 47 47 rfl
          cases hxx : x == 47 <;> rw [hxx] at hx
          · clear g1
            rcases hcase with hab | ⟨hab, hbc⟩ | ⟨hab, hbc, hac⟩
            all_goals
              go_enter Try.func4, Try.ntmps4
              go_wp2_with (first | (go_at_call 6; refine (matchAlive_any _).mono ?_; rintro e w' ⟨rfl, rfl⟩) | (go_at_call 7; refine (path_any _ _ (by assumption) _).mono ?_; rintro e w' ⟨rfl, rfl⟩))
              go_ret
              exact ⟨rfl, rfl⟩
          · replace g1 := g1 (by simpa using hxx)
            have g4 : (defaultL a).length ≤ maxLen := by unfold maxLen; omega
            have g5 : a.length ≤ 4611686018427387903 := by omega
            have g6 : (defaultL a).length ≤ 4611686018427387903 := by omega
            have g7 : ¬ a.length < (defaultL a).length := by omega
            have g8 : ¬ (defaultL a).length < (defaultL (defaultL a)).length := by omega
            rcases hcase with hab | ⟨hab, hbc⟩ | ⟨hab, hbc, hac⟩
            all_goals
              go_enter Try.func4, Try.ntmps4
              go_wp2_with (first | (go_at_call 6; refine (matchAlive_any _).mono ?_; rintro e w' ⟨rfl, rfl⟩) | (go_at_call 7; refine (path_any _ _ (by assumption) _).mono ?_; rintro e w' ⟨rfl, rfl⟩) | (go_at_call 9; refine (default_any _ (by assumption) _).mono ?_; rintro e w' ⟨rfl, rfl⟩))
              go_ret
              exact ⟨rfl, rfl⟩
      · go_enter Try.func4, Try.ntmps4
        go_wp2_with (first | (go_at_call 6; refine (matchAlive_any _).mono ?_; rintro e w' ⟨rfl, rfl⟩))
        go_ret
        exact ⟨rfl, rfl⟩
    · go_enter Try.func4, Try.ntmps4
      go_wp2_with (first | (go_at_call 6; refine (matchAlive_any _).mono ?_; rintro e w' ⟨rfl, rfl⟩))
      go_ret
      exact ⟨rfl, rfl⟩
  · go_enter Try.func4, Try.ntmps4
    go_wp2_with (first | (go_at_call 6; refine (matchAlive_any _).mono ?_; rintro e w' ⟨rfl, rfl⟩))
    go_ret
    exact ⟨rfl, rfl⟩
end Go.Proofs.Ytmophphkhajjaaa
