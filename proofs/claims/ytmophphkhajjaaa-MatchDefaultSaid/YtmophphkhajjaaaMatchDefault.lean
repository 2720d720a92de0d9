/- The walks of the two functions that tell the path of which a cookie is. -/
import Derived.Test.YtmophphkhajjaaaRows
import Derived.Test.YtmophphkhajjaaaShelf
import Derived.Test.YtmophphkhajjaaaBase
namespace Go.Proofs.Ytmophphkhajjaaa
open Go.RowKit

/-- The last place of a slash among the first k bytes; 0: there is none. -/
def lastTo (p : List UInt8) : Nat → Nat
  | 0 => 0
  | k + 1 => if p[k]? = some 47 then k else lastTo p k
def lastAt (p : List UInt8) : Nat := lastTo p p.length
def defaultL (p : List UInt8) : List UInt8 := if 0 < lastAt p ∧ p[0]? = some 47 then p.take (lastAt p) else [47]

theorem lastTo_lib (p : List UInt8) : ∀ k, k ≤ p.length → (Lib.lastIdx ⟨p.toArray⟩ 47 k = -1 ∧ lastTo p k = 0) ∨ (Lib.lastIdx ⟨p.toArray⟩ 47 k = (lastTo p k : Nat) ∧ lastTo p k < k)
  | 0, _ => .inl ⟨rfl, rfl⟩
  | k + 1, h => by
    have e : ((ByteArray.mk p.toArray).data[k]!) = p[k]'(by omega) := by
      show p.toArray[k]! = _
      simp [show k < p.length by omega]
    have e2 : p[k]? = some (p[k]'(by omega)) := List.getElem?_eq_getElem (by omega)
    unfold Lib.lastIdx lastTo
    rw [e, e2]
    by_cases hc : p[k]'(by omega) = 47
    · rw [hc]; simp
    · have h1 : ¬ ((p[k]'(by omega)).toNat : Int) = 47 := by
        intro h'
        exact hc (UInt8.toNat_inj.1 (by have : (p[k]'(by omega)).toNat = 47 := by omega
                                        rw [this]; rfl))
      rw [if_neg h1, if_neg (by simpa using hc)]
      rcases lastTo_lib p k (by omega) with ⟨a, b⟩ | ⟨a, b⟩
      · exact .inl ⟨a, b⟩
      · exact .inr ⟨a, by omega⟩

set_option maxHeartbeats 400000 in
theorem default_any (p : List UInt8) (hp : p.length ≤ 4611686018427387903) (w : World) :
    Calls Try.prog 9 #[.string ⟨p.toArray⟩] w fun e w' => e = .returned (.string ⟨(defaultL p).toArray⟩) ∧ w = w' := by
  have hs : (ByteArray.mk p.toArray).size < 4611686018427387904 := by simp [ByteArray.size]; omega
  have hl : Lib.lastIndexByte ⟨p.toArray⟩ 47 = -1 ∧ lastAt p = 0 ∨ Lib.lastIndexByte ⟨p.toArray⟩ 47 = (lastAt p : Nat) ∧ lastAt p < p.length := lastTo_lib p p.length (Nat.le_refl _)
  by_cases h0 : 0 < lastAt p
  · have hk : Lib.lastIndexByte ⟨p.toArray⟩ 47 = (lastAt p : Nat) ∧ lastAt p < p.length := by
      rcases hl with ⟨_, h⟩ | h
      · omega
      · exact h
    clear hl
    obtain ⟨hk, hlt⟩ := hk
    obtain ⟨c, hc0, hc1⟩ : ∃ c, (∀ h, p[0]'h = c) ∧ p[0]? = some c := ⟨p[0]'(by omega), fun _ => rfl, List.getElem?_eq_getElem (by omega)⟩
    have hd : defaultL p = if c == 47 then p.take (lastAt p) else [47] := by
      simp [defaultL, h0, hc1]
    rw [hd]
    clear hd hc1
    generalize lastAt p = k at *
    have hc := u8_lit c 47 47 rfl
    cases hcc : c == 47 <;> rw [hcc] at hc
    all_goals
      go_enter Try.func9, Try.ntmps9
      go_wp2_with (first | (go_at_call 17; refine (Try.strings_LastIndexByte _ _ hs _).mono ?_; rintro e w' ⟨rfl, rfl⟩))
      go_ret
      exact ⟨rfl, rfl⟩
  · have hd : defaultL p = [47] := by simp [defaultL, h0]
    rw [hd]
    have hk : Lib.lastIndexByte ⟨p.toArray⟩ 47 ≤ 0 := by
      rcases hl with ⟨h, _⟩ | ⟨h, _⟩ <;> omega
    clear hd h0 hl
    generalize hx : Lib.lastIndexByte ⟨p.toArray⟩ 47 = x at *
    go_enter Try.func9, Try.ntmps9
    go_wp2_with (first | (go_at_call 17; refine (Try.strings_LastIndexByte _ _ hs _).mono ?_; rintro e w' ⟨rfl, rfl⟩))
    go_ret
    exact ⟨rfl, rfl⟩

theorem lastTo_step (p : List UInt8) (k : Nat) (c : UInt8) (h : p[k]? = some c) : lastTo p (k + 1) = bif c == 47 then k else lastTo p k := by
  rw [lastTo, h]
  by_cases hc : c = 47 <;> simp [hc, beq_eq_false_iff_ne.2]
theorem defaultL_yes (p : List UInt8) (c : UInt8) (h0 : 0 < lastAt p) (h : p[0]? = some c) : defaultL p = bif c == 47 then p.take (lastAt p) else [47] := by
  rw [defaultL, h]
  by_cases hc : c = 47 <;> simp [h0, hc, beq_eq_false_iff_ne.2]
theorem defaultL_no (p : List UInt8) (h0 : ¬ 0 < lastAt p) : defaultL p = [47] := by simp [defaultL, h0]

set_option maxHeartbeats 400000 in
theorem refDefault_any (p : List UInt8) (hp : p.length ≤ maxLen) (w : World) :
    Calls Try.prog 10 #[.string ⟨p.toArray⟩] w fun e w' => e = .returned (.string ⟨(defaultL p).toArray⟩) ∧ w = w' := by
  unfold maxLen at hp
  go_enter Try.func10, Try.ntmps10
  go_wp2
  go_loop [3, 4] (fun l i => ∃ k : Nat, k ≤ p.length ∧ i = .int .i64 k ∧ l = .int .i64 (lastTo p k : Nat)) (fun _ i => p.length - (intOf i).toNat)
  case atStart => exact ⟨0, Nat.zero_le _, rfl, rfl⟩
  case round =>
    obtain ⟨k, hk, rfl, rfl⟩ := hrel
    by_cases hlt : k < p.length
    · obtain ⟨c, hc0, hc1⟩ : ∃ c, (∀ h, p[k]'h = c) ∧ p[k]? = some c := ⟨p[k]'hlt, fun _ => rfl, List.getElem?_eq_getElem hlt⟩
      have hc := u8_lit c 47 47 rfl
      have HS : Hid (lastTo p (k + 1) = bif c == 47 then k else lastTo p k) := by
        exact lastTo_step p k c hc1
      clear hc1
      cases hcc : c == 47 <;> rw [hcc] at hc HS
      all_goals
        go_wp2
        go_round
        case rel => exact ⟨k + 1, by omega, by go_num, by rw [HS.out]; rfl⟩
        case measure => simp [intOf]; omega
    · obtain rfl : k = p.length := by omega
      have hla : lastAt p = lastTo p p.length := rfl
      rw [← hla]
      by_cases h0 : 0 < lastAt p
      · have hlt2 : lastAt p < p.length := by
          rcases lastTo_lib p p.length (Nat.le_refl _) with ⟨_, h⟩ | ⟨_, h⟩
          · rw [hla] at h0; omega
          · exact h
        obtain ⟨c, hc0, hc1⟩ : ∃ c, (∀ h, p[0]'h = c) ∧ p[0]? = some c := ⟨p[0]'(by omega), fun _ => rfl, List.getElem?_eq_getElem (by omega)⟩
        have HD : Hid (defaultL p = bif c == 47 then p.take (lastAt p) else [47]) := by
          exact defaultL_yes p c h0 hc1
        clear hla hc1
        generalize lastAt p = k at *
        obtain ⟨hc, hc'⟩ := u8_both c 47 47 rfl
        cases hcc : c == 47 <;> rw [hcc] at hc hc' HD
        all_goals
          go_wp2
          go_ret
          exact ⟨by rw [HD.out]; rfl, rfl⟩
      · have HD : Hid (defaultL p = [47]) := by
          exact defaultL_no p h0
        obtain h0' : lastAt p = 0 := by omega
        rw [h0']
        clear hla h0 h0'
        go_wp2
        go_ret
        exact ⟨by rw [HD.out]; rfl, rfl⟩
end Go.Proofs.Ytmophphkhajjaaa
