/- The walks of the statements RuleLines and RuleBack. -/
import Derived.Test.YtlegjkjicdpeeaaGreatDoorRuleAll
namespace Go.Proofs.YtlegjkjicdpeeaaGreatDoor
open Go Go.RowKit
set_option maxRecDepth 20000
set_option linter.unusedSimpArgs false
set_option linter.unusedVariables false

def exR1 : List UInt8 := [42, 46, 99, 107]
def exR2 : List UInt8 := [33, 119, 119, 119, 46, 99, 107, 32, 32, 47, 47, 32, 116, 104, 105, 115, 32, 111, 110, 101, 32, 110, 111, 116]
theorem exR_out : ruleOut exR1 = ((2, [99, 107]), true, 0) ∧ ruleOut exR2 = ((3, [119, 119, 119, 46, 99, 107]), true, 0) := by decide +kernel
set_option maxHeartbeats 1000000 in
theorem ruleAlive_any (m : Int) (w : World) (hm : HasMax m w) (htz : HasTz w) (hd : HasDec w) :
    Calls Tryz.prog 13 #[] w fun e w' => e = .returned (.bool true) ∧ Below w.heap.size w w' := by
  have HR1 : Hid (∀ w, HasMax m w → HasTz w → HasDec w → Calls Tryz.prog 14 #[.string ⟨[42, 46, 99, 107].toArray⟩] w fun e w' => e = .returned (.tuple #[.agg (ruleV 2 [99, 107]), .bool true, .int .i64 0]) ∧ Below w.heap.size w w') := fun w a b c => by
    have := ruleLine_any exR1 (by decide) m w a b c
    rw [exR_out.1] at this
    exact this
  have HR2 : Hid (∀ w, HasMax m w → HasTz w → HasDec w → Calls Tryz.prog 14 #[.string ⟨[33, 119, 119, 119, 46, 99, 107, 32, 32, 47, 47, 32, 116, 104, 105, 115, 32, 111, 110, 101, 32, 110, 111, 116].toArray⟩] w fun e w' => e = .returned (.tuple #[.agg (ruleV 3 [119, 119, 119, 46, 99, 107]), .bool true, .int .i64 0]) ∧ Below w.heap.size w w') := fun w a b c => by
    have := ruleLine_any exR2 (by decide) m w a b c
    rw [exR_out.2] at this
    exact this
  have k2 : (Lit.int .i64 2).wf = true := rfl
  have k3 : (Lit.int .i64 3).wf = true := rfl
  have l1 : ([99, 107] : List UInt8).length ≤ maxLen := by decide
  have l2 : ([119, 119, 119, 46, 99, 107] : List UInt8).length ≤ maxLen := by decide
  have l1' : 2 ≤ maxLen := by decide
  have l2' : 6 ≤ maxLen := by decide
  go_enter Tryz.func13, Tryz.ntmps13
  go_wp2_with (first
    | (go_at_call 14; (with_reducible refine (HR1.out _ ?_ ?_ ?_).mono ?_); (exact (by repeat (first | exact hm | apply HasMax.grown | apply HasMax.alloc | apply HasMax.drew))); (exact (by repeat (first | exact htz | apply HasTz.grown | apply HasTz.alloc | apply HasTz.drew))); (exact (by repeat (first | exact hd | apply HasDec.grown | apply HasDec.alloc | apply HasDec.drew))); rintro e w1 ⟨rfl, hb1⟩; obtain ⟨p1, rfl⟩ := grown_of hb1; clear hb1)
    | (go_at_call 14; (with_reducible refine (HR2.out _ ?_ ?_ ?_).mono ?_); (exact (by repeat (first | exact hm | apply HasMax.grown | apply HasMax.alloc | apply HasMax.drew))); (exact (by repeat (first | exact htz | apply HasTz.grown | apply HasTz.alloc | apply HasTz.drew))); (exact (by repeat (first | exact hd | apply HasDec.grown | apply HasDec.alloc | apply HasDec.drew))); rintro e w1 ⟨rfl, hb1⟩; obtain ⟨p1, rfl⟩ := grown_of hb1; clear hb1))
  go_ret
  exact ⟨by first | rfl | exact ret_bool (by simp [ruleEq]), (by repeat (first | exact Below.refl _ _ | assumption | refine below_grown ?_ (by first | omega | (simp [go_sem]; done) | (simp [go_sem] <;> omega)) _ | refine Below.alloc ?_ (by first | omega | (simp [go_sem]; done) | (simp [go_sem] <;> omega)) _ | refine below_bytesW ?_ (by first | omega | (simp [go_sem]; done) | (simp [go_sem] <;> omega)) _ | refine Below.drew ?_ | refine below_drewN ?_ _))⟩
theorem ruleOut_bd (s : List UInt8) : ((ruleOut s).1.1 = 0 ∨ (ruleOut s).1.1 = 1 ∨ (ruleOut s).1.1 = 2 ∨ (ruleOut s).1.1 = 3) ∧ (ruleOut s).1.2.length ≤ 253 := by
  rcases rule_ways s with ⟨_, h⟩ | ⟨_, _, h⟩ | ⟨_, _, h⟩
  · rw [h]; exact ⟨.inl rfl, Nat.zero_le _⟩
  · rw [h]; exact ⟨.inl rfl, Nat.zero_le _⟩
  · rcases h with ⟨_, h⟩ | ⟨_, _, h⟩ | ⟨_, _, _, _, h⟩ | ⟨_, _, _, _, h⟩ | ⟨_, _, _, h⟩
    · rw [h]; exact ⟨.inl rfl, Nat.zero_le _⟩
    · rw [h]; exact ⟨.inl rfl, Nat.zero_le _⟩
    · rw [h]; exact ⟨.inl rfl, Nat.zero_le _⟩
    · rw [h]; exact ⟨.inr (.inr (.inr rfl)), parseH_name _⟩
    · rw [h]; exact ⟨.inr (ruleKind_1 _), parseH_name _⟩
theorem wf_kind {k : Int} (h : k = 0 ∨ k = 1 ∨ k = 2 ∨ k = 3) : (Lit.int .i64 k).wf = true := by
  rcases h with rfl | rfl | rfl | rfl <;> rfl
set_option maxHeartbeats 4000000 in
theorem ruleLines_law (s : List UInt8) (hs : s.length ≤ maxLen) (m : Int) (w : World) (hm : HasMax m w) (htz : HasTz w) (hd : HasDec w) :
    Calls Tryz.prog 3 #[.string ⟨s.toArray⟩] w fun e w' => e = .returned (.bool true) ∧ Below w.heap.size w w' := by
  unfold maxLen at hs
  by_cases h1 : (1000 : Int) < s.length
  · go_enter Tryz.func3, Tryz.ntmps3
    go_wp2_with (go_at_call 13; refine (ruleAlive_any m _ (by repeat (first | exact hm | apply HasMax.grown | apply HasMax.alloc | apply HasMax.drew)) (by repeat (first | exact htz | apply HasTz.grown | apply HasTz.alloc | apply HasTz.drew)) (by repeat (first | exact hd | apply HasDec.grown | apply HasDec.alloc | apply HasDec.drew))).mono ?_; rintro e w1 ⟨rfl, hb1⟩; obtain ⟨p1, rfl⟩ := grown_of hb1; clear hb1)
    go_ret
    exact ⟨rfl, (by repeat (first | exact Below.refl _ _ | assumption | refine below_grown ?_ (by first | omega | (simp [go_sem]; done) | (simp [go_sem] <;> omega)) _ | refine Below.alloc ?_ (by first | omega | (simp [go_sem]; done) | (simp [go_sem] <;> omega)) _ | refine below_bytesW ?_ (by first | omega | (simp [go_sem]; done) | (simp [go_sem] <;> omega)) _ | refine Below.drew ?_ | refine below_drewN ?_ _))⟩
  · have HP : Hid (∀ w, HasMax m w → HasTz w → HasDec w → Calls Tryz.prog 14 #[.string ⟨s.toArray⟩] w fun e w' => e = .returned (.tuple #[.agg (ruleV (ruleOut s).1.1 (ruleOut s).1.2), .bool (ruleOut s).2.1, .int .i64 (ruleOut s).2.2]) ∧ Below w.heap.size w w') := fun w a b c => ruleLine_any s (by omega) m w a b c
    have HQ : Hid (∀ w, Calls Tryz.prog 15 #[.string ⟨s.toArray⟩] w fun e w' => e = .returned (.tuple #[.agg (ruleV (ruleOut s).1.1 (ruleOut s).1.2), .bool (ruleOut s).2.1, .int .i64 (ruleOut s).2.2]) ∧ Below w.heap.size w w') := fun w => refRuleLine_any s (by omega) w
    obtain ⟨hk, hl⟩ := ruleOut_bd s
    have hwf := wf_kind hk
    have hpl : (ruleOut s).1.2.length ≤ maxLen := by unfold maxLen; omega
    have HK : Hid (∀ w, Calls Tryz.prog 16 #[.agg (ruleV (ruleOut s).1.1 (ruleOut s).1.2)] w fun e w' => e = .returned (.string ⟨(ruleTextL (ruleOut s).1.1 (ruleOut s).1.2).toArray⟩) ∧ Below w.heap.size w w') := fun w => ruleText_any _ _ (by omega) w
    have HL : Hid (∀ w, Calls Tryz.prog 17 #[.agg (ruleV (ruleOut s).1.1 (ruleOut s).1.2)] w fun e w' => e = .returned (.string ⟨(ruleTextL (ruleOut s).1.1 (ruleOut s).1.2).toArray⟩) ∧ Below w.heap.size w w') := fun w => refRuleText_any _ _ (by omega) w
    clear hk hl
    generalize ruleTextL (ruleOut s).1.1 (ruleOut s).1.2 = tx at *
    generalize (ruleOut s).1.2 = n at *
    generalize (ruleOut s).1.1 = k at *
    generalize (ruleOut s).2.1 = says at *
    generalize (ruleOut s).2.2 = E at *
    have he : ruleEq k n k n = true := ruleEq_iff.2 ⟨rfl, rfl⟩
    go_enter Tryz.func3, Tryz.ntmps3
    go_upto_region 7 with (first
      | (go_at_call 13; refine (ruleAlive_any m _ (by repeat (first | exact hm | apply HasMax.grown | apply HasMax.alloc | apply HasMax.drew)) (by repeat (first | exact htz | apply HasTz.grown | apply HasTz.alloc | apply HasTz.drew)) (by repeat (first | exact hd | apply HasDec.grown | apply HasDec.alloc | apply HasDec.drew))).mono ?_; rintro e w1 ⟨rfl, hb1⟩; obtain ⟨p1, rfl⟩ := grown_of hb1; clear hb1)
      | (go_at_call 14; (with_reducible refine (HP.out _ ?_ ?_ ?_).mono ?_); (exact (by repeat (first | exact hm | apply HasMax.grown | apply HasMax.alloc | apply HasMax.drew))); (exact (by repeat (first | exact htz | apply HasTz.grown | apply HasTz.alloc | apply HasTz.drew))); (exact (by repeat (first | exact hd | apply HasDec.grown | apply HasDec.alloc | apply HasDec.drew))); rintro e w1 ⟨rfl, hb1⟩; obtain ⟨p1, rfl⟩ := grown_of hb1; clear hb1)
      | (go_at_call 15; (with_reducible refine (HQ.out _).mono ?_); rintro e w1 ⟨rfl, hb1⟩; obtain ⟨p1, rfl⟩ := grown_of hb1; clear hb1))
    refine wp_region_quiet_grown (by kernel_rfl) (by kernel_rfl) ?_
    repeat (quiet_step (first | ((go_at_call 16; with_reducible exact quiet_grown (HK.out _))) | ((go_at_call 17; with_reducible exact quiet_grown (HL.out _)))))
    refine wpQuiet_nil ?_; intro _ hw'; obtain ⟨pq, hw''⟩ := hw'; subst hw''
    go_wp2
    go_ret
    exact ⟨by first | rfl | exact ret_bool (by simp), (by repeat (first | exact Below.refl _ _ | assumption | refine below_grown ?_ (by first | omega | (simp [go_sem]; done) | (simp [go_sem] <;> omega)) _ | refine Below.alloc ?_ (by first | omega | (simp [go_sem]; done) | (simp [go_sem] <;> omega)) _ | refine below_bytesW ?_ (by first | omega | (simp [go_sem]; done) | (simp [go_sem] <;> omega)) _ | refine Below.drew ?_ | refine below_drewN ?_ _))⟩
end Go.Proofs.YtlegjkjicdpeeaaGreatDoor
