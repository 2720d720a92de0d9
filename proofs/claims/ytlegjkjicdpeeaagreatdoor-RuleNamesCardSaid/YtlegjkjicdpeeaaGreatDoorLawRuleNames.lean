/- The walk of the statement RuleNames. -/
import Derived.Test.YtlegjkjicdpeeaaGreatDoorRuleFileAll
import Derived.Test.YtlegjkjicdpeeaaGreatDoorLawRuleLines
import Derived.Deep.DeepCutAuto
namespace Go.Proofs.YtlegjkjicdpeeaaGreatDoor
open Go Go.RowKit
set_option maxRecDepth 20000
set_option linter.unusedSimpArgs false
set_option linter.unusedVariables false

def manyA (i : Nat) : UInt8 := UInt8.ofNat (97 + i / 26)
def manyB (i : Nat) : UInt8 := UInt8.ofNat (97 + i % 26)
def manyLine (i : Nat) : List UInt8 := [97, manyA i, manyB i, 10]
def manyL (n : Nat) : List UInt8 := (List.range n).flatMap manyLine
theorem manyL_succ (n : Nat) : manyL (n + 1) = manyL n ++ manyLine n := by
  simp [manyL, List.range_succ]
theorem manyL_len (n : Nat) : (manyL n).length = 4 * n := by
  induction n with
  | zero => rfl
  | succ n ih => rw [manyL_succ, List.length_append, ih]; simp [manyLine]; omega
def exN1 : List UInt8 := [99, 111, 109, 10, 32, 32, 33, 99, 107]
def exN2 : List UInt8 := [99, 111, 109, 10, 10, 47, 47, 120, 10, 99, 111, 109]
set_option maxRecDepth 1000000 in
theorem names_plain : ruleFile exN1 = ([], 51, 2, 3) ∧ ruleFile exN2 = ([], 52, 4, 1) ∧ ruleFile (manyL 201) = ([], 53, 201, 1) ∧ (ruleFile (manyL 200)).2 = (0, 0, 0) ∧ (ruleFile (manyL 200)).1.length = 200 ∧ (manyL 201).take 800 = manyL 200 := by decide +kernel
theorem strOf_two (d e : UInt8) (w : World) (c : Nat) : strOf (w.alloc (Obj.cells #[Value.int IntKind.u8 (d.toNat : Int), Value.int IntKind.u8 (e.toNat : Int)] 5)) (Value.slice (some ⟨w.heap.size, 0, none⟩) 2 c) = some [d, e] :=
  strOf_bytes (l := [d, e]) (fun j h => by
    rw [add_mk, Nat.zero_add, World.cell?_alloc_at _ _ _ _ rfl]
    match j, h with
    | 0, _ => rfl
    | 1, _ => rfl) c
set_option maxRecDepth 100000 in
set_option maxHeartbeats 8000000 in
theorem ruleNames_law (m : Int) (w : World) (hm : HasMax m w) (htz : HasTz w) (hd : HasDec w) :
    Calls Tryz.prog 10 #[] w fun e w' => e = .returned (.bool true) ∧ Below w.heap.size w w' := by
  obtain ⟨r1, r2, r3, r4, r5, r6⟩ := names_plain
  have HF1 : Hid (∀ w, HasMax m w → HasTz w → HasDec w → Calls Tryz.prog 33 #[.string ⟨([99, 111, 109, 10, 32, 32, 33, 99, 107] : List UInt8).toArray⟩] w (GivesF ruleCod [] (51, 2, 3) w)) := fun w a b c => by
    have := ruleFile_any exN1 (by decide) m w a b c
    rw [r1] at this
    exact this
  have HF2 : Hid (∀ w, HasMax m w → HasTz w → HasDec w → Calls Tryz.prog 33 #[.string ⟨([99, 111, 109, 10, 10, 47, 47, 120, 10, 99, 111, 109] : List UInt8).toArray⟩] w (GivesF ruleCod [] (52, 4, 1) w)) := fun w a b c => by
    have := ruleFile_any exN2 (by decide) m w a b c
    rw [r2] at this
    exact this
  have hM : (manyL 201).length = 804 := manyL_len 201
  have HF3 : Hid (∀ w, HasMax m w → HasTz w → HasDec w → Calls Tryz.prog 33 #[.string ⟨(manyL 201).toArray⟩] w (GivesF ruleCod [] (53, 201, 1) w)) := fun w a b c => by
    have := ruleFile_any (manyL 201) (by omega) m w a b c
    rw [r3] at this
    exact this
  have HF4 : Hid (∃ R : List GRule, R.length = 200 ∧ ∀ w, HasMax m w → HasTz w → HasDec w → Calls Tryz.prog 33 #[.string ⟨((manyL 201).take 800).toArray⟩] w (GivesF ruleCod R (0, 0, 0) w)) := ⟨(ruleFile (manyL 200)).1, r5, fun w a b c => by
    have h2 := ruleFile_any (manyL 200) (by rw [manyL_len]; decide) m w a b c
    rw [r4] at h2
    rw [r6]
    exact h2⟩
  clear r1 r2 r3 r4 r5 r6
  have g51 : (Lit.int .i64 51).wf = true := rfl
  have g52 : (Lit.int .i64 52).wf = true := rfl
  have g53 : (Lit.int .i64 53).wf = true := rfl
  have g0 : (Lit.int .i64 0).wf = true := rfl
  have g1 : (Lit.int .i64 1).wf = true := rfl
  have g2 : (Lit.int .i64 2).wf = true := rfl
  have g3 : (Lit.int .i64 3).wf = true := rfl
  have g4 : (Lit.int .i64 4).wf = true := rfl
  have g201 : (Lit.int .i64 201).wf = true := rfl
  go_enter Tryz.func10, Tryz.ntmps10
  go_upto_region 1 with fail
  go_cut [2] (fun s2 wx => ∃ b2 : Nat, s2 = .pointer (some ⟨b2, 0, none⟩) ∧ Below w.heap.size w wx ∧ Var wx b2 (faultR 51 2 3))
  case first =>
    go_wp2_with (go_at_call 33; (with_reducible refine (HF1.out _ ?_ ?_ ?_).mono ?_); (exact (by repeat (first | exact hm | apply HasMax.grown | apply HasMax.alloc | apply HasMax.drew))); (exact (by repeat (first | exact htz | apply HasTz.grown | apply HasTz.alloc | apply HasTz.drew))); (exact (by repeat (first | exact hd | apply HasDec.grown | apply HasDec.alloc | apply HasDec.drew))); intro e w1 hg; obtain ⟨a1, c1, rfl, hc1, hb1, hl1⟩ := hg; obtain ⟨p1, rfl⟩ := grown_of hb1; clear hb1 hl1 hc1)
    go_meet
    exact ⟨_, rfl, (by repeat (first | exact Below.refl _ _ | assumption | refine below_grown ?_ (by first | omega | (simp [go_sem]; done) | (simp [go_sem] <;> omega)) _ | refine Below.alloc ?_ (by first | omega | (simp [go_sem]; done) | (simp [go_sem] <;> omega)) _ | refine below_bytesW ?_ (by first | omega | (simp [go_sem]; done) | (simp [go_sem] <;> omega)) _ | refine Below.drew ?_ | refine below_drewN ?_ _)), Var.new _ _ _ rfl (by simp [go_sem])⟩
  case rest =>
  obtain ⟨b2, rfl, hbw, hv2⟩ := hcut
  have hbsz := hbw.size
  have hm1 := hm.below hbw
  have htz1 := htz.below hbw
  have hd1 := hd.below hbw
  go_upto_region 2 with fail
  go_cut [4] (fun s4 wx => ∃ b4 : Nat, s4 = .pointer (some ⟨b4, 0, none⟩) ∧ Below w.heap.size w wx ∧ Var wx b2 (faultR 51 2 3) ∧ Var wx b4 (faultR 52 4 1))
  case first =>
    have hm := hm1
    have htz := htz1
    have hd := hd1
    go_wp2_with (go_at_call 33; (with_reducible refine (HF2.out _ ?_ ?_ ?_).mono ?_); (exact (by repeat (first | exact hm | apply HasMax.grown | apply HasMax.alloc | apply HasMax.drew))); (exact (by repeat (first | exact htz | apply HasTz.grown | apply HasTz.alloc | apply HasTz.drew))); (exact (by repeat (first | exact hd | apply HasDec.grown | apply HasDec.alloc | apply HasDec.drew))); intro e w1 hg; obtain ⟨a1, c1, rfl, hc1, hb1, hl1⟩ := hg; obtain ⟨p1, rfl⟩ := grown_of hb1; clear hb1 hl1 hc1)
    go_meet
    exact ⟨_, rfl, (by repeat (first | exact Below.refl _ _ | assumption | refine below_grown ?_ (by first | omega | (simp [go_sem]; done) | (simp [go_sem] <;> omega)) _ | refine Below.alloc ?_ (by first | omega | (simp [go_sem]; done) | (simp [go_sem] <;> omega)) _ | refine below_bytesW ?_ (by first | omega | (simp [go_sem]; done) | (simp [go_sem] <;> omega)) _ | refine Below.drew ?_ | refine below_drewN ?_ _)), (hv2.grown _).alloc _, Var.new _ _ _ rfl (by simp [go_sem])⟩
  case rest =>
  clear hbw hbsz hm1 htz1 hd1 hv2
  obtain ⟨b4, rfl, hbw, hv2, hv4⟩ := hcut
  have HBC := Lib.hid hbw
  have HV2 := Lib.hid hv2
  have HV4 := Lib.hid hv4
  have hbsz := hbw.size
  clear hbw hv2 hv4
  go_wp2
  go_loopw [5, 6] (fun many i wr => ∃ k : Nat, k ≤ 201 ∧ i = .int .i64 k ∧ many = .string ⟨(manyL k).toArray⟩ ∧ Below wc.heap.size wc wr) (fun _ i _ => 201 - (intOf i).toNat)
  case atStart => exact ⟨0, Nat.zero_le _, rfl, rfl, Below.refl _ _⟩
  case round =>
    obtain ⟨k, hk, rfl, rfl, hbr⟩ := hrel
    have hrsz := hbr.size
    by_cases hlt : k < 201
    · have hl := manyL_len k
      have hsu := Lib.hid (manyL_succ k)
      have hq : (k : Int).tdiv 26 = ((k / 26 : Nat) : Int) := tdiv_nat k 26
      have hr : (k : Int).tmod 26 = ((k % 26 : Nat) : Int) := tmod_nat k 26
      have hw1 : IntKind.i64.wrap ((k / 26 : Nat) : Int) = ((k / 26 : Nat) : Int) := IntWalk.i64_in _ (by omega)
      have hw2 : IntKind.i64.wrap (97 + ((k / 26 : Nat) : Int)) = 97 + ((k / 26 : Nat) : Int) := IntWalk.i64_in _ (by omega)
      have hw3 : IntKind.i64.wrap (97 + ((k % 26 : Nat) : Int)) = 97 + ((k % 26 : Nat) : Int) := IntWalk.i64_in _ (by omega)
      have hu1 : IntKind.u8.wrap (97 + ((k / 26 : Nat) : Int)) = ((manyA k).toNat : Int) := by
        unfold manyA
        rw [IntWalk.u8_in _ (by omega), UInt8.toNat_ofNat']; omega
      have hu2 : IntKind.u8.wrap (97 + ((k % 26 : Nat) : Int)) = ((manyB k).toNat : Int) := by
        unfold manyB
        rw [IntWalk.u8_in _ (by omega), UInt8.toNat_ofNat']; omega
      have hml : Hid (manyLine k = [97, manyA k, manyB k, 10]) := rfl
      have hso := fun w c => strOf_two (manyA k) (manyB k) w c
      have hsm : (manyL k).length ≤ 1000 := by omega
      clear hl
      generalize manyA k = A at *
      generalize manyB k = B at *
      generalize k / 26 = qq at *
      generalize k % 26 = rr at *
      have n1 : ¬ 9223372036854775807 < (manyL k).length + 4 := by omega
      go_wp2
      go_roundw
      case rel => exact ⟨k + 1, by omega, by go_num, by rw [hsu.out, hml.out], (by repeat (first | exact Below.refl _ _ | assumption | refine below_grown ?_ (by first | omega | (simp [go_sem]; done) | (simp [go_sem] <;> omega)) _ | refine Below.alloc ?_ (by first | omega | (simp [go_sem]; done) | (simp [go_sem] <;> omega)) _ | refine below_bytesW ?_ (by first | omega | (simp [go_sem]; done) | (simp [go_sem] <;> omega)) _ | refine Below.drew ?_ | refine below_drewN ?_ _))⟩
      case measure => simp [intOf]; omega
    · obtain rfl : k = 201 := by omega
      obtain ⟨R, hR, hF4⟩ := HF4.out
      have HF5 := Lib.hid hF4
      clear hF4
      have hM8 : 800 ≤ (manyL 201).length := by omega
      clear hM
      generalize manyL 201 = M at *
      have hbw : Below w.heap.size w wr := HBC.out.trans (hbr.mono (by omega))
      have hv2 : Var wr b2 (faultR 51 2 3) := HV2.out.below hbr
      have hv4 : Var wr b4 (faultR 52 4 1) := HV4.out.below hbr
      have hm1 := hm.below hbw
      have htz1 := htz.below hbw
      have hd1 := hd.below hbw
      clear hbr HBC HV2 HV4 hrsz
      have hrsz := hbw.size
      go_upto_region 8 with fail
      go_cut [8] (fun s8 wx => ∃ b8 : Nat, s8 = .pointer (some ⟨b8, 0, none⟩) ∧ Below w.heap.size w wx ∧ Var wx b2 (faultR 51 2 3) ∧ Var wx b4 (faultR 52 4 1) ∧ Var wx b8 (faultR 53 201 1))
      case first =>
        have hm := hm1
        have htz := htz1
        have hd := hd1
        go_wp2_with (go_at_call 33; (with_reducible refine (HF3.out _ ?_ ?_ ?_).mono ?_); (exact (by repeat (first | exact hm | apply HasMax.grown | apply HasMax.alloc | apply HasMax.drew))); (exact (by repeat (first | exact htz | apply HasTz.grown | apply HasTz.alloc | apply HasTz.drew))); (exact (by repeat (first | exact hd | apply HasDec.grown | apply HasDec.alloc | apply HasDec.drew))); intro e w1 hg; obtain ⟨a1, c1, rfl, hc1, hb1, hl1⟩ := hg; obtain ⟨p1, rfl⟩ := grown_of hb1; clear hb1 hl1 hc1)
        go_meet
        exact ⟨_, rfl, (by repeat (first | exact Below.refl _ _ | assumption | refine below_grown ?_ (by first | omega | (simp [go_sem]; done) | (simp [go_sem] <;> omega)) _ | refine Below.alloc ?_ (by first | omega | (simp [go_sem]; done) | (simp [go_sem] <;> omega)) _ | refine below_bytesW ?_ (by first | omega | (simp [go_sem]; done) | (simp [go_sem] <;> omega)) _ | refine Below.drew ?_ | refine below_drewN ?_ _)), (hv2.grown _).alloc _, (hv4.grown _).alloc _, Var.new _ _ _ rfl (by simp [go_sem])⟩
      case rest =>
      clear hbw hv2 hv4 hm1 htz1 hd1 hrsz hbsz
      obtain ⟨b8, rfl, hbw, hv2, hv4, hv8⟩ := hcut
      have hm1 := hm.below hbw
      have htz1 := htz.below hbw
      have hd1 := hd.below hbw
      have hrsz := hbw.size
      go_upto_region 9 with fail
      go_cut [9, 10] (fun s9 s10 wx => ∃ (a : Option Addr) (c b10 : Nat), s9 = .slice a 200 c ∧ s10 = .pointer (some ⟨b10, 0, none⟩) ∧ Below w.heap.size w wx ∧ Var wx b2 (faultR 51 2 3) ∧ Var wx b4 (faultR 52 4 1) ∧ Var wx b8 (faultR 53 201 1) ∧ Var wx b10 (faultR 0 0 0))
      case first =>
        have hm := hm1
        have htz := htz1
        have hd := hd1
        go_wp2_with (go_at_call 33; (with_reducible refine (HF5.out _ ?_ ?_ ?_).mono ?_); (exact (by repeat (first | exact hm | apply HasMax.grown | apply HasMax.alloc | apply HasMax.drew))); (exact (by repeat (first | exact htz | apply HasTz.grown | apply HasTz.alloc | apply HasTz.drew))); (exact (by repeat (first | exact hd | apply HasDec.grown | apply HasDec.alloc | apply HasDec.drew))); intro e w1 hg; obtain ⟨a1, c1, rfl, hc1, hb1, hl1⟩ := hg; obtain ⟨p1, rfl⟩ := grown_of hb1; clear hb1 hl1 hc1)
        go_meet
        exact ⟨_, _, _, rfl, rfl, (by repeat (first | exact Below.refl _ _ | assumption | refine below_grown ?_ (by first | omega | (simp [go_sem]; done) | (simp [go_sem] <;> omega)) _ | refine Below.alloc ?_ (by first | omega | (simp [go_sem]; done) | (simp [go_sem] <;> omega)) _ | refine below_bytesW ?_ (by first | omega | (simp [go_sem]; done) | (simp [go_sem] <;> omega)) _ | refine Below.drew ?_ | refine below_drewN ?_ _)), (hv2.grown _).alloc _, (hv4.grown _).alloc _, (hv8.grown _).alloc _, Var.new _ _ _ rfl (by simp [go_sem])⟩
      case rest =>
      clear hbw hv2 hv4 hv8 hm1 htz1 hd1 hrsz
      obtain ⟨a, c, b10, rfl, rfl, hbw, hv2, hv4, hv8, hv10⟩ := hcut
      have hm1 := hm.below hbw
      have htz1 := htz.below hbw
      have hd1 := hd.below hbw
      have hrsz := hbw.size
      have hr2 : hasRow wc ⟨b2, 0, none⟩ 3 = true := hv2.hasRow rfl
      have hq2 : rowAt wc ⟨b2, 0, none⟩ 3 = faultV 51 2 3 := hv2.rowAt rfl
      have hi2 : isOld b2 wc = true := isOld_iff.2 hv2.lt
      have hr4 : hasRow wc ⟨b4, 0, none⟩ 3 = true := hv4.hasRow rfl
      have hq4 : rowAt wc ⟨b4, 0, none⟩ 3 = faultV 52 4 1 := hv4.rowAt rfl
      have hi4 : isOld b4 wc = true := isOld_iff.2 hv4.lt
      have hr8 : hasRow wc ⟨b8, 0, none⟩ 3 = true := hv8.hasRow rfl
      have hq8 : rowAt wc ⟨b8, 0, none⟩ 3 = faultV 53 201 1 := hv8.rowAt rfl
      have hi8 : isOld b8 wc = true := isOld_iff.2 hv8.lt
      have hr10 : hasRow wc ⟨b10, 0, none⟩ 3 = true := hv10.hasRow rfl
      have hq10 : rowAt wc ⟨b10, 0, none⟩ 3 = faultV 0 0 0 := hv10.rowAt rfl
      have hi10 : isOld b10 wc = true := isOld_iff.2 hv10.lt
      clear hv2 hv4 hv8 hv10
      have hR2 : ((R.length : Int) == 200) = true := by rw [beq_iff_eq]; omega
      have HAL := Lib.hid (fun w a b c => ruleAlive_any m w a b c)
      clear hR
      go_wp2_with (go_at_call 13; refine (HAL.out _ hm1 htz1 hd1).mono ?_; rintro e w1 ⟨rfl, hb1⟩; obtain ⟨p1, rfl⟩ := grown_of hb1; clear hb1)
      go_ret
      exact ⟨by first | rfl | exact ret_bool (by simp [faultEq]), (by repeat (first | exact Below.refl _ _ | assumption | refine below_grown ?_ (by first | omega | (simp [go_sem]; done) | (simp [go_sem] <;> omega)) _ | refine Below.alloc ?_ (by first | omega | (simp [go_sem]; done) | (simp [go_sem] <;> omega)) _ | refine below_bytesW ?_ (by first | omega | (simp [go_sem]; done) | (simp [go_sem] <;> omega)) _ | refine Below.drew ?_ | refine below_drewN ?_ _))⟩
end Go.Proofs.YtlegjkjicdpeeaaGreatDoor
