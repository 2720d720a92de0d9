/- The walk of the statement TopologyKeeps. -/
import Derived.Test.YthklfbakffaioaaGreatDoorTopoAllB
import Derived.Deep.DeepCutAuto
namespace Go.Proofs.YthklfbakffaioaaGreatDoor
open Go Go.RowKit
set_option maxRecDepth 20000
set_option linter.unusedSimpArgs false
set_option linter.unusedVariables false

theorem parseH_nameT (s : List UInt8) : (parseH s).name.length ≤ 253 := by
  unfold parseH
  split
  · split
    · exact Nat.zero_le _
    · split
      · exact Nat.zero_le _
      · unfold nameH
        split
        · assumption
        · exact Nat.zero_le _
  · exact Nat.zero_le _
theorem rightB_name {h : GHost} (hr : rightB h = true) : h.name.length ≤ 253 := by
  unfold rightB at hr
  rw [Bool.and_eq_true] at hr
  have := (hostEq_iff _ _).1 hr.2
  rw [← this]
  exact parseH_nameT _
theorem rightP_name {p : GPt} (h : rightP p = true) : p.2.1.name.length ≤ 253 := by
  unfold rightP patRight at h
  simp only [Bool.and_eq_true] at h
  exact rightB_name h.1
set_option maxRecDepth 100000 in
set_option maxHeartbeats 8000000 in
theorem topoKeeps_at (s : List UInt8) (hs : ¬ (4000 : Int) < s.length) (m : Int) (w : World) (hm : HasMax m w) (htz : HasTz w) (hd : HasDec w) :
    Calls Tryz.prog 3 #[.string ⟨s.toArray⟩] w fun e w' => e = .returned (.bool true) ∧ Below w.heap.size w w' := by
  have HP : Hid (∀ w, HasMax m w → Calls Tryz.prog 12 #[.string ⟨s.toArray⟩] w (GivesF patCod (topoFile s).1 (topoFile s).2 w)) := fun w a => topoFile_any s (by omega) m w a
  have HQ : Hid (∀ w, HasMax m w → Calls Tryz.prog 12 #[.string ⟨(35 :: 10 :: s).toArray⟩] w (GivesF patCod (topoFile s).1 (upF (topoFile s).2) w)) := fun w a => by
    have := topoFile_any (35 :: 10 :: s) (by simp; omega) m w a
    rw [topoFile_remark s (by omega)] at this
    exact this
  obtain ⟨b1, b2, b3, b4, b5⟩ := topoFile_bd s (by omega)
  obtain ⟨k1, k2⟩ := topoFile_keeps s
  have hft := topoFile_fault s
  have hf1 := wf_smallT ⟨b1.1, by omega⟩
  have hf2 := wf_smallT ⟨b2.1, by omega⟩
  have hf3 := wf_smallT ⟨b3.1, by omega⟩
  obtain ⟨⟨R, fc, fl, fk⟩, hr⟩ : ∃ x, topoFile s = x := ⟨_, rfl⟩
  rw [hr] at HP HQ hf1 hf2 hf3 b2 b4 b5 k1 k2 hft
  dsimp only at HP HQ hf1 hf2 hf3 b2 b4 b5 k1 k2 hft
  have hf2' := wf_smallT (n := fl + 1) ⟨by omega, by omega⟩
  have hwl : IntKind.i64.wrap (fl + 1) = fl + 1 := IntWalk.i64_in _ (by omega)
  clear hr b1 b3
  have g0 : (Lit.int .i64 0).wf = true := rfl
  have HOK := Lib.hid b4
  have HND := Lib.hid k1
  have HRT := Lib.hid k2
  have HFT := Lib.hid hft
  have n1 : ¬ 9223372036854775807 < 2 + s.length := by omega
  have HS := Lib.hid (fun a b ca cb la lb w (h : ListIn patCod w a R la) (h' : ListIn patCod w b R lb) => refSamePt_any R a b ca cb la lb b5 b4 w h h')
  clear b4 k1 k2 hft
  go_enter Tryz.func3, Tryz.ntmps3
  go_upto_region 5 with (go_at_call 11; refine (topoAlive_any m _ (by repeat (first | exact hm | apply HasMax.grown | apply HasMax.alloc | apply HasMax.drew))).mono ?_; rintro e w1 ⟨rfl, hb1⟩; obtain ⟨p1, rfl⟩ := grown_of hb1; clear hb1)
  go_cut [3, 4] (fun s3 s4 wx => ∃ (a : Option Addr) (c b4 lo : Nat), s3 = .slice a R.length c ∧ s4 = .pointer (some ⟨b4, 0, none⟩) ∧ Below w.heap.size w wx ∧ R.length ≤ c ∧ ListIn patCod wx a R lo ∧ Var wx b4 (faultR fc fl fk))
  case first =>
    go_wp2_with (go_at_call 12; (with_reducible refine (HP.out _ ?_).mono ?_); (exact (by repeat (first | exact hm | apply HasMax.grown | apply HasMax.alloc | apply HasMax.drew))); intro e w1 hg; obtain ⟨a1, c1, rfl, hc1, hb1, hl1⟩ := hg; obtain ⟨p1, rfl⟩ := grown_of hb1; clear hb1)
    go_meet
    exact ⟨_, _, _, _, rfl, rfl, (by repeat (first | exact Below.refl _ _ | assumption | refine below_grown ?_ (by first | omega | (simp [go_sem]; done) | (simp [go_sem] <;> omega)) _ | refine Below.alloc ?_ (by first | omega | (simp [go_sem]; done) | (simp [go_sem] <;> omega)) _ | refine below_bytesW ?_ (by first | omega | (simp [go_sem]; done) | (simp [go_sem] <;> omega)) _ | refine Below.drew ?_ | refine below_drewN ?_ _)), hc1, hl1.alloc _, Var.new _ _ _ rfl (by simp [go_sem])⟩
  case rest =>
  obtain ⟨a, c, b4, lo, rfl, rfl, hbw, hc, hin, hv4⟩ := hcut
  have hbsz := hbw.size
  have HBC := Lib.hid hbw
  have HIN := Lib.hid hin
  have HV4 := Lib.hid hv4
  clear hin hv4
  go_wp2
  go_loopw [23] (fun i wr => ∃ k : Nat, k ≤ R.length ∧ i = .int .i64 k ∧ Below wc.heap.size wc wr) (fun i _ => R.length - (intOf i).toNat)
  case atStart => exact ⟨0, Nat.zero_le _, rfl, Below.refl _ _⟩
  case round =>
    obtain ⟨k, hk, rfl, hbr⟩ := hrel
    have hrsz := hbr.size
    have HBR := Lib.hid hbr
    have hbw2 : Below w.heap.size w wr := HBC.out.trans (hbr.mono (by omega))
    have HB2 := Lib.hid hbw2
    by_cases hlt : k < R.length
    · obtain ⟨b1, o1, rfl, _, hlt1, hat1⟩ := HIN.out.resolve_left (fun h => by subst h; exact absurd hlt (Nat.not_lt_zero _))
      obtain ⟨rw1, rq1⟩ := patRow (hat1.below hbr) k hlt
      have HAT := Lib.hid hat1
      have hok := HOK.out _ (List.getElem_mem hlt)
      have hrt := HRT.out _ (List.getElem_mem hlt)
      have hnm := rightP_name hrt
      have hne : ∀ (n : Nat) (hn : n < k), ptB (R[k]'hlt) (R[n]'(by omega)) = false := fun n hn => nodup_pt R HND.out n k hn hlt
      have hkc : (k : Int) ≤ (c : Int) := by omega
      have ho1 : isOld b1 wr = true := isOld_iff.2 (by omega)
      have hi1 : (k : Int) < (R.length : Int) := by omega
      clear hat1 hbr hbw2
      obtain ⟨⟨pw, ph, pp, ps, pa⟩, hp⟩ : ∃ r, R[k]'hlt = r := ⟨_, rfl⟩
      rw [hp] at rq1 hok hrt hnm
      simp only [hp] at hne
      have HNE := Lib.hid hne
      clear hne hp
      unfold ptV at rq1
      dsimp only at rq1 hnm
      have hpa : pa.length ≤ maxLen := by have : pa.length ≤ 2048 := hok; unfold maxLen; omega
      have HRG : Hid (∀ w, HasMax m w → HasTz w → HasDec w → Calls Tryz.prog 13 #[.agg (patV pw ph pp ps pa)] w fun e w' => e = .returned (.bool true) ∧ Below w.heap.size w w') := fun w x y z => by
        have := topoRight_any pw ph pp ps pa (by omega) hpa m w x y z
        rwa [show patRight pw ph pp ps pa = true from hrt] at this
      clear hok hrt hnm
      go_upto_region 9 with fail
      have HB3 : Hid (Below wc.heap.size wc (wr.alloc (Obj.cells (patV pw ph pp ps pa) 34))) := HBR.out.alloc (by omega) _
      have HV6 : Hid (Var (wr.alloc (Obj.cells (patV pw ph pp ps pa) 34)) wr.heap.size (patR pw ph pp ps pa)) := Var.new _ _ _ rfl rfl
      have hsz3 : wr.heap.size + 1 = (wr.alloc (Obj.cells (patV pw ph pp ps pa) 34)).heap.size := by simp
      generalize (wr.alloc (Obj.cells (patV pw ph pp ps pa) 34)) = w3 at *
      have hr6 : hasRow w3 ⟨wr.heap.size, 0, none⟩ 22 = true := HV6.out.hasRow (patR_length _ _ _ _ _)
      have hq6 : rowAt w3 ⟨wr.heap.size, 0, none⟩ 22 = patV pw ph pp ps pa := HV6.out.rowAt (patR_length _ _ _ _ _)
      have hi6 : isOld wr.heap.size w3 = true := isOld_iff.2 (by omega)
      have hB3 : Below w.heap.size w w3 := HBC.out.trans (HB3.out.mono (by omega))
      have hm1 := hm.below hB3
      have htz1 := htz.below hB3
      have hd1 := hd.below hB3
      clear rw1 rq1 ho1
      go_upto_region 12 with (go_at_call 13; (with_reducible refine (HRG.out _ hm1 htz1 hd1).mono ?_); intro e w4 he; obtain ⟨rfl, hb4⟩ := he; have HB4 := Lib.hid hb4; clear hb4)
      have hs4 := HB4.out.size
      have HB5 : Hid (Below wc.heap.size wc w4) := HB3.out.trans (HB4.out.mono (by have := HB3.out.size; omega))
      have HV64 : Hid (Var w4 wr.heap.size (patR pw ph pp ps pa)) := HV6.out.below HB4.out
      clear hr6 hq6 hi6 hB3 hm1 htz1 hd1
      go_wp2
      go_loopw [35] (fun j wr' => ∃ n : Nat, n ≤ k ∧ j = .int .i64 n ∧ Below w4.heap.size w4 wr') (fun j _ => k - (intOf j).toNat)
      case atStart => exact ⟨0, Nat.zero_le _, rfl, Below.refl _ _⟩
      case round =>
        obtain ⟨n, hn, rfl, hb'⟩ := hrel
        have hsz4 := hb'.size
        have hv6 := HV64.out.below hb'
        have hB4 : Below wc.heap.size wc wr := HB5.out.trans (hb'.mono (by have := HB5.out.size; omega))
        by_cases hnl : n < k
        · obtain ⟨rw2, rq2⟩ := patRow (HAT.out.below hB4) n (by omega)
          have hok2 := HOK.out _ (List.getElem_mem (show n < R.length by omega))
          have hne2 := HNE.out n hnl
          obtain ⟨⟨qw, qh, qp, qs, qa⟩, hp⟩ : ∃ r, R[n]'(by omega) = r := ⟨_, rfl⟩
          rw [hp] at rq2 hok2
          simp only [hp] at hne2
          clear hp
          unfold ptV at rq2
          dsimp only at rq2
          have he2 : patEq pw ph pp ps pa qw qh qp qs qa = false := hne2
          have hqa : qa.length ≤ maxLen := by have : qa.length ≤ 2048 := hok2; unfold maxLen; omega
          have hr6 : hasRow wr ⟨_, 0, none⟩ 22 = true := hv6.hasRow (patR_length _ _ _ _ _)
          have hq6 : rowAt wr ⟨_, 0, none⟩ 22 = patV pw ph pp ps pa := hv6.rowAt (patR_length _ _ _ _ _)
          have hi6 := isOld_iff.2 hv6.lt
          have hi1' : isOld b1 wr = true := isOld_iff.2 (by omega)
          clear hok2 hv6 hne2
          go_wp2
          go_roundw
          case rel => exact ⟨n + 1, by omega, by go_num, (by repeat (first | exact Below.refl _ _ | assumption | refine below_grown ?_ (by first | omega | (simp [go_sem]; done) | (simp [go_sem] <;> omega)) _ | refine Below.alloc ?_ (by first | omega | (simp [go_sem]; done) | (simp [go_sem] <;> omega)) _ | refine below_bytesW ?_ (by first | omega | (simp [go_sem]; done) | (simp [go_sem] <;> omega)) _ | refine Below.drew ?_ | refine below_drewN ?_ _))⟩
          case measure => simp [intOf]; omega
        · obtain rfl : n = k := by omega
          clear hv6 hb'
          have hwsz := hB4.size
          go_wp2
          go_roundw
          case rel => first | exact ⟨n + 1, by omega, by go_num, (by repeat (first | exact Below.refl _ _ | assumption | refine below_grown ?_ (by first | omega | (simp [go_sem]; done) | (simp [go_sem] <;> omega)) _ | refine Below.alloc ?_ (by first | omega | (simp [go_sem]; done) | (simp [go_sem] <;> omega)) _ | refine below_bytesW ?_ (by first | omega | (simp [go_sem]; done) | (simp [go_sem] <;> omega)) _ | refine Below.drew ?_ | refine below_drewN ?_ _))⟩ | exact ⟨⟨n + 1, by omega, by go_num, (by repeat (first | exact Below.refl _ _ | assumption | refine below_grown ?_ (by first | omega | (simp [go_sem]; done) | (simp [go_sem] <;> omega)) _ | refine Below.alloc ?_ (by first | omega | (simp [go_sem]; done) | (simp [go_sem] <;> omega)) _ | refine below_bytesW ?_ (by first | omega | (simp [go_sem]; done) | (simp [go_sem] <;> omega)) _ | refine Below.drew ?_ | refine below_drewN ?_ _))⟩, rfl⟩ | ((repeat apply Exists.intro); exact ⟨⟨n + 1, by omega, by go_num, (by repeat (first | exact Below.refl _ _ | assumption | refine below_grown ?_ (by first | omega | (simp [go_sem]; done) | (simp [go_sem] <;> omega)) _ | refine Below.alloc ?_ (by first | omega | (simp [go_sem]; done) | (simp [go_sem] <;> omega)) _ | refine below_bytesW ?_ (by first | omega | (simp [go_sem]; done) | (simp [go_sem] <;> omega)) _ | refine Below.drew ?_ | refine below_drewN ?_ _))⟩, rfl⟩)
          case measure => simp [intOf]; omega
    · obtain rfl : k = R.length := by omega
      have hv4 := HV4.out.below hbr
      have hw2sz := hbw2.size
      have hm1 := hm.below hbw2
      have HIN2 : Hid (ListIn patCod wr a R lo) := HIN.out.below hbr
      have hin2 := HIN2.out
      have hr4 : hasRow wr ⟨b4, 0, none⟩ 3 = true := hv4.hasRow rfl
      have hq4 : rowAt wr ⟨b4, 0, none⟩ 3 = faultV fc fl fk := hv4.rowAt rfl
      have hc4 : wr.cell? ⟨b4, 0, none⟩ = some (.int .i64 fc) := hv4.cell 0 (by simp [faultR])
      have hc41 : wr.cell? ⟨b4, 1, none⟩ = some (.int .i64 fl) := hv4.cell 1 (by simp [faultR])
      have hc42 : wr.cell? ⟨b4, 2, none⟩ = some (.int .i64 fk) := hv4.cell 2 (by simp [faultR])
      have hi4 := isOld_iff.2 hv4.lt
      clear hbr HBR HB2 HIN HOK HND HRT hv4
      have hm := hm1
      rcases HFT.out with h0 | ⟨rfl, hne⟩
      · obtain ⟨z1, z0⟩ := Prod.mk.inj h0
        obtain ⟨z2, z3⟩ := Prod.mk.inj z0
        clear h0 z0
        subst z1
        subst z2
        subst z3
        have e0 : upF ((0, 0, 0) : GFl) = (0, 0, 0) := rfl
        rw [e0] at HQ
        have he0 : faultEq 0 0 0 0 0 0 = true := rfl
        have hl12 : (R.length : Int) ≤ 12 := by omega
        clear HFT HP
        go_wp2_with (first
          | (go_at_call 12; (with_reducible refine (HQ.out _ ?_).mono ?_); (exact (by repeat (first | exact hm | apply HasMax.grown | apply HasMax.alloc | apply HasMax.drew))); intro e w1 hg; obtain ⟨a2, c2, rfl, hc2, hb1, hl2⟩ := hg; obtain ⟨p1, rfl⟩ := grown_of hb1; clear hb1)
          | (go_at_call 14; refine (HS.out _ _ _ _ _ _ _ (by repeat (first | (with_reducible exact hin2) | (with_reducible exact hl2) | (with_reducible apply ListIn.grown) | (with_reducible apply ListIn.alloc))) (by repeat (first | (with_reducible exact hl2) | (with_reducible exact hin2) | (with_reducible apply ListIn.grown) | (with_reducible apply ListIn.alloc)))).mono ?_; rintro e w1 ⟨rfl, hb1⟩; obtain ⟨p1, rfl⟩ := grown_of hb1; clear hb1))
        go_ret
        exact ⟨by first | rfl | exact ret_bool (by simp), (by repeat (first | exact Below.refl _ _ | assumption | refine below_grown ?_ (by first | omega | (simp [go_sem]; done) | (simp [go_sem] <;> omega)) _ | refine Below.alloc ?_ (by first | omega | (simp [go_sem]; done) | (simp [go_sem] <;> omega)) _ | refine below_bytesW ?_ (by first | omega | (simp [go_sem]; done) | (simp [go_sem] <;> omega)) _ | refine Below.drew ?_ | refine below_drewN ?_ _))⟩
      · have e0 : upF ((fc, fl, fk) : GFl) = (fc, fl + 1, fk) := if_neg hne
        rw [e0] at HQ
        have hne1 : (fc != 0) = true := by rw [bne_iff_ne]; exact hne
        have he0 : faultEq fc (fl + 1) fk fc (fl + 1) fk = true := faultEq_iff.2 ⟨rfl, rfl, rfl⟩
        clear HFT HP hne HS
        go_wp2_with (go_at_call 12; (with_reducible refine (HQ.out _ ?_).mono ?_); (exact (by repeat (first | exact hm | apply HasMax.grown | apply HasMax.alloc | apply HasMax.drew))); intro e w1 hg; obtain ⟨a2, c2, rfl, hc2, hb1, hl2⟩ := hg; obtain ⟨p1, rfl⟩ := grown_of hb1; clear hb1)
        go_ret
        exact ⟨by first | rfl | exact ret_bool (by simp), (by repeat (first | exact Below.refl _ _ | assumption | refine below_grown ?_ (by first | omega | (simp [go_sem]; done) | (simp [go_sem] <;> omega)) _ | refine Below.alloc ?_ (by first | omega | (simp [go_sem]; done) | (simp [go_sem] <;> omega)) _ | refine below_bytesW ?_ (by first | omega | (simp [go_sem]; done) | (simp [go_sem] <;> omega)) _ | refine Below.drew ?_ | refine below_drewN ?_ _))⟩
set_option maxHeartbeats 1000000 in
theorem topoKeeps_law (s : List UInt8) (m : Int) (w : World) (hm : HasMax m w) (htz : HasTz w) (hd : HasDec w) :
    Calls Tryz.prog 3 #[.string ⟨s.toArray⟩] w fun e w' => e = .returned (.bool true) ∧ Below w.heap.size w w' := by
  by_cases h1 : (4000 : Int) < s.length
  · go_enter Tryz.func3, Tryz.ntmps3
    go_wp2_with (go_at_call 11; refine (topoAlive_any m _ (by repeat (first | exact hm | apply HasMax.grown | apply HasMax.alloc | apply HasMax.drew))).mono ?_; rintro e w1 ⟨rfl, hb1⟩; obtain ⟨p1, rfl⟩ := grown_of hb1; clear hb1)
    go_ret
    exact ⟨rfl, (by repeat (first | exact Below.refl _ _ | assumption | refine below_grown ?_ (by first | omega | (simp [go_sem]; done) | (simp [go_sem] <;> omega)) _ | refine Below.alloc ?_ (by first | omega | (simp [go_sem]; done) | (simp [go_sem] <;> omega)) _ | refine below_bytesW ?_ (by first | omega | (simp [go_sem]; done) | (simp [go_sem] <;> omega)) _ | refine Below.drew ?_ | refine below_drewN ?_ _))⟩
  · exact topoKeeps_at s h1 m w hm htz hd
end Go.Proofs.YthklfbakffaioaaGreatDoor
