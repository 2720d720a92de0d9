/- Merged: LawTplKeeps. -/
import Derived.Test.YtnkckejbkbbdlaaGreatDoorTmL
import Derived.Deep.DeepCutAuto
import Derived.BigQuiet
namespace Go.Proofs.YtnkckejbkbbdlaaGreatDoor
section
open Go Go.RowKit
set_option maxRecDepth 20000
set_option linter.unusedSimpArgs false
set_option linter.unusedVariables false

def opn (s : List UInt8) (k : Nat) : Bool := (s.take k).any (fun c => ((c.toNat : Int) == 123))
theorem opn_succ (s : List UInt8) (k : Nat) (h : k < s.length) : opn s (k + 1) = (opn s k || (((s[k]'h).toNat : Int) == 123)) := by
  unfold opn
  rw [List.take_succ_eq_append_getElem h, List.any_append]; simp
theorem opn_all {s : List UInt8} (h : opn s s.length = false) : (123 : UInt8) ∉ s := fun hm => by
  unfold opn at h
  rw [List.take_length, List.any_eq_false] at h
  have := h _ hm
  simp at this
set_option maxRecDepth 100000 in
set_option maxHeartbeats 8000000 in
theorem tplKeeps_law (s : List UInt8) (m : Int) (w : World) (hm : HasMax m w) :
    Calls Tryz.prog 5 #[.string ⟨s.toArray⟩] w fun e w' => e = .returned (.bool true) ∧ Below w.heap.size w w' := by
  have HAL : Hid (∀ w', HasMax m w' → Calls Tryz.prog 9 #[] w' fun e w'' => e = .returned (.bool true) ∧ Below w'.heap.size w' w'') := fun w' h => tplAlive_any m w' h
  by_cases hlong : (3000 : Int) < s.length
  · go_enter Tryz.func5, Tryz.ntmps5
    go_wp2_with (go_at_call 9; (with_reducible refine (HAL.out _ hm).mono ?_); rintro e w1 ⟨rfl, hb1⟩; obtain ⟨p1, rfl⟩ := grown_of hb1; clear hb1)
    go_ret
    exact ⟨rfl, (by repeat (first | exact Below.refl _ _ | assumption | refine below_grown ?_ (by first | omega | (simp [go_sem]; done) | (simp [go_sem] <;> omega)) _ | refine Below.alloc ?_ (by first | omega | (simp [go_sem]; done) | (simp [go_sem] <;> omega)) _ | refine below_bytesW ?_ (by first | omega | (simp [go_sem]; done) | (simp [go_sem] <;> omega)) _ | refine Below.drew ?_ | refine below_drewN ?_ _))⟩
  · have hs : s.length ≤ 3000 := by omega
    have HF : Hid (∀ w, HasMax m w → Calls Tryz.prog 8 #[.string ⟨s.toArray⟩] w (FileGives (tplFile s) w)) := fun w a => tplFile_any s m w a
    have hkeep := tplFile_keeps s
    generalize tplFile s = out at *
    obtain ⟨T, C, fc, fl, fk⟩ := out
    dsimp only at hkeep
    rcases hkeep with ⟨rfl, hO, hL⟩ | ⟨h0, rfl, rfl, h1, h2⟩
    · obtain ⟨hT8, hC6, hTx, hCv⟩ := hO
      obtain ⟨hLv, hLt, hLp⟩ := hL
      have HI : Hid (∀ (R : List RCh) (a : Option Addr) (cap : Nat) (t : GTpl) (w' : World), t ∈ T → R.length = C.length → HasMax m w' → ListIn chCod w' a R 0 → ChsOk w' 0 R C → Calls Tryz.prog 12 #[.agg (tpV t), .slice a C.length cap] w' (Gives strCod (instT C t.text) w')) := fun R a cap t w' ht h0 h1 h2 h3 => by
        rw [← h0]
        exact inst_any C R (by omega) (fun c hc => ⟨by have := (hCv c hc).1; omega, fun x hx => by have := (hCv c hc).2 x hx; omega⟩) a cap t (by have := hTx t ht; omega) m w' h1 h2 h3
      have HFINE : Hid (∀ t ∈ T, 1 ≤ (instT C t.text).length ∧ (instT C t.text).length ≤ 24 ∧ (opn t.text t.text.length = false → instT C t.text = [t.text])) := fun t ht => by
        obtain ⟨e1, _, _⟩ := hLt t ht
        obtain ⟨_, _, _, g3, g4⟩ := inst_fine e1 hLv
        exact ⟨g3, g4, fun h => inst_plain (opn_all h) (textE_len (opn_all h) e1)⟩
      have HLP : Hid (∀ i j (hi : i < T.length) (hj : j < T.length), i < j → (T[i]'hi).line < (T[j]'hj).line) := fun i j hi hj hij => List.pairwise_iff_getElem.1 hLp i j hi hj hij
      have HTX := Lib.hid hTx
      clear hLp hLt hLv hTx hCv hlong
      have hT8i : (T.length : Int) ≤ 8 := by omega
      have hC6i : (C.length : Int) ≤ 6 := by omega
      go_enter Tryz.func5, Tryz.ntmps5
      go_upto_region 6 with (first
        | (go_at_call 9; (with_reducible refine (HAL.out _ hm).mono ?_); rintro e w1 ⟨rfl, hb1⟩; obtain ⟨p1, rfl⟩ := grown_of hb1; clear hb1)
        | (go_at_call 8; (with_reducible refine (HF.out _ (hm.grown p1)).mono ?_); rintro e w1 ⟨aT, cT, aC, cC, R, rfl, hcT, hcC, hb1, hlT, hlC, hCs⟩; have HB1 := Lib.hid hb1; have HLT := Lib.hid (hlT.mono (Nat.zero_le _)); have HLC := Lib.hid (hlC.mono (Nat.zero_le _)); have HCS := Lib.hid (hCs.mono (Nat.zero_le _)); clear hb1 hlT hlC hCs))
      have hs1 := HB1.out.size
      rw [size_grown] at hs1
      have HBW : Hid (Below w.heap.size w (w1.alloc (Obj.cells (faultV 0 fl fk) 24))) := ((below_grown' w p1).trans (HB1.out.mono (by rw [size_grown]; omega))).alloc (by omega) _
      have HV : Hid (Var (w1.alloc (Obj.cells (faultV 0 fl fk) 24)) w1.heap.size (faultR 0 fl fk)) := Var.new _ _ _ rfl rfl
      have HLT2 := Lib.hid (HLT.out.alloc (Obj.cells (faultV 0 fl fk) 24))
      have HLC2 := Lib.hid (HLC.out.alloc (Obj.cells (faultV 0 fl fk) 24))
      have HCS2 : Hid (ChsOk (w1.alloc (Obj.cells (faultV 0 fl fk) 24)) 0 R C) := HCS.out.below ((Below.refl _ _).alloc (Nat.le_refl _) _)
      have hRC := HCS.out.1
      generalize w1.alloc (Obj.cells (faultV 0 fl fk) 24) = w2 at *
      have c50 : w2.cell? ⟨w1.heap.size, 0, none⟩ = some (.int .i64 0) := HV.out.cell 0 (by simp [faultR])
      have hsz2 := HBW.out.size
      clear HLT HLC HCS HF HAL HB1
      go_wp2
      go_loopw [45] (fun i wr => ∃ k : Nat, k ≤ T.length ∧ i = .int .i64 k ∧ Below w2.heap.size w2 wr) (fun i _ => T.length - (intOf i).toNat)
      case atStart => exact ⟨0, Nat.zero_le _, rfl, Below.refl _ _⟩
      case round =>
        obtain ⟨k, hk, rfl, hbr⟩ := hrel
        have hszr := hbr.size
        have HBR := Lib.hid hbr
        clear hbr
        by_cases hlt : k < T.length
        · obtain ⟨b1, o1, rfl, _, hhi1, hat1⟩ := HLT2.out.resolve_left (fun h => by subst h; exact absurd hlt (Nat.not_lt_zero _))
          have HAT := Lib.hid hat1
          obtain ⟨r1, q1⟩ := tpRow (hat1.below HBR.out) k hlt
          obtain ⟨f1, f2, f3⟩ := HFINE.out _ (List.getElem_mem hlt)
          have hxl := HTX.out _ (List.getElem_mem hlt)
          have HIN := Lib.hid (fun R a cap w' => HI.out R a cap _ w' (List.getElem_mem hlt))
          have HPREV : Hid (∀ (h : 0 < k) W, Below wr.heap.size wr W → ∃ z : Int, W.cell? ⟨b1, o1 + (k - 1) * 24 + 23, none⟩ = some (.int .i64 z) ∧ z < (T[k]'hlt).line) := fun h W hW => by
            have hk1 : k - 1 < T.length := by omega
            refine ⟨(T[k - 1]'hk1).line, ?_, HLP.out _ _ hk1 hlt (by omega)⟩
            have hc := ((hat1.below HBR.out).below hW).get (k - 1) hk1 23 _ (by
              show (tpR (T[k - 1]'hk1))[23]? = some (.int .i64 (T[k - 1]'hk1).line)
              have := tpV_23 (T[k - 1]'hk1)
              rwa [tpV, List.getElem?_toArray] at this)
            rwa [show o1 + ((k - 1) * tpCod.sz + 23) = o1 + (k - 1) * 24 + 23 by show o1 + ((k - 1) * 24 + 23) = _; omega] at hc
          have hki : (k : Int) < (T.length : Int) := by omega
          have ib1 : isOld b1 wr = true := isOld_iff.2 (by omega)
          clear hat1
          generalize T[k]'hlt = t at *
          obtain ⟨I, hI⟩ : ∃ I, instT C t.text = I := ⟨_, rfl⟩
          rw [hI] at f1 f2 f3 HIN
          have HFF := Lib.hid f3
          clear hI f3
          go_upto_region 11 with fail
          obtain ⟨w4, hw4⟩ : ∃ w4, wr.alloc (Obj.cells (tpV t) 41) = w4 := ⟨_, rfl⟩
          have HB4 : Hid (Below wr.heap.size wr w4) := by rw [← hw4]; exact (Below.refl _ _).alloc (Nat.le_refl _) _
          have HV4 : Hid (Var w4 wr.heap.size (tpR t)) := by rw [← hw4]; exact Var.new _ _ _ rfl rfl
          rw [hw4]
          clear hw4
          obtain ⟨bt, hbt⟩ : ∃ bt, wr.heap.size = bt := ⟨_, rfl⟩
          have HBT := Lib.hid hbt
          rw [hbt] at HV4
          simp only [hbt]
          clear hbt
          have hs4 := HB4.out.size
          have HB24 : Hid (Below w2.heap.size w2 w4) := HBR.out.trans (HB4.out.mono hszr)
          have e1 : hasRow w4 ⟨bt, 0, none⟩ 24 = true := HV4.out.hasRow (tpR_length _)
          have e2 : rowAt w4 ⟨bt, 0, none⟩ 24 = tpV t := HV4.out.rowAt (tpR_length _)
          have hm4 := hm.below (HBW.out.trans (HB24.out.mono hsz2))
          clear r1 q1 ib1
          go_upto_region 12 with (go_at_call 12; (with_reducible refine (HIN.out R _ _ _ hRC hm4 (HLC2.out.below HB24.out) (HCS2.out.below HB24.out)).mono ?_); rintro e w5 ⟨aI, cI, rfl, hcI, hb5, hlI⟩; have HB5 := Lib.hid hb5; have HLI := Lib.hid (hlI.mono (Nat.zero_le _)); clear hb5 hlI)
          have hs5 := HB5.out.size
          have HB25 : Hid (Below w2.heap.size w2 w5) := HB24.out.trans (HB5.out.mono (by omega))
          have HV5 := Lib.hid (HV4.out.below HB5.out)
          have e3 : w5.cell? ⟨bt, 22, none⟩ = some (.string ⟨t.text.toArray⟩) := by
            obtain ⟨t', h⟩ := HV5.out
            simp only [World.cell?, h]
            exact tpV_22 t
          have e4 : w5.cell? ⟨bt, 23, none⟩ = some (.int .i64 t.line) := by
            obtain ⟨t', h⟩ := HV5.out
            simp only [World.cell?, h]
            exact tpV_23 t
          have hbt5 := HV5.out.lt
          have hP5 : Hid (∀ (h : 0 < k), ∃ z : Int, w5.cell? ⟨b1, o1 + (k - 1) * 24 + 23, none⟩ = some (.int .i64 z) ∧ z < t.line) := fun h => HPREV.out h _ (HB4.out.trans (HB5.out.mono hs4))
          clear e1 e2 hm4 HIN HPREV HV4
          go_wp2
          have HOS := Lib.hid (opn_succ t.text)
          go_loop [9, 10] (fun o i => ∃ j : Nat, j ≤ t.text.length ∧ i = .int .i64 j ∧ o = .bool (opn t.text j)) (fun _ i => t.text.length - (intOf i).toNat)
          case atStart => exact ⟨0, Nat.zero_le _, rfl, rfl⟩
          case round =>
            obtain ⟨j, hj, rfl, rfl⟩ := hrel
            by_cases hjl : j < t.text.length
            · have hji : (j : Int) < (t.text.length : Int) := by omega
              have hos := HOS.out j hjl
              have HO2 := Lib.hid hos
              clear hos
              generalize opn t.text j = o1' at *
              cases o1'
              · go_wp2
                go_round
                case rel => exact ⟨j + 1, by omega, by go_num, by rw [HO2.out]; simp⟩
                case measure => simp [intOf]; omega
              · go_wp2
                go_round
                case rel => exact ⟨j + 1, by omega, by go_num, by rw [HO2.out]; simp⟩
                case measure => simp [intOf]; omega
            · obtain rfl : j = t.text.length := by omega
              clear HOS
              generalize opn t.text t.text.length = op at *
              generalize t.text = tx at *
              generalize t.line = ln at *
              have i1 : decide ((I.length : Int) < 1) = false := decide_eq_false (by omega)
              have i2 : decide ((24 : Int) < (I.length : Int)) = false := decide_eq_false (by omega)
              have HFIN : Hid (Below w2.heap.size w2 w5) := HB25.out
              have hbi1 : isOld b1 w5 = true := isOld_iff.2 (by omega)
              have hbit : isOld bt w5 = true := isOld_iff.2 hbt5
              have hw51 : w2.heap.size ≤ w5.heap.size := HB25.out.size
              by_cases hk0 : k = 0
              · subst hk0
                clear hP5
                cases op
                · have hI1 := HFF.out rfl
                  subst hI1
                  obtain ⟨gI, oI, rfl, _, hgI, hatI⟩ := HLI.out.resolve_left (fun h => by cases h)
                  have e5 := strAt hatI 0 (by simp)
                  rw [Nat.add_zero] at e5
                  dsimp only [List.getElem_cons_zero] at e5
                  have hbiI : isOld gI w5 = true := isOld_iff.2 hgI
                  clear hatI i1 i2 f1 f2
                  go_upto_region 17 with fail
                  go_big_quiet (fail)
                  go_wp2
                  go_roundw
                  case rel => exact ⟨0 + 1, by omega, by go_num, by have hb3 := HFIN.out; exact (by repeat (first | exact Below.refl _ _ | assumption | refine below_grown ?_ (by first | omega | (simp [go_sem]; done) | (simp [go_sem] <;> omega)) _ | refine Below.alloc ?_ (by first | omega | (simp [go_sem]; done) | (simp [go_sem] <;> omega)) _ | refine below_bytesW ?_ (by first | omega | (simp [go_sem]; done) | (simp [go_sem] <;> omega)) _ | refine Below.drew ?_ | refine below_drewN ?_ _))⟩
                  case measure => simp [intOf]; omega
                · go_upto_region 17 with fail
                  go_big_quiet (fail)
                  go_wp2
                  go_roundw
                  case rel => exact ⟨0 + 1, by omega, by go_num, by have hb3 := HFIN.out; exact (by repeat (first | exact Below.refl _ _ | assumption | refine below_grown ?_ (by first | omega | (simp [go_sem]; done) | (simp [go_sem] <;> omega)) _ | refine Below.alloc ?_ (by first | omega | (simp [go_sem]; done) | (simp [go_sem] <;> omega)) _ | refine below_bytesW ?_ (by first | omega | (simp [go_sem]; done) | (simp [go_sem] <;> omega)) _ | refine Below.drew ?_ | refine below_drewN ?_ _))⟩
                  case measure => simp [intOf]; omega
              · obtain ⟨z, e6, hz⟩ := hP5.out (by omega)
                have hkp : (0 : Int) < (k : Int) := by omega
                have hkp2 : 0 < k := by omega
                have hkw : IntKind.i64.wrap ((k : Int) - 1) = ((k - 1 : Nat) : Int) := by rw [IntWalk.i64_in _ (by omega)]; omega
                have hk1 : ((k - 1 : Nat) : Int) < (T.length : Int) := by omega
                have hz2 : decide (ln ≤ z) = false := decide_eq_false (by omega)
                clear hP5 hk0
                obtain ⟨k', hk'⟩ : ∃ k', k - 1 = k' := ⟨_, rfl⟩
                rw [hk'] at e6 hkw hk1
                have HKK := Lib.hid hk'
                clear hk'
                cases op
                · have hI1 := HFF.out rfl
                  subst hI1
                  obtain ⟨gI, oI, rfl, _, hgI, hatI⟩ := HLI.out.resolve_left (fun h => by cases h)
                  have e5 := strAt hatI 0 (by simp)
                  rw [Nat.add_zero] at e5
                  dsimp only [List.getElem_cons_zero] at e5
                  have hbiI : isOld gI w5 = true := isOld_iff.2 hgI
                  clear hatI i1 i2 f1 f2
                  go_upto_region 17 with fail
                  go_big_quiet (fail)
                  go_wp2
                  go_roundw
                  case rel => exact ⟨k + 1, by omega, by go_num, by have hb3 := HFIN.out; exact (by repeat (first | exact Below.refl _ _ | assumption | refine below_grown ?_ (by first | omega | (simp [go_sem]; done) | (simp [go_sem] <;> omega)) _ | refine Below.alloc ?_ (by first | omega | (simp [go_sem]; done) | (simp [go_sem] <;> omega)) _ | refine below_bytesW ?_ (by first | omega | (simp [go_sem]; done) | (simp [go_sem] <;> omega)) _ | refine Below.drew ?_ | refine below_drewN ?_ _))⟩
                  case measure => simp [intOf]; omega
                · go_upto_region 17 with fail
                  go_big_quiet (fail)
                  go_wp2
                  go_roundw
                  case rel => exact ⟨k + 1, by omega, by go_num, by have hb3 := HFIN.out; exact (by repeat (first | exact Below.refl _ _ | assumption | refine below_grown ?_ (by first | omega | (simp [go_sem]; done) | (simp [go_sem] <;> omega)) _ | refine Below.alloc ?_ (by first | omega | (simp [go_sem]; done) | (simp [go_sem] <;> omega)) _ | refine below_bytesW ?_ (by first | omega | (simp [go_sem]; done) | (simp [go_sem] <;> omega)) _ | refine Below.drew ?_ | refine below_drewN ?_ _))⟩
                  case measure => simp [intOf]; omega
        · obtain rfl : k = T.length := by omega
          go_wp2
          go_ret
          exact ⟨by first | rfl | exact ret_bool (by simp), HBW.out.trans (HBR.out.mono hsz2)⟩
    · have h0i : (fc != 0) = true := by rw [bne_iff_ne]; exact h0
      go_enter Tryz.func5, Tryz.ntmps5
      go_upto_region 6 with (first
        | (go_at_call 9; (with_reducible refine (HAL.out _ hm).mono ?_); rintro e w1 ⟨rfl, hb1⟩; obtain ⟨p1, rfl⟩ := grown_of hb1; clear hb1)
        | (go_at_call 8; (with_reducible refine (HF.out _ (hm.grown p1)).mono ?_); rintro e w1 ⟨aT, cT, aC, cC, R, rfl, hcT, hcC, hb1, hlT, hlC, hCs⟩; have HB1 := Lib.hid hb1; clear hb1 hlT hlC hCs))
      have hs1 := HB1.out.size
      rw [size_grown] at hs1
      have HBW : Hid (Below w.heap.size w (w1.alloc (Obj.cells (faultV fc fl fk) 24))) := ((below_grown' w p1).trans (HB1.out.mono (by rw [size_grown]; omega))).alloc (by omega) _
      have HV : Hid (Var (w1.alloc (Obj.cells (faultV fc fl fk) 24)) w1.heap.size (faultR fc fl fk)) := Var.new _ _ _ rfl rfl
      generalize w1.alloc (Obj.cells (faultV fc fl fk) 24) = w2 at *
      have c50 : w2.cell? ⟨w1.heap.size, 0, none⟩ = some (.int .i64 fc) := HV.out.cell 0 (by simp [faultR])
      have c51 : w2.cell? ⟨w1.heap.size, 1, none⟩ = some (.int .i64 fl) := HV.out.cell 1 (by simp [faultR])
      have c52 : w2.cell? ⟨w1.heap.size, 2, none⟩ = some (.int .i64 fk) := HV.out.cell 2 (by simp [faultR])
      go_wp2
      go_ret
      exact ⟨by first | rfl | exact ret_bool (by simp), HBW.out⟩
end
end Go.Proofs.YtnkckejbkbbdlaaGreatDoor
