/- Merged: LawTplReads. -/
import Derived.Test.YtnkckejbkbbdlaaGreatDoorTmL
import Derived.Test.YtnkckejbkbbdlaaGreatDoorLRmP
import Derived.Test.YtnkckejbkbbdlaaGreatDoorLRb
import Derived.Deep.DeepCutAuto
namespace Go.Proofs.YtnkckejbkbbdlaaGreatDoor
section
open Go Go.RowKit
set_option maxRecDepth 20000
set_option linter.unusedSimpArgs false
set_option linter.unusedVariables false

set_option maxRecDepth 100000 in
set_option maxHeartbeats 8000000 in
theorem tplReads_law (s : List UInt8) (m : Int) (w : World) (hm : HasMax m w) :
    Calls Tryz.prog 4 #[.string ⟨s.toArray⟩] w fun e w' => e = .returned (.bool true) ∧ Below w.heap.size w w' := by
  have HAL : Hid (∀ w', HasMax m w' → Calls Tryz.prog 9 #[] w' fun e w'' => e = .returned (.bool true) ∧ Below w'.heap.size w' w'') := fun w' h => tplAlive_any m w' h
  by_cases hq1 : (30000 : Int) < s.length
  · have hq2 : (4000 : Int) < s.length := by omega
    have hq3 : ¬ (s.length : Int) ≤ 20000 := by omega
    go_enter Tryz.func4, Tryz.ntmps4
    go_wp2_with (go_at_call 9; (with_reducible refine (HAL.out _ hm).mono ?_); rintro e w1 ⟨rfl, hb1⟩; obtain ⟨p1, rfl⟩ := grown_of hb1; clear hb1)
    go_ret
    exact ⟨rfl, (by repeat (first | exact Below.refl _ _ | assumption | refine below_grown ?_ (by first | omega | (simp [go_sem]; done) | (simp [go_sem] <;> omega)) _ | refine Below.alloc ?_ (by first | omega | (simp [go_sem]; done) | (simp [go_sem] <;> omega)) _ | refine below_bytesW ?_ (by first | omega | (simp [go_sem]; done) | (simp [go_sem] <;> omega)) _ | refine Below.drew ?_ | refine below_drewN ?_ _))⟩
  by_cases hq2 : (4000 : Int) < s.length
  · by_cases hq3 : (s.length : Int) ≤ 20000
    · go_enter Tryz.func4, Tryz.ntmps4
      go_wp2_with (go_at_call 9; (with_reducible refine (HAL.out _ hm).mono ?_); rintro e w1 ⟨rfl, hb1⟩; obtain ⟨p1, rfl⟩ := grown_of hb1; clear hb1)
      go_ret
      exact ⟨rfl, (by repeat (first | exact Below.refl _ _ | assumption | refine below_grown ?_ (by first | omega | (simp [go_sem]; done) | (simp [go_sem] <;> omega)) _ | refine Below.alloc ?_ (by first | omega | (simp [go_sem]; done) | (simp [go_sem] <;> omega)) _ | refine below_bytesW ?_ (by first | omega | (simp [go_sem]; done) | (simp [go_sem] <;> omega)) _ | refine Below.drew ?_ | refine below_drewN ?_ _))⟩
    · have hs : s.length ≤ 30000 := by omega
      have HF : Hid (∀ w, HasMax m w → Calls Tryz.prog 8 #[.string ⟨s.toArray⟩] w (FileGives (tplFile s) w)) := fun w a => tplFile_any s m w a
      have HF2 : Hid (∀ w, Calls Tryz.prog 10 #[.string ⟨s.toArray⟩] w (FileGives (tplFile s) w)) := fun w => refTplFile_any s (by omega) w
      have hbd := tplFile_bd s (by omega)
      have hkeep := tplFile_keeps s
      generalize tplFile s = out at *
      obtain ⟨T, C, fc, fl, fk⟩ := out
      dsimp only at hbd hkeep
      obtain ⟨d1, d2, d3, d4, d5, d6, d7⟩ := hbd
      have g1 : (Lit.int .i64 fc).wf = true := i64_fits (by omega) (by omega)
      have g2 : (Lit.int .i64 fl).wf = true := i64_fits (by omega) (by omega)
      have g3 : (Lit.int .i64 fk).wf = true := i64_fits (by omega) (by omega)
      have he : faultEq fc fl fk fc fl fk = true := faultEq_iff.2 ⟨rfl, rfl, rfl⟩
      obtain ⟨hT8, hC6, hfit, hcf⟩ : T.length ≤ 8 ∧ C.length ≤ 6 ∧ (∀ t ∈ T, tpFit t) ∧ (∀ c ∈ C, c.name.length ≤ maxLen ∧ c.vals.length ≤ 1000) := by
        rcases hkeep with ⟨h0, ⟨h1, h2, h3, h4⟩, _⟩ | ⟨h, h1⟩
        · have hall := (d7 h0).2
          exact ⟨h1, h2, fun t ht => (hall.1 t ht).fit (by unfold maxLen; omega), fun c hc => ⟨by have := hall.2 c hc; unfold maxLen; omega, by have := (h4 c hc).1; omega⟩⟩
        · obtain ⟨rfl, rfl, _⟩ := h1
          exact ⟨by decide, by decide, fun t ht => absurd ht (List.not_mem_nil), fun c hc => absurd hc (List.not_mem_nil)⟩
      have HFIT := Lib.hid hfit
      have HCF := Lib.hid hcf
      clear hkeep d1 d2 d3 d4 d5 d6 d7 hfit hcf
      go_enter Tryz.func4, Tryz.ntmps4
      go_upto_region 6 with (first
        | (go_at_call 9; (with_reducible refine (HAL.out _ hm).mono ?_); rintro e w1 ⟨rfl, hb1⟩; obtain ⟨p1, rfl⟩ := grown_of hb1; clear hb1)
        | (go_at_call 8; (with_reducible refine (HF.out _ (hm.grown p1)).mono ?_); rintro e w1 ⟨aT, cT, aC, cC, R, rfl, hcT, hcC, hb1, hlT, hlC, hCs⟩; have HB1 := Lib.hid hb1; have HLT1 := Lib.hid hlT; have HLC1 := Lib.hid hlC; have HCS1 := Lib.hid hCs; clear hb1 hlT hlC hCs))
      have hs1 := HB1.out.size
      rw [size_grown] at hs1
      have HBW : Hid (Below w.heap.size w (w1.alloc (Obj.cells (faultV fc fl fk) 24))) := ((below_grown' w p1).trans (HB1.out.mono (by rw [size_grown]; omega))).alloc (by omega) _
      have HV : Hid (Var (w1.alloc (Obj.cells (faultV fc fl fk) 24)) w1.heap.size (faultR fc fl fk)) := Var.new _ _ _ rfl rfl
      have HLT : Hid (ListIn tpCod (w1.alloc (Obj.cells (faultV fc fl fk) 24)) aT T 0) := (HLT1.out.mono (Nat.zero_le _)).alloc _
      have HLC : Hid (ListIn chCod (w1.alloc (Obj.cells (faultV fc fl fk) 24)) aC R 0) := (HLC1.out.mono (Nat.zero_le _)).alloc _
      have HCS : Hid (ChsOk (w1.alloc (Obj.cells (faultV fc fl fk) 24)) 0 R C) := (HCS1.out.mono (Nat.zero_le _)).below ((Below.refl _ _).alloc (Nat.le_refl _) _)
      clear HLT1 HLC1 HCS1 HB1
      generalize w1.alloc (Obj.cells (faultV fc fl fk) 24) = w2 at *
      generalize w1.heap.size = p5 at *
      have hsz2 := HBW.out.size
      have hp5 := HV.out.lt
      go_upto_region 7 with (go_at_call 10; (with_reducible refine (HF2.out _).mono ?_); rintro e w3 ⟨aT2, cT2, aC2, cC2, R2, rfl, hcT2, hcC2, hb3, hlT, hlC, hCs⟩; have HB3 := Lib.hid hb3; have HLT1 := Lib.hid hlT; have HLC1 := Lib.hid hlC; have HCS1 := Lib.hid hCs; clear hb3 hlT hlC hCs)
      have hs3 := HB3.out.size
      obtain ⟨w4, hw4⟩ : ∃ w4, w3.alloc (Obj.cells (faultV fc fl fk) 24) = w4 := ⟨_, rfl⟩
      have HB4 : Hid (Below w3.heap.size w3 w4) := by rw [← hw4]; exact (Below.refl _ _).alloc (Nat.le_refl _) _
      have HV8 : Hid (Var w4 w3.heap.size (faultR fc fl fk)) := by rw [← hw4]; exact Var.new _ _ _ rfl rfl
      rw [hw4]
      clear hw4
      have HBW4 : Hid (Below w.heap.size w w4) := HBW.out.trans ((HB3.out.mono hsz2).trans (HB4.out.mono (by omega)))
      have HB24 : Hid (Below w2.heap.size w2 w4) := HB3.out.trans (HB4.out.mono hs3)
      have HV54 := Lib.hid (HV.out.below HB24.out)
      obtain ⟨p8, hp8⟩ : ∃ p8, w3.heap.size = p8 := ⟨_, rfl⟩
      rw [hp8] at HV8
      simp only [hp8]
      clear hp8
      have i5 : isOld p5 w4 = true := isOld_iff.2 HV54.out.lt
      have i8 : isOld p8 w4 = true := isOld_iff.2 HV8.out.lt
      have r8 : hasRow w4 ⟨p8, 0, none⟩ 3 = true := HV8.out.hasRow rfl
      have q8 : rowAt w4 ⟨p8, 0, none⟩ 3 = faultV fc fl fk := HV8.out.rowAt rfl
      have r5 : hasRow w4 ⟨p5, 0, none⟩ 3 = true := HV54.out.hasRow rfl
      have q5 : rowAt w4 ⟨p5, 0, none⟩ 3 = faultV fc fl fk := HV54.out.rowAt rfl
      have HSAME : Hid (∀ w', Below w4.heap.size w4 w' → Calls Tryz.prog 11 #[.slice aT T.length cT, .slice aT2 T.length cT2, .slice aC C.length cC, .slice aC2 C.length cC2] w' fun e w'' => e = .returned (.bool true) ∧ Below w'.heap.size w' w'') := fun w' hb => by
        have hb2 := HB24.out.trans (hb.mono HB24.out.size)
        exact refTplSame_any T C R R2 aT aT2 aC aC2 cT cT2 cC cC2 hT8 hC6 HFIT.out HCF.out w' (HLT.out.below hb2) (((HLT1.out.mono (Nat.zero_le _)).below HB4.out).below hb) (HLC.out.below hb2) (((HLC1.out.mono (Nat.zero_le _)).below HB4.out).below hb) (HCS.out.below hb2) (((HCS1.out.mono (Nat.zero_le _)).below HB4.out).below hb)
      clear HLT1 HLC1 HCS1 HLT HLC HCS HB3 HB4 HB24 HBW HV HV8 HV54 HFIT HCF
      go_wp2_with (go_at_call 11; (with_reducible refine (HSAME.out _ (by repeat (first | exact Below.refl _ _ | assumption | refine below_grown ?_ (by first | omega | (simp [go_sem]; done) | (simp [go_sem] <;> omega)) _ | refine Below.alloc ?_ (by first | omega | (simp [go_sem]; done) | (simp [go_sem] <;> omega)) _ | refine below_bytesW ?_ (by first | omega | (simp [go_sem]; done) | (simp [go_sem] <;> omega)) _ | refine Below.drew ?_ | refine below_drewN ?_ _))).mono ?_); rintro e w1 ⟨rfl, hb1⟩; obtain ⟨p1, rfl⟩ := grown_of hb1; clear hb1)
      go_ret
      exact ⟨by first | rfl | exact ret_bool (by simp), HBW4.out.trans (Below.mono (B := w4.heap.size) (by repeat (first | exact Below.refl _ _ | assumption | refine below_grown ?_ (by first | omega | (simp [go_sem]; done) | (simp [go_sem] <;> omega)) _ | refine Below.alloc ?_ (by first | omega | (simp [go_sem]; done) | (simp [go_sem] <;> omega)) _ | refine below_bytesW ?_ (by first | omega | (simp [go_sem]; done) | (simp [go_sem] <;> omega)) _ | refine Below.drew ?_ | refine below_drewN ?_ _)) HBW4.out.size)⟩
  · have hs : s.length ≤ 30000 := by omega
    have HF : Hid (∀ w, HasMax m w → Calls Tryz.prog 8 #[.string ⟨s.toArray⟩] w (FileGives (tplFile s) w)) := fun w a => tplFile_any s m w a
    have HF2 : Hid (∀ w, Calls Tryz.prog 10 #[.string ⟨s.toArray⟩] w (FileGives (tplFile s) w)) := fun w => refTplFile_any s (by omega) w
    have hbd := tplFile_bd s (by omega)
    have hkeep := tplFile_keeps s
    generalize tplFile s = out at *
    obtain ⟨T, C, fc, fl, fk⟩ := out
    dsimp only at hbd hkeep
    obtain ⟨d1, d2, d3, d4, d5, d6, d7⟩ := hbd
    have g1 : (Lit.int .i64 fc).wf = true := i64_fits (by omega) (by omega)
    have g2 : (Lit.int .i64 fl).wf = true := i64_fits (by omega) (by omega)
    have g3 : (Lit.int .i64 fk).wf = true := i64_fits (by omega) (by omega)
    have he : faultEq fc fl fk fc fl fk = true := faultEq_iff.2 ⟨rfl, rfl, rfl⟩
    obtain ⟨hT8, hC6, hfit, hcf⟩ : T.length ≤ 8 ∧ C.length ≤ 6 ∧ (∀ t ∈ T, tpFit t) ∧ (∀ c ∈ C, c.name.length ≤ maxLen ∧ c.vals.length ≤ 1000) := by
      rcases hkeep with ⟨h0, ⟨h1, h2, h3, h4⟩, _⟩ | ⟨h, h1⟩
      · have hall := (d7 h0).2
        exact ⟨h1, h2, fun t ht => (hall.1 t ht).fit (by unfold maxLen; omega), fun c hc => ⟨by have := hall.2 c hc; unfold maxLen; omega, by have := (h4 c hc).1; omega⟩⟩
      · obtain ⟨rfl, rfl, _⟩ := h1
        exact ⟨by decide, by decide, fun t ht => absurd ht (List.not_mem_nil), fun c hc => absurd hc (List.not_mem_nil)⟩
    have HFIT := Lib.hid hfit
    have HCF := Lib.hid hcf
    clear hkeep d1 d2 d3 d4 d5 d6 d7 hfit hcf
    go_enter Tryz.func4, Tryz.ntmps4
    go_upto_region 6 with (first
      | (go_at_call 9; (with_reducible refine (HAL.out _ hm).mono ?_); rintro e w1 ⟨rfl, hb1⟩; obtain ⟨p1, rfl⟩ := grown_of hb1; clear hb1)
      | (go_at_call 8; (with_reducible refine (HF.out _ (hm.grown p1)).mono ?_); rintro e w1 ⟨aT, cT, aC, cC, R, rfl, hcT, hcC, hb1, hlT, hlC, hCs⟩; have HB1 := Lib.hid hb1; have HLT1 := Lib.hid hlT; have HLC1 := Lib.hid hlC; have HCS1 := Lib.hid hCs; clear hb1 hlT hlC hCs))
    have hs1 := HB1.out.size
    rw [size_grown] at hs1
    have HBW : Hid (Below w.heap.size w (w1.alloc (Obj.cells (faultV fc fl fk) 24))) := ((below_grown' w p1).trans (HB1.out.mono (by rw [size_grown]; omega))).alloc (by omega) _
    have HV : Hid (Var (w1.alloc (Obj.cells (faultV fc fl fk) 24)) w1.heap.size (faultR fc fl fk)) := Var.new _ _ _ rfl rfl
    have HLT : Hid (ListIn tpCod (w1.alloc (Obj.cells (faultV fc fl fk) 24)) aT T 0) := (HLT1.out.mono (Nat.zero_le _)).alloc _
    have HLC : Hid (ListIn chCod (w1.alloc (Obj.cells (faultV fc fl fk) 24)) aC R 0) := (HLC1.out.mono (Nat.zero_le _)).alloc _
    have HCS : Hid (ChsOk (w1.alloc (Obj.cells (faultV fc fl fk) 24)) 0 R C) := (HCS1.out.mono (Nat.zero_le _)).below ((Below.refl _ _).alloc (Nat.le_refl _) _)
    clear HLT1 HLC1 HCS1 HB1
    generalize w1.alloc (Obj.cells (faultV fc fl fk) 24) = w2 at *
    generalize w1.heap.size = p5 at *
    have hsz2 := HBW.out.size
    have hp5 := HV.out.lt
    go_upto_region 7 with (go_at_call 10; (with_reducible refine (HF2.out _).mono ?_); rintro e w3 ⟨aT2, cT2, aC2, cC2, R2, rfl, hcT2, hcC2, hb3, hlT, hlC, hCs⟩; have HB3 := Lib.hid hb3; have HLT1 := Lib.hid hlT; have HLC1 := Lib.hid hlC; have HCS1 := Lib.hid hCs; clear hb3 hlT hlC hCs)
    have hs3 := HB3.out.size
    obtain ⟨w4, hw4⟩ : ∃ w4, w3.alloc (Obj.cells (faultV fc fl fk) 24) = w4 := ⟨_, rfl⟩
    have HB4 : Hid (Below w3.heap.size w3 w4) := by rw [← hw4]; exact (Below.refl _ _).alloc (Nat.le_refl _) _
    have HV8 : Hid (Var w4 w3.heap.size (faultR fc fl fk)) := by rw [← hw4]; exact Var.new _ _ _ rfl rfl
    rw [hw4]
    clear hw4
    have HBW4 : Hid (Below w.heap.size w w4) := HBW.out.trans ((HB3.out.mono hsz2).trans (HB4.out.mono (by omega)))
    have HB24 : Hid (Below w2.heap.size w2 w4) := HB3.out.trans (HB4.out.mono hs3)
    have HV54 := Lib.hid (HV.out.below HB24.out)
    obtain ⟨p8, hp8⟩ : ∃ p8, w3.heap.size = p8 := ⟨_, rfl⟩
    rw [hp8] at HV8
    simp only [hp8]
    clear hp8
    have i5 : isOld p5 w4 = true := isOld_iff.2 HV54.out.lt
    have i8 : isOld p8 w4 = true := isOld_iff.2 HV8.out.lt
    have r8 : hasRow w4 ⟨p8, 0, none⟩ 3 = true := HV8.out.hasRow rfl
    have q8 : rowAt w4 ⟨p8, 0, none⟩ 3 = faultV fc fl fk := HV8.out.rowAt rfl
    have r5 : hasRow w4 ⟨p5, 0, none⟩ 3 = true := HV54.out.hasRow rfl
    have q5 : rowAt w4 ⟨p5, 0, none⟩ 3 = faultV fc fl fk := HV54.out.rowAt rfl
    have HSAME : Hid (∀ w', Below w4.heap.size w4 w' → Calls Tryz.prog 11 #[.slice aT T.length cT, .slice aT2 T.length cT2, .slice aC C.length cC, .slice aC2 C.length cC2] w' fun e w'' => e = .returned (.bool true) ∧ Below w'.heap.size w' w'') := fun w' hb => by
      have hb2 := HB24.out.trans (hb.mono HB24.out.size)
      exact refTplSame_any T C R R2 aT aT2 aC aC2 cT cT2 cC cC2 hT8 hC6 HFIT.out HCF.out w' (HLT.out.below hb2) (((HLT1.out.mono (Nat.zero_le _)).below HB4.out).below hb) (HLC.out.below hb2) (((HLC1.out.mono (Nat.zero_le _)).below HB4.out).below hb) (HCS.out.below hb2) (((HCS1.out.mono (Nat.zero_le _)).below HB4.out).below hb)
    clear HLT1 HLC1 HCS1 HLT HLC HCS HB3 HB4 HB24 HBW HV HV8 HV54 HFIT HCF
    go_wp2_with (go_at_call 11; (with_reducible refine (HSAME.out _ (by repeat (first | exact Below.refl _ _ | assumption | refine below_grown ?_ (by first | omega | (simp [go_sem]; done) | (simp [go_sem] <;> omega)) _ | refine Below.alloc ?_ (by first | omega | (simp [go_sem]; done) | (simp [go_sem] <;> omega)) _ | refine below_bytesW ?_ (by first | omega | (simp [go_sem]; done) | (simp [go_sem] <;> omega)) _ | refine Below.drew ?_ | refine below_drewN ?_ _))).mono ?_); rintro e w1 ⟨rfl, hb1⟩; obtain ⟨p1, rfl⟩ := grown_of hb1; clear hb1)
    go_ret
    exact ⟨by first | rfl | exact ret_bool (by simp), HBW4.out.trans (Below.mono (B := w4.heap.size) (by repeat (first | exact Below.refl _ _ | assumption | refine below_grown ?_ (by first | omega | (simp [go_sem]; done) | (simp [go_sem] <;> omega)) _ | refine Below.alloc ?_ (by first | omega | (simp [go_sem]; done) | (simp [go_sem] <;> omega)) _ | refine below_bytesW ?_ (by first | omega | (simp [go_sem]; done) | (simp [go_sem] <;> omega)) _ | refine Below.drew ?_ | refine below_drewN ?_ _)) HBW4.out.size)⟩
end
end Go.Proofs.YtnkckejbkbbdlaaGreatDoor
