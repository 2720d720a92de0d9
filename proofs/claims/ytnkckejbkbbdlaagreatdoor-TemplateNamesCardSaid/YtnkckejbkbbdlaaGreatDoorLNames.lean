/- Merged: LawTplNames. -/
import Derived.Test.YtnkckejbkbbdlaaGreatDoorTmL
import Derived.Deep.DeepCutAuto
namespace Go.Proofs.YtnkckejbkbbdlaaGreatDoor
section
open Go Go.RowKit
set_option maxRecDepth 20000
set_option linter.unusedSimpArgs false
set_option linter.unusedVariables false

def faultCod : Cod GFaul where
  E := 24
  S := 25
  sz := 3
  bys := 24
  z := .agg (faultV 0 0 0)
  enc := fun p => faultR p.1 p.2.1 p.2.2
  und := by kernel_rfl
  info := by kernel_rfl
  zsz := faultV_size _ _ _
  pos := by decide
  len := fun _ => rfl
  one := fun p => fault_one p.1 p.2.1 p.2.2
def noTplO : List (List UInt8) := [[99, 104, 111, 105, 99, 101, 32, 97], [99, 111, 111, 107, 105, 101, 32, 65, 32, 104, 116, 116, 112, 58, 47, 47, 97, 32, 97], [99, 104, 111, 105, 99, 101, 32, 97, 32, 120, 10, 99, 104, 111, 105, 99, 101, 32, 97, 32, 121], [99, 104, 111, 105, 99, 101, 32, 97, 32, 120, 32, 37], [99, 104, 111, 105, 99, 101, 32, 97, 32, 120, 32, 120], [99, 111, 111, 107, 105, 101, 32, 97, 32, 104, 116, 116, 112, 58, 47, 47, 97, 46, 49, 32, 120], [99, 111, 111, 107, 105, 101, 32, 97, 32, 104, 116, 116, 112, 58, 47, 47, 97, 32, 123, 98, 125], [99, 104, 111, 105, 99, 101, 32, 97, 32, 49, 32, 50, 32, 51, 32, 52, 32, 53, 32, 54, 32, 55]]
theorem noTplO_at (k : Nat) (hk : k < noTplO.length) (hk' : k < noTpl.length) (h3 : k ≠ 3) : noTplO[k]'hk = noTpl[k]'hk' := by
  have h8 : k < 8 := hk
  have : k = 0 ∨ k = 1 ∨ k = 2 ∨ k = 4 ∨ k = 5 ∨ k = 6 ∨ k = 7 := by omega
  rcases this with rfl | rfl | rfl | rfl | rfl | rfl | rfl <;> rfl
/-- Eight faults in a new slice. -/
noncomputable def bs8 (w : World) (v0 v1 v2 v3 v4 v5 v6 v7 : Value) : Result Next := (Sem.run Tryz.prog (Instr.buildSlice 25 8 #[(0, v0), (1, v1), (2, v2), (3, v3), (4, v4), (5, v5), (6, v6), (7, v7)]) w).andThen fun v w' => .ok (.value v) w'
@[go_sem ↓ high] theorem run_op_bs8 (ev : Operand → Value) (dst : Option Tmp) (x0 x1 x2 x3 x4 x5 x6 x7 : Operand) (ty : TypeId) (pos : String) (af : Array Edge) (g : Option (Nat × Bool)) (w : World) :
    Sem.run Tryz.prog (execOp ev { dst := dst, op := .buildSlice 25 8 #[(0, x0), (1, x1), (2, x2), (3, x3), (4, x4), (5, x5), (6, x6), (7, x7)], type := ty, pos := pos, after := af, guard := g }) w = bs8 w (ev x0) (ev x1) (ev x2) (ev x3) (ev x4) (ev x5) (ev x6) (ev x7) := by
  unfold bs8
  simp only [execOp, Sem.run_bind, Sem.run_pure, List.map_toArray, List.map_cons, List.map_nil]
@[go_sem] theorem bs8_at (w : World) : bs8 w (.agg (faultV 131 1 1)) (.agg (faultV 221 1 8)) (.agg (faultV 52 2 8)) (.agg (faultV 131 1 12)) (.agg (faultV 52 1 12)) (.agg (faultV 31 1 10)) (.agg (faultV 222 1 19)) (.agg (faultV 53 1 22)) =
    .ok (.value (.slice (some ⟨w.heap.size, 0, none⟩) 8 8)) (w.alloc (.cells (faultCod.encs noTplF).toArray 24)) := by kernel_rfl
set_option maxRecDepth 100000 in
set_option maxHeartbeats 8000000 in
theorem tplNames_law (m : Int) (w : World) (hm : HasMax m w) :
    Calls Tryz.prog 3 #[] w fun e w' => e = .returned (.bool true) ∧ Below w.heap.size w w' := by
  have HFX : Hid (∀ (k : Nat) (hk : k < 8) w, k ≠ 3 → HasMax m w → Calls Tryz.prog 8 #[.string ⟨(noTplO[k]'hk).toArray⟩] w (FileGives ([], [], noTplF[k]'hk) w)) := fun k hk w h3 a => by
    have := tplFile_any (noTplO[k]'hk) m w a
    rw [noTplO_at k hk hk h3, noTpl_at k hk hk, ← noTplO_at k hk hk h3] at this
    exact this
  have HF3 : Hid (∀ w, HasMax m w → Calls Tryz.prog 8 #[.string ⟨[99, 104, 111, 105, 99, 101, 32, 97, 32, 120, 32, 37, 49].toArray⟩] w (FileGives ([], [], 131, 1, 12) w)) := fun w a => by
    have := tplFile_any (noTpl[3]'(by decide)) m w a
    rw [noTpl_at 3 (by decide) (by decide)] at this
    exact this
  have HWF : Hid (∀ f ∈ noTplF, (Lit.int .i64 f.1).wf = true ∧ (Lit.int .i64 f.2.1).wf = true ∧ (Lit.int .i64 f.2.2).wf = true) := by show ∀ f ∈ noTplF, _; decide
  go_enter Tryz.func3, Tryz.ntmps3
  go_upto_region 1 with fail
  go_cut [1] (fun s1 wx => ∃ b1 c1 : Nat, s1 = .slice (some ⟨b1, 0, none⟩) 8 c1 ∧ Below w.heap.size w wx ∧ b1 < wx.heap.size ∧ ListAt faultCod wx b1 0 noTplF)
  case first =>
    go_wp2
    go_meet
    exact ⟨_, _, rfl, (by repeat (first | exact Below.refl _ _ | assumption | refine below_grown ?_ (by first | omega | (simp [go_sem]; done) | (simp [go_sem] <;> omega)) _ | refine Below.alloc ?_ (by first | omega | (simp [go_sem]; done) | (simp [go_sem] <;> omega)) _ | refine below_bytesW ?_ (by first | omega | (simp [go_sem]; done) | (simp [go_sem] <;> omega)) _ | refine Below.drew ?_ | refine below_drewN ?_ _)), by simp, listAt_new _ _ noTplF _ (by kernel_rfl) (by first | rfl | simp)⟩
  case rest =>
  obtain ⟨b1, c1, rfl, hbw, hb1, hatw⟩ := hcut
  have HBC := Lib.hid hbw
  have HATW := Lib.hid hatw
  have hbsz := hbw.size
  clear hbw hatw
  go_upto_region 2 with fail
  go_cut [16, 17, 18] (fun s16 s17 s18 wx => ∃ b16 c16 : Nat, s16 = .slice (some ⟨b16, 0, none⟩) 8 c16 ∧ s17 = .int .i64 8 ∧ s18 = .int .i64 0 ∧ Below wc.heap.size wc wx ∧ b16 < wx.heap.size ∧ ListAt strCod wx b16 0 noTplO)
  case first =>
    go_wp2
    go_meet
    exact ⟨_, _, rfl, rfl, rfl, (by repeat (first | exact Below.refl _ _ | assumption | refine below_grown ?_ (by first | omega | (simp [go_sem]; done) | (simp [go_sem] <;> omega)) _ | refine Below.alloc ?_ (by first | omega | (simp [go_sem]; done) | (simp [go_sem] <;> omega)) _ | refine below_bytesW ?_ (by first | omega | (simp [go_sem]; done) | (simp [go_sem] <;> omega)) _ | refine Below.drew ?_ | refine below_drewN ?_ _)), by simp, listAt_new _ _ noTplO _ (by kernel_rfl) (by first | rfl | simp)⟩
  case rest =>
  obtain ⟨b16, c16, rfl, rfl, rfl, hbw, hb16, hats⟩ := hcut
  have HB1 := Lib.hid (HBC.out.trans (hbw.mono hbsz))
  have HATS := Lib.hid hats
  have HATW2 := Lib.hid (HATW.out.below hbw)
  have hb1' : b1 < wc.heap.size := Nat.lt_of_lt_of_le hb1 hbw.size
  have hsz1 := HB1.out.size
  clear hbw hats HBC HATW hb1 hbsz
  go_wp2
  go_loopw [18] (fun i wr => ∃ k : Nat, k ≤ 8 ∧ i = .int .i64 k ∧ Below wc.heap.size wc wr) (fun i _ => 8 - (intOf i).toNat)
  case atStart => exact ⟨0, Nat.zero_le _, rfl, Below.refl _ _⟩
  case round =>
    obtain ⟨k, hk, rfl, hbr⟩ := hrel
    have hrsz := hbr.size
    have HBR := Lib.hid hbr
    have HBW := Lib.hid (HB1.out.trans (hbr.mono hsz1))
    by_cases hlt : k < 8
    · have hcell := strAt (HATS.out.below hbr) k hlt
      have HROW : Hid (∀ W, Below wr.heap.size wr W → hasRow W ⟨b1, k * 3, none⟩ 3 = true ∧ rowAt W ⟨b1, k * 3, none⟩ 3 = faultV (noTplF[k]'hlt).1 (noTplF[k]'hlt).2.1 (noTplF[k]'hlt).2.2) := fun W hW => by
        have h9 := codRowT ((HATW2.out.below hbr).below hW) k hlt
        rw [Nat.zero_add] at h9
        exact h9
      have HF := Lib.hid (HFX.out k hlt)
      have H33 : Hid (k = 3 → noTplF[k]'hlt = (131, 1, 12)) := fun h => by subst h; rfl
      obtain ⟨g1, g2, g3⟩ := HWF.out _ (List.getElem_mem (show k < noTplF.length from hlt))
      have hki : (k : Int) < 8 := by omega
      have ho1 : isOld b1 wr = true := isOld_iff.2 (by omega)
      have ho16 : isOld b16 wr = true := isOld_iff.2 (by omega)
      rw [Nat.zero_add] at hcell
      have hm1 := hm.below HBW.out
      clear hbr
      generalize noTplO[k]'hlt = x at *
      by_cases h3 : k = 3
      · subst h3
        have HROW3 : Hid (∀ W, Below wr.heap.size wr W → hasRow W ⟨b1, 3 * 3, none⟩ 3 = true ∧ rowAt W ⟨b1, 3 * 3, none⟩ 3 = faultV 131 1 12) := HROW.out
        clear HF H33 HROW g1 g2 g3
        have HROW := HROW3
        clear HROW3
        have g1 : (Lit.int .i64 131).wf = true := rfl
        have g2 : (Lit.int .i64 1).wf = true := rfl
        have g3 : (Lit.int .i64 12).wf = true := rfl
        go_upto_region 8 with (go_at_call 8; (with_reducible refine (HF3.out _ ?_).mono ?_); (exact hm1); rintro e w2 ⟨aT, cT, aC, cC, R, rfl, hcT, hcC, hb2, _, _, _⟩; have HB2 := Lib.hid hb2; clear hb2 hcT hcC)
        have hs2 := HB2.out.size
        have HBW3 : Hid (Below wc.heap.size wc (w2.alloc (Obj.cells (faultV 131 1 12) 24))) := (HBR.out.trans (HB2.out.mono (by omega))).alloc (by omega) _
        have HV5 : Hid (Var (w2.alloc (Obj.cells (faultV 131 1 12) 24)) w2.heap.size (faultR 131 1 12)) := Var.new _ _ _ rfl rfl
        have hb3 : Below wr.heap.size wr (w2.alloc (Obj.cells (faultV 131 1 12) 24)) := HB2.out.alloc (by omega) _
        obtain ⟨r1, q1⟩ := HROW.out _ hb3
        try dsimp only at q1
        have hs3 : w2.heap.size + 1 = (w2.alloc (Obj.cells (faultV 131 1 12) 24)).heap.size := by simp
        generalize (w2.alloc (Obj.cells (faultV 131 1 12) 24)) = w3 at *
        have hr5 : hasRow w3 ⟨w2.heap.size, 0, none⟩ 3 = true := HV5.out.hasRow rfl
        have hq5 : rowAt w3 ⟨w2.heap.size, 0, none⟩ 3 = faultV 131 1 12 := HV5.out.rowAt rfl
        have ho1' : isOld b1 w3 = true := isOld_iff.2 (by omega)
        have hi5 : isOld w2.heap.size w3 = true := isOld_iff.2 (by omega)
        have he : faultEq 131 1 12 131 1 12 = true := rfl
        clear hcell ho1 ho16 hm1 hb3
        go_wp2
        refine wp_region_quiet_grown (by kernel_rfl) (by kernel_rfl) ?_
        repeat (quiet_step (fail))
        refine wpQuiet_nil ?_; intro _ hw'; obtain ⟨pq, hw''⟩ := hw'; subst hw''
        go_wp2
        go_roundw
        case rel => exact ⟨3 + 1, by omega, by go_num, by have hb3 := HBW3.out; exact (by repeat (first | exact Below.refl _ _ | assumption | refine below_grown ?_ (by first | omega | (simp [go_sem]; done) | (simp [go_sem] <;> omega)) _ | refine Below.alloc ?_ (by first | omega | (simp [go_sem]; done) | (simp [go_sem] <;> omega)) _ | refine below_bytesW ?_ (by first | omega | (simp [go_sem]; done) | (simp [go_sem] <;> omega)) _ | refine Below.drew ?_ | refine below_drewN ?_ _))⟩
        case measure => simp [intOf]
      · have h3i : ((k : Int) == 3) = false := by rw [beq_eq_false_iff_ne]; omega
        have H3N := Lib.hid h3
        clear h3 H33
        generalize noTplF[k]'hlt = f at *
        obtain ⟨fc, fl, fk⟩ := f
        try dsimp only at g1
        try dsimp only at g2
        try dsimp only at g3
        go_upto_region 8 with (go_at_call 8; (with_reducible refine (HF.out _ H3N.out ?_).mono ?_); (exact hm1); rintro e w2 ⟨aT, cT, aC, cC, R, rfl, hcT, hcC, hb2, _, _, _⟩; have HB2 := Lib.hid hb2; clear hb2 hcT hcC)
        have hs2 := HB2.out.size
        have HBW3 : Hid (Below wc.heap.size wc (w2.alloc (Obj.cells (faultV fc fl fk) 24))) := (HBR.out.trans (HB2.out.mono (by omega))).alloc (by omega) _
        have HV5 : Hid (Var (w2.alloc (Obj.cells (faultV fc fl fk) 24)) w2.heap.size (faultR fc fl fk)) := Var.new _ _ _ rfl rfl
        have hb3 : Below wr.heap.size wr (w2.alloc (Obj.cells (faultV fc fl fk) 24)) := HB2.out.alloc (by omega) _
        obtain ⟨r1, q1⟩ := HROW.out _ hb3
        try dsimp only at q1
        have hs3 : w2.heap.size + 1 = (w2.alloc (Obj.cells (faultV fc fl fk) 24)).heap.size := by simp
        generalize (w2.alloc (Obj.cells (faultV fc fl fk) 24)) = w3 at *
        have hr5 : hasRow w3 ⟨w2.heap.size, 0, none⟩ 3 = true := HV5.out.hasRow rfl
        have hq5 : rowAt w3 ⟨w2.heap.size, 0, none⟩ 3 = faultV fc fl fk := HV5.out.rowAt rfl
        have ho1' : isOld b1 w3 = true := isOld_iff.2 (by omega)
        have hi5 : isOld w2.heap.size w3 = true := isOld_iff.2 (by omega)
        have he : faultEq fc fl fk fc fl fk = true := faultEq_iff.2 ⟨rfl, rfl, rfl⟩
        clear hcell ho1 ho16 hm1 hb3
        go_wp2
        refine wp_region_quiet_grown (by kernel_rfl) (by kernel_rfl) ?_
        repeat (quiet_step (fail))
        refine wpQuiet_nil ?_; intro _ hw'; obtain ⟨pq, hw''⟩ := hw'; subst hw''
        go_wp2
        go_roundw
        case rel => exact ⟨k + 1, by omega, by go_num, by have hb3 := HBW3.out; exact (by repeat (first | exact Below.refl _ _ | assumption | refine below_grown ?_ (by first | omega | (simp [go_sem]; done) | (simp [go_sem] <;> omega)) _ | refine Below.alloc ?_ (by first | omega | (simp [go_sem]; done) | (simp [go_sem] <;> omega)) _ | refine below_bytesW ?_ (by first | omega | (simp [go_sem]; done) | (simp [go_sem] <;> omega)) _ | refine Below.drew ?_ | refine below_drewN ?_ _))⟩
        case measure => simp [intOf]; omega
    · obtain rfl : k = 8 := by omega
      have hm1 := hm.below HBW.out
      have hwsz := HBW.out.size
      clear HATS HATW2 HFX HF3 HWF HBR hbr
      go_wp2_with (go_at_call 9; (with_reducible refine (tplAlive_any m _ hm1).mono ?_); rintro e w1 ⟨rfl, hb1⟩; obtain ⟨p1, rfl⟩ := grown_of hb1; clear hb1)
      go_ret
      exact ⟨by first | rfl | exact ret_bool (by simp), HBW.out.trans (Below.mono (B := wr.heap.size) (by repeat (first | exact Below.refl _ _ | assumption | refine below_grown ?_ (by first | omega | (simp [go_sem]; done) | (simp [go_sem] <;> omega)) _ | refine Below.alloc ?_ (by first | omega | (simp [go_sem]; done) | (simp [go_sem] <;> omega)) _ | refine below_bytesW ?_ (by first | omega | (simp [go_sem]; done) | (simp [go_sem] <;> omega)) _ | refine Below.drew ?_ | refine below_drewN ?_ _)) hwsz)⟩
end
end Go.Proofs.YtnkckejbkbbdlaaGreatDoor
