/- The walk of the statement TopologyNames. -/
import Derived.Test.YthklfbakffaioaaDoorTopoAllB
import Derived.Test.YthklfbakffaioaaDoorTopoNamesP
import Derived.Deep.DeepCutAuto
namespace Go.Proofs.YthklfbakffaioaaDoor
open Go Go.RowKit
set_option maxRecDepth 20000
set_option linter.unusedSimpArgs false
set_option linter.unusedVariables false

def faultCod : Cod GFl where
  E := 24
  S := 25
  sz := 3
  bys := 24
  z := .agg (faultV 0 0 0)
  enc := fun p => faultR p.1 p.2.1 p.2.2
  und := by kernel_rfl
  info := by kernel_rfl
  zsz := faultV_size _ _ _
  pos := by decide
  len := fun _ => rfl
  one := fun p => fault_one p.1 p.2.1 p.2.2
theorem strOf_oneT (d : UInt8) (w : World) (c : Nat) : strOf (w.alloc (Obj.cells #[Value.int IntKind.u8 (d.toNat : Int)] 5)) (Value.slice (some ⟨w.heap.size, 0, none⟩) 1 c) = some [d] :=
  strOf_bytes (l := [d]) (fun j h => by
    rw [add_mk, Nat.zero_add, World.cell?_alloc_at _ _ _ _ rfl]
    match j, h with
    | 0, _ => rfl) c
theorem cell_below_eq {w w' : World} (hb : Below w.heap.size w w') {b o : Nat} (h : b < w.heap.size) : w'.cell? ⟨b, o, none⟩ = w.cell? ⟨b, o, none⟩ := by
  unfold World.cell?
  rw [hb.block b h]
/-- Five faults in a new slice. -/
noncomputable def bs5 (w : World) (v0 v1 v2 v3 v4 : Value) : Result Next := (Sem.run Tryd.prog (Instr.buildSlice 25 5 #[(0, v0), (1, v1), (2, v2), (3, v3), (4, v4)]) w).andThen fun v w' => .ok (.value v) w'
@[go_sem ↓ high] theorem run_op_bs5 (ev : Operand → Value) (dst : Option Tmp) (x0 x1 x2 x3 x4 : Operand) (ty : TypeId) (pos : String) (af : Array Edge) (g : Option (Nat × Bool)) (w : World) :
    Sem.run Tryd.prog (execOp ev { dst := dst, op := .buildSlice 25 5 #[(0, x0), (1, x1), (2, x2), (3, x3), (4, x4)], type := ty, pos := pos, after := af, guard := g }) w = bs5 w (ev x0) (ev x1) (ev x2) (ev x3) (ev x4) := by
  unfold bs5
  simp only [execOp, Sem.run_bind, Sem.run_pure, List.map_toArray, List.map_cons, List.map_nil]
@[go_sem] theorem bs5_at (w : World) : bs5 w (.agg (faultV 131 1 1)) (.agg (faultV 31 2 6)) (.agg (faultV 211 1 8)) (.agg (faultV 43 1 13)) (.agg (faultV 52 3 1)) =
    .ok (.value (.slice (some ⟨w.heap.size, 0, none⟩) 5 5)) (w.alloc (.cells (faultCod.encs namesF).toArray 24)) := by kernel_rfl
set_option maxRecDepth 100000 in
set_option maxHeartbeats 8000000 in
theorem topoNames_law (m : Int) (w : World) (hm : HasMax m w) :
    Calls Tryd.prog 3 #[] w fun e w' => e = .returned (.bool true) ∧ Below w.heap.size w w' := by
  have HFX : Hid (∀ (k : Nat) (hk : k < 5) w, HasMax m w → Calls Tryd.prog 5 #[.string ⟨(namesX[k]'hk).toArray⟩] w (GivesF patCod [] (namesF[k]'hk) w)) := fun k hk w a => by
    have hl : (namesX[k]'hk).length ≤ 100000 := by
      have : ∀ x ∈ namesX, x.length ≤ 100000 := by decide
      exact this _ (List.getElem_mem _)
    have := topoFile_any (namesX[k]'hk) hl m w a
    rw [namesT_at k hk] at this
    exact this
  have HWF : Hid (∀ f ∈ namesF, (Lit.int .i64 f.1).wf = true ∧ (Lit.int .i64 f.2.1).wf = true ∧ (Lit.int .i64 f.2.2).wf = true) := by show ∀ f ∈ namesF, _; decide
  have hM : (manyT 13).length = 182 := manyT_len 13
  have HFM : Hid (∀ w, HasMax m w → Calls Tryd.prog 5 #[.string ⟨(manyT 13).toArray⟩] w (GivesF patCod [] (53, 13, 1) w)) := fun w a => by
    have := topoFile_any (manyT 13) (by omega) m w a
    rw [show topoFile (manyT 13) = ([], 53, 13, 1) from Prod.ext (List.length_eq_zero_iff.1 namesT_plain.2.1) namesT_plain.2.2] at this
    exact this
  go_enter Tryd.func3, Tryd.ntmps3
  go_upto_region 1 with fail
  go_cut [1] (fun s1 wx => ∃ b1 c1 : Nat, s1 = .slice (some ⟨b1, 0, none⟩) 5 c1 ∧ Below w.heap.size w wx ∧ b1 < wx.heap.size ∧ ListAt faultCod wx b1 0 namesF)
  case first =>
    go_wp2
    go_meet
    exact ⟨_, _, rfl, (by repeat (first | exact Below.refl _ _ | assumption | refine below_grown ?_ (by first | omega | (simp [go_sem]; done) | (simp [go_sem] <;> omega)) _ | refine Below.alloc ?_ (by first | omega | (simp [go_sem]; done) | (simp [go_sem] <;> omega)) _ | refine below_bytesW ?_ (by first | omega | (simp [go_sem]; done) | (simp [go_sem] <;> omega)) _ | refine Below.drew ?_ | refine below_drewN ?_ _)), by simp, listAt_new _ _ namesF _ (by kernel_rfl) (by first | rfl | simp)⟩
  case rest =>
  obtain ⟨b1, c1, rfl, hbw, hb1, hatw⟩ := hcut
  have HBC := Lib.hid hbw
  have HATW := Lib.hid hatw
  have hbsz := hbw.size
  clear hbw hatw
  go_upto_region 2 with fail
  go_cut [16, 17, 18] (fun s16 s17 s18 wx => ∃ b16 c16 : Nat, s16 = .slice (some ⟨b16, 0, none⟩) 5 c16 ∧ s17 = .int .i64 5 ∧ s18 = .int .i64 0 ∧ Below wc.heap.size wc wx ∧ b16 < wx.heap.size ∧ ListAt strCod wx b16 0 namesX)
  case first =>
    go_wp2
    go_meet
    exact ⟨_, _, rfl, rfl, rfl, (by repeat (first | exact Below.refl _ _ | assumption | refine below_grown ?_ (by first | omega | (simp [go_sem]; done) | (simp [go_sem] <;> omega)) _ | refine Below.alloc ?_ (by first | omega | (simp [go_sem]; done) | (simp [go_sem] <;> omega)) _ | refine below_bytesW ?_ (by first | omega | (simp [go_sem]; done) | (simp [go_sem] <;> omega)) _ | refine Below.drew ?_ | refine below_drewN ?_ _)), by simp, listAt_new _ _ namesX _ (by kernel_rfl) (by first | rfl | simp)⟩
  case rest =>
  obtain ⟨b16, c16, rfl, rfl, rfl, hbw, hb16, hats⟩ := hcut
  have HB1 := Lib.hid (HBC.out.trans (hbw.mono hbsz))
  have HATS := Lib.hid hats
  have HATW2 := Lib.hid (HATW.out.below hbw)
  have hb1' : b1 < wc.heap.size := Nat.lt_of_lt_of_le hb1 hbw.size
  have hsz1 := HB1.out.size
  clear hbw hats HBC HATW hb1 hbsz
  go_wp2
  go_loopw [18] (fun i wr => ∃ k : Nat, k ≤ 5 ∧ i = .int .i64 k ∧ Below wc.heap.size wc wr) (fun i _ => 5 - (intOf i).toNat)
  case atStart => exact ⟨0, Nat.zero_le _, rfl, Below.refl _ _⟩
  case round =>
    obtain ⟨k, hk, rfl, hbr⟩ := hrel
    have hrsz := hbr.size
    have HBR := Lib.hid hbr
    have HBW := Lib.hid (HB1.out.trans (hbr.mono hsz1))
    by_cases hlt : k < 5
    · have hcell := strAt (HATS.out.below hbr) k hlt
      have HROW : Hid (∀ W, Below wr.heap.size wr W → hasRow W ⟨b1, k * 3, none⟩ 3 = true ∧ rowAt W ⟨b1, k * 3, none⟩ 3 = faultV (namesF[k]'hlt).1 (namesF[k]'hlt).2.1 (namesF[k]'hlt).2.2) := fun W hW => by
        have h9 := codRow ((HATW2.out.below hbr).below hW) k hlt
        rw [Nat.zero_add] at h9
        exact h9
      have HF := Lib.hid (HFX.out k hlt)
      obtain ⟨g1, g2, g3⟩ := HWF.out _ (List.getElem_mem (show k < namesF.length from hlt))
      have hki : (k : Int) < 5 := by omega
      have ho1 : isOld b1 wr = true := isOld_iff.2 (by omega)
      have ho16 : isOld b16 wr = true := isOld_iff.2 (by omega)
      rw [Nat.zero_add] at hcell
      generalize namesX[k]'hlt = x at *
      generalize namesF[k]'hlt = f at *
      obtain ⟨fc, fl, fk⟩ := f
      try dsimp only at g1
      try dsimp only at g2
      try dsimp only at g3
      have hm1 := hm.below HBW.out
      clear hbr
      go_upto_region 6 with (go_at_call 5; (with_reducible refine (HF.out _ ?_).mono ?_); (exact hm1); intro e w2 hg; obtain ⟨a2, c2, rfl, hc2, hb2, hl2⟩ := hg; have HB2 := Lib.hid hb2; clear hb2 hl2 hc2)
      have hs2 := HB2.out.size
      have HBW3 : Hid (Below wc.heap.size wc (w2.alloc (Obj.cells (faultV fc fl fk) 24))) := (HBR.out.trans (HB2.out.mono (by omega))).alloc (by omega) _
      have HV5 : Hid (Var (w2.alloc (Obj.cells (faultV fc fl fk) 24)) w2.heap.size (faultR fc fl fk)) := Var.new _ _ _ rfl rfl
      have hb3 : Below wr.heap.size wr (w2.alloc (Obj.cells (faultV fc fl fk) 24)) := HB2.out.alloc (by omega) _
      obtain ⟨r1, q1⟩ := HROW.out _ hb3
      try dsimp only at q1
      have hs3 : w2.heap.size + 1 = (w2.alloc (Obj.cells (faultV fc fl fk) 24)).heap.size := by simp
      generalize (w2.alloc (Obj.cells (faultV fc fl fk) 24)) = w3 at *
      have hr5 : hasRow w3 ⟨w2.heap.size, 0, none⟩ 3 = true := HV5.out.hasRow rfl
      have hq5 : rowAt w3 ⟨w2.heap.size, 0, none⟩ 3 = faultV fc fl fk := HV5.out.rowAt rfl
      have ho1' : isOld b1 w3 = true := isOld_iff.2 (by omega)
      have hi5 : isOld w2.heap.size w3 = true := isOld_iff.2 (by omega)
      have he : faultEq fc fl fk fc fl fk = true := faultEq_iff.2 ⟨rfl, rfl, rfl⟩
      clear hcell ho1 ho16 hm1 hb3
      go_wp2
      refine wp_region_quiet_grown (by kernel_rfl) (by kernel_rfl) ?_
      repeat (quiet_step (fail))
      refine wpQuiet_nil ?_; intro _ hw'; obtain ⟨pq, hw''⟩ := hw'; subst hw''
      go_wp2
      go_roundw
      case rel => exact ⟨k + 1, by omega, by go_num, by have hb3 := HBW3.out; exact (by repeat (first | exact Below.refl _ _ | assumption | refine below_grown ?_ (by first | omega | (simp [go_sem]; done) | (simp [go_sem] <;> omega)) _ | refine Below.alloc ?_ (by first | omega | (simp [go_sem]; done) | (simp [go_sem] <;> omega)) _ | refine below_bytesW ?_ (by first | omega | (simp [go_sem]; done) | (simp [go_sem] <;> omega)) _ | refine Below.drew ?_ | refine below_drewN ?_ _))⟩
      case measure => simp [intOf]; omega
    · obtain rfl : k = 5 := by omega
      have HBW2 := Lib.hid HBW.out
      clear HATS HATW2 HFX HWF HBR hbr
      have hwsz := HBW2.out.size
      go_upto_region 11 with fail
      go_loopw [6, 7] (fun many i wr' => ∃ k : Nat, k ≤ 13 ∧ i = .int .i64 k ∧ many = .string ⟨(manyT k).toArray⟩ ∧ Below wr.heap.size wr wr') (fun _ i _ => 13 - (intOf i).toNat)
      case atStart => exact ⟨0, Nat.zero_le _, rfl, rfl, Below.refl _ _⟩
      case round =>
        obtain ⟨k, hk, rfl, rfl, hbr'⟩ := hrel
        have hrsz2 := hbr'.size
        by_cases hlt2 : k < 13
        · have hl := manyT_len k
          have hsu := Lib.hid (manyT_succ k)
          have hw1 : IntKind.i64.wrap (97 + (k : Int)) = 97 + (k : Int) := IntWalk.i64_in _ (by omega)
          have hu1 : IntKind.u8.wrap (97 + (k : Int)) = ((manyC k).toNat : Int) := by
            unfold manyC
            rw [IntWalk.u8_in _ (by omega), UInt8.toNat_ofNat']; omega
          have hml : Hid (manyTL k = [104, 111, 115, 116, 32] ++ ([manyC k] ++ [32, 98, 111, 116, 104, 32, 47, 10])) := rfl
          have hso := fun w c => strOf_oneT (manyC k) w c
          have hsm : (manyT k).length ≤ 1000 := by omega
          clear hl
          generalize manyC k = A at *
          have n1 : ¬ 9223372036854775807 < (manyT k).length + 14 := by omega
          go_wp2
          go_roundw
          case rel => first | exact ⟨k + 1, by omega, by go_num, by rw [hsu.out, hml.out]; simp, (by repeat (first | exact Below.refl _ _ | assumption | refine below_grown ?_ (by first | omega | (simp [go_sem]; done) | (simp [go_sem] <;> omega)) _ | refine Below.alloc ?_ (by first | omega | (simp [go_sem]; done) | (simp [go_sem] <;> omega)) _ | refine below_bytesW ?_ (by first | omega | (simp [go_sem]; done) | (simp [go_sem] <;> omega)) _ | refine Below.drew ?_ | refine below_drewN ?_ _))⟩ | ((repeat apply Exists.intro); exact ⟨⟨k + 1, by omega, by go_num, by rw [hsu.out, hml.out]; simp, (by repeat (first | exact Below.refl _ _ | assumption | refine below_grown ?_ (by first | omega | (simp [go_sem]; done) | (simp [go_sem] <;> omega)) _ | refine Below.alloc ?_ (by first | omega | (simp [go_sem]; done) | (simp [go_sem] <;> omega)) _ | refine below_bytesW ?_ (by first | omega | (simp [go_sem]; done) | (simp [go_sem] <;> omega)) _ | refine Below.drew ?_ | refine below_drewN ?_ _))⟩, rfl⟩)
          case measure => simp [intOf]; omega
        · obtain rfl : k = 13 := by omega
          clear hM
          generalize manyT 13 = M at *
          have hbw : Below w.heap.size w wr := HBW2.out.trans (hbr'.mono hwsz)
          have hm1 := hm.below hbw
          have hm := hm1
          have g53 : (Lit.int .i64 53).wf = true := rfl
          have g13 : (Lit.int .i64 13).wf = true := rfl
          have g1 : (Lit.int .i64 1).wf = true := rfl
          have he : faultEq 53 13 1 53 13 1 = true := rfl
          have hwsz2 := hbw.size
          clear hbr' HBW2 HB1
          go_wp2_with (first
            | (go_at_call 5; (with_reducible refine (HFM.out _ ?_).mono ?_); (exact (by repeat (first | exact hm | apply HasMax.grown | apply HasMax.alloc | apply HasMax.drew))); intro e w2 hg; obtain ⟨a2, c2, rfl, hc2, hb2, hl2⟩ := hg; obtain ⟨p2, rfl⟩ := grown_of hb2; clear hb2)
            | (go_at_call 6; refine (topoAlive_any m _ (by repeat (first | exact hm | apply HasMax.grown | apply HasMax.alloc | apply HasMax.drew))).mono ?_; rintro e w1 ⟨rfl, hb1⟩; obtain ⟨p1, rfl⟩ := grown_of hb1; clear hb1))
          go_ret
          exact ⟨by first | rfl | exact ret_bool (by simp), (by repeat (first | exact Below.refl _ _ | assumption | refine below_grown ?_ (by first | omega | (simp [go_sem]; done) | (simp [go_sem] <;> omega)) _ | refine Below.alloc ?_ (by first | omega | (simp [go_sem]; done) | (simp [go_sem] <;> omega)) _ | refine below_bytesW ?_ (by first | omega | (simp [go_sem]; done) | (simp [go_sem] <;> omega)) _ | refine Below.drew ?_ | refine below_drewN ?_ _))⟩
end Go.Proofs.YthklfbakffaioaaDoor
