/- Merged: TplRk, TplRz. -/
import Derived.Test.YtnkckejbkbbdlaaGreatDoorLRa
import Derived.Test.YtnkckejbkbbdlaaGreatDoorTmK
import Derived.Test.YtnkckejbkbbdlaaGreatDoorLUr
import Derived.BigQuiet
import Derived.Test.YtnkckejbkbbdlaaGreatDoorTmI
namespace Go.Proofs.YtnkckejbkbbdlaaGreatDoor
section
open Go Go.RowKit
set_option maxRecDepth 20000
set_option linter.unusedSimpArgs false
set_option linter.unusedVariables false

theorem run_build_tn (s : List UInt8) (w : World) : (Instr.build 41 #[(0, .string ⟨s.toArray⟩)]).run Tryz.prog w = .ok (.agg (tpV ⟨s, zeroU, [], 0⟩)) w := by kernel_rfl
@[go_sem ↓ high] theorem run_op_build_tn (ev : Operand → Value) (dst : Option Tmp) (x0 : Operand) (ty : TypeId) (pos : String) (af : Array Edge) (g : Option (Nat × Bool)) (w : World) :
    Sem.run Tryz.prog (execOp ev { dst := dst, op := .build 41 #[(0, x0)], type := ty, pos := pos, after := af, guard := g }) w = buildRow Tryz.prog w 41 #[(0, ev x0)] := by
  rw [run_op_build]
  simp
@[go_sem] theorem buildTn_at (s : List UInt8) (w : World) : buildRow Tryz.prog w 41 #[(0, .string ⟨s.toArray⟩)] = .ok (.value (.agg (tpV ⟨s, zeroU, [], 0⟩))) w := by
  rw [buildRow, Sem.run_bind, run_build_tn]
  rfl
def RefCkPost (W : List (List UInt8)) (T : List GTpl) (C : List GCh) (w : World) (e : Ending) (w' : World) : Prop :=
  ∃ t : GTpl, e = .returned (.tuple #[.agg (tpV t), .int .i64 (ckLine W T C 0).1, .int .i64 ((ckLine W T C 0).2.1 : Int)]) ∧ Below w.heap.size w w' ∧ ((ckLine W T C 0).1 = 0 → t = (ckLine W T C 0).2.2)
theorem tpV_set22 (x : List UInt8) (u : Bool × GHost × Int × List UInt8) (s : List UInt8) (line : Int) : (tpV ⟨x, u, [], line⟩).setIfInBounds 22 (.string ⟨s.toArray⟩) = tpV ⟨x, u, s, line⟩ := by
  unfold tpV
  rw [List.setIfInBounds_toArray, tpR_set22]
theorem remU_uses (C : List GCh) (s : List UInt8) : remU C [] s = (partsT C s).map usesT := rfl
set_option maxRecDepth 100000 in
set_option maxHeartbeats 8000000 in
theorem refCookie_any (W : List (List UInt8)) (T : List GTpl) (C : List GCh) (R : List RCh) (lo : Nat) (hTl : T.length ≤ 8) (hCl : C.length ≤ 6) (hCv : ∀ c ∈ C, c.vals ≠ [] ∧ c.vals.length ≤ 6 ∧ ∀ x ∈ c.vals, x.length ≤ 100000) (a aw aT : Option Addr) (cap cw cT : Nat) (hk : W.length = 4) (hx : ∀ x ∈ W, x.length ≤ 100000) (w : World) (hin : ListIn chCod w a R 0) (hC : ChsOk w lo R C) (hT : ListIn tpCod w aT T 0) (hw : ListIn strCod w aw W 0) :
    Calls Tryz.prog 21 #[.slice aw W.length cw, .slice aT T.length cT, .slice a R.length cap] w (RefCkPost W T C w) := by
  obtain ⟨POST, hpost⟩ : ∃ POST : Ending → World → Prop, RefCkPost W T C w = POST := ⟨_, rfl⟩
  rw [hpost]
  have HPOST := Lib.hid hpost
  have hRl : R.length ≤ 6 := by rw [hC.1]; exact hCl
  have HRC := Lib.hid hC.1
  have hn1 : nth W 1 = W[1]'(by omega) := by unfold nth; rw [List.getD_eq_getElem?_getD, List.getElem?_eq_getElem (by omega)]; rfl
  have hn2 : nth W 2 = W[2]'(by omega) := by unfold nth; rw [List.getD_eq_getElem?_getD, List.getElem?_eq_getElem (by omega)]; rfl
  have hn3 : nth W 3 = W[3]'(by omega) := by unfold nth; rw [List.getD_eq_getElem?_getD, List.getElem?_eq_getElem (by omega)]; rfl
  have l1 := hx _ (List.getElem_mem (l := W) (n := 1) (by omega))
  have l2 := hx _ (List.getElem_mem (l := W) (n := 2) (by omega))
  have l3 := hx _ (List.getElem_mem (l := W) (n := 3) (by omega))
  have HNM : Hid (∀ w', Calls Tryz.prog 38 #[.string ⟨(W[1]'(by omega)).toArray⟩] w' fun e w'' => e = .returned (.bool (nameT (W[1]'(by omega)))) ∧ w' = w'') := fun w' => refName_any _ (by unfold maxLen; omega) w'
  have HPU : Hid (∀ w', Calls Tryz.prog 41 #[.string ⟨(W[2]'(by omega)).toArray⟩] w' fun e w'' => e = .returned (.tuple #[.agg (urlV (urlOut (W[2]'(by omega))).2.1 (urlOut (W[2]'(by omega))).2.2.1 (urlOut (W[2]'(by omega))).2.2.2.1 (urlOut (W[2]'(by omega))).2.2.2.2), .int .i64 (urlOut (W[2]'(by omega))).1]) ∧ Below w'.heap.size w' w'') := fun w' => refParseU_any _ (by omega) w'
  have HUN : Hid (∀ w', Calls Tryz.prog 40 #[.string ⟨(W[3]'(by omega)).toArray⟩] w' (UnwordPost (W[3]'(by omega)) w')) := fun w' => refUnword_any _ (by omega) w'
  have hux := unwL_len (W[3]'(by omega))
  have hck : ckLine W T C 0 = (if nameT (W[1]'(by omega)) = false then (221, 1, zeroTp) else if T.any (fun t => t.name == (W[1]'(by omega))) = true then (52, 1, zeroTp) else if (urlOut (W[2]'(by omega))).1 ≠ 0 then ((urlOut (W[2]'(by omega))).1, 2, zeroTp) else if (unwL (W[3]'(by omega))).2 = false then (131, 3, zeroTp) else if textE C (unwL (W[3]'(by omega))).1 ≠ 0 then (textE C (unwL (W[3]'(by omega))).1, 3, zeroTp) else if T.length = 8 then (53, 0, zeroTp) else (0, 0, ⟨W[1]'(by omega), (urlOut (W[2]'(by omega))).2, (unwL (W[3]'(by omega))).1, 0⟩) : Int × Nat × GTpl) := by
    unfold ckLine
    rw [hn1, hn2, hn3]
  have HCK := Lib.hid hck
  have HIN := Lib.hid hin
  have HC := Lib.hid hC
  have HT := Lib.hid hT
  have HV := Lib.hid hCv
  obtain ⟨g, o, rfl, _, hgw, hat⟩ := hw.resolve_left (fun h => by rw [h] at hk; cases hk)
  have c1 := strAt hat 1 (by omega)
  have C1 : Hid (∀ w', Below w.heap.size w w' → w'.cell? ⟨g, o + 1, none⟩ = some (.string ⟨(W[1]'(by omega)).toArray⟩)) := fun w' h => strAt (hat.below h) 1 (by omega)
  have C2 : Hid (∀ w', Below w.heap.size w w' → w'.cell? ⟨g, o + 2, none⟩ = some (.string ⟨(W[2]'(by omega)).toArray⟩)) := fun w' h => strAt (hat.below h) 2 (by omega)
  have C3 : Hid (∀ w', Below w.heap.size w w' → w'.cell? ⟨g, o + 3, none⟩ = some (.string ⟨(W[3]'(by omega)).toArray⟩)) := fun w' h => strAt (hat.below h) 3 (by omega)
  have ig : isOld g w = true := isOld_iff.2 hgw
  have hk1 : (1 : Int) < (W.length : Int) := by omega
  have hk2 : (2 : Int) < (W.length : Int) := by omega
  have hk3 : (3 : Int) < (W.length : Int) := by omega
  have HERR : Hid (∀ (code : Int) (k : Nat) t w', ckLine W T C 0 = (code, k, zeroTp) → code ≠ 0 → Below w.heap.size w w' → POST (.returned (.tuple #[.agg (tpV t), .int .i64 code, .int .i64 (k : Int)])) w') := fun code k t w' h1 h2 h3 => by
    rw [← HPOST.out]
    exact ⟨t, by rw [h1], h3, fun h => absurd h (by rw [h1]; exact h2)⟩
  have HGOOD : Hid (∀ t w', ckLine W T C 0 = (0, 0, t) → Below w.heap.size w w' → POST (.returned (.tuple #[.agg (tpV t), .int .i64 0, .int .i64 0])) w') := fun t w' h1 h3 => by
    rw [← HPOST.out]
    exact ⟨t, by rw [h1]; rfl, h3, fun _ => by rw [h1]⟩
  clear hpost hck hn1 hn2 hn3 hw hin hC hT hCv hat
  generalize hx1 : W[1]'(by omega) = x at *
  generalize hx2 : W[2]'(by omega) = y at *
  generalize hx4 : W[3]'(by omega) = z at *
  have hk4 : 4 ≤ W.length := by omega
  clear hx1 hx2 hx4 hk
  cases hn : nameT x
  · have HE : Hid (ckLine W T C 0 = (221, 1, zeroTp)) := by show _ = _; rw [HCK.out, if_pos hn]
    rw [hn] at HNM
    clear HCK hn
    go_enter Tryz.func21, Tryz.ntmps21
    go_wp2_with (go_at_call 38; (with_reducible refine (HNM.out _).mono ?_); rintro e w3 ⟨rfl, rfl⟩)
    exact ret_cell_tmp2 w.heap.size (tpV ⟨x, zeroU, [], 0⟩) (.int .i64 221) (.int .i64 1) rfl rfl rfl rfl agg_tp (by simp [go_sem]) (by simp [go_sem]) rfl (HERR.out 221 1 _ _ HE.out (by decide) (below_setRow (by repeat (first | exact Below.refl _ _ | assumption | refine below_grown ?_ (by first | omega | (simp [go_sem]; done) | (simp [go_sem] <;> omega)) _ | refine Below.alloc ?_ (by first | omega | (simp [go_sem]; done) | (simp [go_sem] <;> omega)) _ | refine below_bytesW ?_ (by first | omega | (simp [go_sem]; done) | (simp [go_sem] <;> omega)) _ | refine Below.drew ?_ | refine below_drewN ?_ _)) (Nat.le_refl _) _))
  · rw [hn] at HNM
    have HC2 : Hid (ckLine W T C 0 = (if T.any (fun t => t.name == x) = true then (52, 1, zeroTp) else if (urlOut y).1 ≠ 0 then ((urlOut y).1, 2, zeroTp) else if (unwL z).2 = false then (131, 3, zeroTp) else if textE C (unwL z).1 ≠ 0 then (textE C (unwL z).1, 3, zeroTp) else if T.length = 8 then (53, 0, zeroTp) else (0, 0, ⟨x, (urlOut y).2, (unwL z).1, 0⟩) : Int × Nat × GTpl)) := by show _ = _; rw [HCK.out, if_neg (by rw [hn]; decide)]
    clear HCK hn
    go_enter Tryz.func21, Tryz.ntmps21
    go_upto_region 4 with (go_at_call 38; (with_reducible refine (HNM.out _).mono ?_); rintro e w3 ⟨rfl, rfl⟩)
    obtain ⟨wa, hwa⟩ : ∃ wa, (w.alloc (Obj.cells (tpV zeroTp) 41)).alloc (Obj.cells (tpV ⟨x, zeroU, [], 0⟩) 41) = wa := ⟨_, rfl⟩
    have HBA : Hid (Below w.heap.size w wa) := by rw [← hwa]; exact (by repeat (first | exact Below.refl _ _ | assumption | refine below_grown ?_ (by first | omega | (simp [go_sem]; done) | (simp [go_sem] <;> omega)) _ | refine Below.alloc ?_ (by first | omega | (simp [go_sem]; done) | (simp [go_sem] <;> omega)) _ | refine below_bytesW ?_ (by first | omega | (simp [go_sem]; done) | (simp [go_sem] <;> omega)) _ | refine Below.drew ?_ | refine below_drewN ?_ _))
    have HV6a : Hid (hasVar wa w.heap.size 24 = true) := by rw [← hwa]; show _ = _; simp [go_sem]
    have HV9a : Hid (Var wa (w.heap.size + 1) (tpR ⟨x, zeroU, [], 0⟩)) := by rw [← hwa]; exact Var.new _ _ _ rfl (by simp)
    change Code.wp _ _ _ _ ((w.alloc (Obj.cells (tpV zeroTp) 41)).alloc (Obj.cells (tpV ⟨x, zeroU, [], 0⟩) 41))
    rw [hwa]
    clear hwa
    obtain ⟨p9, hp9⟩ : ∃ p9, w.heap.size + 1 = p9 := ⟨_, rfl⟩
    have hp9w : w.heap.size < p9 := by omega
    rw [hp9] at HV9a
    simp only [hp9]
    clear hp9
    have hp9a := HV9a.out.lt
    have HTK : Hid (∀ k (hk : k < T.length), (T.take (k + 1)).any (fun t => t.name == x) = ((T.take k).any (fun t => t.name == x) || ((T[k]'hk).name == x))) := fun k hk => by
      rw [List.take_succ_eq_append_getElem hk, List.any_append]; simp
    have HANY : Hid (∀ k (hk : k < T.length), (T[k]'hk).name = x → T.any (fun t => t.name == x) = true) := fun k hk h => List.any_eq_true.2 ⟨_, List.getElem_mem hk, by rw [beq_iff_eq]; exact h⟩
    go_wp2
    go_loopw [30] (fun i wr => ∃ k : Nat, k ≤ T.length ∧ i = .int .i64 (k : Int) ∧ Below w.heap.size w wr ∧ hasVar wr w.heap.size 24 = true ∧ Var wr p9 (tpR ⟨x, zeroU, [], 0⟩) ∧ Hid ((T.take k).any (fun t => t.name == x) = false)) (fun i _ => T.length - (intOf i).toNat)
    case atStart => exact ⟨0, Nat.zero_le _, rfl, HBA.out, HV6a.out, HV9a.out, rfl⟩
    case round =>
      obtain ⟨k, hk, rfl, hbr, hv6, hv9, hno⟩ := hrel
      have hszr := hbr.size
      have HBR := Lib.hid hbr
      have HV9 := Lib.hid hv9
      have hp9r := hv9.lt
      have i6 : isOld w.heap.size wr = true := isOld_iff.2 (by omega)
      have i9 : isOld p9 wr = true := isOld_iff.2 (by omega)
      clear hbr hv9
      by_cases hlt : k < T.length
      · obtain ⟨b1, o1, rfl, _, g1, hat1⟩ := HT.out.resolve_left (fun h => by subst h; exact absurd hlt (Nat.not_lt_zero _))
        obtain ⟨r1, q1⟩ := tpRow (hat1.below HBR.out) k hlt
        have htk := HTK.out k hlt
        rw [hno.out, Bool.false_or] at htk
        have HT1 := Lib.hid htk
        have HAN := Lib.hid (HANY.out k hlt)
        have hi1 : (k : Int) < (T.length : Int) := by omega
        have hc1 := C1.out _ HBR.out
        have hig : isOld g wr = true := isOld_iff.2 (by omega)
        clear hat1 htk hno
        generalize T[k]'hlt = tt at *
        go_upto_region 7 with fail
        obtain ⟨w5, hw5⟩ : ∃ w5, wr.alloc (Obj.cells (tpV tt) 41) = w5 := ⟨_, rfl⟩
        have HB5 : Hid (Below wr.heap.size wr w5) := by rw [← hw5]; exact (Below.refl _ _).alloc (Nat.le_refl _) _
        have HV11 : Hid (Var w5 wr.heap.size (tpR tt)) := by rw [← hw5]; exact Var.new _ _ _ rfl rfl
        rw [hw5]
        clear hw5
        obtain ⟨p11, hp11⟩ : ∃ p11, wr.heap.size = p11 := ⟨_, rfl⟩
        have hp11a : wr.heap.size ≤ p11 := by omega
        rw [hp11] at HV11
        simp only [hp11]
        clear hp11
        have hs5 := HB5.out.size
        have HBW5 : Hid (Below w.heap.size w w5) := HBR.out.trans (HB5.out.mono (by omega))
        have d1 : w5.cell? ⟨p11, 0, none⟩ = some (.string ⟨tt.name.toArray⟩) := by
          obtain ⟨t', h⟩ := HV11.out
          simp only [World.cell?, h]
          exact tpV_0 tt
        have d2 := C1.out _ HBW5.out
        have d3 : isOld p11 w5 = true := isOld_iff.2 HV11.out.lt
        have d4 : isOld g w5 = true := isOld_iff.2 (by omega)
        have d5 : isOld w.heap.size w5 = true := isOld_iff.2 (by omega)
        have d6 : isOld p9 w5 = true := isOld_iff.2 (by omega)
        have hv65 : hasVar w5 w.heap.size 24 = true := (hasVar_congr (HB5.out.block _ (by omega))).trans hv6
        have HV95 := Lib.hid (HV9.out.below HB5.out)
        clear r1 q1 hc1 hig i6 i9 hv6 HV9 HV11
        by_cases he : tt.name = x
        · have hany := HAN.out he
          have HE : Hid (ckLine W T C 0 = (52, 1, zeroTp)) := by show _ = _; rw [HC2.out, if_pos hany]
          have he2 : (tt.name == x) = true := by rw [beq_iff_eq]; exact he
          have k1 : hasRow w5 ⟨p9, 0, none⟩ 24 = true := HV95.out.hasRow (tpR_length _)
          have k2 : rowAt w5 ⟨p9, 0, none⟩ 24 = tpV ⟨x, zeroU, [], 0⟩ := HV95.out.rowAt (tpR_length _)
          clear HC2 HT1 HAN he hany
          go_big_quiet (fail)
          go_wp2
          exact ret_cell_tmp2 w.heap.size (tpV ⟨x, zeroU, [], 0⟩) (.int .i64 52) (.int .i64 1) rfl rfl rfl rfl agg_tp (by simp [go_sem, hv65, d5]) (by simp [go_sem, hv65, d5]) rfl (HERR.out 52 1 _ _ HE.out (by decide) (below_setRow (by have hb5 := HBW5.out; exact (by repeat (first | exact Below.refl _ _ | assumption | refine below_grown ?_ (by first | omega | (simp [go_sem]; done) | (simp [go_sem] <;> omega)) _ | refine Below.alloc ?_ (by first | omega | (simp [go_sem]; done) | (simp [go_sem] <;> omega)) _ | refine below_bytesW ?_ (by first | omega | (simp [go_sem]; done) | (simp [go_sem] <;> omega)) _ | refine Below.drew ?_ | refine below_drewN ?_ _))) (Nat.le_refl _) _))
        · have he2 : (tt.name == x) = false := by rw [beq_eq_false_iff_ne]; exact he
          have HT2 : Hid ((T.take (k + 1)).any (fun t => t.name == x) = false) := by show _ = _; rw [HT1.out, he2]
          clear HT1 HAN he
          go_big_quiet (fail)
          go_wp2
          go_roundw
          case rel => exact ⟨k + 1, by omega, by go_num, by have hb5 := HBW5.out; exact (by repeat (first | exact Below.refl _ _ | assumption | refine below_grown ?_ (by first | omega | (simp [go_sem]; done) | (simp [go_sem] <;> omega)) _ | refine Below.alloc ?_ (by first | omega | (simp [go_sem]; done) | (simp [go_sem] <;> omega)) _ | refine below_bytesW ?_ (by first | omega | (simp [go_sem]; done) | (simp [go_sem] <;> omega)) _ | refine Below.drew ?_ | refine below_drewN ?_ _)), by simp [go_sem, hv65], HV95.out.below (by have hb6 := Below.refl w5.heap.size w5; exact (by repeat (first | exact Below.refl _ _ | assumption | refine below_grown ?_ (by first | omega | (simp [go_sem]; done) | (simp [go_sem] <;> omega)) _ | refine Below.alloc ?_ (by first | omega | (simp [go_sem]; done) | (simp [go_sem] <;> omega)) _ | refine below_bytesW ?_ (by first | omega | (simp [go_sem]; done) | (simp [go_sem] <;> omega)) _ | refine Below.drew ?_ | refine below_drewN ?_ _))), HT2.out⟩
          case measure => simp [intOf]; omega
      · obtain rfl : k = T.length := by omega
        have hnm : T.any (fun t => t.name == x) = false := by have h9 := hno.out; rwa [List.take_length] at h9
        have HC3 : Hid (ckLine W T C 0 = (if (urlOut y).1 ≠ 0 then ((urlOut y).1, 2, zeroTp) else if (unwL z).2 = false then (131, 3, zeroTp) else if textE C (unwL z).1 ≠ 0 then (textE C (unwL z).1, 3, zeroTp) else if T.length = 8 then (53, 0, zeroTp) else (0, 0, ⟨x, (urlOut y).2, (unwL z).1, 0⟩) : Int × Nat × GTpl)) := by show _ = _; rw [HC2.out, if_neg (by rw [hnm]; decide)]
        have c2 := C2.out _ HBR.out
        have hig : isOld g wr = true := isOld_iff.2 (by omega)
        clear hno hnm HC2 HTK HANY HT
        obtain ⟨⟨e, u⟩, hU⟩ : ∃ q, urlOut y = q := ⟨_, rfl⟩
        rw [hU] at HC3
        have HPU2 : Hid (∀ w', Calls Tryz.prog 41 #[.string ⟨y.toArray⟩] w' fun e' w'' => e' = .returned (.tuple #[.agg (urlV u.1 u.2.1 u.2.2.1 u.2.2.2), .int .i64 e]) ∧ Below w'.heap.size w' w'') := fun w' => by have := HPU.out w'; rw [hU] at this; exact this
        dsimp only at HC3
        clear hU HPU
        go_upto_region 11 with (go_at_call 41; (with_reducible refine (HPU2.out _).mono ?_); rintro e w1 ⟨rfl, hb1⟩; obtain ⟨p1, rfl⟩ := grown_of hb1; clear hb1)
        obtain ⟨wu, hwu⟩ : ∃ wu, (grown wr p1).alloc (Obj.cells (urlV u.1 u.2.1 u.2.2.1 u.2.2.2) 39) = wu := ⟨_, rfl⟩
        have HBU0 : Hid (Below wr.heap.size wr wu) := by rw [← hwu]; exact (by repeat (first | exact Below.refl _ _ | assumption | refine below_grown ?_ (by first | omega | (simp [go_sem]; done) | (simp [go_sem] <;> omega)) _ | refine Below.alloc ?_ (by first | omega | (simp [go_sem]; done) | (simp [go_sem] <;> omega)) _ | refine below_bytesW ?_ (by first | omega | (simp [go_sem]; done) | (simp [go_sem] <;> omega)) _ | refine Below.drew ?_ | refine below_drewN ?_ _))
        have HV12 : Hid (Var wu (wr.heap.size + p1.os.size) (urlR u.1 u.2.1 u.2.2.1 u.2.2.2)) := by rw [← hwu]; exact Var.new _ _ _ rfl (by simp [go_sem])
        rw [hwu]
        clear hwu
        obtain ⟨p12, hp12⟩ : ∃ p12, wr.heap.size + p1.os.size = p12 := ⟨_, rfl⟩
        have hp12w : wr.heap.size ≤ p12 := by omega
        rw [hp12] at HV12
        simp only [hp12]
        clear hp12
        have hsu := HBU0.out.size
        have HBU : Hid (Below w.heap.size w wu) := HBR.out.trans (HBU0.out.mono (by omega))
        have hv6u : hasVar wu w.heap.size 24 = true := (hasVar_congr (HBU0.out.block _ (by omega))).trans hv6
        have HV9u := Lib.hid (HV9.out.below HBU0.out)
        have j6 : isOld w.heap.size wu = true := isOld_iff.2 (by omega)
        have j9 : isOld p9 wu = true := isOld_iff.2 (by omega)
        have jg : isOld g wu = true := isOld_iff.2 (by omega)
        have k1 : hasRow wu ⟨p9, 0, none⟩ 24 = true := HV9u.out.hasRow (tpR_length _)
        have k2 : rowAt wu ⟨p9, 0, none⟩ 24 = tpV ⟨x, zeroU, [], 0⟩ := HV9u.out.rowAt (tpR_length _)
        clear HPU2 HBU0 hv6 HV9 c2 hig i6 i9 HBR
        by_cases he : e = 0
        · subst he
          have HC4 : Hid (ckLine W T C 0 = (if (unwL z).2 = false then (131, 3, zeroTp) else if textE C (unwL z).1 ≠ 0 then (textE C (unwL z).1, 3, zeroTp) else if T.length = 8 then (53, 0, zeroTp) else (0, 0, ⟨x, u, (unwL z).1, 0⟩) : Int × Nat × GTpl)) := by show _ = _; rw [HC3.out, if_neg (show ¬ ((0 : Int) ≠ 0) by decide)]
          have c3 := C3.out _ HBU.out
          clear HC3
          go_upto_region 14 with (go_at_call 40; (with_reducible refine (HUN.out _).mono ?_); intro e w3 hg; obtain ⟨s, ok, huw, rfl, hb3⟩ := hg; have HUW := Lib.hid (unwL_of huw); have HB3 := Lib.hid hb3; clear huw hb3)
          rw [HUW.out] at HC4 hux
          dsimp only at HC4 hux
          have hs3 := HB3.out.size
          have HBW3 : Hid (Below w.heap.size w w3) := HBU.out.trans (HB3.out.mono (by omega))
          have hv63 : hasVar w3 w.heap.size 24 = true := (hasVar_congr (HB3.out.block _ (by omega))).trans hv6u
          have HV93 := Lib.hid (HV9u.out.below HB3.out)
          have HV123 := Lib.hid (HV12.out.below HB3.out)
          clear j6 j9 jg k1 k2 hv6u c3 HV9u HV12 HBU HB3 HUW
          have j6 : isOld w.heap.size w3 = true := isOld_iff.2 (by omega)
          have j9 : isOld p9 w3 = true := isOld_iff.2 HV93.out.lt
          have j12 : isOld p12 w3 = true := isOld_iff.2 HV123.out.lt
          have k1 : hasRow w3 ⟨p9, 0, none⟩ 24 = true := HV93.out.hasRow (tpR_length _)
          have k2 : rowAt w3 ⟨p9, 0, none⟩ 24 = tpV ⟨x, zeroU, [], 0⟩ := HV93.out.rowAt (tpR_length _)
          cases ok
          · have HE : Hid (ckLine W T C 0 = (131, 3, zeroTp)) := by show _ = _; rw [HC4.out, if_pos rfl]
            clear HC4
            go_wp2
            exact ret_cell_tmp2 w.heap.size (tpV ⟨x, zeroU, [], 0⟩) (.int .i64 131) (.int .i64 3) rfl rfl rfl rfl agg_tp (by simp [go_sem, hv63, j6]) (by simp [go_sem, hv63, j6]) rfl (HERR.out 131 3 _ _ HE.out (by decide) (below_setRow HBW3.out (Nat.le_refl _) _))
          · have HC5 : Hid (ckLine W T C 0 = (if textE C s ≠ 0 then (textE C s, 3, zeroTp) else if T.length = 8 then (53, 0, zeroTp) else (0, 0, ⟨x, u, s, 0⟩) : Int × Nat × GTpl)) := by show _ = _; rw [HC4.out, if_neg (by decide)]
            clear HC4
            have HUS : Hid (∀ w', ListIn chCod w' a R 0 → Calls Tryz.prog 42 #[.string ⟨s.toArray⟩, .slice a R.length cap] w' (Gives2 natCod ((remU C [] s).getD []) (remU C [] s).isSome w')) := fun w' h => refUses_any C R HC.out.names (by omega) a cap s (by omega) w' h
            rw [remU_uses] at HUS
            cases hpt : partsT C s with
            | none =>
              have HE : Hid (ckLine W T C 0 = (222, 3, zeroTp)) := by
                have hte : textE C s = 222 := by unfold textE; rw [hpt]
                show _ = _; rw [HC5.out, hte, if_pos (show (222 : Int) ≠ 0 by decide)]
              rw [hpt] at HUS
              have HUS2 : Hid (∀ w', ListIn chCod w' a R 0 → Calls Tryz.prog 42 #[.string ⟨s.toArray⟩, .slice a R.length cap] w' (Gives2 natCod [] false w')) := HUS.out
              clear HC5 hpt HUS
              go_wp2_with (go_at_call 42; (with_reducible refine (HUS2.out _ (HIN.out.below HBW3.out)).mono ?_); rintro e w1 ⟨al, cl, rfl, hcl, hb1, hl1⟩; obtain ⟨p1, rfl⟩ := grown_of hb1; clear hb1 hl1)
              exact ret_cell_tmp2 w.heap.size (tpV ⟨x, zeroU, [], 0⟩) (.int .i64 222) (.int .i64 3) rfl rfl rfl rfl agg_tp (by simp [go_sem, hv63, j6]) (by simp [go_sem, hv63, j6]) rfl (HERR.out 222 3 _ _ HE.out (by decide) (below_setRow (HBW3.out.trans (Below.mono (B := w3.heap.size) (by repeat (first | exact Below.refl _ _ | assumption | refine below_grown ?_ (by first | omega | (simp [go_sem]; done) | (simp [go_sem] <;> omega)) _ | refine Below.alloc ?_ (by first | omega | (simp [go_sem]; done) | (simp [go_sem] <;> omega)) _ | refine below_bytesW ?_ (by first | omega | (simp [go_sem]; done) | (simp [go_sem] <;> omega)) _ | refine Below.drew ?_ | refine below_drewN ?_ _)) (by omega))) (Nat.le_refl _) _))
            | some l =>
              have hok := partsT_ok hpt
              have hus := usesT_lt hpt
              have hul := usesT_len l
              have hte : textE C s = if 24 < rowsGo C 1 (usesT l) then 53 else if 2000 < lenGo C 0 l then 54 else 0 := by unfold textE; rw [hpt]
              rw [hte] at HC5
              rw [hpt] at HUS
              have HUS2 : Hid (∀ w', ListIn chCod w' a R 0 → Calls Tryz.prog 42 #[.string ⟨s.toArray⟩, .slice a R.length cap] w' (Gives2 natCod (usesT l) true w')) := HUS.out
              have hpos : ∀ u ∈ usesT l, 0 < (valsC C u).length := fun u hu => by
                rw [valsC_at C u (hus u hu)]
                exact List.length_pos_iff.2 (HV.out _ (List.getElem_mem _)).1
              have HMI : Hid (24 < manyGo C 1 (usesT l) ↔ 24 < rowsGo C 1 (usesT l)) := manyGo_iff C (usesT l) 1 (Nat.le_refl _) hpos
              have HMN : Hid (∀ au cu w', ListIn chCod w' a R 0 → ChsOk w' lo R C → ListIn natCod w' au (usesT l) 0 → Calls Tryz.prog 43 #[.slice au (usesT l).length cu, .slice a R.length cap] w' fun e w'' => e = .returned (.int .i64 (manyGo C 1 (usesT l) : Nat)) ∧ w' = w'') := fun au cu w' h1 h2 h3 => refMany_any C R lo (usesT l) (by omega) hus (fun c hc => by have := (HV.out c hc).2.1; omega) a au cap cu w' h1 h2 h3
              have HLG : Hid (∀ w', ListIn chCod w' a R 0 → ChsOk w' lo R C → Calls Tryz.prog 44 #[.string ⟨s.toArray⟩, .slice a R.length cap] w' fun e w'' => e = .returned (.bool (decide (2000 < lenGo C 0 l))) ∧ Below w'.heap.size w' w'') := fun w' h1 h2 => refLong_any C R lo (by omega) (fun c hc => ⟨by have := (HV.out c hc).2.1; omega, (HV.out c hc).2.2⟩) a cap s (by omega) l hpt w' h1 h2
              clear hok hus hpos hte hpt HUS hul
              generalize usesT l = us at *
              generalize manyGo C 1 us = mn at *
              generalize rowsGo C 1 us = rw0 at *
              generalize lenGo C 0 l = ln0 at *
              go_upto_region 19 with (go_at_call 42; (with_reducible refine (HUS2.out _ (HIN.out.below HBW3.out)).mono ?_); rintro e w6 ⟨al, cl, rfl, hcl, hb1, hl1⟩; have HB6 := Lib.hid hb1; have HL6 := Lib.hid (hl1.mono (Nat.zero_le _)); clear hb1 hl1)
              have hs6 := HB6.out.size
              have HBW6 : Hid (Below w.heap.size w w6) := HBW3.out.trans (HB6.out.mono (by omega))
              have hv66 : hasVar w6 w.heap.size 24 = true := (hasVar_congr (HB6.out.block _ (by omega))).trans hv63
              have HV96 := Lib.hid (HV93.out.below HB6.out)
              have HV126 := Lib.hid (HV123.out.below HB6.out)
              have HIN6 := Lib.hid (HIN.out.below HBW6.out)
              have HC6 := Lib.hid (HC.out.below HBW6.out)
              clear j6 j9 j12 k1 k2 hv63 HV93 HV123 HBW3 HB6 HUS2 HIN HC
              have j6 : isOld w.heap.size w6 = true := isOld_iff.2 (by omega)
              have j9 : isOld p9 w6 = true := isOld_iff.2 HV96.out.lt
              have j12 : isOld p12 w6 = true := isOld_iff.2 HV126.out.lt
              have k1 : hasRow w6 ⟨p9, 0, none⟩ 24 = true := HV96.out.hasRow (tpR_length _)
              have k2 : rowAt w6 ⟨p9, 0, none⟩ 24 = tpV ⟨x, zeroU, [], 0⟩ := HV96.out.rowAt (tpR_length _)
              by_cases hrw : 24 < rw0
              · have HE : Hid (ckLine W T C 0 = (53, 3, zeroTp)) := by show _ = _; rw [HC5.out, if_pos hrw, if_pos (show (53 : Int) ≠ 0 by decide)]
                have hmi : (24 : Int) < (mn : Int) := by have := HMI.out.2 hrw; omega
                clear HC5 hrw
                go_wp2_with (go_at_call 43; (with_reducible refine (HMN.out _ _ _ HIN6.out HC6.out HL6.out).mono ?_); rintro e w7 ⟨rfl, rfl⟩)
                exact ret_cell_tmp2 w.heap.size (tpV ⟨x, zeroU, [], 0⟩) (.int .i64 53) (.int .i64 3) rfl rfl rfl rfl agg_tp (by simp [go_sem, hv66, j6]) (by simp [go_sem, hv66, j6]) rfl (HERR.out 53 3 _ _ HE.out (by decide) (below_setRow HBW6.out (Nat.le_refl _) _))
              · have HC6' : Hid (ckLine W T C 0 = (if (if 2000 < ln0 then (54 : Int) else 0) ≠ 0 then ((if 2000 < ln0 then 54 else 0), 3, zeroTp) else if T.length = 8 then (53, 0, zeroTp) else (0, 0, ⟨x, u, s, 0⟩) : Int × Nat × GTpl)) := by show _ = _; rw [HC5.out, if_neg hrw]
                have hmi : ¬ (24 : Int) < (mn : Int) := fun h9 => hrw (HMI.out.1 (by omega))
                clear HC5 hrw
                by_cases hln : 2000 < ln0
                · have HE : Hid (ckLine W T C 0 = (54, 3, zeroTp)) := by show _ = _; rw [HC6'.out, if_pos hln, if_pos (show (54 : Int) ≠ 0 by decide)]
                  rw [decide_eq_true hln] at HLG
                  clear HC6' hln
                  go_wp2_with (first
                    | (go_at_call 43; (with_reducible refine (HMN.out _ _ _ HIN6.out HC6.out HL6.out).mono ?_); rintro e w7 ⟨rfl, rfl⟩)
                    | (go_at_call 44; (with_reducible refine (HLG.out _ HIN6.out HC6.out).mono ?_); rintro e w1 ⟨rfl, hb1⟩; obtain ⟨p1, rfl⟩ := grown_of hb1; clear hb1))
                  exact ret_cell_tmp2 w.heap.size (tpV ⟨x, zeroU, [], 0⟩) (.int .i64 54) (.int .i64 3) rfl rfl rfl rfl agg_tp (by simp [go_sem, hv66, j6]) (by simp [go_sem, hv66, j6]) rfl (HERR.out 54 3 _ _ HE.out (by decide) (below_setRow (HBW6.out.trans (Below.mono (B := w6.heap.size) (by repeat (first | exact Below.refl _ _ | assumption | refine below_grown ?_ (by first | omega | (simp [go_sem]; done) | (simp [go_sem] <;> omega)) _ | refine Below.alloc ?_ (by first | omega | (simp [go_sem]; done) | (simp [go_sem] <;> omega)) _ | refine below_bytesW ?_ (by first | omega | (simp [go_sem]; done) | (simp [go_sem] <;> omega)) _ | refine Below.drew ?_ | refine below_drewN ?_ _)) (by omega))) (Nat.le_refl _) _))
                · have HC7 : Hid (ckLine W T C 0 = (if T.length = 8 then (53, 0, zeroTp) else (0, 0, ⟨x, u, s, 0⟩) : Int × Nat × GTpl)) := by show _ = _; rw [HC6'.out, if_neg hln, if_neg (show ¬ ((0 : Int) ≠ 0) by decide)]
                  rw [decide_eq_false hln] at HLG
                  clear HC6' hln
                  by_cases h8 : T.length = 8
                  · have HE : Hid (ckLine W T C 0 = (53, 0, zeroTp)) := by show _ = _; rw [HC7.out, if_pos h8]
                    have h8i : (8 : Int) ≤ (T.length : Int) := by omega
                    clear HC7 h8
                    go_wp2_with (first
                      | (go_at_call 43; (with_reducible refine (HMN.out _ _ _ HIN6.out HC6.out HL6.out).mono ?_); rintro e w7 ⟨rfl, rfl⟩)
                      | (go_at_call 44; (with_reducible refine (HLG.out _ HIN6.out HC6.out).mono ?_); rintro e w1 ⟨rfl, hb1⟩; obtain ⟨p1, rfl⟩ := grown_of hb1; clear hb1))
                    exact ret_cell_tmp2 w.heap.size (tpV ⟨x, zeroU, [], 0⟩) (.int .i64 53) (.int .i64 0) rfl rfl rfl rfl agg_tp (by simp [go_sem, hv66, j6]) (by simp [go_sem, hv66, j6]) rfl (HERR.out 53 0 _ _ HE.out (by decide) (below_setRow (HBW6.out.trans (Below.mono (B := w6.heap.size) (by repeat (first | exact Below.refl _ _ | assumption | refine below_grown ?_ (by first | omega | (simp [go_sem]; done) | (simp [go_sem] <;> omega)) _ | refine Below.alloc ?_ (by first | omega | (simp [go_sem]; done) | (simp [go_sem] <;> omega)) _ | refine below_bytesW ?_ (by first | omega | (simp [go_sem]; done) | (simp [go_sem] <;> omega)) _ | refine Below.drew ?_ | refine below_drewN ?_ _)) (by omega))) (Nat.le_refl _) _))
                  · have HE : Hid (ckLine W T C 0 = (0, 0, ⟨x, u, s, 0⟩)) := by show _ = _; rw [HC7.out, if_neg h8]
                    have h8i : ¬ (8 : Int) ≤ (T.length : Int) := by omega
                    clear HC7 h8
                    go_upto_region 25 with (first
                      | (go_at_call 43; (with_reducible refine (HMN.out _ _ _ HIN6.out HC6.out HL6.out).mono ?_); rintro e w7 ⟨rfl, rfl⟩)
                      | (go_at_call 44; (with_reducible refine (HLG.out _ HIN6.out HC6.out).mono ?_); rintro e w1 ⟨rfl, hb1⟩; obtain ⟨p1, rfl⟩ := grown_of hb1; clear hb1))
                    obtain ⟨w8, hw8⟩ : ∃ w8, grown w6 p1 = w8 := ⟨_, rfl⟩
                    have HB8 : Hid (Below w6.heap.size w6 w8) := by rw [← hw8]; exact below_grown' w6 p1
                    rw [hw8]
                    clear hw8
                    have hs8 := HB8.out.size
                    have HBW8 : Hid (Below w.heap.size w w8) := HBW6.out.trans (HB8.out.mono (by omega))
                    have hv68 : hasVar w8 w.heap.size 24 = true := (hasVar_congr (HB8.out.block _ (by omega))).trans hv66
                    have HV98 := Lib.hid (HV96.out.below HB8.out)
                    have HV128 := Lib.hid (HV126.out.below HB8.out)
                    clear j6 j9 j12 k1 k2 hv66 HV96 HV126 HBW6 HB8 HMN HLG HIN6 HC6 HL6
                    have j6 : isOld w.heap.size w8 = true := isOld_iff.2 (by omega)
                    have j9 : isOld p9 w8 = true := isOld_iff.2 HV98.out.lt
                    have j12 : isOld p12 w8 = true := isOld_iff.2 HV128.out.lt
                    have k12 : hasRow w8 ⟨p12, 0, none⟩ 21 = true := HV128.out.hasRow (urlR_length _ _ _ _)
                    have k13 : rowAt w8 ⟨p12, 0, none⟩ 21 = urlV u.1 u.2.1 u.2.2.1 u.2.2.2 := HV128.out.rowAt (urlR_length _ _ _ _)
                    have hst : storeRow Tryz.prog w8 39 (.pointer (some ⟨p9, 1, none⟩)) (.agg (urlV u.1 u.2.1 u.2.2.1 u.2.2.2)) = .ok .skip (w8.setRow p9 (tpV ⟨x, u, [], 0⟩)) := store_url _ _ _ zeroU u _ _ HV98.out
                    have k5 : w8.frozen? ⟨p9, 22, none⟩ = false := HV98.out.free 22
                    have k4 : hasVar w8 p9 24 = true := HV98.out.has (tpR_length _)
                    have hne : ¬ w.heap.size = p9 := by omega
                    have hne2 : ¬ p9 = w.heap.size := by omega
                    go_upto_region 27 with fail
                    rw [tpV_set22]
                    obtain ⟨w9, hw9⟩ : ∃ w9, w8.setRow p9 (tpV ⟨x, u, s, 0⟩) = w9 := ⟨_, rfl⟩
                    have hs9 : w8.heap.size = w9.heap.size := by rw [← hw9, setRow_size']
                    have HBW9 : Hid (Below w.heap.size w w9) := by rw [← hw9]; exact below_setRow HBW8.out (by omega) _
                    have hv69 : hasVar w9 w.heap.size 24 = true := by rw [← hw9, hasVar_setRow_other _ _ _ _ _ (by omega)]; exact hv68
                    have HV99 : Hid (Var w9 p9 (tpR ⟨x, u, s, 0⟩)) := by rw [← hw9]; exact HV98.out.setRow_same _ rfl
                    rw [hw9]
                    clear hw9 hst k5 k4 k12 k13 hv68 j6 j9 j12 HV98 HV128 HBW8
                    have j6 : isOld w.heap.size w9 = true := isOld_iff.2 (by omega)
                    have j9 : isOld p9 w9 = true := isOld_iff.2 HV99.out.lt
                    have k1 : hasRow w9 ⟨p9, 0, none⟩ 24 = true := HV99.out.hasRow (tpR_length _)
                    have k2 : rowAt w9 ⟨p9, 0, none⟩ 24 = tpV ⟨x, u, s, 0⟩ := HV99.out.rowAt (tpR_length _)
                    clear hs9
                    go_wp2
                    exact ret_cell_tmp2 w.heap.size (tpV ⟨x, u, s, 0⟩) (.int .i64 0) (.int .i64 0) rfl rfl rfl rfl agg_tp (by simp [go_sem, hv69, j6]) (by simp [go_sem, hv69, j6]) rfl (HGOOD.out _ _ HE.out (below_setRow HBW9.out (Nat.le_refl _) _))
        · have HE : Hid (ckLine W T C 0 = (e, 2, zeroTp)) := by show _ = _; rw [HC3.out, if_pos he]
          have he1 : (e != 0) = true := by rw [bne_iff_ne]; exact he
          have HEN := Lib.hid he
          clear HC3 he
          go_wp2
          exact ret_cell_tmp2 w.heap.size (tpV ⟨x, zeroU, [], 0⟩) (.int .i64 e) (.int .i64 2) rfl rfl rfl rfl agg_tp (by simp [go_sem, hv6u, j6]) (by simp [go_sem, hv6u, j6]) rfl (HERR.out e 2 _ _ HE.out HEN.out (below_setRow HBU.out (Nat.le_refl _) _))
end

section
open Go Go.RowKit
set_option maxRecDepth 20000
set_option linter.unusedSimpArgs false
set_option linter.unusedVariables false

theorem ret_tmp2_cell {P : Program} {fn : Func} {p u x : Tmp} {ty : TypeId} {R : Ending → World → Prop} {a : Act} {w : World} (g : Nat) (cs : Array Value) (v v2 : Value) (h : fn.results = #[.tmp u, .tmp x, .cell p ty]) (hp : a.tmps.getD p undef = .pointer (some ⟨g, 0, none⟩)) (hv : a.tmps.getD u undef = v) (hx : a.tmps.getD x undef = v2) (hagg : isAggT P ty = true)
    (hr : hasRow w ⟨g, 0, none⟩ (P.cellsOf ty) = true) (hc : rowAt w ⟨g, 0, none⟩ (P.cellsOf ty) = cs) (hd : a.defers = []) (hR : R (.returned (.tuple #[v, v2, .agg cs])) w) : bodyPost P fn R .ret a w := by
  refine bodyPost_ret (v := .tuple #[v, v2, .agg cs]) ?_ hd hR
  have hp' : a.tmps[p]?.getD undef = .pointer (some ⟨g, 0, none⟩) := by simpa using hp
  have hv' : a.tmps[u]?.getD undef = v := by simpa using hv
  have hx' : a.tmps[x]?.getD undef = v2 := by simpa using hx
  have := run_loadVar_agg (P := P) hagg ⟨g, 0, none⟩ w hr
  rw [hc] at this
  simp [results, h, hp', hv', hx', asAddr, this]
theorem ChsOk.apart2 {w w' : World} {lo : Nat} {Z : Nat → Prop} {R : List RCh} {C : List GCh} (h : ChsOk w lo R C) (hv : ValsOk w lo R) (hk : ∀ q, q < w.heap.size → ¬ Z q → w'.heap[q]? = w.heap[q]?) (hsz : w.heap.size ≤ w'.heap.size) (hg : ∀ g, g < w.heap.size → Z g → ∀ cur fz, w.heap[g]? ≠ some (.cells cur 9 fz)) : ChsOk w' lo R C ∧ ValsOk w' lo R := by
  refine ⟨⟨h.1, fun i h1 h2 => ?_⟩, fun r hr => ?_⟩
  · obtain ⟨e1, e2, e3, e4⟩ := h.2 i h1 h2
    refine ⟨e1, e2, e3, ?_⟩
    rcases e4 with e4 | ⟨q, o, e5, e6, e7, e8⟩
    · exact .inl e4
    · by_cases h0 : (C[i]'h2).vals = []
      · exact .inl h0
      · have hne : (R[i]'h1).n ≠ 0 := by rw [e2]; exact fun e => h0 (List.eq_nil_of_length_eq_zero e)
        obtain ⟨q', o', cur, fz, f1, _, f2⟩ := (hv _ (List.getElem_mem h1)).resolve_left hne
        rw [e5] at f1
        cases f1
        have hh := hk q e7 (fun e => hg q e7 e _ _ f2)
        exact .inr ⟨q, o, e5, e6, by omega, fun j u hj => by rw [World.cell?_of_block (a := ⟨q, _, none⟩) hh]; exact e8 j u hj⟩
  · rcases hv r hr with h' | ⟨q, o, cur, fz, f1, f0, f2⟩
    · exact .inl h'
    · have hq : q < w.heap.size := (Array.getElem?_eq_some_iff.1 f2).1
      exact .inr ⟨q, o, cur, fz, f1, f0, by rw [hk q hq (fun e => hg q hq e _ _ f2)]; exact f2⟩
/-- Where the lists of the document's reader may lie. -/
def Qr (lo L0 L1 : Nat) : Nat → Prop := fun g => (lo < g ∧ g < L0) ∨ L1 ≤ g
def RdRef (lo L0 L1 : Nat) (w : World) (v5 v6 : Value) (T : List GTpl) (C : List GCh) : Prop := ∃ R, Own tpCod (Qr lo L0 L1) w v5 T ∧ Own chCod (Qr lo L0 L1) w v6 R ∧ ChsOk w L1 R C ∧ ValsOk w L1 R
theorem RdRef.below {lo L0 L1 : Nat} {w w' : World} {v5 v6 : Value} {T : List GTpl} {C : List GCh} (h : RdRef lo L0 L1 w v5 v6 T C) (hb : Below w.heap.size w w') : RdRef lo L0 L1 w' v5 v6 T C := by
  obtain ⟨R, h1, h2, h3, h4⟩ := h
  exact ⟨R, h1.below hb, h2.below hb, h3.below hb, h4.keeps (Q := fun _ => False) (Keeps.of_below hb) (fun _ _ _ h => h)⟩
theorem own_type {α β : Type} {c : Cod α} {d : Cod β} {Q Q' : Nat → Prop} {w : World} {v v' : Value} {xs : List α} {ys : List β} (h : Own c Q w v xs) (h' : Own d Q' w v' ys) (hne : c.E ≠ d.E) {g : Nat} (hg : v.ownBlock = some g) : v'.ownBlock ≠ some g := fun hc => by
  obtain ⟨c1, e1⟩ := own_elem h hg
  obtain ⟨c2, e2⟩ := own_elem h' hc
  rw [e1] at e2
  simp only [Option.some.injEq, Obj.cells.injEq] at e2
  exact hne e2.2.1
theorem own_string {α : Type} {c : Cod α} {Q : Nat → Prop} {w : World} {v : Value} {xs : List α} (h : Own c Q w v xs) (hne : c.E ≠ 9) {g : Nat} (hg : v.ownBlock = some g) : ∀ cur fz, w.heap[g]? ≠ some (.cells cur 9 fz) := fun cur fz e => by
  obtain ⟨c1, e1⟩ := own_elem h hg
  rw [e1] at e
  simp only [Option.some.injEq, Obj.cells.injEq] at e
  exact hne e.2.1
/-- One's own block, or a new one. -/
def QQ (v : Value) (n : Nat) : Nat → Prop := fun g => v.ownBlock = some g ∨ n ≤ g
theorem rd_ch {lo L0 L1 : Nat} {w w' : World} {v5 v6 v' : Value} {T : List GTpl} {C : List GCh} {R : List RCh} {r : RCh} {gc : GCh} (h5 : Own tpCod (Qr lo L0 L1) w v5 T) (h6 : Own chCod (Qr lo L0 L1) w v6 R) (hC : ChsOk w L1 R C) (hV : ValsOk w L1 R) (hc : ChOk w L1 r gc) (hv : ValsOk w L1 [r]) (hk : Keeps (QQ v6 w.heap.size) w w') (ho : Own chCod (QQ v6 w.heap.size) w' v' (R ++ [r])) (hL : L1 ≤ w.heap.size) : RdRef lo L0 L1 w' v5 v' T (C ++ [gc]) := by
  have hV2 : ValsOk w L1 (R ++ [r]) := fun q hq => by
    rcases List.mem_append.1 hq with h | h
    · exact hV q h
    · exact hv q h
  obtain ⟨h1, h2⟩ := (hC.snoc hc).apart2 (Z := fun g => v6.ownBlock = some g) hV2 (fun q hq hz => hk.block q hq (fun h => by rcases h with h | h; exact hz h; omega)) hk.size (fun g _ hg => own_string h6 (by decide) hg)
  exact ⟨R ++ [r], h5.blocks (fun g hg hl => hk.block g hl (fun h => by rcases h with h | h; exact own_type h5 h6 (by decide) hg h; omega)), ho.sub (fun g hg => by rcases hg with h | h; exact h6.2 g h; exact .inr (by omega)), h1, h2⟩
theorem rd_tp {lo L0 L1 : Nat} {w w' : World} {v5 v6 v' : Value} {T : List GTpl} {C : List GCh} {R : List RCh} {t : GTpl} (h5 : Own tpCod (Qr lo L0 L1) w v5 T) (h6 : Own chCod (Qr lo L0 L1) w v6 R) (hC : ChsOk w L1 R C) (hV : ValsOk w L1 R) (hk : Keeps (QQ v5 w.heap.size) w w') (ho : Own tpCod (QQ v5 w.heap.size) w' v' (T ++ [t])) (hL : L1 ≤ w.heap.size) : RdRef lo L0 L1 w' v' v6 (T ++ [t]) C := by
  obtain ⟨h1, h2⟩ := hC.apart2 (Z := fun g => v5.ownBlock = some g) hV (fun q hq hz => hk.block q hq (fun h => by rcases h with h | h; exact hz h; omega)) hk.size (fun g _ hg => own_string h5 (by decide) hg)
  exact ⟨R, ho.sub (fun g hg => by rcases hg with h | h; exact h5.2 g h; exact .inr (by omega)), h6.blocks (fun g hg hl => hk.block g hl (fun h => by rcases h with h | h; exact own_type h6 h5 (by decide) hg h; omega)), h1, h2⟩
/-- Behind a line, as the fault's test meets it. -/
def RefLine (lo L0 L1 : Nat) (w w1 : World) (aw : Option Addr) (x : List UInt8) (i : Nat) (T : List GTpl) (C : List GCh) (s5 s6 s11 s12 : Value) (wx : World) : Prop :=
  s11 = .int .i64 (lineT x i T C).1 ∧ s12 = .int .i64 ((lineT x i T C).2.1 : Int) ∧ Below w.heap.size w wx ∧ hasVar wx lo 3 = true ∧ (∀ q, L0 ≤ q → q < L1 → wx.heap[q]? = w1.heap[q]?) ∧ L1 ≤ wx.heap.size ∧ ((lineT x i T C).1 = 0 → RdRef lo L0 L1 wx s5 s6 (lineT x i T C).2.2.1 (lineT x i T C).2.2.2) ∧ ListIn strCod wx aw (wordsL x) 0
theorem chVals_word : ∀ (L : List (List UInt8)) (i : Nat) (V : List (List UInt8)), (chVals L i V).2.1 ≤ i + L.length
  | [], i, V => Nat.zero_le _
  | x :: L, i, V => by
    have ih := chVals_word L (i + 1)
    rw [chVals]
    split
    · show i ≤ _; omega
    split
    · show i ≤ _; omega
    split
    · show i ≤ _; omega
    · have := ih (V ++ [(unwL x).1])
      rw [List.length_cons]; omega
theorem chLine_word (W : List (List UInt8)) (C : List GCh) (h : 2 < W.length) : (chLine W C).2.1 ≤ W.length := by
  have hc := chVals_word (W.drop 2) 2 []
  rw [List.length_drop] at hc
  unfold chLine
  split; exact (by show 1 ≤ _; omega)
  split; exact (by show 1 ≤ _; omega)
  split; exact (by show (chVals _ _ _).2.1 ≤ _; omega)
  split; exact Nat.zero_le _
  exact Nat.zero_le _
theorem ckLine_word (W : List (List UInt8)) (T : List GTpl) (C : List GCh) (z : Int) (h : W.length = 4) : (ckLine W T C z).2.1 ≤ W.length := by
  unfold ckLine
  split; exact (by show 1 ≤ _; omega)
  split; exact (by show 1 ≤ _; omega)
  split; exact (by show 2 ≤ _; omega)
  split; exact (by show 3 ≤ _; omega)
  split; exact (by show 3 ≤ _; omega)
  split; exact Nat.zero_le _
  exact Nat.zero_le _
theorem ckLine_line (W : List (List UInt8)) (T : List GTpl) (C : List GCh) (z : Int) : (ckLine W T C z).1 = (ckLine W T C 0).1 ∧ (ckLine W T C z).2.1 = (ckLine W T C 0).2.1 ∧ ((ckLine W T C 0).1 = 0 → (ckLine W T C z).2.2 = { (ckLine W T C 0).2.2 with line := z }) := by
  unfold ckLine
  split; exact ⟨rfl, rfl, fun h => absurd h (show ¬ ((221 : Int) = 0) by decide)⟩
  split; exact ⟨rfl, rfl, fun h => absurd h (show ¬ ((52 : Int) = 0) by decide)⟩
  split; · rename_i h; exact ⟨rfl, rfl, fun h' => absurd h' h⟩
  split; exact ⟨rfl, rfl, fun h => absurd h (show ¬ ((131 : Int) = 0) by decide)⟩
  split; · rename_i h; exact ⟨rfl, rfl, fun h' => absurd h' h⟩
  split; exact ⟨rfl, rfl, fun h => absurd h (show ¬ ((53 : Int) = 0) by decide)⟩
  exact ⟨rfl, rfl, fun _ => rfl⟩
theorem lineT_word (x : List UInt8) (i : Nat) (T : List GTpl) (C : List GCh) : colW (wordsL x) (lineT x i T C).2.1 = colW (splitL 32 x) (lineT x i T C).2.1 ∧ (lineT x i T C).2.1 ≤ (wordsL x).length := by
  by_cases h : isCh x = true
  · have h1 : wordsOk x = true := by unfold isCh at h; simp only [Bool.and_eq_true] at h; exact h.1
    have h2 : 2 < (splitL 32 x).length := by unfold isCh at h; simp at h; exact h.2.2
    have e : wordsL x = splitL 32 x := by unfold wordsL; rw [if_pos h1]
    unfold lineT
    rw [if_pos h, e]
    exact ⟨rfl, chLine_word _ _ h2⟩
  by_cases h' : isCk x = true
  · have h1 : wordsOk x = true := by unfold isCk at h'; simp only [Bool.and_eq_true] at h'; exact h'.1
    have h2 : (splitL 32 x).length = 4 := by unfold isCk at h'; simp at h'; exact h'.2.2
    have e : wordsL x = splitL 32 x := by unfold wordsL; rw [if_pos h1]
    unfold lineT
    rw [if_neg h, if_pos h', e]
    exact ⟨rfl, ckLine_word _ _ _ _ h2⟩
  · unfold lineT
    rw [if_neg h, if_neg h']
    exact ⟨by show colW _ 0 = colW _ 0; rw [colW_nil, colW_nil], Nat.zero_le _⟩
/-- What a choice must be. -/
def ValNe (C : List GCh) : Prop := ∀ c ∈ C, c.vals ≠ []
theorem chVals_ne : ∀ (L : List (List UInt8)) (i : Nat) (V : List (List UInt8)), (chVals L i V).1 = 0 → (L ≠ [] ∨ V ≠ []) → (chVals L i V).2.2 ≠ []
  | [], i, V, _, h => h.resolve_left (fun h => h rfl)
  | x :: L, i, V, h0, _ => by
    rw [chVals] at h0 ⊢
    split
    · rename_i h; rw [if_pos h] at h0; exact absurd h0 (show ¬ ((131 : Int) = 0) by decide)
    rename_i h1
    rw [if_neg h1] at h0
    split
    · rename_i h; rw [if_pos h] at h0; exact absurd h0 (show ¬ ((52 : Int) = 0) by decide)
    rename_i h2
    rw [if_neg h2] at h0
    split
    · rename_i h; rw [if_pos h] at h0; exact absurd h0 (show ¬ ((53 : Int) = 0) by decide)
    rename_i h3
    rw [if_neg h3] at h0
    exact chVals_ne L _ _ h0 (.inr (by simp))
theorem chLine_ne {W : List (List UInt8)} {C : List GCh} (hw : 2 < W.length) (h0 : (chLine W C).1 = 0) : (chLine W C).2.2.vals ≠ [] := by
  have hd : W.drop 2 ≠ [] := by rw [Ne, List.drop_eq_nil_iff]; omega
  have hv := fun h => chVals_ne (W.drop 2) 2 [] h (.inl hd)
  unfold chLine at h0 ⊢
  split
  · rename_i h; rw [if_pos h] at h0; exact absurd h0 (by decide)
  rename_i h1
  rw [if_neg h1] at h0
  split
  · rename_i h; rw [if_pos h] at h0; exact absurd h0 (by decide)
  rename_i h2
  rw [if_neg h2] at h0
  split
  · rename_i h; rw [if_pos h] at h0; exact absurd h0 h
  rename_i h3
  rw [if_neg h3] at h0
  split
  · rename_i h; rw [if_pos h] at h0; exact absurd h0 (by decide)
  · exact hv (Decidable.not_not.1 h3)
theorem lineT_ne {x : List UInt8} {i : Nat} {T : List GTpl} {C : List GCh} (h : ValNe C) (h0 : (lineT x i T C).1 = 0) : ValNe (lineT x i T C).2.2.2 := by
  unfold lineT at h0 ⊢
  split
  · rename_i hc
    rw [if_pos hc] at h0
    have hl : 2 < (splitL 32 x).length := by unfold isCh at hc; simp at hc; exact hc.2.2
    intro c hm
    rcases List.mem_append.1 hm with hm | hm
    · exact h c hm
    · rw [List.mem_singleton] at hm
      subst hm
      exact chLine_ne hl h0
  split
  · exact h
  · exact h
theorem pre35_atT {x : List UInt8} (h : 0 < x.length) : Lib.hasPrefix x [35] = (x[0]'h == 35) := by
  cases x with
  | nil => cases h
  | cons c t =>
    show ((35 : UInt8) == c && List.isPrefixOf ([] : List UInt8) t) = _
    have e : List.isPrefixOf ([] : List UInt8) t = true := rfl
    rw [e, Bool.and_true, Bool.beq_comm]
    rfl
theorem linesL_leV (l : List UInt8) : (linesL l).length ≤ l.length + 1 := linesL_le l
theorem tpV_set23 (t : GTpl) (z : Int) : (tpV t).setIfInBounds 23 (.int .i64 z) = tpV { t with line := z } := by
  have h : (urlR t.url.1 t.url.2.1 t.url.2.2.1 t.url.2.2.2).length = 21 := urlR_length _ _ _ _
  unfold tpV tpR
  generalize urlR t.url.1 t.url.2.1 t.url.2.2.1 t.url.2.2.2 = U at *
  rw [List.setIfInBounds_toArray, List.set_append_right _ _ (by simp), List.set_append_right _ _ (by simp [h])]
  simp [h]
theorem tp_newR (w : World) (r : GTpl) (t : TypeId) {b : Nat} (hb : b = w.heap.size) : ListAt tpCod (w.alloc (.cells (tpV r) t)) b 0 [r] := listAt_new w _ _ _ (by show _ = tpR r ++ []; rw [List.append_nil]; rfl) hb
set_option maxRecDepth 100000 in
set_option maxHeartbeats 8000000 in
theorem refTplFile_any (s : List UInt8) (hs : s.length ≤ 100000) (w : World) :
    Calls Tryz.prog 10 #[.string ⟨s.toArray⟩] w (FileGives (tplFile s) w) := by
  by_cases hlong : (20000 : Int) < s.length
  · have e : tplFile s = ([], [], 54, 1, 1) := by unfold tplFile; rw [if_pos (by omega)]
    rw [e]
    go_enter Tryz.func10, Tryz.ntmps10
    go_wp2
    exact ret_tmp2_cell w.heap.size (faultV 54 1 1) (.slice none 0 0) (.slice none 0 0) rfl rfl rfl rfl agg_fault (by simp [go_sem]) (by simp [go_sem]) rfl ⟨none, 0, none, 0, [], rfl, Nat.le_refl _, Nat.le_refl _, by first | exact below_setRow ((Below.refl _ _).alloc (Nat.le_refl _) _) (Nat.le_refl _) _ | exact (by repeat (first | exact Below.refl _ _ | assumption | refine below_grown ?_ (by first | omega | (simp [go_sem]; done) | (simp [go_sem] <;> omega)) _ | refine Below.alloc ?_ (by first | omega | (simp [go_sem]; done) | (simp [go_sem] <;> omega)) _ | refine below_bytesW ?_ (by first | omega | (simp [go_sem]; done) | (simp [go_sem] <;> omega)) _ | refine Below.drew ?_ | refine below_drewN ?_ _)), .inl rfl, .inl rfl, ChsOk.nil _ _⟩
  · have e : tplFile s = tplStep (linesL s) 0 [] [] := by unfold tplFile; rw [if_neg (by omega)]
    rw [e]
    have HL := Lib.hid (fun w => refLines_any s (by omega) w)
    have HPL : Hid (∀ x ∈ linesL s, x.length ≤ 20000) := fun x hx => Nat.le_trans (linesL_pieceV s x hx) (by omega)
    have hLl := linesL_leV s
    generalize linesL s = L at *
    clear e
    obtain ⟨RES, hres⟩ : ∃ RES, tplStep L 0 [] [] = RES := ⟨_, rfl⟩
    rw [hres]
    have HRES := Lib.hid hres
    clear hres
    obtain ⟨POST, hpost⟩ : ∃ POST : Ending → World → Prop, FileGives RES w = POST := ⟨_, rfl⟩
    rw [hpost]
    have HPOST := Lib.hid hpost
    clear hpost
    go_enter Tryz.func10, Tryz.ntmps10
    go_upto_region 5 with fail
    obtain ⟨w4, hw4⟩ : ∃ w4, ((w.alloc (Obj.cells #[.int .i64 0, .int .i64 0, .int .i64 0] 24)).alloc (Obj.cells #[] 41)).alloc (Obj.cells #[] 45) = w4 := ⟨_, rfl⟩
    have HB4 : Hid (Below w.heap.size w w4) := by rw [← hw4]; exact (by repeat (first | exact Below.refl _ _ | assumption | refine below_grown ?_ (by first | omega | (simp [go_sem]; done) | (simp [go_sem] <;> omega)) _ | refine Below.alloc ?_ (by first | omega | (simp [go_sem]; done) | (simp [go_sem] <;> omega)) _ | refine below_bytesW ?_ (by first | omega | (simp [go_sem]; done) | (simp [go_sem] <;> omega)) _ | refine Below.drew ?_ | refine below_drewN ?_ _))
    have HV44 : Hid (Var w4 w.heap.size [.int .i64 0, .int .i64 0, .int .i64 0]) := by rw [← hw4]; exact ((Var.new _ _ _ rfl rfl).alloc _).alloc _
    have HO54 : Hid (Own tpCod (fun g => w.heap.size < g ∧ g < w4.heap.size) w4 (.slice (some ⟨w.heap.size + 1, 0, none⟩) 0 0) []) := by rw [← hw4]; exact (Own.made1N rfl (by simp) ⟨by omega, by simp⟩).alloc _
    have HO64 : Hid (Own chCod (fun g => w.heap.size < g ∧ g < w4.heap.size) w4 (.slice (some ⟨w.heap.size + 1 + 1, 0, none⟩) 0 0) []) := by rw [← hw4]; exact Own.made1N rfl (by simp) ⟨by omega, by simp⟩
    rw [hw4]
    clear hw4
    obtain ⟨b5, hb5⟩ : ∃ b5, w.heap.size + 1 = b5 := ⟨_, rfl⟩
    obtain ⟨b6, hb6⟩ : ∃ b6, b5 + 1 = b6 := ⟨_, rfl⟩
    rw [hb5] at HO54 HO64
    rw [hb6] at HO64
    simp only [hb5, hb6]
    clear hb5 hb6
    go_wp2_with (go_at_call 18; (with_reducible refine (HL.out _).mono ?_); intro e w1 hg; obtain ⟨a1, c1, rfl, hc1, hb1, hin1⟩ := hg; have HB1 := Lib.hid hb1; have HIN1 := Lib.hid hin1; clear hb1 hin1)
    have hs1 := HB1.out.size
    have hs4 := HB4.out.size
    obtain ⟨L0, hL0⟩ : ∃ L0, w4.heap.size = L0 := ⟨_, rfl⟩
    obtain ⟨L1, hL1⟩ : ∃ L1, w1.heap.size = L1 := ⟨_, rfl⟩
    have hv44 := HV44.out.lt
    have hlo : w.heap.size < L0 := by omega
    have h01 : L0 ≤ L1 := by omega
    have HBW1 : Hid (Below w.heap.size w w1) := HB4.out.trans (HB1.out.mono hs4)
    have HI0 : Hid (RdRef w.heap.size L0 L1 w1 (.slice (some ⟨b5, 0, none⟩) 0 0) (.slice (some ⟨b6, 0, none⟩) 0 0) [] []) := by
      have q : ∀ k, (w.heap.size < k ∧ k < w4.heap.size) → Qr w.heap.size L0 L1 k := fun k h => .inl ⟨h.1, by omega⟩
      exact ⟨[], (HO54.out.sub q).below HB1.out, (HO64.out.sub q).below HB1.out, ChsOk.nil _ _, fun r hr => absurd hr (List.not_mem_nil)⟩
    have hv41 : hasVar w1 w.heap.size 3 = true := (HV44.out.below HB1.out).has rfl
    rw [hL0] at HIN1
    have hL1b : L1 ≤ w1.heap.size := by omega
    have hL1c : w1.heap.size ≤ L1 := by omega
    clear HO54 HO64 HV44 hL0 hL1 hv44 HB4 HB1
    go_loopw [5, 6, 30] (fun v5 v6 i wr => ∃ (k : Nat) (T : List GTpl) (C : List GCh), k ≤ L.length ∧ i = .int .i64 (k : Int) ∧ RdRef w.heap.size L0 L1 wr v5 v6 T C ∧ RdOk 20000 T C ∧ ValNe C ∧ Below w.heap.size w wr ∧ hasVar wr w.heap.size 3 = true ∧ Hid (∀ q, L0 ≤ q → q < L1 → wr.heap[q]? = w1.heap[q]?) ∧ L1 ≤ wr.heap.size ∧ Hid (tplStep (L.drop k) k T C = RES)) (fun _ _ i _ => L.length - (intOf i).toNat)
    case atStart => exact ⟨0, [], [], Nat.zero_le _, rfl, HI0.out, RdOk.nil _, fun c hc => absurd hc (List.not_mem_nil), HBW1.out, hv41, fun _ _ _ => rfl, hL1b, by rw [List.drop_zero]; exact HRES.out⟩
    case round =>
      obtain ⟨k, T, C, hk, rfl, hrd, hok, hvn, hbr, hv4, hlin, hszr, hinv⟩ := hrel
      have HRD := Lib.hid hrd
      have HOK := Lib.hid hok
      have HVN := Lib.hid hvn
      have HBR := Lib.hid hbr
      have i4 : isOld w.heap.size wr = true := isOld_iff.2 (by omega)
      obtain ⟨R, ho5, ho6, hCs, hVs⟩ := hrd
      obtain ⟨a5, c5, rfl, hc5, hl5⟩ := ho5.slice (B := 0) (fun _ _ => Nat.zero_le _)
      obtain ⟨a6, c6, rfl, hc6, hl6⟩ := ho6.slice (B := 0) (fun _ _ => Nat.zero_le _)
      have HO5 := Lib.hid ho5
      have HO6 := Lib.hid ho6
      have HCS := Lib.hid hCs
      have HVS := Lib.hid hVs
      have HL5 := Lib.hid hl5
      have HL6 := Lib.hid hl6
      clear hok hvn hbr ho5 ho6 hCs hVs hl5 hl6
      by_cases hlt : k < L.length
      · obtain ⟨g1, o1, rfl, hlo1, hhi1, hat1⟩ := HIN1.out.resolve_left (fun h => by subst h; exact absurd hlt (Nat.not_lt_zero _))
        have hcell : wr.cell? ⟨g1, o1 + k, none⟩ = some (.string ⟨(L[k]'hlt).toArray⟩) := (World.cell?_of_block (a := ⟨g1, _, none⟩) (hlin.out g1 hlo1 (by omega))).trans (strAt hat1 k hlt)
        have hx := HPL.out _ (List.getElem_mem hlt)
        have hst := tplStep_at L k hlt T C
        rw [hinv.out] at hst
        clear hinv hat1
        generalize L[k]'hlt = x at *
        have HST := Lib.hid hst
        clear hst
        have hki : (k : Int) < (L.length : Int) := by omega
        have hwk : IntKind.i64.wrap ((k : Int) + 1) = (k : Int) + 1 := IntWalk.i64_in _ (by omega)
        by_cases hx0 : x = []
        · subst hx0
          have HS2 : Hid (tplStep (L.drop (k + 1)) (k + 1) T C = RES) := by
            have := HST.out
            rw [if_pos (.inl rfl)] at this
            exact this.symm
          clear HST
          go_wp2
          go_roundw
          case rel => exact ⟨k + 1, T, C, by omega, by go_num, HRD.out, HOK.out, HVN.out, HBR.out, hv4, hlin.out, hszr, HS2.out⟩
          case measure => simp [intOf]; omega
        · have hem : x.isEmpty = false := by rw [List.isEmpty_eq_false_iff]; exact hx0
          have hem2 : (x == []) = false := by rw [beq_eq_false_iff_ne]; exact hx0
          have hpos : 0 < x.length := List.length_pos_iff.2 hx0
          have h35 : ((((x[0]'hpos).toNat : Int)) == 35) = Lib.hasPrefix x [35] := by rw [u8_lit _ 35 35 rfl, pre35_atT hpos]
          cases hp : Lib.hasPrefix x [35]
          · rw [hp] at h35
            have HST2 : Hid (RES = if (lineT x k T C).1 ≠ 0 then ([], [], (lineT x k T C).1, (k : Int) + 1, colW (splitL 32 x) (lineT x k T C).2.1) else tplStep (L.drop (k + 1)) (k + 1) (lineT x k T C).2.2.1 (lineT x k T C).2.2.2) := by
              show _ = _
              rw [HST.out, if_neg (by rw [hp]; simp [hx0])]
            clear HST hp hx0
            go_upto_region 9 with fail
            clear h35 hem hem2 hcell
            have HWD : Hid (∀ w', Calls Tryz.prog 19 #[.string ⟨x.toArray⟩] w' (Gives2 strCod (wordsL x) (wordsOk x) w')) := fun w' => refWords_any x (by omega) w'
            have hsum := split_sum 32 x
            have hpl := splitL_piece_le 32 x
            have hll := splitL_length_le 32 x
            have hpp := splitL_pos 32 x
            have hwl : wordsL x = if wordsOk x = true then splitL 32 x else [] := rfl
            have HWL := Lib.hid hwl
            have HPLE := Lib.hid hpl
            have HSUM := Lib.hid hsum
            clear hwl hpl hsum
            have hlw0 := lineT_word x k T C
            have hwsm : ((wordsL x).map (fun w => w.length + 1)).sum ≤ 1000000 := by
              rw [HWL.out]
              split
              · rw [HSUM.out]; omega
              · simp
            have hwln : (wordsL x).length ≤ 1000000 := by have := wordsL_le x; omega
            go_cut [9, 10] (fun s9 s10 wx => ∃ aw cw, s9 = .slice aw (wordsL x).length cw ∧ s10 = .bool (wordsOk x) ∧ (wordsL x).length ≤ cw ∧ Below wr.heap.size wr wx ∧ ListIn strCod wx aw (wordsL x) wr.heap.size)
            case first =>
              go_wp2_with (go_at_call 19; (with_reducible refine (HWD.out _).mono ?_); intro e w3 hg; obtain ⟨aw, cw, rfl, hcw, hb3, hl3⟩ := hg; have HB3 := Lib.hid hb3; have HL3 := Lib.hid hl3; clear hb3 hl3)
              go_meet
              exact ⟨aw, cw, rfl, rfl, hcw, HB3.out, HL3.out⟩
            case rest =>
            obtain ⟨aw, cw, rfl, rfl, hcw, hbz, hlz⟩ := hcut
            obtain ⟨wz, rfl⟩ : ∃ wz, wz = wc := ⟨_, rfl⟩
            have hsz := hbz.size
            have HBZ := Lib.hid hbz
            have HLZ := Lib.hid hlz
            clear hbz hlz HWD
            have hwzr : w.heap.size ≤ wr.heap.size := by omega
            have hv4z : hasVar wz w.heap.size 3 = true := (hasVar_congr (HBZ.out.block _ (by omega))).trans hv4
            have HBWz : Hid (Below w.heap.size w wz) := HBR.out.trans (HBZ.out.mono hwzr)
            have HLNz : Hid (∀ q, L0 ≤ q → q < L1 → wz.heap[q]? = w1.heap[q]?) := fun q h1 h2 => (HBZ.out.block q (by omega)).trans (hlin.out q h1 h2)
            have HO5z := Lib.hid (HO5.out.below HBZ.out)
            have HO6z := Lib.hid (HO6.out.below HBZ.out)
            have HCSz := Lib.hid (HCS.out.below HBZ.out)
            have HVSz : Hid (ValsOk wz L1 R) := HVS.out.keeps (Q := fun _ => False) (Keeps.of_below HBZ.out) (fun _ _ _ h => h)
            have HL5z := Lib.hid (HL5.out.below HBZ.out)
            have HL6z := Lib.hid (HL6.out.below HBZ.out)
            have hszz : L1 ≤ wz.heap.size := by omega
            have i4z : isOld w.heap.size wz = true := isOld_iff.2 (by omega)
            have HRC := Lib.hid HCS.out.1
            have hwhi : isCh x = (wordsOk x && (nth (splitL 32 x) 0 == choiceWd && decide (2 < (splitL 32 x).length))) := rfl
            have hwki : isCk x = (wordsOk x && (nth (splitL 32 x) 0 == cookieWd && decide ((splitL 32 x).length = 4))) := rfl
            have HICH := Lib.hid hwhi
            have HICK := Lib.hid hwki
            have HOL5 : Hid (∀ g, (Value.slice a5 T.length c5).ownBlock = some g → g < wr.heap.size) := fun g h => (own_cellsC HO5.out h).1
            have HOL6 : Hid (∀ g, (Value.slice a6 R.length c6).ownBlock = some g → g < wr.heap.size) := fun g h => (own_cellsC HO6.out h).1
            have hRl : R.length ≤ 6 := by have := HRC.out; have := HOK.out.2.1; omega
            have hTl : T.length ≤ 8 := HOK.out.1
            clear hwhi hwki HL HRD i4 hv4 HBR HO5 HO6 HCS HVS HL5 HL6 hlin
            cases hokx : wordsOk x
            · have HLT : Hid (lineT x k T C = (131, 0, T, C)) := by
                show _ = _
                unfold lineT
                rw [HICH.out, HICK.out, hokx]; rfl
              clear hokx
              go_upto_if 58 with fail
              go_cut [5, 6, 11, 12] (fun s5 s6 s11 s12 wx => RefLine w.heap.size L0 L1 w w1 aw x k T C s5 s6 s11 s12 wx)
              case first =>
                go_wp2
                go_meet
                exact ⟨by rw [HLT.out], by rw [HLT.out]; rfl, HBWz.out, hv4z, HLNz.out, hszz, fun h => absurd h (by rw [HLT.out]; show (131 : Int) ≠ 0; decide), HLZ.out.mono (Nat.zero_le _)⟩
              case rest =>
                obtain ⟨rfl, rfl, hbx, hvx, hlx, hszx, hgood, hlw⟩ := hcut
                obtain ⟨hcol, hwd⟩ := hlw0
                have hsm := hwsm
                have hWl := hwln
                generalize wordsL x = W at *
                have HBX := Lib.hid hbx
                have HLX := Lib.hid hlx
                have HGD := Lib.hid hgood
                have HLW := Lib.hid hlw
                have HCOL := Lib.hid hcol
                have i4x : isOld w.heap.size wc = true := isOld_iff.2 (by omega)
                clear hbx hlx hgood hlw hcol HWL HPLE HSUM hwsm HBZ HLZ HICH HICK hv4z HBWz HLNz HO5z HO6z HCSz HVSz HL5z HL6z i4z
                by_cases he : (lineT x k T C).1 = 0
                · have hgd := HGD.out he
                  have HGD2 := Lib.hid hgd
                  have HS3 : Hid (tplStep (L.drop (k + 1)) (k + 1) (lineT x k T C).2.2.1 (lineT x k T C).2.2.2 = RES) := by
                    show _ = _
                    rw [HST2.out, if_neg (fun h => h he)]
                  have HOK3 := Lib.hid (lineT_ok HOK.out hx he)
                  have HVN3 : Hid (ValNe (lineT x k T C).2.2.2) := by
                    show ValNe _
                    exact lineT_ne HVN.out he
                  clear hgd HGD HST2 HCOL
                  rw [he]
                  clear he
                  generalize (lineT x k T C).2.1 = wd at *
                  generalize (lineT x k T C).2.2.1 = T' at *
                  generalize (lineT x k T C).2.2.2 = C' at *
                  go_wp2
                  go_roundw
                  case rel => exact ⟨k + 1, T', C', by omega, by go_num, HGD2.out, HOK3.out, HVN3.out, HBX.out, hvx, HLX.out, hszx, HS3.out⟩
                  case measure => simp [intOf]; omega
                · have HS3 : Hid (RES = ([], [], (lineT x k T C).1, (k : Int) + 1, colW (splitL 32 x) (lineT x k T C).2.1)) := by
                    show _ = _
                    rw [HST2.out, if_pos he]
                  rw [← HCOL.out] at HS3
                  have hen : ((lineT x k T C).1 != 0) = true := by rw [bne_iff_ne]; exact he
                  clear HGD HST2 HCOL he
                  generalize (lineT x k T C).1 = er at *
                  generalize (lineT x k T C).2.1 = wd at *
                  have HSM := Lib.hid hsm
                  have HLE := Lib.hid (colW_le W W.length)
                  have HCS2 := Lib.hid (colW_step W)
                  clear hsm
                  go_wp2
                  go_loop [19, 20] (fun c i => ∃ j : Nat, i = .int .i64 (j : Int) ∧ j ≤ wd ∧ c = .int .i64 (1 + ((((W.take j).map (fun w => w.length + 1)).sum : Nat) : Int))) (fun _ i => wd - (intOf i).toNat)
                  case atStart => exact ⟨0, rfl, Nat.zero_le _, by simp⟩
                  case round =>
                    obtain ⟨j, rfl, hj, rfl⟩ := hrel
                    have hall : ((W.take W.length).map (fun w => w.length + 1)).sum ≤ 1000000 := by rw [List.take_length]; exact HSM.out
                    by_cases hjl : j < wd
                    · have hjW : j < W.length := by omega
                      obtain ⟨g, o, hgo, _, _, hat⟩ := HLW.out.resolve_left (fun h => by subst h; exact absurd hjW (Nat.not_lt_zero _))
                      cases hgo
                      have hc := strAt hat j hjW
                      have hst := HCS2.out j hjW
                      have hle := HLE.out (j + 1) (by omega)
                      rw [hst] at hle
                      have HS4 := Lib.hid hst
                      have hji : (j : Int) < (wd : Int) := by omega
                      have hjWi : (j : Int) < (W.length : Int) := by omega
                      clear hat hst
                      generalize W[j]'hjW = y at *
                      generalize ((W.take j).map (fun w => w.length + 1)).sum = z at *
                      have hw1 : IntKind.i64.wrap ((y.length : Int) + 1) = (y.length : Int) + 1 := IntWalk.i64_in _ (by omega)
                      have hw2 : IntKind.i64.wrap (1 + (z : Int) + ((y.length : Int) + 1)) = 1 + ((z + (y.length + 1) : Nat) : Int) := by
                        rw [show (1 + (z : Int) + ((y.length : Int) + 1)) = 1 + ((z + (y.length + 1) : Nat) : Int) by omega]
                        exact IntWalk.i64_in _ (by omega)
                      go_wp2
                      go_round
                      case rel => exact ⟨j + 1, by go_num, by omega, by rw [HS4.out]; first | done | (congr 1; done) | (congr 1; omega)⟩
                      case measure => simp [intOf]; omega
                    · obtain rfl : j = wd := by omega
                      go_wp2
                      refine ret_tmp2_cell w.heap.size (faultV er ((k : Int) + 1) (colW W j)) (.slice none 0 0) (.slice none 0 0) rfl rfl rfl rfl agg_fault (by simp [go_sem, hvx, i4x]) (by simp [go_sem, hvx, i4x]; try (unfold colW; rw [List.map_take])) rfl ?_
                      rw [← HPOST.out, HS3.out]
                      exact ⟨none, 0, none, 0, [], rfl, Nat.le_refl _, Nat.le_refl _, below_setRow HBX.out (Nat.le_refl _) _, .inl rfl, .inl rfl, ChsOk.nil _ _⟩
            · have hW : wordsL x = splitL 32 x := by rw [HWL.out, if_pos hokx]
              rw [hokx, Bool.true_and] at HICH HICK
              have hn0 : nth (splitL 32 x) 0 = (splitL 32 x)[0]'hpp := by unfold nth; rw [List.getD_eq_getElem?_getD, List.getElem?_eq_getElem hpp]; rfl
              obtain ⟨gW, oW, rfl, hgW, hgWz, hatW⟩ := HLZ.out.resolve_left (fun h => by rw [hW] at h; exact absurd h (splitL_ne 32 x))
              have hc0 : wz.cell? ⟨gW, oW, none⟩ = some (.string ⟨((splitL 32 x)[0]'hpp).toArray⟩) := by
                have h9 := strAt (by rw [hW] at hatW; exact hatW) 0 hpp
                rwa [Nat.add_zero] at h9
              have HATW : Hid (ListAt strCod wz gW oW (splitL 32 x)) := by rw [hW] at hatW; exact hatW
              have hWl0 : (0 : Int) < ((wordsL x).length : Int) := by rw [hW]; omega
              have hWeq : (wordsL x).length = (splitL 32 x).length := by rw [hW]
              have HWQ := Lib.hid hWeq
              have HWE := Lib.hid hW
              have igW : isOld gW wz = true := isOld_iff.2 hgWz
              rw [hn0] at HICH HICK
              clear hatW hokx hn0 hWeq hW
              by_cases hch : isCh x = true
              · have h1 := HICH.out
                rw [hch] at h1
                simp only [Bool.true_eq, Bool.and_eq_true, beq_iff_eq, decide_eq_true_eq] at h1
                obtain ⟨h1, h2⟩ := h1
                have HLT : Hid (lineT x k T C = ((chLine (splitL 32 x) C).1, (chLine (splitL 32 x) C).2.1, T, C ++ [(chLine (splitL 32 x) C).2.2])) := by
                  show _ = _
                  unfold lineT
                  rw [if_pos hch]
                rw [h1] at hc0
                unfold choiceWd at hc0
                have hl3 : (3 : Int) ≤ ((wordsL x).length : Int) := by have := HWQ.out; omega
                have HCHO : Hid (Calls Tryz.prog 20 #[.slice (some ⟨gW, oW, none⟩) (wordsL x).length cw, .slice a6 R.length c6] wz (RefChPost (splitL 32 x) C wz)) := by
                  rw [HWQ.out]
                  exact refChoice_any (splitL 32 x) C R HCSz.out.names HOK.out.2.1 a6 (some ⟨gW, oW, none⟩) c6 cw (by omega) h2 (fun y hy => by have := HPLE.out y hy; omega) wz HL6z.out (.inr ⟨gW, oW, rfl, Nat.zero_le _, hgWz, HATW.out⟩)
                clear h1 h2 hch HICH HICK
                go_upto_if 58 with fail
                go_cut [5, 6, 11, 12] (fun s5 s6 s11 s12 wx => RefLine w.heap.size L0 L1 w w1 (some ⟨gW, oW, none⟩) x k T C s5 s6 s11 s12 wx)
                case first =>
                  unfold RefChPost at HCHO
                  generalize chLine (splitL 32 x) C = out at *
                  obtain ⟨er, wd, gc⟩ := out
                  try dsimp only at HCHO
                  try dsimp only at HLT
                  go_upto_region 16 with (go_at_call 20; (with_reducible refine HCHO.out.mono ?_); rintro e w3 ⟨r, rfl, hb3, hg3⟩; have HB3 := Lib.hid hb3; have HG3 := Lib.hid hg3; clear hb3 hg3)
                  have hs3 := HB3.out.size
                  obtain ⟨w5, hw5⟩ : ∃ w5, w3.alloc (Obj.cells (chV r) 45) = w5 := ⟨_, rfl⟩
                  have HB5 : Hid (Below wz.heap.size wz w5) := by rw [← hw5]; exact HB3.out.alloc hs3 _
                  have HB35 : Hid (Below w3.heap.size w3 w5) := by rw [← hw5]; exact (Below.refl _ _).alloc (Nat.le_refl _) _
                  have HV13 : Hid (Var w5 w3.heap.size (chR r)) := by rw [← hw5]; exact Var.new _ _ _ rfl rfl
                  rw [hw5]
                  clear hw5
                  obtain ⟨p13, hp13⟩ : ∃ p13, w3.heap.size = p13 := ⟨_, rfl⟩
                  rw [hp13] at HV13
                  simp only [hp13]
                  clear hp13
                  have hs5 := HB5.out.size
                  have HO55 := Lib.hid (HO5z.out.below HB5.out)
                  have HO65 := Lib.hid (HO6z.out.below HB5.out)
                  have HCS5 := Lib.hid (HCSz.out.below HB5.out)
                  have HVS5 : Hid (ValsOk w5 L1 R) := HVSz.out.keeps (Q := fun _ => False) (Keeps.of_below HB5.out) (fun _ _ _ h => h)
                  have HBW5 : Hid (Below w.heap.size w w5) := HBWz.out.trans (HB5.out.mono (by omega))
                  have k1 : hasRow w5 ⟨p13, 0, none⟩ 2 = true := HV13.out.hasRow rfl
                  have k2 : rowAt w5 ⟨p13, 0, none⟩ 2 = chV r := HV13.out.rowAt rfl
                  have i13 : isOld p13 w5 = true := isOld_iff.2 HV13.out.lt
                  have HQ6 : Hid (∀ w', Below w5.heap.size w5 w' → Own chCod (QQ (.slice a6 R.length c6) w5.heap.size) w' (.slice a6 R.length c6) R) := fun w' h => Own.below (Q := QQ (.slice a6 R.length c6) w5.heap.size) ⟨HO65.out.1, fun g hg => .inl hg⟩ h
                  have HGD5 : Hid (er = 0 → ChOk w5 L1 r gc ∧ ValsOk w5 L1 [r]) := fun h => by
                    obtain ⟨⟨e1, e2, e3, e4⟩, h2⟩ := HG3.out h
                    exact ⟨⟨e1, e2, e3, (e4.below HB35.out).mono hszz⟩, (h2.keeps (Q := fun _ => False) (Keeps.of_below HB35.out) (fun _ _ _ h => h)).mono hszz⟩
                  go_wp2_with (at_builtin; go_loud (refine wpList_append_list rfl chCod (.tmp 68) (.tmp 70) 28 rfl rfl (QQ (.slice a6 R.length c6) w5.heap.size) _ _ R rfl (HQ6.out _ (by repeat (first | exact Below.refl _ _ | assumption | refine below_grown ?_ (by first | omega | (simp [go_sem]; done) | (simp [go_sem] <;> omega)) _ | refine Below.alloc ?_ (by first | omega | (simp [go_sem]; done) | (simp [go_sem] <;> omega)) _ | refine below_bytesW ?_ (by first | omega | (simp [go_sem]; done) | (simp [go_sem] <;> omega)) _ | refine Below.drew ?_ | refine below_drewN ?_ _))) _ 0 _ _ [r] rfl rfl (ch_new _ _ _ (by simp [go_sem])) (by simp [chCod]; omega) (by simp; omega) (by show _ ∨ _; right; simp) ?_); intro v' w8 ho8 hk8; have HO8 := Lib.hid ho8; have HK8 := Lib.hid hk8; clear ho8 hk8)
                  go_meet
                  have HKW : Keeps (QQ (.slice a6 R.length c6) w5.heap.size) w5 w8 := Keeps.trans (Keeps.of_below ((Below.refl _ _).alloc (Nat.le_refl _) _)) HK8.out
                  have hnq : ∀ q, q < w5.heap.size → ¬ Qr w.heap.size L0 L1 q → ¬ QQ (.slice a6 R.length c6) w5.heap.size q := fun q h1 h2 h3 => by
                    rcases h3 with h3 | h3
                    · exact h2 (HO65.out.2 q h3)
                    · omega
                  have hs8 := HKW.size
                  refine ⟨by rw [HLT.out], by rw [HLT.out], HBW5.out.trans (HKW.below (B := w.heap.size) (fun q hq => ⟨by omega, hnq q (by omega) (by unfold Qr; omega)⟩)), (hasVar_congr ((HKW.block _ (by omega) (hnq _ (by omega) (by unfold Qr; omega))).trans (HB5.out.block _ (by omega)))).trans hv4z, fun q h1 h2 => ((HKW.block q (by omega) (hnq q (by omega) (by unfold Qr; omega))).trans (HB5.out.block q (by omega))).trans (HLNz.out q h1 h2), by omega, fun h => ?_, ?_⟩
                  · rw [HLT.out] at h ⊢
                    obtain ⟨g1', g2'⟩ := HGD5.out h
                    exact rd_ch HO55.out HO65.out HCS5.out HVS5.out g1' g2' HKW HO8.out (by omega)
                  · exact ((HLZ.out.below HB5.out).keeps HKW (fun q h1 h2 h3 => by
                      rcases h3 with h3 | h3
                      · have := HOL6.out q h3; omega
                      · omega)).mono (Nat.zero_le _)
                case rest =>
                  obtain ⟨rfl, rfl, hbx, hvx, hlx, hszx, hgood, hlw⟩ := hcut
                  obtain ⟨hcol, hwd⟩ := hlw0
                  have hsm := hwsm
                  have hWl := hwln
                  generalize wordsL x = W at *
                  have HBX := Lib.hid hbx
                  have HLX := Lib.hid hlx
                  have HGD := Lib.hid hgood
                  have HLW := Lib.hid hlw
                  have HCOL := Lib.hid hcol
                  have i4x : isOld w.heap.size wc = true := isOld_iff.2 (by omega)
                  clear hbx hlx hgood hlw hcol HWL HPLE HSUM hwsm HBZ HLZ hv4z HBWz HLNz HO5z HO6z HCSz HVSz HL5z HL6z i4z
                  by_cases he : (lineT x k T C).1 = 0
                  · have hgd := HGD.out he
                    have HGD2 := Lib.hid hgd
                    have HS3 : Hid (tplStep (L.drop (k + 1)) (k + 1) (lineT x k T C).2.2.1 (lineT x k T C).2.2.2 = RES) := by
                      show _ = _
                      rw [HST2.out, if_neg (fun h => h he)]
                    have HOK3 := Lib.hid (lineT_ok HOK.out hx he)
                    have HVN3 : Hid (ValNe (lineT x k T C).2.2.2) := by
                      show ValNe _
                      exact lineT_ne HVN.out he
                    clear hgd HGD HST2 HCOL
                    rw [he]
                    clear he
                    generalize (lineT x k T C).2.1 = wd at *
                    generalize (lineT x k T C).2.2.1 = T' at *
                    generalize (lineT x k T C).2.2.2 = C' at *
                    go_wp2
                    go_roundw
                    case rel => exact ⟨k + 1, T', C', by omega, by go_num, HGD2.out, HOK3.out, HVN3.out, HBX.out, hvx, HLX.out, hszx, HS3.out⟩
                    case measure => simp [intOf]; omega
                  · have HS3 : Hid (RES = ([], [], (lineT x k T C).1, (k : Int) + 1, colW (splitL 32 x) (lineT x k T C).2.1)) := by
                      show _ = _
                      rw [HST2.out, if_pos he]
                    rw [← HCOL.out] at HS3
                    have hen : ((lineT x k T C).1 != 0) = true := by rw [bne_iff_ne]; exact he
                    clear HGD HST2 HCOL he
                    generalize (lineT x k T C).1 = er at *
                    generalize (lineT x k T C).2.1 = wd at *
                    have HSM := Lib.hid hsm
                    have HLE := Lib.hid (colW_le W W.length)
                    have HCS2 := Lib.hid (colW_step W)
                    clear hsm
                    go_wp2
                    go_loop [19, 20] (fun c i => ∃ j : Nat, i = .int .i64 (j : Int) ∧ j ≤ wd ∧ c = .int .i64 (1 + ((((W.take j).map (fun w => w.length + 1)).sum : Nat) : Int))) (fun _ i => wd - (intOf i).toNat)
                    case atStart => exact ⟨0, rfl, Nat.zero_le _, by simp⟩
                    case round =>
                      obtain ⟨j, rfl, hj, rfl⟩ := hrel
                      have hall : ((W.take W.length).map (fun w => w.length + 1)).sum ≤ 1000000 := by rw [List.take_length]; exact HSM.out
                      by_cases hjl : j < wd
                      · have hjW : j < W.length := by omega
                        obtain ⟨g, o, hgo, _, _, hat⟩ := HLW.out.resolve_left (fun h => by subst h; exact absurd hjW (Nat.not_lt_zero _))
                        cases hgo
                        have hc := strAt hat j hjW
                        have hst := HCS2.out j hjW
                        have hle := HLE.out (j + 1) (by omega)
                        rw [hst] at hle
                        have HS4 := Lib.hid hst
                        have hji : (j : Int) < (wd : Int) := by omega
                        have hjWi : (j : Int) < (W.length : Int) := by omega
                        clear hat hst
                        generalize W[j]'hjW = y at *
                        generalize ((W.take j).map (fun w => w.length + 1)).sum = z at *
                        have hw1 : IntKind.i64.wrap ((y.length : Int) + 1) = (y.length : Int) + 1 := IntWalk.i64_in _ (by omega)
                        have hw2 : IntKind.i64.wrap (1 + (z : Int) + ((y.length : Int) + 1)) = 1 + ((z + (y.length + 1) : Nat) : Int) := by
                          rw [show (1 + (z : Int) + ((y.length : Int) + 1)) = 1 + ((z + (y.length + 1) : Nat) : Int) by omega]
                          exact IntWalk.i64_in _ (by omega)
                        go_wp2
                        go_round
                        case rel => exact ⟨j + 1, by go_num, by omega, by rw [HS4.out]; first | done | (congr 1; done) | (congr 1; omega)⟩
                        case measure => simp [intOf]; omega
                      · obtain rfl : j = wd := by omega
                        go_wp2
                        refine ret_tmp2_cell w.heap.size (faultV er ((k : Int) + 1) (colW W j)) (.slice none 0 0) (.slice none 0 0) rfl rfl rfl rfl agg_fault (by simp [go_sem, hvx, i4x]) (by simp [go_sem, hvx, i4x]; try (unfold colW; rw [List.map_take])) rfl ?_
                        rw [← HPOST.out, HS3.out]
                        exact ⟨none, 0, none, 0, [], rfl, Nat.le_refl _, Nat.le_refl _, below_setRow HBX.out (Nat.le_refl _) _, .inl rfl, .inl rfl, ChsOk.nil _ _⟩
              · have hch2 : isCh x = false := by cases h9 : isCh x; rfl; exact absurd h9 hch
                have h1 := HICH.out
                rw [hch2] at h1
                by_cases hck : isCk x = true
                · have h2 := HICK.out
                  rw [hck] at h2
                  simp only [Bool.true_eq, Bool.and_eq_true, beq_iff_eq, decide_eq_true_eq] at h2
                  obtain ⟨h2, h3⟩ := h2
                  have HLT : Hid (lineT x k T C = ((ckLine (splitL 32 x) T C ((k : Int) + 1)).1, (ckLine (splitL 32 x) T C ((k : Int) + 1)).2.1, T ++ [(ckLine (splitL 32 x) T C ((k : Int) + 1)).2.2], C)) := by
                    show _ = _
                    unfold lineT
                    rw [if_neg hch, if_pos hck]
                  rw [h2] at hc0
                  unfold cookieWd at hc0
                  have hl3 : (((wordsL x).length : Int) == 4) = true := by rw [beq_iff_eq]; have := HWQ.out; omega
                  have HCKO : Hid (Calls Tryz.prog 21 #[.slice (some ⟨gW, oW, none⟩) (wordsL x).length cw, .slice a5 T.length c5, .slice a6 R.length c6] wz (RefCkPost (splitL 32 x) T C wz)) := by
                    rw [HWQ.out]
                    exact refCookie_any (splitL 32 x) T C R L1 HOK.out.1 HOK.out.2.1 (fun c hc => ⟨HVN.out c hc, (HOK.out.2.2.2 c hc).1, fun y hy => by have := (HOK.out.2.2.2 c hc).2 y hy; omega⟩) a6 (some ⟨gW, oW, none⟩) a5 c6 cw c5 h3 (fun y hy => by have := HPLE.out y hy; omega) wz HL6z.out HCSz.out HL5z.out (.inr ⟨gW, oW, rfl, Nat.zero_le _, hgWz, HATW.out⟩)
                  have HLN := Lib.hid (ckLine_line (splitL 32 x) T C ((k : Int) + 1))
                  clear h1 h2 h3 hch hch2 hck HICH HICK
                  go_upto_if 58 with fail
                  go_cut [5, 6, 11, 12] (fun s5 s6 s11 s12 wx => RefLine w.heap.size L0 L1 w w1 (some ⟨gW, oW, none⟩) x k T C s5 s6 s11 s12 wx)
                  case first =>
                    unfold RefCkPost at HCKO
                    generalize ckLine (splitL 32 x) T C ((k : Int) + 1) = outz at *
                    generalize ckLine (splitL 32 x) T C 0 = out at *
                    obtain ⟨er, wd, gt⟩ := out
                    obtain ⟨er2, wd2, gt2⟩ := outz
                    try dsimp only at HCKO
                    try dsimp only at HLT
                    try dsimp only at HLN
                    obtain ⟨rfl, rfl, hgt⟩ := HLN.out
                    go_upto_region 22 with (go_at_call 21; (with_reducible refine HCKO.out.mono ?_); rintro e w3 ⟨t, rfl, hb3, hg3⟩; have HB3 := Lib.hid hb3; have HG3 := Lib.hid hg3; clear hb3 hg3)
                    have hs3 := HB3.out.size
                    rw [tpV_set23]
                    obtain ⟨w5, hw5⟩ : ∃ w5, w3.alloc (Obj.cells (tpV { t with line := (k : Int) + 1 }) 41) = w5 := ⟨_, rfl⟩
                    have HB5 : Hid (Below wz.heap.size wz w5) := by rw [← hw5]; exact HB3.out.alloc hs3 _
                    have HV13 : Hid (Var w5 w3.heap.size (tpR { t with line := (k : Int) + 1 })) := by rw [← hw5]; exact Var.new _ _ _ rfl rfl
                    rw [hw5]
                    clear hw5
                    have HGD5 : Hid (er2 = 0 → { t with line := (k : Int) + 1 } = gt2) := fun h => by rw [hgt h, HG3.out h]
                    clear hgt HLN HG3 HCKO
                    generalize ({ t with line := (k : Int) + 1 } : GTpl) = tz at *
                    obtain ⟨p13, hp13⟩ : ∃ p13, w3.heap.size = p13 := ⟨_, rfl⟩
                    rw [hp13] at HV13
                    simp only [hp13]
                    clear hp13
                    have hs5 := HB5.out.size
                    have HO55 := Lib.hid (HO5z.out.below HB5.out)
                    have HO65 := Lib.hid (HO6z.out.below HB5.out)
                    have HCS5 := Lib.hid (HCSz.out.below HB5.out)
                    have HVS5 : Hid (ValsOk w5 L1 R) := HVSz.out.keeps (Q := fun _ => False) (Keeps.of_below HB5.out) (fun _ _ _ h => h)
                    have HBW5 : Hid (Below w.heap.size w w5) := HBWz.out.trans (HB5.out.mono (by omega))
                    have k1 : hasRow w5 ⟨p13, 0, none⟩ 24 = true := HV13.out.hasRow (tpR_length tz)
                    have k2 : rowAt w5 ⟨p13, 0, none⟩ 24 = tpV tz := HV13.out.rowAt (tpR_length tz)
                    have i13 : isOld p13 w5 = true := isOld_iff.2 HV13.out.lt
                    have HQ6 : Hid (∀ w', Below w5.heap.size w5 w' → Own tpCod (QQ (.slice a5 T.length c5) w5.heap.size) w' (.slice a5 T.length c5) T) := fun w' h => Own.below (Q := QQ (.slice a5 T.length c5) w5.heap.size) ⟨HO55.out.1, fun g hg => .inl hg⟩ h
                    go_wp2_with (at_builtin; go_loud (refine wpList_append_list rfl tpCod (.tmp 97) (.tmp 99) 27 rfl rfl (QQ (.slice a5 T.length c5) w5.heap.size) _ _ T rfl (HQ6.out _ (by repeat (first | exact Below.refl _ _ | assumption | refine below_grown ?_ (by first | omega | (simp [go_sem]; done) | (simp [go_sem] <;> omega)) _ | refine Below.alloc ?_ (by first | omega | (simp [go_sem]; done) | (simp [go_sem] <;> omega)) _ | refine below_bytesW ?_ (by first | omega | (simp [go_sem]; done) | (simp [go_sem] <;> omega)) _ | refine Below.drew ?_ | refine below_drewN ?_ _))) _ 0 _ _ [tz] rfl rfl (tp_newR _ _ _ (by simp [go_sem])) (by simp [tpCod]; omega) (by simp; omega) (by show _ ∨ _; right; simp) ?_); intro v' w8 ho8 hk8; have HO8 := Lib.hid ho8; have HK8 := Lib.hid hk8; clear ho8 hk8)
                    go_meet
                    have HKW : Keeps (QQ (.slice a5 T.length c5) w5.heap.size) w5 w8 := Keeps.trans (Keeps.of_below ((Below.refl _ _).alloc (Nat.le_refl _) _)) HK8.out
                    have hnq : ∀ q, q < w5.heap.size → ¬ Qr w.heap.size L0 L1 q → ¬ QQ (.slice a5 T.length c5) w5.heap.size q := fun q h1 h2 h3 => by
                      rcases h3 with h3 | h3
                      · exact h2 (HO55.out.2 q h3)
                      · omega
                    have hs8 := HKW.size
                    refine ⟨by rw [HLT.out], by rw [HLT.out], HBW5.out.trans (HKW.below (B := w.heap.size) (fun q hq => ⟨by omega, hnq q (by omega) (by unfold Qr; omega)⟩)), (hasVar_congr ((HKW.block _ (by omega) (hnq _ (by omega) (by unfold Qr; omega))).trans (HB5.out.block _ (by omega)))).trans hv4z, fun q h1 h2 => ((HKW.block q (by omega) (hnq q (by omega) (by unfold Qr; omega))).trans (HB5.out.block q (by omega))).trans (HLNz.out q h1 h2), by omega, fun h => ?_, ?_⟩
                    · rw [HLT.out] at h ⊢
                      have h := HGD5.out h
                      subst h
                      exact rd_tp HO55.out HO65.out HCS5.out HVS5.out HKW HO8.out (by omega)
                    · exact ((HLZ.out.below HB5.out).keeps HKW (fun q h1 h2 h3 => by
                        rcases h3 with h3 | h3
                        · have := HOL5.out q h3; omega
                        · omega)).mono (Nat.zero_le _)
                  case rest =>
                    obtain ⟨rfl, rfl, hbx, hvx, hlx, hszx, hgood, hlw⟩ := hcut
                    obtain ⟨hcol, hwd⟩ := hlw0
                    have hsm := hwsm
                    have hWl := hwln
                    generalize wordsL x = W at *
                    have HBX := Lib.hid hbx
                    have HLX := Lib.hid hlx
                    have HGD := Lib.hid hgood
                    have HLW := Lib.hid hlw
                    have HCOL := Lib.hid hcol
                    have i4x : isOld w.heap.size wc = true := isOld_iff.2 (by omega)
                    clear hbx hlx hgood hlw hcol HWL HPLE HSUM hwsm HBZ HLZ hv4z HBWz HLNz HO5z HO6z HCSz HVSz HL5z HL6z i4z
                    by_cases he : (lineT x k T C).1 = 0
                    · have hgd := HGD.out he
                      have HGD2 := Lib.hid hgd
                      have HS3 : Hid (tplStep (L.drop (k + 1)) (k + 1) (lineT x k T C).2.2.1 (lineT x k T C).2.2.2 = RES) := by
                        show _ = _
                        rw [HST2.out, if_neg (fun h => h he)]
                      have HOK3 := Lib.hid (lineT_ok HOK.out hx he)
                      have HVN3 : Hid (ValNe (lineT x k T C).2.2.2) := by
                        show ValNe _
                        exact lineT_ne HVN.out he
                      clear hgd HGD HST2 HCOL
                      rw [he]
                      clear he
                      generalize (lineT x k T C).2.1 = wd at *
                      generalize (lineT x k T C).2.2.1 = T' at *
                      generalize (lineT x k T C).2.2.2 = C' at *
                      go_wp2
                      go_roundw
                      case rel => exact ⟨k + 1, T', C', by omega, by go_num, HGD2.out, HOK3.out, HVN3.out, HBX.out, hvx, HLX.out, hszx, HS3.out⟩
                      case measure => simp [intOf]; omega
                    · have HS3 : Hid (RES = ([], [], (lineT x k T C).1, (k : Int) + 1, colW (splitL 32 x) (lineT x k T C).2.1)) := by
                        show _ = _
                        rw [HST2.out, if_pos he]
                      rw [← HCOL.out] at HS3
                      have hen : ((lineT x k T C).1 != 0) = true := by rw [bne_iff_ne]; exact he
                      clear HGD HST2 HCOL he
                      generalize (lineT x k T C).1 = er at *
                      generalize (lineT x k T C).2.1 = wd at *
                      have HSM := Lib.hid hsm
                      have HLE := Lib.hid (colW_le W W.length)
                      have HCS2 := Lib.hid (colW_step W)
                      clear hsm
                      go_wp2
                      go_loop [19, 20] (fun c i => ∃ j : Nat, i = .int .i64 (j : Int) ∧ j ≤ wd ∧ c = .int .i64 (1 + ((((W.take j).map (fun w => w.length + 1)).sum : Nat) : Int))) (fun _ i => wd - (intOf i).toNat)
                      case atStart => exact ⟨0, rfl, Nat.zero_le _, by simp⟩
                      case round =>
                        obtain ⟨j, rfl, hj, rfl⟩ := hrel
                        have hall : ((W.take W.length).map (fun w => w.length + 1)).sum ≤ 1000000 := by rw [List.take_length]; exact HSM.out
                        by_cases hjl : j < wd
                        · have hjW : j < W.length := by omega
                          obtain ⟨g, o, hgo, _, _, hat⟩ := HLW.out.resolve_left (fun h => by subst h; exact absurd hjW (Nat.not_lt_zero _))
                          cases hgo
                          have hc := strAt hat j hjW
                          have hst := HCS2.out j hjW
                          have hle := HLE.out (j + 1) (by omega)
                          rw [hst] at hle
                          have HS4 := Lib.hid hst
                          have hji : (j : Int) < (wd : Int) := by omega
                          have hjWi : (j : Int) < (W.length : Int) := by omega
                          clear hat hst
                          generalize W[j]'hjW = y at *
                          generalize ((W.take j).map (fun w => w.length + 1)).sum = z at *
                          have hw1 : IntKind.i64.wrap ((y.length : Int) + 1) = (y.length : Int) + 1 := IntWalk.i64_in _ (by omega)
                          have hw2 : IntKind.i64.wrap (1 + (z : Int) + ((y.length : Int) + 1)) = 1 + ((z + (y.length + 1) : Nat) : Int) := by
                            rw [show (1 + (z : Int) + ((y.length : Int) + 1)) = 1 + ((z + (y.length + 1) : Nat) : Int) by omega]
                            exact IntWalk.i64_in _ (by omega)
                          go_wp2
                          go_round
                          case rel => exact ⟨j + 1, by go_num, by omega, by rw [HS4.out]; first | done | (congr 1; done) | (congr 1; omega)⟩
                          case measure => simp [intOf]; omega
                        · obtain rfl : j = wd := by omega
                          go_wp2
                          refine ret_tmp2_cell w.heap.size (faultV er ((k : Int) + 1) (colW W j)) (.slice none 0 0) (.slice none 0 0) rfl rfl rfl rfl agg_fault (by simp [go_sem, hvx, i4x]) (by simp [go_sem, hvx, i4x]; try (unfold colW; rw [List.map_take])) rfl ?_
                          rw [← HPOST.out, HS3.out]
                          exact ⟨none, 0, none, 0, [], rfl, Nat.le_refl _, Nat.le_refl _, below_setRow HBX.out (Nat.le_refl _) _, .inl rfl, .inl rfl, ChsOk.nil _ _⟩
                · have hck2 : isCk x = false := by cases h9 : isCk x; rfl; exact absurd h9 hck
                  have h2 := HICK.out
                  rw [hck2] at h2
                  have HLT : Hid (lineT x k T C = (131, 0, T, C)) := by
                    show _ = _
                    unfold lineT
                    rw [if_neg hch, if_neg hck]
                  have HN1 := Lib.hid h1
                  have HN2 := Lib.hid h2
                  clear h1 h2 hch hch2 hck hck2 HICH HICK
                  by_cases hc : (splitL 32 x)[0]'hpp = choiceWd
                  · have hl2 : ¬ (3 : Int) ≤ ((wordsL x).length : Int) := by
                      have hq := HWQ.out
                      have h1 := HN1.out
                      rw [hc] at h1
                      have h9 : decide (2 < (splitL 32 x).length) = false := by simpa using h1.symm
                      have h10 := of_decide_eq_false h9
                      omega
                    rw [hc] at hc0
                    unfold choiceWd at hc0
                    clear hc HN1 HN2
                    go_upto_if 58 with fail
                    go_cut [5, 6, 11, 12] (fun s5 s6 s11 s12 wx => RefLine w.heap.size L0 L1 w w1 (some ⟨gW, oW, none⟩) x k T C s5 s6 s11 s12 wx)
                    case first =>
                      go_wp2
                      go_meet
                      exact ⟨by rw [HLT.out], by rw [HLT.out]; rfl, HBWz.out, hv4z, HLNz.out, hszz, fun h => absurd h (by rw [HLT.out]; show (131 : Int) ≠ 0; decide), HLZ.out.mono (Nat.zero_le _)⟩
                    case rest =>
                      obtain ⟨rfl, rfl, hbx, hvx, hlx, hszx, hgood, hlw⟩ := hcut
                      obtain ⟨hcol, hwd⟩ := hlw0
                      have hsm := hwsm
                      have hWl := hwln
                      generalize wordsL x = W at *
                      have HBX := Lib.hid hbx
                      have HLX := Lib.hid hlx
                      have HGD := Lib.hid hgood
                      have HLW := Lib.hid hlw
                      have HCOL := Lib.hid hcol
                      have i4x : isOld w.heap.size wc = true := isOld_iff.2 (by omega)
                      clear hbx hlx hgood hlw hcol HWL HPLE HSUM hwsm HBZ HLZ hv4z HBWz HLNz HO5z HO6z HCSz HVSz HL5z HL6z i4z
                      by_cases he : (lineT x k T C).1 = 0
                      · have hgd := HGD.out he
                        have HGD2 := Lib.hid hgd
                        have HS3 : Hid (tplStep (L.drop (k + 1)) (k + 1) (lineT x k T C).2.2.1 (lineT x k T C).2.2.2 = RES) := by
                          show _ = _
                          rw [HST2.out, if_neg (fun h => h he)]
                        have HOK3 := Lib.hid (lineT_ok HOK.out hx he)
                        have HVN3 : Hid (ValNe (lineT x k T C).2.2.2) := by
                          show ValNe _
                          exact lineT_ne HVN.out he
                        clear hgd HGD HST2 HCOL
                        rw [he]
                        clear he
                        generalize (lineT x k T C).2.1 = wd at *
                        generalize (lineT x k T C).2.2.1 = T' at *
                        generalize (lineT x k T C).2.2.2 = C' at *
                        go_wp2
                        go_roundw
                        case rel => exact ⟨k + 1, T', C', by omega, by go_num, HGD2.out, HOK3.out, HVN3.out, HBX.out, hvx, HLX.out, hszx, HS3.out⟩
                        case measure => simp [intOf]; omega
                      · have HS3 : Hid (RES = ([], [], (lineT x k T C).1, (k : Int) + 1, colW (splitL 32 x) (lineT x k T C).2.1)) := by
                          show _ = _
                          rw [HST2.out, if_pos he]
                        rw [← HCOL.out] at HS3
                        have hen : ((lineT x k T C).1 != 0) = true := by rw [bne_iff_ne]; exact he
                        clear HGD HST2 HCOL he
                        generalize (lineT x k T C).1 = er at *
                        generalize (lineT x k T C).2.1 = wd at *
                        have HSM := Lib.hid hsm
                        have HLE := Lib.hid (colW_le W W.length)
                        have HCS2 := Lib.hid (colW_step W)
                        clear hsm
                        go_wp2
                        go_loop [19, 20] (fun c i => ∃ j : Nat, i = .int .i64 (j : Int) ∧ j ≤ wd ∧ c = .int .i64 (1 + ((((W.take j).map (fun w => w.length + 1)).sum : Nat) : Int))) (fun _ i => wd - (intOf i).toNat)
                        case atStart => exact ⟨0, rfl, Nat.zero_le _, by simp⟩
                        case round =>
                          obtain ⟨j, rfl, hj, rfl⟩ := hrel
                          have hall : ((W.take W.length).map (fun w => w.length + 1)).sum ≤ 1000000 := by rw [List.take_length]; exact HSM.out
                          by_cases hjl : j < wd
                          · have hjW : j < W.length := by omega
                            obtain ⟨g, o, hgo, _, _, hat⟩ := HLW.out.resolve_left (fun h => by subst h; exact absurd hjW (Nat.not_lt_zero _))
                            cases hgo
                            have hc := strAt hat j hjW
                            have hst := HCS2.out j hjW
                            have hle := HLE.out (j + 1) (by omega)
                            rw [hst] at hle
                            have HS4 := Lib.hid hst
                            have hji : (j : Int) < (wd : Int) := by omega
                            have hjWi : (j : Int) < (W.length : Int) := by omega
                            clear hat hst
                            generalize W[j]'hjW = y at *
                            generalize ((W.take j).map (fun w => w.length + 1)).sum = z at *
                            have hw1 : IntKind.i64.wrap ((y.length : Int) + 1) = (y.length : Int) + 1 := IntWalk.i64_in _ (by omega)
                            have hw2 : IntKind.i64.wrap (1 + (z : Int) + ((y.length : Int) + 1)) = 1 + ((z + (y.length + 1) : Nat) : Int) := by
                              rw [show (1 + (z : Int) + ((y.length : Int) + 1)) = 1 + ((z + (y.length + 1) : Nat) : Int) by omega]
                              exact IntWalk.i64_in _ (by omega)
                            go_wp2
                            go_round
                            case rel => exact ⟨j + 1, by go_num, by omega, by rw [HS4.out]; first | done | (congr 1; done) | (congr 1; omega)⟩
                            case measure => simp [intOf]; omega
                          · obtain rfl : j = wd := by omega
                            go_wp2
                            refine ret_tmp2_cell w.heap.size (faultV er ((k : Int) + 1) (colW W j)) (.slice none 0 0) (.slice none 0 0) rfl rfl rfl rfl agg_fault (by simp [go_sem, hvx, i4x]) (by simp [go_sem, hvx, i4x]; try (unfold colW; rw [List.map_take])) rfl ?_
                            rw [← HPOST.out, HS3.out]
                            exact ⟨none, 0, none, 0, [], rfl, Nat.le_refl _, Nat.le_refl _, below_setRow HBX.out (Nat.le_refl _) _, .inl rfl, .inl rfl, ChsOk.nil _ _⟩
                  · have hc1 : ((splitL 32 x)[0]'hpp == [99, 104, 111, 105, 99, 101]) = false := beq_eq_false_iff_ne.2 hc
                    by_cases hkk : (splitL 32 x)[0]'hpp = cookieWd
                    · have hl2 : (((wordsL x).length : Int) == 4) = false := by
                        have hq := HWQ.out
                        have h2 := HN2.out
                        rw [hkk] at h2
                        have h9 : decide ((splitL 32 x).length = 4) = false := by simpa using h2.symm
                        have h10 := of_decide_eq_false h9
                        rw [beq_eq_false_iff_ne]; omega
                      rw [hkk] at hc0
                      unfold cookieWd at hc0
                      clear hkk hc hc1 HN1 HN2
                      go_upto_if 58 with fail
                      go_cut [5, 6, 11, 12] (fun s5 s6 s11 s12 wx => RefLine w.heap.size L0 L1 w w1 (some ⟨gW, oW, none⟩) x k T C s5 s6 s11 s12 wx)
                      case first =>
                        go_wp2
                        go_meet
                        exact ⟨by rw [HLT.out], by rw [HLT.out]; rfl, HBWz.out, hv4z, HLNz.out, hszz, fun h => absurd h (by rw [HLT.out]; show (131 : Int) ≠ 0; decide), HLZ.out.mono (Nat.zero_le _)⟩
                      case rest =>
                        obtain ⟨rfl, rfl, hbx, hvx, hlx, hszx, hgood, hlw⟩ := hcut
                        obtain ⟨hcol, hwd⟩ := hlw0
                        have hsm := hwsm
                        have hWl := hwln
                        generalize wordsL x = W at *
                        have HBX := Lib.hid hbx
                        have HLX := Lib.hid hlx
                        have HGD := Lib.hid hgood
                        have HLW := Lib.hid hlw
                        have HCOL := Lib.hid hcol
                        have i4x : isOld w.heap.size wc = true := isOld_iff.2 (by omega)
                        clear hbx hlx hgood hlw hcol HWL HPLE HSUM hwsm HBZ HLZ hv4z HBWz HLNz HO5z HO6z HCSz HVSz HL5z HL6z i4z
                        by_cases he : (lineT x k T C).1 = 0
                        · have hgd := HGD.out he
                          have HGD2 := Lib.hid hgd
                          have HS3 : Hid (tplStep (L.drop (k + 1)) (k + 1) (lineT x k T C).2.2.1 (lineT x k T C).2.2.2 = RES) := by
                            show _ = _
                            rw [HST2.out, if_neg (fun h => h he)]
                          have HOK3 := Lib.hid (lineT_ok HOK.out hx he)
                          have HVN3 : Hid (ValNe (lineT x k T C).2.2.2) := by
                            show ValNe _
                            exact lineT_ne HVN.out he
                          clear hgd HGD HST2 HCOL
                          rw [he]
                          clear he
                          generalize (lineT x k T C).2.1 = wd at *
                          generalize (lineT x k T C).2.2.1 = T' at *
                          generalize (lineT x k T C).2.2.2 = C' at *
                          go_wp2
                          go_roundw
                          case rel => exact ⟨k + 1, T', C', by omega, by go_num, HGD2.out, HOK3.out, HVN3.out, HBX.out, hvx, HLX.out, hszx, HS3.out⟩
                          case measure => simp [intOf]; omega
                        · have HS3 : Hid (RES = ([], [], (lineT x k T C).1, (k : Int) + 1, colW (splitL 32 x) (lineT x k T C).2.1)) := by
                            show _ = _
                            rw [HST2.out, if_pos he]
                          rw [← HCOL.out] at HS3
                          have hen : ((lineT x k T C).1 != 0) = true := by rw [bne_iff_ne]; exact he
                          clear HGD HST2 HCOL he
                          generalize (lineT x k T C).1 = er at *
                          generalize (lineT x k T C).2.1 = wd at *
                          have HSM := Lib.hid hsm
                          have HLE := Lib.hid (colW_le W W.length)
                          have HCS2 := Lib.hid (colW_step W)
                          clear hsm
                          go_wp2
                          go_loop [19, 20] (fun c i => ∃ j : Nat, i = .int .i64 (j : Int) ∧ j ≤ wd ∧ c = .int .i64 (1 + ((((W.take j).map (fun w => w.length + 1)).sum : Nat) : Int))) (fun _ i => wd - (intOf i).toNat)
                          case atStart => exact ⟨0, rfl, Nat.zero_le _, by simp⟩
                          case round =>
                            obtain ⟨j, rfl, hj, rfl⟩ := hrel
                            have hall : ((W.take W.length).map (fun w => w.length + 1)).sum ≤ 1000000 := by rw [List.take_length]; exact HSM.out
                            by_cases hjl : j < wd
                            · have hjW : j < W.length := by omega
                              obtain ⟨g, o, hgo, _, _, hat⟩ := HLW.out.resolve_left (fun h => by subst h; exact absurd hjW (Nat.not_lt_zero _))
                              cases hgo
                              have hc := strAt hat j hjW
                              have hst := HCS2.out j hjW
                              have hle := HLE.out (j + 1) (by omega)
                              rw [hst] at hle
                              have HS4 := Lib.hid hst
                              have hji : (j : Int) < (wd : Int) := by omega
                              have hjWi : (j : Int) < (W.length : Int) := by omega
                              clear hat hst
                              generalize W[j]'hjW = y at *
                              generalize ((W.take j).map (fun w => w.length + 1)).sum = z at *
                              have hw1 : IntKind.i64.wrap ((y.length : Int) + 1) = (y.length : Int) + 1 := IntWalk.i64_in _ (by omega)
                              have hw2 : IntKind.i64.wrap (1 + (z : Int) + ((y.length : Int) + 1)) = 1 + ((z + (y.length + 1) : Nat) : Int) := by
                                rw [show (1 + (z : Int) + ((y.length : Int) + 1)) = 1 + ((z + (y.length + 1) : Nat) : Int) by omega]
                                exact IntWalk.i64_in _ (by omega)
                              go_wp2
                              go_round
                              case rel => exact ⟨j + 1, by go_num, by omega, by rw [HS4.out]; first | done | (congr 1; done) | (congr 1; omega)⟩
                              case measure => simp [intOf]; omega
                            · obtain rfl : j = wd := by omega
                              go_wp2
                              refine ret_tmp2_cell w.heap.size (faultV er ((k : Int) + 1) (colW W j)) (.slice none 0 0) (.slice none 0 0) rfl rfl rfl rfl agg_fault (by simp [go_sem, hvx, i4x]) (by simp [go_sem, hvx, i4x]; try (unfold colW; rw [List.map_take])) rfl ?_
                              rw [← HPOST.out, HS3.out]
                              exact ⟨none, 0, none, 0, [], rfl, Nat.le_refl _, Nat.le_refl _, below_setRow HBX.out (Nat.le_refl _) _, .inl rfl, .inl rfl, ChsOk.nil _ _⟩
                    · have hk1 : ((splitL 32 x)[0]'hpp == [99, 111, 111, 107, 105, 101]) = false := beq_eq_false_iff_ne.2 hkk
                      clear hkk hc HN1 HN2
                      generalize (splitL 32 x)[0]'hpp = W0 at *
                      go_upto_if 58 with fail
                      go_cut [5, 6, 11, 12] (fun s5 s6 s11 s12 wx => RefLine w.heap.size L0 L1 w w1 (some ⟨gW, oW, none⟩) x k T C s5 s6 s11 s12 wx)
                      case first =>
                        go_wp2
                        go_meet
                        exact ⟨by rw [HLT.out], by rw [HLT.out]; rfl, HBWz.out, hv4z, HLNz.out, hszz, fun h => absurd h (by rw [HLT.out]; show (131 : Int) ≠ 0; decide), HLZ.out.mono (Nat.zero_le _)⟩
                      case rest =>
                        obtain ⟨rfl, rfl, hbx, hvx, hlx, hszx, hgood, hlw⟩ := hcut
                        obtain ⟨hcol, hwd⟩ := hlw0
                        have hsm := hwsm
                        have hWl := hwln
                        generalize wordsL x = W at *
                        have HBX := Lib.hid hbx
                        have HLX := Lib.hid hlx
                        have HGD := Lib.hid hgood
                        have HLW := Lib.hid hlw
                        have HCOL := Lib.hid hcol
                        have i4x : isOld w.heap.size wc = true := isOld_iff.2 (by omega)
                        clear hbx hlx hgood hlw hcol HWL HPLE HSUM hwsm HBZ HLZ hv4z HBWz HLNz HO5z HO6z HCSz HVSz HL5z HL6z i4z
                        by_cases he : (lineT x k T C).1 = 0
                        · have hgd := HGD.out he
                          have HGD2 := Lib.hid hgd
                          have HS3 : Hid (tplStep (L.drop (k + 1)) (k + 1) (lineT x k T C).2.2.1 (lineT x k T C).2.2.2 = RES) := by
                            show _ = _
                            rw [HST2.out, if_neg (fun h => h he)]
                          have HOK3 := Lib.hid (lineT_ok HOK.out hx he)
                          have HVN3 : Hid (ValNe (lineT x k T C).2.2.2) := by
                            show ValNe _
                            exact lineT_ne HVN.out he
                          clear hgd HGD HST2 HCOL
                          rw [he]
                          clear he
                          generalize (lineT x k T C).2.1 = wd at *
                          generalize (lineT x k T C).2.2.1 = T' at *
                          generalize (lineT x k T C).2.2.2 = C' at *
                          go_wp2
                          go_roundw
                          case rel => exact ⟨k + 1, T', C', by omega, by go_num, HGD2.out, HOK3.out, HVN3.out, HBX.out, hvx, HLX.out, hszx, HS3.out⟩
                          case measure => simp [intOf]; omega
                        · have HS3 : Hid (RES = ([], [], (lineT x k T C).1, (k : Int) + 1, colW (splitL 32 x) (lineT x k T C).2.1)) := by
                            show _ = _
                            rw [HST2.out, if_pos he]
                          rw [← HCOL.out] at HS3
                          have hen : ((lineT x k T C).1 != 0) = true := by rw [bne_iff_ne]; exact he
                          clear HGD HST2 HCOL he
                          generalize (lineT x k T C).1 = er at *
                          generalize (lineT x k T C).2.1 = wd at *
                          have HSM := Lib.hid hsm
                          have HLE := Lib.hid (colW_le W W.length)
                          have HCS2 := Lib.hid (colW_step W)
                          clear hsm
                          go_wp2
                          go_loop [19, 20] (fun c i => ∃ j : Nat, i = .int .i64 (j : Int) ∧ j ≤ wd ∧ c = .int .i64 (1 + ((((W.take j).map (fun w => w.length + 1)).sum : Nat) : Int))) (fun _ i => wd - (intOf i).toNat)
                          case atStart => exact ⟨0, rfl, Nat.zero_le _, by simp⟩
                          case round =>
                            obtain ⟨j, rfl, hj, rfl⟩ := hrel
                            have hall : ((W.take W.length).map (fun w => w.length + 1)).sum ≤ 1000000 := by rw [List.take_length]; exact HSM.out
                            by_cases hjl : j < wd
                            · have hjW : j < W.length := by omega
                              obtain ⟨g, o, hgo, _, _, hat⟩ := HLW.out.resolve_left (fun h => by subst h; exact absurd hjW (Nat.not_lt_zero _))
                              cases hgo
                              have hc := strAt hat j hjW
                              have hst := HCS2.out j hjW
                              have hle := HLE.out (j + 1) (by omega)
                              rw [hst] at hle
                              have HS4 := Lib.hid hst
                              have hji : (j : Int) < (wd : Int) := by omega
                              have hjWi : (j : Int) < (W.length : Int) := by omega
                              clear hat hst
                              generalize W[j]'hjW = y at *
                              generalize ((W.take j).map (fun w => w.length + 1)).sum = z at *
                              have hw1 : IntKind.i64.wrap ((y.length : Int) + 1) = (y.length : Int) + 1 := IntWalk.i64_in _ (by omega)
                              have hw2 : IntKind.i64.wrap (1 + (z : Int) + ((y.length : Int) + 1)) = 1 + ((z + (y.length + 1) : Nat) : Int) := by
                                rw [show (1 + (z : Int) + ((y.length : Int) + 1)) = 1 + ((z + (y.length + 1) : Nat) : Int) by omega]
                                exact IntWalk.i64_in _ (by omega)
                              go_wp2
                              go_round
                              case rel => exact ⟨j + 1, by go_num, by omega, by rw [HS4.out]; first | done | (congr 1; done) | (congr 1; omega)⟩
                              case measure => simp [intOf]; omega
                            · obtain rfl : j = wd := by omega
                              go_wp2
                              refine ret_tmp2_cell w.heap.size (faultV er ((k : Int) + 1) (colW W j)) (.slice none 0 0) (.slice none 0 0) rfl rfl rfl rfl agg_fault (by simp [go_sem, hvx, i4x]) (by simp [go_sem, hvx, i4x]; try (unfold colW; rw [List.map_take])) rfl ?_
                              rw [← HPOST.out, HS3.out]
                              exact ⟨none, 0, none, 0, [], rfl, Nat.le_refl _, Nat.le_refl _, below_setRow HBX.out (Nat.le_refl _) _, .inl rfl, .inl rfl, ChsOk.nil _ _⟩
          · rw [hp] at h35
            have HS2 : Hid (tplStep (L.drop (k + 1)) (k + 1) T C = RES) := by
              have := HST.out
              rw [if_pos (.inr hp)] at this
              exact this.symm
            clear HST hp hx0
            go_wp2
            go_roundw
            case rel => exact ⟨k + 1, T, C, by omega, by go_num, HRD.out, HOK.out, HVN.out, HBR.out, hv4, hlin.out, hszr, HS2.out⟩
            case measure => simp [intOf]; omega
      · obtain rfl : k = L.length := by omega
        have hfin := hinv.out
        rw [tplStep_end] at hfin
        subst hfin
        clear hinv
        have hRC := HCS.out.1
        have HRC := Lib.hid hRC
        clear hRC
        go_wp2
        refine ret_tmp2_cell w.heap.size (faultV 0 0 0) (.slice a5 T.length c5) (.slice a6 R.length c6) rfl rfl rfl rfl agg_fault (by simp [go_sem, hv4, i4]) (by simp [go_sem, hv4, i4]) rfl ?_
        rw [← HPOST.out]
        have hk4 : Keeps (fun q => q = w.heap.size) wr (wr.setRow w.heap.size (faultV 0 0 0)) := keeps_setRow (Q := fun q => q = w.heap.size) (Keeps.refl _ _) (.inr rfl) _
        refine ⟨a5, c5, a6, c6, R, by rw [HRC.out], hc5, by rw [← HRC.out]; exact hc6, below_setRow HBR.out (Nat.le_refl _) _, ?_, ?_, ?_⟩
        · rcases (HO5.out.blocks (w' := wr.setRow w.heap.size (faultV 0 0 0)) (fun q hq hl => hk4.block q hl (fun e => by have := HO5.out.2 q hq; unfold Qr at this; omega))).form with ⟨e1, e2⟩ | ⟨q, cc, e1, _, e3, e4, e5, _⟩
          · exact .inl e2
          · cases e1
            exact .inr ⟨q, 0, rfl, by unfold Qr at e3; omega, e4, e5⟩
        · rcases (HO6.out.blocks (w' := wr.setRow w.heap.size (faultV 0 0 0)) (fun q hq hl => hk4.block q hl (fun e => by have := HO6.out.2 q hq; unfold Qr at this; omega))).form with ⟨e1, e2⟩ | ⟨q, cc, e1, _, e3, e4, e5, _⟩
          · exact .inl e2
          · cases e1
            exact .inr ⟨q, 0, rfl, by unfold Qr at e3; omega, e4, e5⟩
        · exact (HCS.out.keeps hk4 (fun q h1 _ h2 => by omega)).mono (by omega)
end
end Go.Proofs.YtnkckejbkbbdlaaGreatDoor
