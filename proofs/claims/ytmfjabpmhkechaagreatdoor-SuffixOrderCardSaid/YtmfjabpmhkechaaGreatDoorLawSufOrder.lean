/- The walk of the statement SuffixOrder. -/
import Derived.Test.YtmfjabpmhkechaaGreatDoorSufAllB
namespace Go.Proofs.YtmfjabpmhkechaaGreatDoor
open Go Go.RowKit
set_option maxRecDepth 20000
set_option linter.unusedSimpArgs false
set_option linter.unusedVariables false

def dupL (L : List GRule) : List GRule := L.flatMap (fun r => [r, r])
theorem dupL_mem (L : List GRule) (r : GRule) : r ∈ dupL L ↔ r ∈ L := by
  unfold dupL
  simp
theorem dupL_len : ∀ L : List GRule, (dupL L).length = 2 * L.length
  | [] => rfl
  | x :: L => by
    have h1 : dupL (x :: L) = [x, x] ++ dupL L := rfl
    have h2 : (x :: L).length = L.length + 1 := rfl
    have h3 : ([x, x] : List GRule).length = 2 := rfl
    rw [h1, List.length_append, dupL_len L]
    omega
theorem dupL_snoc (L : List GRule) (r : GRule) : dupL (L ++ [r]) = dupL L ++ [r, r] := by
  unfold dupL
  simp
theorem turn_same (R : List GRule) (h : GHost) : sufN (dupL R.reverse) h = sufN R h ∧ pubB (dupL R.reverse) h = pubB R h ∧ siteL (dupL R.reverse) h = siteL R h := by
  have h1 : sufN (dupL R.reverse) h = sufN R h := suf_turned R _ (fun r => by rw [dupL_mem, List.mem_reverse]) h
  refine ⟨h1, ?_, ?_⟩
  · unfold pubB; rw [h1]
  · unfold siteL; rw [h1]
/-- Two rules in a new slice. -/
noncomputable def bs2 (w : World) (v0 v1 : Value) : Result Next := (Sem.run Tryz.prog (Instr.buildSlice 22 2 #[(0, v0), (1, v1)]) w).andThen fun v w' => .ok (.value v) w'
@[go_sem ↓ high] theorem run_op_bs2 (ev : Operand → Value) (dst : Option Tmp) (x0 x1 : Operand) (ty : TypeId) (pos : String) (af : Array Edge) (g : Option (Nat × Bool)) (w : World) :
    Sem.run Tryz.prog (execOp ev { dst := dst, op := .buildSlice 22 2 #[(0, x0), (1, x1)], type := ty, pos := pos, after := af, guard := g }) w = bs2 w (ev x0) (ev x1) := by
  unfold bs2
  simp only [execOp, Sem.run_bind, Sem.run_pure, List.map_toArray, List.map_cons, List.map_nil]
@[go_sem] theorem bs2_at (w : World) (k : Int) (n : List UInt8) : bs2 w (.agg (ruleV k n)) (.agg (ruleV k n)) =
    .ok (.value (.slice (some ⟨w.heap.size, 0, none⟩) 2 2)) (w.alloc (.cells (ruleR k n ++ ruleR k n).toArray 50)) := by kernel_rfl
set_option maxRecDepth 100000 in
set_option maxHeartbeats 8000000 in
theorem sufOrder_law (R : List GRule) (h : GHost) (a : Option Addr) (ca la : Nat) (hR : R.length ≤ maxLen) (hr : ∀ r ∈ R, (Lit.int .i64 r.1).wf = true ∧ r.2.length ≤ maxLen) (m : Int) (w : World) (hin : ListIn ruleCod w a R la) (hm : HasMax m w) (htz : HasTz w) (hd : HasDec w) :
    Calls Tryz.prog 6 #[.slice a R.length ca, .agg (hostC h)] w fun e w' => e = .returned (.bool true) ∧ Below w.heap.size w w' := by
  unfold maxLen at hR
  have HIN := Lib.hid hin
  have HG : Hid (∀ w, ListIn ruleCod w a R la → Calls Tryz.prog 9 #[.slice a R.length ca, .agg (hostC h)] w fun e w' => e = .returned (.bool (greatB R h)) ∧ Below w.heap.size w w') := fun w x => great_any R h a ca la (by omega) w x
  cases hg : greatB R h
  · rw [hg] at HG
    obtain ⟨g1, g2, g3⟩ := great_no hg
    have hdl := dupL_len R.reverse
    rw [List.length_reverse] at hdl
    have HN : Hid (∀ w, ListIn ruleCod w a R la → HasMax m w → HasTz w → HasDec w → Calls Tryz.prog 10 #[.slice a R.length ca] w (TabGives R w)) := fun w x y z v => new_any R a ca la (by omega) (fun r q => ⟨g1 r q, (hr r q).1⟩) m w x y z v
    have HN2 : Hid (∀ w a2 c2 l2, ListIn ruleCod w a2 (dupL R.reverse) l2 → HasMax m w → HasTz w → HasDec w → Calls Tryz.prog 10 #[.slice a2 (dupL R.reverse).length c2] w (TabGives (dupL R.reverse) w)) := fun w a2 c2 l2 x y z v => new_any (dupL R.reverse) a2 c2 l2 (by omega) (fun r q => by
      rw [dupL_mem, List.mem_reverse] at q
      exact ⟨g1 r q, (hr r q).1⟩) m w x y z v
    have H1 : Hid (∀ bt w, TabOk R bt w → HasMax m w → HasTz w → HasDec w → Calls Tryz.prog 11 #[.pointer (some ⟨bt, 0, none⟩), .agg (hostC h)] w fun e w' => e = .returned (.int .i64 (sufN R h : Nat)) ∧ Below w.heap.size w w') := fun bt w x y z v => suffix_tab R h (by omega) bt m w x y z v
    have H3 : Hid (∀ bt w, TabOk R bt w → HasMax m w → HasTz w → HasDec w → Calls Tryz.prog 13 #[.pointer (some ⟨bt, 0, none⟩), .agg (hostC h)] w fun e w' => e = .returned (.bool (pubB R h)) ∧ Below w.heap.size w w') := fun bt w x y z v => public_tab R h (by omega) bt m w x y z v
    have H5 : Hid (∀ bt w, TabOk R bt w → HasMax m w → HasTz w → HasDec w → Calls Tryz.prog 15 #[.pointer (some ⟨bt, 0, none⟩), .agg (hostC h)] w fun e w' => e = .returned (.string ⟨(siteL R h).toArray⟩) ∧ Below w.heap.size w w') := fun bt w x y z v => site_tab R h (by omega) bt m w x y z v
    obtain ⟨t1, t2, t3⟩ := turn_same R h
    have K1 : Hid (∀ bt w, TabOk (dupL R.reverse) bt w → HasMax m w → HasTz w → HasDec w → Calls Tryz.prog 11 #[.pointer (some ⟨bt, 0, none⟩), .agg (hostC h)] w fun e w' => e = .returned (.int .i64 (sufN R h : Nat)) ∧ Below w.heap.size w w') := fun bt w x y z v => by
      have := suffix_tab _ h (by omega) bt m w x y z v
      rwa [t1] at this
    have K3 : Hid (∀ bt w, TabOk (dupL R.reverse) bt w → HasMax m w → HasTz w → HasDec w → Calls Tryz.prog 13 #[.pointer (some ⟨bt, 0, none⟩), .agg (hostC h)] w fun e w' => e = .returned (.bool (pubB R h)) ∧ Below w.heap.size w w') := fun bt w x y z v => by
      have := public_tab _ h (by omega) bt m w x y z v
      rwa [t2] at this
    have K5 : Hid (∀ bt w, TabOk (dupL R.reverse) bt w → HasMax m w → HasTz w → HasDec w → Calls Tryz.prog 15 #[.pointer (some ⟨bt, 0, none⟩), .agg (hostC h)] w fun e w' => e = .returned (.string ⟨(siteL R h).toArray⟩) ∧ Below w.heap.size w w') := fun bt w x y z v => by
      have := site_tab _ h (by omega) bt m w x y z v
      rwa [t3] at this
    clear t1 t2 t3 hdl
    have HWF : Hid (∀ r ∈ R, (Lit.int .i64 r.1).wf = true ∧ r.2.length ≤ 400) := fun r q => ⟨(hr r q).1, g1 r q⟩
    clear g1 g3 hr hin hg
    generalize sufN R h = v at *
    generalize pubB R h = pb at *
    generalize siteL R h = si at *
    go_enter Tryz.func6, Tryz.ntmps6
    go_upto_region 7 with (first
      | (go_at_call 8; refine (sufAlive_any m _ (by repeat (first | exact hm | apply HasMax.grown | apply HasMax.alloc | apply HasMax.drew)) (by repeat (first | exact htz | apply HasTz.grown | apply HasTz.alloc | apply HasTz.drew)) (by repeat (first | exact hd | apply HasDec.grown | apply HasDec.alloc | apply HasDec.drew))).mono ?_; rintro e w1 ⟨rfl, hb1⟩; obtain ⟨p1, rfl⟩ := grown_of hb1; clear hb1)
      | (go_at_call 9; (with_reducible refine (HG.out _ (ListIn.below HIN.out (by repeat (first | exact Below.refl _ _ | assumption | refine below_grown ?_ (by first | omega | (simp [go_sem]; done) | (simp [go_sem] <;> omega)) _ | refine Below.alloc ?_ (by first | omega | (simp [go_sem]; done) | (simp [go_sem] <;> omega)) _ | refine below_bytesW ?_ (by first | omega | (simp [go_sem]; done) | (simp [go_sem] <;> omega)) _ | refine Below.drew ?_ | refine below_drewN ?_ _)))).mono ?_); intro e w1 he; obtain ⟨rfl, hb1⟩ := he; have HB1 := Lib.hid (bel_up (w := w) (by repeat (first | exact Below.refl _ _ | assumption | refine below_grown ?_ (by first | omega | (simp [go_sem]; done) | (simp [go_sem] <;> omega)) _ | refine Below.alloc ?_ (by first | omega | (simp [go_sem]; done) | (simp [go_sem] <;> omega)) _ | refine below_bytesW ?_ (by first | omega | (simp [go_sem]; done) | (simp [go_sem] <;> omega)) _ | refine Below.drew ?_ | refine below_drewN ?_ _)) hb1); have HV3 := Lib.hid (((Var.new w _ _ rfl rfl : Var (w.alloc (Obj.cells (hostC h) 26)) w.heap.size (hostL h)).grown _).below hb1); clear hb1))
    have hs1 := HB1.out.size
    have hv3lt := HV3.out.lt
    have HO0 : Hid (Own ruleCod (From w1.heap.size) (w1.alloc (Obj.cells #[] 50)) (.slice (some ⟨w1.heap.size, 0, none⟩) 0 0) []) := Own.made0 (Nat.le_refl _) rfl
    have HB2 : Hid (Below w.heap.size w (w1.alloc (Obj.cells #[] 50))) := HB1.out.alloc hs1 _
    have HV32 := Lib.hid (HV3.out.alloc (Obj.cells #[] 50))
    have hs2 : (w1.alloc (Obj.cells #[] 50)).heap.size = w1.heap.size + 1 := by simp
    generalize (w1.alloc (Obj.cells #[] 50)) = w2 at *
    go_loopw [5, 6] (fun v i wr => ∃ j : Nat, j ≤ R.length ∧ i = .int .i64 ((R.length : Int) - 1 - j) ∧ Own ruleCod (From w1.heap.size) wr v (dupL (R.reverse.take j)) ∧ Keeps (From w1.heap.size) w2 wr) (fun _ i _ => (intOf i + 1).toNat)
    case atStart => exact ⟨0, Nat.zero_le _, by go_num, HO0.out, Keeps.refl _ _⟩
    case round =>
      obtain ⟨j, hj, rfl, ho, hk⟩ := hrel
      have HO := Lib.hid ho
      have HK := Lib.hid hk
      have hks := hk.size
      have HBE : Hid (Below w.heap.size w wr) := HB2.out.trans (hk.below (fun q hq => ⟨by omega, fun h => by have := from_le h; omega⟩))
      obtain ⟨a5, c5, rfl, hc5, hl5⟩ := ho.slice (B := w1.heap.size) (fun _ h => from_le h)
      have HL5 := Lib.hid hl5
      clear ho hk hl5
      by_cases hlt : j < R.length
      · obtain ⟨b, o, rfl, hlo, hhi, hat⟩ := HIN.out.resolve_left (fun h => by subst h; exact absurd hlt (Nat.not_lt_zero _))
        have hnl : R.length - 1 - j < R.length := by omega
        obtain ⟨r1, q1⟩ := ruleRow (hat.below HBE.out) (R.length - 1 - j) hnl
        obtain ⟨hwf, hlen⟩ := HWF.out _ (List.getElem_mem hnl)
        have HTK : Hid (dupL (R.reverse.take (j + 1)) = dupL (R.reverse.take j) ++ [R[R.length - 1 - j]'hnl, R[R.length - 1 - j]'hnl]) := by
          show _ = _
          rw [List.take_succ_eq_append_getElem (by rw [List.length_reverse]; exact hlt), dupL_snoc, List.getElem_reverse]
        have hdl2 := dupL_len (R.reverse.take j)
        rw [List.length_take, List.length_reverse] at hdl2
        have hjn : (R.length : Int) - 1 - j = ((R.length - 1 - j : Nat) : Int) := by omega
        rw [hjn]
        have hio : isOld b wr = true := isOld_iff.2 (by have := HBE.out.size; omega)
        have hki : ((R.length - 1 - j : Nat) : Int) < (R.length : Int) := by omega
        have hwk : IntKind.i64.wrap (((R.length - 1 - j : Nat) : Int) - 1) = ((R.length - 1 - j : Nat) : Int) - 1 := IntWalk.i64_in _ (by omega)
        have HNX : Hid (((R.length - 1 - j : Nat) : Int) - 1 = (R.length : Int) - 1 - (j + 1 : Nat)) := by show _ = _; omega
        clear hat hjn
        generalize hrE : R[R.length - 1 - j]'hnl = r at *
        generalize R.length - 1 - j = n at *
        obtain ⟨rk, rn⟩ := r
        dsimp only at q1
        have r1d : hasRow wr.drew ⟨b, o + n * 2, none⟩ 2 = true := r1
        have q1d : rowAt wr.drew ⟨b, o + n * 2, none⟩ 2 = ruleV rk rn := q1
        have hlt2 : (dupL (R.reverse.take j)).length ≤ 120 := by omega
        generalize dupL (R.reverse.take j) = P at *
        clear hrE hdl2 hwf hlen
        go_upto_region 9 with fail
        go_region_law (refine step_append_list rfl ruleCod (.tmp 22) (.tmp 31) 22 rfl rfl (From w1.heap.size) _ _ P rfl (by first | exact (HO.out.drew.alloc _) | exact ((HO.out.alloc _).drew)) _ 0 _ _ [(rk, rn), (rk, rn)] rfl rfl (listAt_new _ _ [_, _] _ (by kernel_rfl) rfl) (by simp [ruleCod]; omega) (by simp [ruleCod]; omega) (by show _ ≤ _; simp; omega) ?_; intro v9 w9 ho9 hb9; have HO9 := Lib.hid ho9; have HB9 := Lib.hid ((Keeps.refl _ wr).drew.alloc _ |>.trans hb9); clear ho9 hb9)
        all_goals
          go_wp2
          go_roundw
          case rel => exact ⟨j + 1, by omega, by rw [HNX.out], by rw [HTK.out]; exact HO9.out, HK.out.trans HB9.out⟩
          case measure => first | (simp [intOf]; done) | (simp [intOf]; omega)
      · obtain rfl : j = R.length := by omega
        rw [List.take_of_length_le (by rw [List.length_reverse]; exact Nat.le_refl _)] at HL5 HO
        rw [List.take_of_length_le (by rw [List.length_reverse]; exact Nat.le_refl _)]
        have hm2 := hm.below HBE.out
        have ht2 := htz.below HBE.out
        have hd2 := hd.below HBE.out
        have HV3r := Lib.hid (HV32.out.keeps HK.out (fun h => by have := from_le h; omega))
        have hszr := HBE.out.size
        clear hm htz hd
        go_upto_region 11 with (first
          | (go_at_call 10; (with_reducible refine (HN.out _ (ListIn.below HIN.out HBE.out) hm2 ht2 hd2).mono ?_); intro e w5 hgv; obtain ⟨bt, rfl, htab, hb5⟩ := TabOk.of hgv; have HB5 := Lib.hid hb5; have HTAB := Lib.hid htab; have hm5 := hm2.below hb5; have ht5 := ht2.below hb5; have hd5 := hd2.below hb5; clear hgv htab hb5)
          | (go_at_call 10; (with_reducible refine (HN2.out _ _ _ _ (ListIn.below HL5.out HB5.out) hm5 ht5 hd5).mono ?_); intro e w6 hgv; obtain ⟨bt2, rfl, htab, hb6⟩ := TabOk.of hgv; have HB6 := Lib.hid hb6; have HTAB2 := Lib.hid htab; have hm := hm5.below hb6; have htz := ht5.below hb6; have hd := hd5.below hb6; clear hgv htab hb6))
        have HTAB6 := Lib.hid (HTAB.out.below HB6.out)
        have HV36 := Lib.hid ((HV3r.out.below HB5.out).below HB6.out)
        have hs5 := HB5.out.size
        have hs6 := HB6.out.size
        have HBW : Hid (Below w.heap.size w w6) := HBE.out.trans ((HB5.out.mono hszr).trans (HB6.out.mono (by omega)))
        have k30 : hasRow w6 ⟨w.heap.size, 0, none⟩ 18 = true := HV36.out.hasRow (hostL_len _)
        have k31 : rowAt w6 ⟨w.heap.size, 0, none⟩ 18 = hostC h := HV36.out.rowAt (hostL_len _)
        have i30 : isOld w.heap.size w6 = true := isOld_iff.2 (by omega)
        refine wp_region_quiet_grown (by kernel_rfl) (by kernel_rfl) ?_
        repeat (quiet_step ((first
          | (go_at_call 11; first | with_reducible exact quiet_grown (H1.out _ _ (TabOk.grown HTAB6.out _) (by repeat (first | exact hm | apply HasMax.grown | apply HasMax.alloc | apply HasMax.drew)) (by repeat (first | exact htz | apply HasTz.grown | apply HasTz.alloc | apply HasTz.drew)) (by repeat (first | exact hd | apply HasDec.grown | apply HasDec.alloc | apply HasDec.drew))) | with_reducible exact quiet_grown (K1.out _ _ (TabOk.grown HTAB2.out _) (by repeat (first | exact hm | apply HasMax.grown | apply HasMax.alloc | apply HasMax.drew)) (by repeat (first | exact htz | apply HasTz.grown | apply HasTz.alloc | apply HasTz.drew)) (by repeat (first | exact hd | apply HasDec.grown | apply HasDec.alloc | apply HasDec.drew))))
          | (go_at_call 13; first | with_reducible exact quiet_grown (H3.out _ _ (TabOk.grown HTAB6.out _) (by repeat (first | exact hm | apply HasMax.grown | apply HasMax.alloc | apply HasMax.drew)) (by repeat (first | exact htz | apply HasTz.grown | apply HasTz.alloc | apply HasTz.drew)) (by repeat (first | exact hd | apply HasDec.grown | apply HasDec.alloc | apply HasDec.drew))) | with_reducible exact quiet_grown (K3.out _ _ (TabOk.grown HTAB2.out _) (by repeat (first | exact hm | apply HasMax.grown | apply HasMax.alloc | apply HasMax.drew)) (by repeat (first | exact htz | apply HasTz.grown | apply HasTz.alloc | apply HasTz.drew)) (by repeat (first | exact hd | apply HasDec.grown | apply HasDec.alloc | apply HasDec.drew))))
          | (go_at_call 15; first | with_reducible exact quiet_grown (H5.out _ _ (TabOk.grown HTAB6.out _) (by repeat (first | exact hm | apply HasMax.grown | apply HasMax.alloc | apply HasMax.drew)) (by repeat (first | exact htz | apply HasTz.grown | apply HasTz.alloc | apply HasTz.drew)) (by repeat (first | exact hd | apply HasDec.grown | apply HasDec.alloc | apply HasDec.drew))) | with_reducible exact quiet_grown (K5.out _ _ (TabOk.grown HTAB2.out _) (by repeat (first | exact hm | apply HasMax.grown | apply HasMax.alloc | apply HasMax.drew)) (by repeat (first | exact htz | apply HasTz.grown | apply HasTz.alloc | apply HasTz.drew)) (by repeat (first | exact hd | apply HasDec.grown | apply HasDec.alloc | apply HasDec.drew)))))))
        refine wpQuiet_nil ?_; intro _ hw'; obtain ⟨pq, hw''⟩ := hw'; subst hw''
        go_wp2
        go_ret
        have hbw := HBW.out
        exact ⟨by first | rfl | exact ret_bool (by simp), (by repeat (first | exact Below.refl _ _ | assumption | refine below_grown ?_ (by first | omega | (simp [go_sem]; done) | (simp [go_sem] <;> omega)) _ | refine Below.alloc ?_ (by first | omega | (simp [go_sem]; done) | (simp [go_sem] <;> omega)) _ | refine below_bytesW ?_ (by first | omega | (simp [go_sem]; done) | (simp [go_sem] <;> omega)) _ | refine Below.drew ?_ | refine below_drewN ?_ _))⟩
  · rw [hg] at HG
    clear hr hin hg
    go_enter Tryz.func6, Tryz.ntmps6
    go_wp2_with (first
      | (go_at_call 8; refine (sufAlive_any m _ (by repeat (first | exact hm | apply HasMax.grown | apply HasMax.alloc | apply HasMax.drew)) (by repeat (first | exact htz | apply HasTz.grown | apply HasTz.alloc | apply HasTz.drew)) (by repeat (first | exact hd | apply HasDec.grown | apply HasDec.alloc | apply HasDec.drew))).mono ?_; rintro e w1 ⟨rfl, hb1⟩; obtain ⟨p1, rfl⟩ := grown_of hb1; clear hb1)
      | (go_at_call 9; (with_reducible refine (HG.out _ (ListIn.below HIN.out (by repeat (first | exact Below.refl _ _ | assumption | refine below_grown ?_ (by first | omega | (simp [go_sem]; done) | (simp [go_sem] <;> omega)) _ | refine Below.alloc ?_ (by first | omega | (simp [go_sem]; done) | (simp [go_sem] <;> omega)) _ | refine below_bytesW ?_ (by first | omega | (simp [go_sem]; done) | (simp [go_sem] <;> omega)) _ | refine Below.drew ?_ | refine below_drewN ?_ _)))).mono ?_); rintro e w1 ⟨rfl, hb1⟩; obtain ⟨p1, rfl⟩ := grown_of hb1; clear hb1))
    go_ret
    exact ⟨rfl, (by repeat (first | exact Below.refl _ _ | assumption | refine below_grown ?_ (by first | omega | (simp [go_sem]; done) | (simp [go_sem] <;> omega)) _ | refine Below.alloc ?_ (by first | omega | (simp [go_sem]; done) | (simp [go_sem] <;> omega)) _ | refine below_bytesW ?_ (by first | omega | (simp [go_sem]; done) | (simp [go_sem] <;> omega)) _ | refine Below.drew ?_ | refine below_drewN ?_ _))⟩
end Go.Proofs.YtmfjabpmhkechaaGreatDoor
