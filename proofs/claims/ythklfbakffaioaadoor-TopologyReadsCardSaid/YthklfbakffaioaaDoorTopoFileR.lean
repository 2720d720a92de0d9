/- The walk of the document's File of hosts. -/
import Derived.Test.YthklfbakffaioaaDoorTopoAllB
import Derived.Test.YthklfbakffaioaaDoorTopoRefL
import Derived.Test.YthklfbakffaioaaDoorLinesR
namespace Go.Proofs.YthklfbakffaioaaDoor
open Go Go.RowKit
set_option maxRecDepth 20000
set_option linter.unusedSimpArgs false
set_option linter.unusedVariables false

theorem Own.made1 {α : Type} {c : Cod α} {Q : Nat → Prop} {w : World} {t : TypeId} {b : Nat} (ht : t = c.E) (hb : b = w.heap.size) (h : Q b) : Own c Q (w.alloc (.cells #[] t)) (.slice (some ⟨b, 0, none⟩) 0 0) [] := by
  subst hb
  exact Own.made0 h ht
theorem pre35_at {x : List UInt8} (h : 0 < x.length) : Lib.hasPrefix x [35] = (x[0]'h == 35) := by
  cases x with
  | nil => cases h
  | cons c t =>
    show ((35 : UInt8) == c && List.isPrefixOf ([] : List UInt8) t) = _
    have e : List.isPrefixOf ([] : List UInt8) t = true := rfl
    rw [e, Bool.and_true, Bool.beq_comm]
    rfl
set_option maxRecDepth 100000 in
set_option maxHeartbeats 8000000 in
theorem refTopoFile_any (s : List UInt8) (hs : s.length ≤ 100000) (w : World) :
    Calls Tryd.prog 7 #[.string ⟨s.toArray⟩] w (GivesF patCod (topoFile s).1 (topoFile s).2 w) := by
  by_cases hlong : (20000 : Int) < s.length
  · have e : topoFile s = ([], 54, 1, 1) := by unfold topoFile; rw [if_pos (by omega)]
    rw [e]
    go_enter Tryd.func7, Tryd.ntmps7
    go_wp2
    exact ret_tmp_cell w.heap.size (faultV 54 1 1) (.slice none 0 0) rfl rfl rfl agg_fault (by simp [go_sem]) (by simp [go_sem]) rfl ⟨none, 0, rfl, Nat.le_refl _, by first | exact below_setRow ((Below.refl _ _).alloc (Nat.le_refl _) _) (Nat.le_refl _) _ | exact (by repeat (first | exact Below.refl _ _ | assumption | refine below_grown ?_ (by first | omega | (simp [go_sem]; done) | (simp [go_sem] <;> omega)) _ | refine Below.alloc ?_ (by first | omega | (simp [go_sem]; done) | (simp [go_sem] <;> omega)) _ | refine below_bytesW ?_ (by first | omega | (simp [go_sem]; done) | (simp [go_sem] <;> omega)) _ | refine Below.drew ?_ | refine below_drewN ?_ _)), .inl rfl⟩
  · have e : topoFile s = topoStep (linesL s) 0 [] := by unfold topoFile; rw [if_neg (by omega)]
    rw [e]
    have HL := Lib.hid (fun w => refLines_any s (by omega) w)
    have HPL := Lib.hid (linesL_pieceT s)
    have hLl := linesL_leT s
    generalize linesL s = L at *
    clear e
    obtain ⟨RES, hres⟩ : ∃ RES, topoStep L 0 [] = RES := ⟨_, rfl⟩
    rw [hres]
    have HRES := Lib.hid hres
    clear hres
    go_enter Tryd.func7, Tryd.ntmps7
    go_wp2_with (go_at_call 14; (with_reducible refine (HL.out _).mono ?_); intro e w1 hg; obtain ⟨a1, c1, rfl, hc1, hb1, hin1⟩ := hg; have HBC := Lib.hid hb1; have HIN := Lib.hid hin1; clear hb1 hin1)
    have hs0 := HBC.out.size
    simp at hs0
    have HV3 : Hid (hasVar w1 w.heap.size 3 = true) := (hasVar_congr (HBC.out.block _ (by simp <;> omega))).trans (by simp [go_sem])
    go_loopw [4, 20] (fun out i wr => ∃ (k : Nat) (P : List GPt), k ≤ L.length ∧ P.length ≤ 12 ∧ i = .int .i64 k ∧ Keeps (Also (w.heap.size + 1) w1.heap.size) w1 wr ∧ Own patCod (Also (w.heap.size + 1) w1.heap.size) wr out P ∧ Hid (topoStep (L.drop k) k P = RES) ∧ Hid (∀ r ∈ P, okP r)) (fun _ i _ => L.length - (intOf i).toNat)
    case atStart => exact ⟨0, [], Nat.zero_le _, Nat.zero_le _, rfl, Keeps.refl _ _, (Own.made1 rfl (by simp) (Or.inl rfl)).below HBC.out, by rw [List.drop_zero]; exact HRES.out, fun r h => by cases h⟩
    case round =>
      obtain ⟨k, P, hk, hPk, rfl, hb, ho, hinv, HPW⟩ := hrel
      have hsz := hb.size
      have HB := Lib.hid hb
      have HO := Lib.hid ho
      have HBE : Hid (Below w.heap.size w wr) := ((((Below.refl _ _).alloc (Nat.le_refl _) _).alloc (by simp) _).trans ((HBC.out.mono (by first | omega | (simp; done) | (simp; omega) | (simp [go_sem]; done) | (simp [go_sem]; omega) | (simp [strCod]; omega))).trans ((hb.below_also (by omega) (Nat.le_refl _)).mono (by omega))))
      have HVR : Hid (hasVar wr w.heap.size 3 = true) := (hasVar_congr (hb.block _ (by omega) (by intro hn; rcases hn with hn | hn <;> first | omega | (simp at hn; omega)))).trans HV3.out
      clear hb ho
      obtain ⟨a, cap, rfl, hcap, hin⟩ := HO.out.slice (B := w.heap.size + 1) (fun _ h => also_le (by omega) h)
      have HINP := Lib.hid hin
      clear hin
      by_cases hlt : k < L.length
      · obtain ⟨b1, o1, rfl, hlo1, hhi1, hat1⟩ := HIN.out.resolve_left (fun h => by subst h; exact absurd hlt (Nat.not_lt_zero _))
        have hlo2 : w.heap.size + 1 + 1 ≤ b1 := by simpa using hlo1
        have hcell := strAt (hat1.keeps HB.out hhi1 (by intro hn; rcases hn with hn | hn <;> first | omega | (simp at hn; omega))) k hlt
        have hx := HPL.out _ (List.getElem_mem hlt)
        have HST := Lib.hid (topoStep_at L k hlt P)
        have HRL := Lib.hid (fun w => refTopoLine_any (L[k]'hlt) (by omega) w)
        have hbd := (topoLine_bd (L[k]'hlt)).1
        have hst := HST.out
        rw [hinv.out] at hst
        clear HST hinv
        generalize L[k]'hlt = x at *
        have HSTP := Lib.hid hst
        clear hst
        have hwk : IntKind.i64.wrap ((k : Int) + 1) = (k : Int) + 1 := IntWalk.i64_in _ (by omega)
        by_cases hx0 : x = []
        · subst hx0
          have HS2 : Hid (topoStep (L.drop (k + 1)) (k + 1) P = RES) := by
            have := HSTP.out
            rw [if_pos (.inl rfl)] at this
            exact this.symm
          clear HSTP hbd HRL
          go_wp2
          go_roundw
          case rel => exact ⟨k + 1, P, by omega, hPk, by go_num, HB.out, HO.out, HS2.out, HPW.out⟩
          case measure => simp [intOf]; omega
        · have hem : x.isEmpty = false := by rw [List.isEmpty_eq_false_iff]; exact hx0
          have hpos : 0 < x.length := List.length_pos_iff.2 hx0
          have h35 : ((((x[0]'hpos).toNat : Int)) == 35) = Lib.hasPrefix x [35] := by rw [u8_lit _ 35 35 rfl, pre35_at hpos]
          cases hp : Lib.hasPrefix x [35]
          · rw [hp] at h35
            have HSTQ : Hid (RES = if (topoLine x).2.1 ≠ 0 then ([], (topoLine x).2.1, (k : Int) + 1, colT x (topoLine x).2.2.toNat) else if hasPt P (topoLine x).1 = true then ([], 52, (k : Int) + 1, 1) else if 12 ≤ P.length then ([], 53, (k : Int) + 1, 1) else topoStep (L.drop (k + 1)) (k + 1) (P ++ [(topoLine x).1])) := by
              show _ = _
              rw [HSTP.out, if_neg (by rw [hp]; simp [hx0])]
            clear HSTP hp hx0
            generalize colT x = ct at *
            obtain ⟨⟨pt, er, wd⟩, ho⟩ : ∃ o, topoLine x = o := ⟨_, rfl⟩
            rw [ho] at HRL hbd HSTQ
            dsimp only at HRL hbd HSTQ
            clear ho
            generalize ct wd.toNat = cw at *
            have HT0 := Lib.hid (fun n h => any_take_pt P pt n h)
            have HA0 := Lib.hid (fun n h => any_at_pt P pt n h)
            obtain ⟨pw, ph, pp, ps, pa⟩ := pt
            unfold ptV at HRL
            dsimp only at HRL
            have hpa : pa.length ≤ maxLen := by have : pa.length ≤ 2048 := hbd; unfold maxLen; omega
            go_upto_region 9 with (go_at_call 15; (with_reducible refine (HRL.out _).mono ?_); intro e w2 he; obtain ⟨rfl, hb2⟩ := he; have HB2 := Lib.hid hb2; clear hb2)
            have hsz2 := HB2.out.size
            have HBW3 : Hid (Below w.heap.size w (w2.alloc (Obj.cells (patV pw ph pp ps pa) 41))) := (HBE.out.trans (HB2.out.mono (by omega))).alloc (by omega) _
            have HK3 : Hid (Keeps (Also (w.heap.size + 1) w1.heap.size) w1 (w2.alloc (Obj.cells (patV pw ph pp ps pa) 41))) := (HB.out.bel HB2.out).alloc _
            have HO3 : Hid (Own patCod (Also (w.heap.size + 1) w1.heap.size) (w2.alloc (Obj.cells (patV pw ph pp ps pa) 41)) (.slice a P.length cap) P) := (HO.out.below HB2.out).alloc _
            have HV7 : Hid (Var (w2.alloc (Obj.cells (patV pw ph pp ps pa) 41)) w2.heap.size (patR pw ph pp ps pa)) := Var.new _ _ _ rfl rfl
            have hsz3 : w2.heap.size + 1 = (w2.alloc (Obj.cells (patV pw ph pp ps pa) 41)).heap.size := by simp
            have HV33 : Hid (hasVar (w2.alloc (Obj.cells (patV pw ph pp ps pa) 41)) w.heap.size 3 = true) := by
              have h1 : hasVar w2 w.heap.size 3 = true := (hasVar_congr (HB2.out.block _ (by omega))).trans HVR.out
              have h2 : isOld w.heap.size w2 = true := isOld_iff.2 (by omega)
              show _ = _; simp [go_sem, h1, h2]
            have HI3 : Hid (ListIn patCod (w2.alloc (Obj.cells (patV pw ph pp ps pa) 41)) a P (w.heap.size + 1)) := by
              rcases HINP.out with h | ⟨g, o, h1, h2, h3, h4⟩
              · exact .inl h
              · exact .inr ⟨g, o, h1, h2, by simp; omega, (h4.below HB2.out).below ((Below.refl _ _).alloc (Nat.le_refl _) _)⟩
            generalize (w2.alloc (Obj.cells (patV pw ph pp ps pa) 41)) = w3 at *
            clear hcell h35
            by_cases he : er = 0
            · subst he
              go_upto_region 11 with fail
              go_wp2
              go_loopw [47] (fun j wr => ∃ n : Nat, n ≤ P.length ∧ j = .int .i64 n ∧ Below w3.heap.size w3 wr ∧ Hid ((P.take n).any (ptB (pw, ph, pp, ps, pa)) = false)) (fun j _ => P.length - (intOf j).toNat)
              case atStart => exact ⟨0, Nat.zero_le _, rfl, Below.refl _ _, rfl⟩
              case round =>
                obtain ⟨n, hn, rfl, hb', hno⟩ := hrel
                have hsz4 := hb'.size
                have hr7 : hasRow wr ⟨w2.heap.size, 0, none⟩ 22 = true := (HV7.out.below hb').hasRow (patR_length _ _ _ _ _)
                have hq7 : rowAt wr ⟨w2.heap.size, 0, none⟩ 22 = patV pw ph pp ps pa := (HV7.out.below hb').rowAt (patR_length _ _ _ _ _)
                have hv3 : hasVar wr w.heap.size 3 = true := (hasVar_congr (hb'.block _ (by omega))).trans HV33.out
                have hi3 : isOld w.heap.size wr = true := isOld_iff.2 (by omega)
                have hi7 : isOld w2.heap.size wr = true := isOld_iff.2 (by omega)
                have HB4 := Lib.hid hb'
                have HBW4 : Hid (Below w.heap.size w wr) := HBW3.out.trans (hb'.mono (by omega))
                clear hb'
                by_cases hnl : n < P.length
                · obtain ⟨g, o, rfl, hlo, hhi, hat⟩ := HI3.out.resolve_left (fun h => by subst h; exact absurd hnl (Nat.not_lt_zero _))
                  obtain ⟨hrow, hqow⟩ := patRow (hat.below HB4.out) n hnl
                  have HT := Lib.hid (HT0.out n hnl)
                  have HAT := Lib.hid (HA0.out n hnl)
                  have hpw := HPW.out _ (List.getElem_mem hnl)
                  have hig : isOld g wr = true := isOld_iff.2 (by omega)
                  have hni : (n : Int) < (P.length : Int) := by omega
                  clear hat
                  obtain ⟨⟨qw, qh, qp, qs, qa⟩, hq⟩ : ∃ r, P[n]'hnl = r := ⟨_, rfl⟩
                  rw [hq] at hqow HT HAT hpw
                  clear hq
                  unfold ptV at hqow
                  dsimp only at hqow
                  have hqa : qa.length ≤ maxLen := by have : qa.length ≤ 2048 := hpw; unfold maxLen; omega
                  clear hpw
                  cases hq : patEq pw ph pp ps pa qw qh qp qs qa
                  · have HF : Hid ((P.take (n + 1)).any (ptB (pw, ph, pp, ps, pa)) = false) := by
                      show _ = _
                      rw [HT.out, hno.out, Bool.false_or]
                      exact hq
                    go_wp2
                    go_roundw
                    case rel => exact ⟨n + 1, by omega, by go_num, (by repeat (first | exact Below.refl _ _ | assumption | refine below_grown ?_ (by first | omega | (simp [go_sem]; done) | (simp [go_sem] <;> omega)) _ | refine Below.alloc ?_ (by first | omega | (simp [go_sem]; done) | (simp [go_sem] <;> omega)) _ | refine below_bytesW ?_ (by first | omega | (simp [go_sem]; done) | (simp [go_sem] <;> omega)) _ | refine Below.drew ?_ | refine below_drewN ?_ _)), HF.out⟩
                    case measure => simp [intOf]; omega
                  · have HEND : Hid (RES = ([], 52, (k : Int) + 1, 1)) := by
                      show _ = _
                      rw [HSTQ.out, if_neg (by simp), if_pos (HAT.out hq)]
                    clear HSTQ
                    go_wp2
                    exact ret_tmp_cell w.heap.size (faultV 52 ((k : Int) + 1) 1) (.slice none 0 0) rfl rfl rfl agg_fault (by simp [go_sem, hv3, hi3]) (by simp [go_sem, hv3, hi3]) rfl (by rw [HEND.out]; exact ⟨none, 0, rfl, Nat.le_refl _, below_setRow (HBW4.out.alloc (by omega) _) (Nat.le_refl _) _, .inl rfl⟩)
                · obtain rfl : n = P.length := by omega
                  have hno2 := hno.out
                  rw [List.take_length] at hno2
                  have hno3 : hasPt P (pw, ph, pp, ps, pa) = false := hno2
                  by_cases h12 : (12 : Int) ≤ P.length
                  · have HEND : Hid (RES = ([], 53, (k : Int) + 1, 1)) := by
                      show _ = _
                      rw [HSTQ.out, if_neg (by simp), if_neg (by rw [hno3]; decide), if_pos (by omega)]
                    clear HSTQ hno2 hno hno3
                    go_wp2
                    exact ret_tmp_cell w.heap.size (faultV 53 ((k : Int) + 1) 1) (.slice none 0 0) rfl rfl rfl agg_fault (by simp [go_sem, hv3, hi3]) (by simp [go_sem, hv3, hi3]) rfl (by rw [HEND.out]; exact ⟨none, 0, rfl, Nat.le_refl _, below_setRow HBW4.out (Nat.le_refl _) _, .inl rfl⟩)
                  · have HS2 : Hid (topoStep (L.drop (k + 1)) (k + 1) (P ++ [(pw, ph, pp, ps, pa)]) = RES) := by
                      show _ = _
                      rw [HSTQ.out, if_neg (by simp), if_neg (by rw [hno3]; decide), if_neg (by omega)]
                    have HK4 : Hid (Keeps (Also (w.heap.size + 1) w1.heap.size) w1 wr) := HK3.out.bel HB4.out
                    have HO4 : Hid (Own patCod (Also (w.heap.size + 1) w1.heap.size) wr (.slice a P.length cap) P) := HO3.out.below HB4.out
                    have HPW2 : Hid (∀ r ∈ P ++ [(pw, ph, pp, ps, pa)], okP r) := fun r h => by
                      rcases List.mem_append.1 h with h | h
                      · exact HPW.out r h
                      · rw [List.mem_singleton] at h; subst h; exact hbd
                    clear HSTQ hno2 hno hno3
                    go_wp2_with (at_builtin; refine wpList_append_list rfl patCod (.tmp 64) (.tmp 66) 27 rfl rfl (Also (w.heap.size + 1) w1.heap.size) _ _ (P) rfl (HO4.out.alloc _) _ 0 _ _ [(pw, ph, pp, ps, pa)] rfl rfl (patAt_new _ _ _ _ _ _ _ (by simp [go_sem])) (by first | omega | (simp; done) | (simp; omega) | (simp [go_sem]; done) | (simp [go_sem]; omega) | (simp [patCod]; omega)) (by first | omega | (simp; done) | (simp; omega) | (simp [go_sem]; done) | (simp [go_sem]; omega) | (simp [patCod]; omega)) (by first | (show _ ≤ _; first | omega | (simp; omega) | (simp [go_sem]; omega)) | (show _ ∨ _; right; first | omega | (simp; omega) | (simp [go_sem]; omega))) ?_; intro v' w1 ho1 hb1; have HO1 := Lib.hid ho1; have HB1 := Lib.hid hb1; clear ho1 hb1)
                    go_roundw
                    case rel => exact ⟨k + 1, P ++ [(pw, ph, pp, ps, pa)], by omega, by simp; omega, by go_num, (HK4.out.alloc _).trans HB1.out, HO1.out, HS2.out, HPW2.out⟩
                    case measure => simp [intOf]; omega
            · have hv3 := HV33.out
              have hi3 : isOld w.heap.size w3 = true := isOld_iff.2 (by omega)
              have HEND : Hid (RES = ([], er, (k : Int) + 1, cw)) := by
                show _ = _
                rw [HSTQ.out, if_pos he]
              have he1 : (er != 0) = true := by rw [bne_iff_ne]; exact he
              clear HSTQ he
              go_wp2
              exact ret_tmp_cell w.heap.size (faultV er ((k : Int) + 1) cw) (.slice none 0 0) rfl rfl rfl agg_fault (by simp [go_sem, hv3, hi3]) (by simp [go_sem, hv3, hi3]) rfl (by rw [HEND.out]; exact ⟨none, 0, rfl, Nat.le_refl _, below_setRow HBW3.out (Nat.le_refl _) _, .inl rfl⟩)
          · rw [hp] at h35
            have HS2 : Hid (topoStep (L.drop (k + 1)) (k + 1) P = RES) := by
              have := HSTP.out
              rw [if_pos (.inr hp)] at this
              exact this.symm
            clear HSTP hbd hp hx0 HRL
            go_wp2
            go_roundw
            case rel => exact ⟨k + 1, P, by omega, hPk, by go_num, HB.out, HO.out, HS2.out, HPW.out⟩
            case measure => simp [intOf]; omega
      · obtain rfl : k = L.length := by omega
        have hfin := hinv.out
        rw [topoStep_end] at hfin
        subst hfin
        have hv3 := HVR.out
        have hi3 : isOld w.heap.size wr = true := isOld_iff.2 (by omega)
        go_wp2
        exact ret_tmp_cell w.heap.size (faultV 0 0 0) (.slice a P.length cap) rfl rfl rfl agg_fault (by simp [go_sem, hv3, hi3]) (by simp [go_sem, hv3, hi3]) rfl ⟨a, cap, rfl, hcap, below_setRow HBE.out (Nat.le_refl _) _, (HINP.out.setRowT (by omega) _).mono (by omega)⟩
end Go.Proofs.YthklfbakffaioaaDoor
