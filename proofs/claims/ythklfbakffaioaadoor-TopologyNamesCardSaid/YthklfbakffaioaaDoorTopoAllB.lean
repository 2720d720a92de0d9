/- Merged: TopoFileW, HostBack, TopoBd, TopoAlive, TopoBackP, TopoTells. -/
import Derived.Test.YthklfbakffaioaaDoorTopoAllA
import Derived.Test.YthklfbakffaioaaDoorTopoAllA
import Derived.Test.YthklfbakffaioaaDoorHostQ
import Derived.Test.YthklfbakffaioaaDoorJoin
import Derived.Test.YthklfbakffaioaaDoorHostRefn
namespace Go.Proofs.YthklfbakffaioaaDoor
section
open Go Go.RowKit
set_option maxRecDepth 20000
set_option linter.unusedSimpArgs false
set_option linter.unusedVariables false

theorem ListIn.setRowT {α : Type} {c : Cod α} {w : World} {a : Option Addr} {xs : List α} {lo : Nat} (h : ListIn c w a xs lo) {g : Nat} (hg : g < lo) (cs : Array Value) : ListIn c (w.setRow g cs) a xs lo := by
  rcases h with h | ⟨b, o, h1, h2, h3, h4⟩
  · exact .inl h
  · refine .inr ⟨b, o, h1, h2, by rw [setRow_size']; exact h3, fun j u hj => ?_⟩
    rw [cell_setRow_other _ _ _ _ _ (by omega)]
    exact h4 j u hj
theorem patAt_new (w : World) (wi : Bool) (h : GHost) (pl se : Bool) (pa : List UInt8) (t : TypeId) {b : Nat} (hb : b = w.heap.size) : ListAt patCod (w.alloc (.cells (patV wi h pl se pa) t)) b 0 [(wi, h, pl, se, pa)] :=
  listAt_new w _ _ _ (by show _ = patR wi h pl se pa ++ []; rw [List.append_nil]; rfl) hb
theorem linesL_pieceT (s x : List UInt8) (h : x ∈ linesL s) : x.length ≤ s.length := by
  unfold linesL at h
  obtain ⟨y, hy, rfl⟩ := List.mem_map.1 h
  have h1 : (cutCR y).length ≤ y.length := by
    unfold cutCR Lib.trimSuffix
    split
    · simp
    · exact Nat.le_refl _
  have h2 : y ∈ splitL 10 s := by
    unfold dropEmpty at hy
    split at hy
    · exact List.dropLast_subset _ hy
    · exact hy
  have := splitL_piece_le 10 s y h2
  omega
theorem linesL_leT (l : List UInt8) : (linesL l).length ≤ l.length + 1 := by
  have h1 := splitL_length_le 10 l
  unfold linesL
  rw [List.length_map]
  unfold dropEmpty
  split
  · rw [List.length_dropLast]; omega
  · omega
set_option maxRecDepth 100000 in
set_option maxHeartbeats 8000000 in
theorem topoFile_any (s : List UInt8) (hs : s.length ≤ 100000) (m : Int) (w : World) (hm : HasMax m w) :
    Calls Tryd.prog 5 #[.string ⟨s.toArray⟩] w (GivesF patCod (topoFile s).1 (topoFile s).2 w) := by
  by_cases hlong : (20000 : Int) < s.length
  · have e : topoFile s = ([], 54, 1, 1) := by unfold topoFile; rw [if_pos (by omega)]
    rw [e]
    go_enter Tryd.func5, Tryd.ntmps5
    go_wp2
    exact ret_tmp_cell w.heap.size (faultV 54 1 1) (.slice none 0 0) rfl rfl rfl agg_fault (by simp [go_sem]) (by simp [go_sem]) rfl ⟨none, 0, rfl, Nat.le_refl _, (by repeat (first | exact Below.refl _ _ | assumption | refine below_grown ?_ (by first | omega | (simp [go_sem]; done) | (simp [go_sem] <;> omega)) _ | refine Below.alloc ?_ (by first | omega | (simp [go_sem]; done) | (simp [go_sem] <;> omega)) _ | refine below_bytesW ?_ (by first | omega | (simp [go_sem]; done) | (simp [go_sem] <;> omega)) _ | refine Below.drew ?_ | refine below_drewN ?_ _)), .inl rfl⟩
  · have e : topoFile s = topoStep (linesL s) 0 [] := by unfold topoFile; rw [if_neg (by omega)]
    rw [e]
    have HL : Hid (∀ w, HasMax m w → Calls Tryd.prog 9 #[.string ⟨s.toArray⟩] w (Gives strCod (linesL s) w)) := fun w h => lines_any s (by omega) m w h
    have HPL := Lib.hid (linesL_pieceT s)
    have hLl := linesL_leT s
    generalize linesL s = L at *
    clear e
    obtain ⟨RES, hres⟩ : ∃ RES, topoStep L 0 [] = RES := ⟨_, rfl⟩
    rw [hres]
    have HRES := Lib.hid hres
    clear hres
    go_enter Tryd.func5, Tryd.ntmps5
    go_wp2_with (go_at_call 9; (with_reducible refine (HL.out _ ?_).mono ?_); (exact (by repeat (first | exact hm | apply HasMax.grown | apply HasMax.alloc | apply HasMax.drew))); intro e w1 hg; obtain ⟨a1, c1, rfl, hc1, hb1, hin1⟩ := hg; have HBC := Lib.hid hb1; have HIN := Lib.hid hin1; clear hb1 hin1)
    have hs0 := HBC.out.size
    simp at hs0
    have HV3 : Hid (hasVar w1 w.heap.size 3 = true) := (hasVar_congr (HBC.out.block _ (by simp))).trans (by simp [go_sem])
    go_loopw [4, 17] (fun out i wr => ∃ (k : Nat) (P : List GPt), k ≤ L.length ∧ P.length ≤ 12 ∧ i = .int .i64 k ∧ Keeps (From w1.heap.size) w1 wr ∧ Own patCod (From w1.heap.size) wr out P ∧ Hid (topoStep (L.drop k) k P = RES) ∧ Hid (∀ r ∈ P, okP r)) (fun _ i _ => L.length - (intOf i).toNat)
    case atStart => exact ⟨0, [], Nat.zero_le _, Nat.zero_le _, rfl, Keeps.refl _ _, Own.nil _ _, by rw [List.drop_zero]; exact HRES.out, fun r h => by cases h⟩
    case round =>
      obtain ⟨k, P, hk, hPk, rfl, hb, ho, hinv, HPW⟩ := hrel
      have hsz := hb.size
      have HB := Lib.hid hb
      have HO := Lib.hid ho
      have HBE : Hid (Below w.heap.size w wr) := (((Below.refl _ _).alloc (Nat.le_refl _) _).trans ((HBC.out.mono (by first | omega | (simp; done) | (simp; omega) | (simp [go_sem]; done) | (simp [go_sem]; omega) | (simp [strCod]; omega))).trans ((hb.below_from (Nat.le_refl _)).mono (by omega))))
      have HVR : Hid (hasVar wr w.heap.size 3 = true) := (hasVar_congr (hb.block _ (by omega) (fun h => by have := from_le h; omega))).trans HV3.out
      clear hb ho
      obtain ⟨a, cap, rfl, hcap, hin⟩ := HO.out.slice (B := w1.heap.size) (fun _ h => from_le h)
      have HINP := Lib.hid hin
      clear hin
      by_cases hlt : k < L.length
      · obtain ⟨b1, o1, rfl, hlo1, hhi1, hat1⟩ := HIN.out.resolve_left (fun h => by subst h; exact absurd hlt (Nat.not_lt_zero _))
        have hcell := strAt (hat1.keeps HB.out hhi1 (fun h => by have := from_le h; omega)) k hlt
        have hx := HPL.out _ (List.getElem_mem hlt)
        have HST := Lib.hid (topoStep_at L k hlt P)
        have HHP : Hid (∀ w, Calls Tryd.prog 10 #[.string ⟨(L[k]'hlt).toArray⟩, .string ⟨[35].toArray⟩] w fun e w' => e = .returned (.bool (Lib.hasPrefix (L[k]'hlt) [35])) ∧ w = w') := fun w => (Tryd.strings_HasPrefix ⟨(L[k]'hlt).toArray⟩ ⟨[35].toArray⟩ w).mono fun e w' ⟨h1, h2⟩ => ⟨by simpa using h1, h2.symm⟩
        have HRL : Hid (∀ w, HasMax m w → Calls Tryd.prog 11 #[.string ⟨(L[k]'hlt).toArray⟩] w fun e w' => e = .returned (.tuple #[.agg (ptV (topoLine (L[k]'hlt)).1), .int .i64 (topoLine (L[k]'hlt)).2.1, .int .i64 (topoLine (L[k]'hlt)).2.2]) ∧ Below w.heap.size w w') := fun w a => topoLine_any (L[k]'hlt) (by omega) m w a
        have HCA := Lib.hid (fun j h1 h2 w h => topoCol_any (L[k]'hlt) j h1 h2 (by omega) m w h)
        have hbd := topoLine_bd (L[k]'hlt)
        have hst := HST.out
        rw [hinv.out] at hst
        have hc0 := Lib.hid (colT_zero (L[k]'hlt))
        clear HST hinv
        generalize L[k]'hlt = x at *
        have HSTP := Lib.hid hst
        clear hst
        have hwk : IntKind.i64.wrap ((k : Int) + 1) = (k : Int) + 1 := IntWalk.i64_in _ (by omega)
        have hmr := hm.below HBE.out
        by_cases hx0 : x = []
        · subst hx0
          have HS2 : Hid (topoStep (L.drop (k + 1)) (k + 1) P = RES) := by
            have := HSTP.out
            rw [if_pos (.inl rfl)] at this
            exact this.symm
          clear HSTP hbd
          go_wp2
          go_roundw
          case rel => exact ⟨k + 1, P, by omega, hPk, by go_num, HB.out, HO.out, HS2.out, HPW.out⟩
          case measure => simp [intOf]; omega
        · have hem : x.isEmpty = false := by rw [List.isEmpty_eq_false_iff]; exact hx0
          have hem2 : (x == []) = false := by rw [beq_eq_false_iff_ne]; exact hx0
          cases hp : Lib.hasPrefix x [35]
          · rw [hp] at HHP
            have HSTQ : Hid (RES = if (topoLine x).2.1 ≠ 0 then ([], (topoLine x).2.1, (k : Int) + 1, colT x (topoLine x).2.2.toNat) else if hasPt P (topoLine x).1 = true then ([], 52, (k : Int) + 1, 1) else if 12 ≤ P.length then ([], 53, (k : Int) + 1, 1) else topoStep (L.drop (k + 1)) (k + 1) (P ++ [(topoLine x).1])) := by
              show _ = _
              rw [HSTP.out, if_neg (by rw [hp]; simp [hx0])]
            clear HSTP hp hx0
            obtain ⟨⟨pt, er, wd⟩, ho⟩ : ∃ o, topoLine x = o := ⟨_, rfl⟩
            rw [ho] at HRL hbd HSTQ
            dsimp only at HRL hbd HSTQ
            clear ho
            have HCN := Lib.hid (fun w h => containsPt_any P pt a cap w1.heap.size (by omega) HPW.out hbd.1 w h)
            obtain ⟨pw, ph, pp, ps, pa⟩ := pt
            unfold ptV at HRL HCN
            dsimp only at HRL HCN
            go_upto_region 9 with (first
              | (go_at_call 10; (with_reducible refine (HHP.out _).mono ?_); intro e w' h; obtain ⟨rfl, h2⟩ := h; subst w')
              | (go_at_call 11; (with_reducible refine (HRL.out _ hmr).mono ?_); intro e w2 he; obtain ⟨rfl, hb2⟩ := he; have HB2 := Lib.hid hb2; clear hb2))
            have hsz2 := HB2.out.size
            have HBW3 : Hid (Below w.heap.size w (w2.alloc (Obj.cells (patV pw ph pp ps pa) 41))) := (HBE.out.trans (HB2.out.mono (by omega))).alloc (by omega) _
            have HK3 : Hid (Keeps (From w1.heap.size) w1 (w2.alloc (Obj.cells (patV pw ph pp ps pa) 41))) := (HB.out.bel HB2.out).alloc _
            have HO3 : Hid (Own patCod (From w1.heap.size) (w2.alloc (Obj.cells (patV pw ph pp ps pa) 41)) (.slice a P.length cap) P) := (HO.out.below HB2.out).alloc _
            have HV7 : Hid (Var (w2.alloc (Obj.cells (patV pw ph pp ps pa) 41)) w2.heap.size (patR pw ph pp ps pa)) := Var.new _ _ _ rfl rfl
            have hsz3 : w2.heap.size + 1 = (w2.alloc (Obj.cells (patV pw ph pp ps pa) 41)).heap.size := by simp
            have HV33 : Hid (hasVar (w2.alloc (Obj.cells (patV pw ph pp ps pa) 41)) w.heap.size 3 = true) := by
              have h1 : hasVar w2 w.heap.size 3 = true := (hasVar_congr (HB2.out.block _ (by omega))).trans HVR.out
              have h2 : isOld w.heap.size w2 = true := isOld_iff.2 (by omega)
              show _ = _; simp [go_sem, h1, h2]
            have HI3 : Hid (ListIn patCod (w2.alloc (Obj.cells (patV pw ph pp ps pa) 41)) a P w1.heap.size) := (HINP.out.below HB2.out).below ((Below.refl _ _).alloc (Nat.le_refl _) _)
            generalize (w2.alloc (Obj.cells (patV pw ph pp ps pa) 41)) = w3 at *
            have hi3 : isOld w.heap.size w3 = true := isOld_iff.2 (by omega)
            have hv3 := HV33.out
            have hm3 := hm.below HBW3.out
            have hr7 : hasRow w3 ⟨w2.heap.size, 0, none⟩ 22 = true := HV7.out.hasRow (patR_length _ _ _ _ _)
            have hq7 : rowAt w3 ⟨w2.heap.size, 0, none⟩ 22 = patV pw ph pp ps pa := HV7.out.rowAt (patR_length _ _ _ _ _)
            have hi7 : isOld w2.heap.size w3 = true := isOld_iff.2 (by omega)
            have hs3 : w.heap.size ≤ w3.heap.size := by omega
            have hok := hbd.1
            rcases hbd.2 with ⟨rfl, rfl⟩ | ⟨hne, _, _, wk, hwk3, hwl, rfl⟩
            · have HCOL : Hid (∀ w, HasMax m w → Calls Tryd.prog 13 #[.string ⟨x.toArray⟩, .int .i64 0] w fun e w' => e = .returned (.int .i64 1) ∧ Below w.heap.size w w') := fun w h => by
                have := HCA.out 0 (by omega) (Nat.zero_le _) w h
                rwa [hc0.out] at this
              clear hbd HCA
              cases hcon : hasPt P (pw, ph, pp, ps, pa)
              · rw [hcon] at HCN
                have HQ2 : Hid (RES = if 12 ≤ P.length then ([], 53, (k : Int) + 1, 1) else topoStep (L.drop (k + 1)) (k + 1) (P ++ [(pw, ph, pp, ps, pa)])) := by
                  show _ = _
                  rw [HSTQ.out, if_neg (by simp), if_neg (by rw [hcon]; decide)]
                clear HSTQ hcon
                by_cases h12 : P.length = 12
                · have h2 : ((P.length : Int) == 12) = true := by rw [beq_iff_eq]; omega
                  have HEND : Hid (RES = ([], 53, (k : Int) + 1, 1)) := by
                    show _ = _
                    rw [HQ2.out, if_pos (by omega)]
                  clear HQ2 h12
                  go_wp2_with (first | (go_at_call 12; (with_reducible refine (HCN.out _ ?_).mono ?_); (exact HI3.out); rintro e w1 ⟨rfl, hb1⟩; obtain ⟨p1, rfl⟩ := grown_of hb1; clear hb1) | (go_at_call 13; (with_reducible refine (HCOL.out _ ?_).mono ?_); (repeat (first | exact hm3 | apply HasMax.grown | apply HasMax.alloc)); rintro e w1 ⟨rfl, hb1⟩; obtain ⟨p1, rfl⟩ := grown_of hb1; clear hb1))
                  exact ret_tmp_cell w.heap.size (faultV 53 ((k : Int) + 1) 1) (.slice none 0 0) rfl rfl rfl agg_fault (by simp [go_sem, hv3, hi3]) (by simp [go_sem, hv3, hi3]) rfl (by rw [HEND.out]; exact ⟨none, 0, rfl, Nat.le_refl _, below_setRow (below_grown (below_grown HBW3.out hs3 _) (by simp [go_sem]; omega) _) (Nat.le_refl _) _, .inl rfl⟩)
                · have h2 : ((P.length : Int) == 12) = false := by rw [beq_eq_false_iff_ne]; omega
                  have HS2 : Hid (topoStep (L.drop (k + 1)) (k + 1) (P ++ [(pw, ph, pp, ps, pa)]) = RES) := by
                    show _ = _
                    rw [HQ2.out, if_neg (by omega)]
                  have HPW2 : Hid (∀ r ∈ P ++ [(pw, ph, pp, ps, pa)], okP r) := fun r h => by
                    rcases List.mem_append.1 h with h | h
                    · exact HPW.out r h
                    · rw [List.mem_singleton] at h; subst h; exact hok
                  have hP12 : P.length + 1 ≤ 12 := by omega
                  clear HQ2 h12
                  go_wp2_with (first | (go_at_call 12; (with_reducible refine (HCN.out _ ?_).mono ?_); (exact HI3.out); rintro e w1 ⟨rfl, hb1⟩; obtain ⟨p1, rfl⟩ := grown_of hb1; clear hb1) | (at_builtin; refine wpList_append_list rfl patCod (.tmp 54) (.tmp 56) 27 rfl rfl (From w1.heap.size) _ _ (P) rfl ((HO3.out.grown _).alloc _) _ 0 _ _ [(pw, ph, pp, ps, pa)] rfl rfl (patAt_new _ _ _ _ _ _ _ (by simp [go_sem])) (by first | omega | (simp; done) | (simp; omega) | (simp [go_sem]; done) | (simp [go_sem]; omega) | (simp [patCod]; omega)) (by first | omega | (simp; done) | (simp; omega) | (simp [go_sem]; done) | (simp [go_sem]; omega) | (simp [patCod]; omega)) (by first | (show _ ≤ _; first | omega | (simp; omega) | (simp [go_sem]; omega)) | (show _ ∨ _; right; first | omega | (simp; omega) | (simp [go_sem]; omega))) ?_; intro v' w1 ho1 hb1; have HO1 := Lib.hid ho1; have HB1 := Lib.hid hb1; clear ho1 hb1))
                  go_roundw
                  case rel => exact ⟨k + 1, P ++ [(pw, ph, pp, ps, pa)], by omega, by simp; omega, by go_num, ((HK3.out.grown _).alloc _).trans HB1.out, HO1.out, HS2.out, HPW2.out⟩
                  case measure => simp [intOf]; omega
              · rw [hcon] at HCN
                have HEND : Hid (RES = ([], 52, (k : Int) + 1, 1)) := by
                  show _ = _
                  rw [HSTQ.out, if_neg (by simp), if_pos hcon]
                clear HSTQ hcon
                go_wp2_with (first | (go_at_call 12; (with_reducible refine (HCN.out _ ?_).mono ?_); (exact HI3.out); rintro e w1 ⟨rfl, hb1⟩; obtain ⟨p1, rfl⟩ := grown_of hb1; clear hb1) | (go_at_call 13; (with_reducible refine (HCOL.out _ ?_).mono ?_); (repeat (first | exact hm3 | apply HasMax.grown | apply HasMax.alloc)); rintro e w1 ⟨rfl, hb1⟩; obtain ⟨p1, rfl⟩ := grown_of hb1; clear hb1))
                exact ret_tmp_cell w.heap.size (faultV 52 ((k : Int) + 1) 1) (.slice none 0 0) rfl rfl rfl agg_fault (by simp [go_sem, hv3, hi3]) (by simp [go_sem, hv3, hi3]) rfl (by rw [HEND.out]; exact ⟨none, 0, rfl, Nat.le_refl _, below_setRow (below_grown (below_grown HBW3.out hs3 _) (by simp [go_sem]; omega) _) (Nat.le_refl _) _, .inl rfl⟩)
            · have HCOL := Lib.hid (fun w h => HCA.out wk hwk3 hwl w h)
              have HEND : Hid (RES = ([], er, (k : Int) + 1, colT x wk)) := by
                show _ = _
                rw [HSTQ.out, if_pos hne]
                simp
              have he1 : (er != 0) = true := by rw [bne_iff_ne]; exact hne
              clear HSTQ hbd HCA hne
              generalize colT x wk = cw at *
              go_wp2_with (go_at_call 13; (with_reducible refine (HCOL.out _ ?_).mono ?_); (repeat (first | exact hm3 | apply HasMax.grown | apply HasMax.alloc)); rintro e w1 ⟨rfl, hb1⟩; obtain ⟨p1, rfl⟩ := grown_of hb1; clear hb1)
              exact ret_tmp_cell w.heap.size (faultV er ((k : Int) + 1) cw) (.slice none 0 0) rfl rfl rfl agg_fault (by simp [go_sem, hv3, hi3]) (by simp [go_sem, hv3, hi3]) rfl (by rw [HEND.out]; exact ⟨none, 0, rfl, Nat.le_refl _, below_setRow (below_grown HBW3.out hs3 _) (Nat.le_refl _) _, .inl rfl⟩)
          · rw [hp] at HHP
            have HS2 : Hid (topoStep (L.drop (k + 1)) (k + 1) P = RES) := by
              have := HSTP.out
              rw [if_pos (.inr hp)] at this
              exact this.symm
            clear HSTP hbd hp hx0
            go_wp2_with (go_at_call 10; (with_reducible refine (HHP.out _).mono ?_); intro e w' h; obtain ⟨rfl, h2⟩ := h; subst w')
            go_roundw
            case rel => exact ⟨k + 1, P, by omega, hPk, by go_num, HB.out, HO.out, HS2.out, HPW.out⟩
            case measure => simp [intOf]; omega
      · obtain rfl : k = L.length := by omega
        have hfin := hinv.out
        rw [topoStep_end] at hfin
        subst hfin
        have hv3 := HVR.out
        have hi3 : isOld w.heap.size wr = true := isOld_iff.2 (by omega)
        go_wp2
        exact ret_tmp_cell w.heap.size (faultV 0 0 0) (.slice a P.length cap) rfl rfl rfl agg_fault (by simp [go_sem, hv3, hi3]) (by simp [go_sem, hv3, hi3]) rfl ⟨a, cap, rfl, hcap, below_setRow HBE.out (Nat.le_refl _) _, (HINP.out.setRowT (by omega) _).mono (by omega)⟩
end

section
open Go Go.RowKit
set_option maxRecDepth 20000
set_option linter.unusedSimpArgs false
set_option linter.unusedVariables false

theorem back6P (a : GAddr) : v6Ok (text6L a.b) = true ∧ v6A (text6L a.b) = a := by
  have h := v6_text (grpL a.b) (grpG a).len
  obtain ⟨h1, h2⟩ := v6_yes h (grpG a).len
  exact ⟨h1, h2.trans (addr_ext (from_grp a.b (by rw [a.len])))⟩
theorem decT_low (c : UInt8) : lowerL (decT c.toNat) = decT c.toNat ∧ digitsB (decT c.toNat) = true ∧ Lib.hasPrefix (decT c.toNat) [91] = false ∧ decT c.toNat ≠ [] := by
  have key : ∀ i : Fin 256, lowerL (decT i.val) = decT i.val ∧ digitsB (decT i.val) = true ∧ Lib.hasPrefix (decT i.val) [91] = false ∧ decT i.val ≠ [] := by decide +kernel
  exact key ⟨c.toNat, c.toNat_lt⟩
theorem text4_back (a : List UInt8) (ha : a.length = 16) : six (text4L a) = false ∧ lastD (text4L a) = true := by
  have hl : lowerL (text4L a) = text4L a := by
    unfold text4L
    rw [lowerL_join, List.map_map]
    congr 1
    exact List.map_congr_left fun c _ => (decT_low c).1
  have h4 : (a.drop 12).length = 4 := by rw [List.length_drop, ha]
  obtain ⟨x, y, z, u, e⟩ : ∃ x y z u, a.drop 12 = [x, y, z, u] := by
    rcases hq : a.drop 12 with _ | ⟨x, _ | ⟨y, _ | ⟨z, _ | ⟨u, _ | ⟨v, M⟩⟩⟩⟩⟩
    all_goals (rw [hq] at h4; simp at h4)
    exact ⟨x, y, z, u, rfl⟩
  refine ⟨?_, ?_⟩
  · have h1 := (decT_low x).2.2
    obtain ⟨d, t, hd⟩ : ∃ d t, decT x.toNat = d :: t := by
      rcases hq : decT x.toNat with _ | ⟨d, t⟩
      · exact absurd hq h1.2
      · exact ⟨d, t, rfl⟩
    have hp := h1.1
    unfold six text4L
    rw [e]
    rw [hd] at hp
    have e2 : joinL 46 (([x, y, z, u] : List UInt8).map fun c => decT c.toNat) = d :: (t ++ 46 :: joinL 46 (([y, z, u] : List UInt8).map fun c => decT c.toNat)) := by
      show decT x.toNat ++ 46 :: _ = _
      rw [hd]; rfl
    rw [e2]
    have hq : ((91 : UInt8) == d && List.isPrefixOf [] t) = false := hp
    show ((91 : UInt8) == d && List.isPrefixOf [] _) = false
    have : ((91 : UInt8) == d) = false := by
      have e3 : List.isPrefixOf ([] : List UInt8) t = true := by cases t <;> rfl
      rwa [e3, Bool.and_true] at hq
    rw [this, Bool.false_and]
  · unfold lastD lastL labsL
    rw [hl, text4_split a ha, e]
    exact (decT_low u).2.1
theorem parse_right {s : List UInt8} (h : parseOk s = true) : rightB (parseH s) = true := by
  cases h6 : six s
  · cases hD : lastD s
    · have hB : nameB s = true := by rwa [parseOk_name h6 hD] at h
      have hp := (parse_name h6 hD hB).1
      unfold nameB at hB
      simp only [Bool.and_eq_true, decide_eq_true_eq] at hB
      have hll : (lowerL s).length ≤ 253 := by simpa [lowerL] using hB.1
      have hk := (name_right hll hB.2 (by unfold lastD lastL labsL at hD; exact hD)).1
      rw [hp]
      unfold nameOk at hk
      simp only [Bool.and_eq_true] at hk
      exact hk.2
    · have hB : v4Ok s = true := by rwa [parseOk_four h6 hD] at h
      have hp := (parse_four h6 hD).1
      rw [hB] at hp
      have hp2 : parseH s = v4H (v4A s) := hp
      have hb : (v4A s).b = v4B s := v4_yes hB
      obtain ⟨t1, t2⟩ := text4_back (v4A s).b (v4A s).len
      obtain ⟨o1, o2⟩ := v4_text (v4A s).b (v4A s).len
      have ht : textH (v4H (v4A s)) = text4L (v4A s).b := rfl
      have hA : v4A (text4L (v4A s).b) = v4A s := addr_ext (by
        rw [v4_yes o1, o2, hb]
        unfold v4B
        rw [List.drop_append, List.drop_of_length_le (by simp), List.length_replicate]; simp)
      rw [hp2]
      unfold rightB
      rw [ht, parseOk_four t1 t2, (parse_four t1 t2).1, o1, hA]
      simp only [Bool.true_and]
      exact (hostEq_iff _ _).2 rfl
  · have hp := (parse_six h6).1
    rw [parseOk_six h6] at h
    rw [h] at hp
    have hp2 : parseH s = v6H (v6A (in6 s)) := hp
    generalize v6A (in6 s) = a at *
    have ht : textH (v6H a) = 91 :: (text6L a.b ++ [93]) := rfl
    have t6 : six (91 :: (text6L a.b ++ [93])) = true := by
      show ((91 : UInt8) == 91 && List.isPrefixOf ([] : List UInt8) (text6L a.b ++ [93])) = true
      have e3 : ∀ t, List.isPrefixOf ([] : List UInt8) t = true := fun t => by cases t <;> rfl
      rw [e3]; rfl
    have i1 : in1 (91 :: (text6L a.b ++ [93])) = text6L a.b ++ [93] := by
      unfold in1 Lib.trimPrefix
      rw [if_pos (show Lib.hasPrefix (91 :: (text6L a.b ++ [93])) [91] = true from t6)]; rfl
    have c1 : closedB (91 :: (text6L a.b ++ [93])) = true := by
      unfold closedB Lib.hasSuffix
      rw [i1, List.isSuffixOf_iff_suffix]
      exact List.suffix_append _ _
    have i6 : in6 (91 :: (text6L a.b ++ [93])) = text6L a.b := by
      unfold in6 Lib.trimSuffix
      unfold closedB at c1
      rw [if_pos c1, i1]; simp
    rw [hp2]
    unfold rightB
    rw [ht, parseOk_six t6, (parse_six t6).1, i6, c1, (back6P a).1, (back6P a).2]
    simp only [Bool.true_and]
    exact (hostEq_iff _ _).2 rfl
end

section
open Go Go.RowKit
set_option maxRecDepth 20000
set_option linter.unusedSimpArgs false
set_option linter.unusedVariables false

theorem colT_bd (x : List UInt8) (k : Nat) (hk : k ≤ 3) (hl : k ≤ (splitL 32 x).length) : 0 ≤ colT x k ∧ colT x k ≤ 3 * x.length + 4 := by
  have h1 := sumW_le (splitL 32 x) k x.length (splitL_piece_le 32 x) hl
  have h2 : k * (x.length + 1) ≤ 3 * (x.length + 1) := Nat.mul_le_mul hk (Nat.le_refl _)
  unfold colT
  omega
theorem topoStep_bd (N : Nat) : ∀ (L : List (List UInt8)) (i : Nat) (out : List GPt), (∀ x ∈ L, x.length ≤ N) → (∀ r ∈ out, okP r) → out.length ≤ 12 →
    (0 ≤ (topoStep L i out).2.1 ∧ (topoStep L i out).2.1 ≤ 211) ∧ (0 ≤ (topoStep L i out).2.2.1 ∧ (topoStep L i out).2.2.1 ≤ i + L.length) ∧ (0 ≤ (topoStep L i out).2.2.2 ∧ (topoStep L i out).2.2.2 ≤ 3 * N + 4) ∧ (∀ r ∈ (topoStep L i out).1, okP r) ∧ (topoStep L i out).1.length ≤ 12
  | [], i, out, _, h2, h3 => ⟨⟨Int.le_refl _, (by decide : (0 : Int) ≤ 211)⟩, ⟨Int.le_refl _, by show (0 : Int) ≤ _; omega⟩, ⟨Int.le_refl _, by show (0 : Int) ≤ _; omega⟩, h2, h3⟩
  | x :: L, i, out, h1, h2, h3 => by
    have hx := h1 x List.mem_cons_self
    have hL : ∀ y ∈ L, y.length ≤ N := fun y hy => h1 y (List.mem_cons_of_mem _ hy)
    have hlen : ((x :: L).length : Int) = L.length + 1 := by simp
    have he := topoLine_bd x
    have fin : ∀ c d : Int, (0 ≤ c ∧ c ≤ 211) → (0 ≤ d ∧ d ≤ 3 * N + 4) → (0 ≤ c ∧ c ≤ 211) ∧ (0 ≤ (i : Int) + 1 ∧ (i : Int) + 1 ≤ i + (x :: L).length) ∧ (0 ≤ d ∧ d ≤ 3 * N + 4) ∧ (∀ r ∈ ([] : List GPt), okP r) ∧ ([] : List GPt).length ≤ 12 := fun c d hc hd => ⟨hc, by omega, hd, (fun r h => by cases h), Nat.zero_le _⟩
    rw [topoStep]
    split
    · have := topoStep_bd N L (i + 1) out hL h2 h3
      exact ⟨this.1, by have := this.2.1; omega, this.2.2⟩
    · split
      · rename_i hne
        obtain ⟨_, h⟩ := he
        rcases h with h | ⟨_, a1, a2, k, a3, a4, a5⟩
        · exact absurd h.1 hne
        · refine fin (topoLine x).2.1 (colT x (topoLine x).2.2.toNat) ⟨a1, a2⟩ ?_
          rw [a5]
          obtain ⟨c1, c2⟩ := colT_bd x k a3 a4
          rw [Int.toNat_natCast]
          exact ⟨c1, by omega⟩
      · split
        · exact fin 52 1 (by omega) (by omega)
        · split
          · exact fin 53 1 (by omega) (by omega)
          · have := topoStep_bd N L (i + 1) (out ++ [(topoLine x).1]) hL (fun r hr => by
              rcases List.mem_append.1 hr with hr | hr
              · exact h2 r hr
              · rw [List.mem_singleton] at hr; subst hr; exact he.1) (by simp; omega)
            exact ⟨this.1, by have := this.2.1; omega, this.2.2⟩
theorem lines_pieceT (s x : List UInt8) (h : x ∈ linesL s) : x.length ≤ s.length := by
  unfold linesL at h
  obtain ⟨y, hy, rfl⟩ := List.mem_map.1 h
  have h1 : (cutCR y).length ≤ y.length := by
    unfold cutCR Lib.trimSuffix
    split
    · simp
    · exact Nat.le_refl _
  have h2 : y ∈ splitL 10 s := by
    unfold dropEmpty at hy
    split at hy
    · exact List.dropLast_subset _ hy
    · exact hy
  have := splitL_piece_le 10 s y h2
  omega
theorem lines_leT (l : List UInt8) : (linesL l).length ≤ l.length + 1 := by
  have h1 := splitL_length_le 10 l
  unfold linesL
  rw [List.length_map]
  unfold dropEmpty
  split
  · rw [List.length_dropLast]; omega
  · omega
theorem topoFile_bd (s : List UInt8) (hs : s.length ≤ 100000) :
    (0 ≤ (topoFile s).2.1 ∧ (topoFile s).2.1 ≤ 211) ∧ (0 ≤ (topoFile s).2.2.1 ∧ (topoFile s).2.2.1 ≤ 400000) ∧ (0 ≤ (topoFile s).2.2.2 ∧ (topoFile s).2.2.2 ≤ 400000) ∧ (∀ r ∈ (topoFile s).1, okP r) ∧ (topoFile s).1.length ≤ 12 := by
  unfold topoFile
  split
  · exact ⟨⟨(by decide : (0 : Int) ≤ 54), (by decide : (54 : Int) ≤ 211)⟩, ⟨(by decide : (0 : Int) ≤ 1), (by decide : (1 : Int) ≤ 400000)⟩, ⟨(by decide : (0 : Int) ≤ 1), (by decide : (1 : Int) ≤ 400000)⟩, (fun r h => by cases h), Nat.zero_le _⟩
  · have h := topoStep_bd s.length (linesL s) 0 [] (fun x hx => lines_pieceT s x hx) (fun r h => by cases h) (Nat.zero_le _)
    have hl := lines_leT s
    exact ⟨h.1, by have := h.2.1; omega, by have := h.2.2.1; omega, h.2.2.2⟩
theorem wf_smallT {n : Int} (h : 0 ≤ n ∧ n ≤ 400001) : (Lit.int .i64 n).wf = true := by
  have e1 : IntKind.i64.min = -9223372036854775808 := rfl
  have e2 : IntKind.i64.max = 9223372036854775807 := rfl
  simp only [Lit.wf, e1, e2, Bool.and_eq_true, decide_eq_true_eq]
  omega
/-! ### a fault: no patterns -/
theorem topoStep_fault : ∀ (L : List (List UInt8)) (i : Nat) (out : List GPt), (topoStep L i out).2 = (0, 0, 0) ∨ ((topoStep L i out).1 = [] ∧ (topoStep L i out).2.1 ≠ 0)
  | [], i, out => .inl rfl
  | x :: L, i, out => by
    rw [topoStep]
    split
    · exact topoStep_fault L _ _
    · split
      · rename_i hne; exact .inr ⟨rfl, hne⟩
      · split
        · exact .inr ⟨rfl, (by decide : (52 : Int) ≠ 0)⟩
        · split
          · exact .inr ⟨rfl, (by decide : (53 : Int) ≠ 0)⟩
          · exact topoStep_fault L _ _
theorem topoFile_fault (s : List UInt8) : (topoFile s).2 = (0, 0, 0) ∨ ((topoFile s).1 = [] ∧ (topoFile s).2.1 ≠ 0) := by
  unfold topoFile
  split
  · exact .inr ⟨rfl, (by decide : (54 : Int) ≠ 0)⟩
  · exact topoStep_fault _ _ _
/-! ### a line more ahead moves all lines -/
def upF (f : GFl) : GFl := if f.1 = 0 then f else (f.1, f.2.1 + 1, f.2.2)
theorem topoStep_up : ∀ (L : List (List UInt8)) (i : Nat) (out : List GPt), topoStep L (i + 1) out = ((topoStep L i out).1, upF (topoStep L i out).2)
  | [], i, out => rfl
  | x :: L, i, out => by
    have e : (((i + 1 : Nat) : Int)) + 1 = ((i : Int) + 1) + 1 := by omega
    rw [topoStep, topoStep]
    split
    · exact topoStep_up L _ _
    · split
      · rename_i hne
        rw [e]; unfold upF; rw [if_neg hne]
      · split
        · rw [e]; rfl
        · split
          · rw [e]; rfl
          · exact topoStep_up L _ _
theorem lines_remark (s : List UInt8) : linesL (35 :: 10 :: s) = [35] :: linesL s := by
  have h : splitL 10 ([35] ++ 10 :: s) = [35] :: splitL 10 s := splitL_append 10 [35] s (by decide)
  have hs : splitL 10 s ≠ [] := splitL_ne 10 s
  have h' : splitL 10 (35 :: 10 :: s) = [35] :: splitL 10 s := h
  unfold linesL
  rw [h']
  have hd : dropEmpty ([35] :: splitL 10 s) = [35] :: dropEmpty (splitL 10 s) := by
    rcases hq : splitL 10 s with _ | ⟨a, M⟩
    · exact absurd hq hs
    · unfold dropEmpty
      rw [List.getLast?_cons_cons]
      split
      · rw [List.dropLast_cons_cons]
      · rfl
  rw [hd, List.map_cons]
  rfl
theorem topoFile_remark (s : List UInt8) (hs : s.length ≤ 4000) : topoFile (35 :: 10 :: s) = ((topoFile s).1, upF (topoFile s).2) := by
  unfold topoFile
  rw [if_neg (by simp; omega), if_neg (by omega), lines_remark, topoStep, if_pos (.inr (by decide))]
  exact topoStep_up _ _ _
/-! ### what is read can be, each once -/
theorem scheme_some {x : List UInt8} (h : ¬ schemeN x < 1) : (plainN x || secureN x) = true := by
  rcases schemeN_cases x with ⟨_, e⟩ | ⟨e, _⟩ | ⟨e, _⟩ | ⟨e, _⟩ | ⟨_, _, _, _, e⟩
  · rw [e] at h; exact absurd (by decide) h
  · rw [e]; rfl
  · rw [e]; rfl
  · rw [e]; rfl
  · rw [e] at h; exact absurd (by decide) h
def rightP (p : GPt) : Bool := patRight p.1 p.2.1 p.2.2.1 p.2.2.2.1 p.2.2.2.2
theorem line_right {s : List UInt8} (h : (topoLine s).2.1 = 0) : rightP (topoLine s).1 = true := by
  rcases topo_ways s with ⟨_, e⟩ | ⟨_, _, e⟩ | ⟨_, x0, x1, x2, x3, hL, _, _, _, h'⟩
  · rw [e] at h; exact absurd h (by decide)
  · rw [e] at h; exact absurd h (by decide)
  · rcases h' with ⟨_, e⟩ | ⟨_, _, e⟩ | ⟨_, _, _, _, e⟩ | ⟨_, ho, hk, ⟨_, e⟩ | ⟨_, _, e⟩ | ⟨hs, hp, e⟩⟩
    · rw [e] at h; exact absurd h (by decide)
    · rw [e] at h; exact absurd h (by decide)
    · rw [e] at h; exact absurd h (by decide)
    · rw [e] at h; exact absurd h (by decide)
    · rw [e] at h; exact absurd h (by decide)
    · rw [e]
      unfold rightP patRight
      dsimp only
      rw [parse_right ho, hp, scheme_some hs]
      cases hx : Lib.hasPrefix x1 [42, 46]
      · rfl
      · rw [hk hx]; rfl
theorem hasPt_mem {P : List GPt} {p : GPt} : hasPt P p = true ↔ p ∈ P := by
  unfold hasPt
  rw [List.any_eq_true]
  constructor
  · rintro ⟨q, hq, e⟩
    rw [ptB_iff.1 e]; exact hq
  · intro h
    exact ⟨p, h, ptB_iff.2 rfl⟩
theorem topoStep_keeps : ∀ (L : List (List UInt8)) (i : Nat) (out : List GPt), out.Nodup → (∀ r ∈ out, rightP r = true) → (topoStep L i out).1.Nodup ∧ (∀ r ∈ (topoStep L i out).1, rightP r = true)
  | [], i, out, h1, h2 => ⟨h1, h2⟩
  | x :: L, i, out, h1, h2 => by
    rw [topoStep]
    split
    · exact topoStep_keeps L _ _ h1 h2
    · split
      · exact ⟨List.nodup_nil, fun r h => by cases h⟩
      · rename_i he
        split
        · exact ⟨List.nodup_nil, fun r h => by cases h⟩
        · rename_i hc
          split
          · exact ⟨List.nodup_nil, fun r h => by cases h⟩
          · refine topoStep_keeps L _ _ ?_ ?_
            · rw [List.nodup_append]
              refine ⟨h1, by simp, fun a ha b hb => ?_⟩
              rw [List.mem_singleton] at hb
              subst hb
              rintro rfl
              exact hc (hasPt_mem.2 ha)
            · intro r hr
              rcases List.mem_append.1 hr with hr | hr
              · exact h2 r hr
              · rw [List.mem_singleton] at hr; subst hr
                exact line_right (by simpa using he)
theorem topoFile_keeps (s : List UInt8) : (topoFile s).1.Nodup ∧ (∀ r ∈ (topoFile s).1, rightP r = true) := by
  unfold topoFile
  split
  · exact ⟨List.nodup_nil, fun r h => by cases h⟩
  · exact topoStep_keeps _ _ _ List.nodup_nil (fun r h => by cases h)
theorem nodup_pt (R : List GPt) (h : R.Nodup) (n k : Nat) (hn : n < k) (hk : k < R.length) : ptB (R[k]'hk) (R[n]'(by omega)) = false := by
  cases hq : ptB (R[k]'hk) (R[n]'(by omega))
  · rfl
  · exact absurd (ptB_iff.1 hq).symm (List.pairwise_iff_getElem.1 h n k (by omega) hk hn)
end

section
open Go Go.RowKit
set_option maxRecDepth 20000
set_option linter.unusedSimpArgs false
set_option linter.unusedVariables false
@[go_sem] theorem neRow_pat (wi wi' : Bool) (h h' : GHost) (pl pl' se se' : Bool) (pa pa' : List UInt8) (h2 : pa.length ≤ maxLen) (h2' : pa'.length ≤ maxLen) (x y : Operand) (w : World) :
    neRow Tryd.prog w 41 x y (.agg (patV wi h pl se pa)) (.agg (patV wi' h' pl' se' pa')) = .ok (.value (.bool (!patEq wi h pl se pa wi' h' pl' se' pa'))) w := (pat_rows wi wi' h h' pl pl' se se' pa pa' h2 h2' x y w).2
set_option maxHeartbeats 2000000 in
theorem refSamePt_any (A : List GPt) (a b : Option Addr) (ca cb la lb : Nat) (hA : A.length ≤ 12) (hok : ∀ r ∈ A, okP r) (w : World) (ha : ListIn patCod w a A la) (hb : ListIn patCod w b A lb) :
    Calls Tryd.prog 8 #[.slice a A.length ca, .slice b A.length cb] w fun e w' => e = .returned (.bool true) ∧ Below w.heap.size w w' := by
  have HA := Lib.hid ha
  have HB := Lib.hid hb
  have HOK := Lib.hid hok
  clear ha hb hok
  go_enter Tryd.func8, Tryd.ntmps8
  go_wp2
  go_loopw [5, 13] (fun _ i wr => ∃ k : Nat, k ≤ A.length ∧ i = .int .i64 k ∧ Below w.heap.size w wr) (fun _ i _ => A.length - (intOf i).toNat)
  case atStart => exact ⟨0, Nat.zero_le _, rfl, Below.refl _ _⟩
  case round =>
    obtain ⟨k, hk, rfl, hbw⟩ := hrel
    have hsz := hbw.size
    by_cases hlt : k < A.length
    · obtain ⟨b1, o1, rfl, _, h1, hat1⟩ := HA.out.resolve_left (fun h => by subst h; exact absurd hlt (Nat.not_lt_zero _))
      obtain ⟨b2, o2, rfl, _, h2, hat2⟩ := HB.out.resolve_left (fun h => by subst h; exact absurd hlt (Nat.not_lt_zero _))
      obtain ⟨r1, q1⟩ := patRow (hat1.below hbw) k hlt
      obtain ⟨r2, q2⟩ := patRow (hat2.below hbw) k hlt
      have hr := HOK.out _ (List.getElem_mem hlt)
      have hi1 : (k : Int) < (A.length : Int) := by omega
      have ho1 : isOld b1 wr = true := isOld_iff.2 (by omega)
      have ho2 : isOld b2 wr = true := isOld_iff.2 (by omega)
      clear hat1 hat2
      obtain ⟨⟨pw, ph, pp, ps, pa⟩, hp⟩ : ∃ r, A[k]'hlt = r := ⟨_, rfl⟩
      rw [hp] at q1 q2 hr
      clear hp
      unfold ptV at q1 q2
      dsimp only at q1 q2
      have hn1 : pa.length ≤ maxLen := by have : pa.length ≤ 2048 := hr; unfold maxLen; omega
      have he : patEq pw ph pp ps pa pw ph pp ps pa = true := ptB_iff.2 (rfl : ((pw, ph, pp, ps, pa) : GPt) = _)
      clear hr
      go_wp2
      refine wp_region_quiet_grown (by kernel_rfl) (by kernel_rfl) ?_
      repeat (quiet_step (fail))
      refine wpQuiet_nil ?_; intro _ hw'; obtain ⟨pq, hw''⟩ := hw'; subst hw''
      go_wp2
      go_roundw
      case rel => exact ⟨k + 1, by omega, by go_num, (by repeat (first | exact Below.refl _ _ | assumption | refine below_grown ?_ (by first | omega | (simp [go_sem]; done) | (simp [go_sem] <;> omega)) _ | refine Below.alloc ?_ (by first | omega | (simp [go_sem]; done) | (simp [go_sem] <;> omega)) _ | refine below_bytesW ?_ (by first | omega | (simp [go_sem]; done) | (simp [go_sem] <;> omega)) _ | refine Below.drew ?_ | refine below_drewN ?_ _))⟩
      case measure => simp [intOf]; omega
    · obtain rfl : k = A.length := by omega
      go_wp2
      go_ret
      exact ⟨rfl, (by repeat (first | exact Below.refl _ _ | assumption | refine below_grown ?_ (by first | omega | (simp [go_sem]; done) | (simp [go_sem] <;> omega)) _ | refine Below.alloc ?_ (by first | omega | (simp [go_sem]; done) | (simp [go_sem] <;> omega)) _ | refine below_bytesW ?_ (by first | omega | (simp [go_sem]; done) | (simp [go_sem] <;> omega)) _ | refine Below.drew ?_ | refine below_drewN ?_ _))⟩
/-! ### the example -/
def exX : List UInt8 := [120, 46, 99, 111, 109]
def exA21 : List UInt8 := [47, 97, 112, 112]
def exPt : GPt := (true, nameH exX, true, true, exA21)
def exT21 : List UInt8 := [104, 111, 115, 116, 32, 42, 46, 120, 46, 99, 111, 109, 32, 98, 111, 116, 104, 32, 47, 97, 112, 112]
theorem ex21 : topoFile exT21 = ([exPt], 0, 0, 0) := by
  have hg := name_good (n := exX) (by decide) (by decide +kernel) (by decide +kernel)
  have hl : linesL exT21 = [exT21] := by decide +kernel
  have hs : splitL 32 exT21 = [verbL, [42, 46, 120, 46, 99, 111, 109], bothW, exA21] := by decide +kernel
  have ht : Lib.trimPrefix ([42, 46, 120, 46, 99, 111, 109] : List UInt8) [42, 46] = exX := by decide +kernel
  have hp : Lib.hasPrefix ([42, 46, 120, 46, 99, 111, 109] : List UInt8) [42, 46] = true := by decide +kernel
  have hk : (nameH exX).kind = 1 := (nameH_name (n := exX) (by decide)).1
  have hx : topoLine exT21 = (exPt, 0, 0) := by
    unfold topoLine
    rw [hs]
    dsimp only
    rw [if_neg (by decide), ht, hp, hg.1, hg.2, if_neg (by rintro (h | ⟨_, h⟩); cases h; exact h hk), if_neg (by decide), if_neg (by decide +kernel)]
    rfl
  unfold topoFile
  rw [if_neg (by decide), hl, topoStep, if_neg (by decide), hx]
  dsimp only
  rw [if_neg (by decide), if_neg (by decide), if_neg (by decide)]
  rfl
set_option maxHeartbeats 4000000 in
theorem topoAlive_any (m : Int) (w : World) (hm : HasMax m w) :
    Calls Tryd.prog 6 #[] w fun e w' => e = .returned (.bool true) ∧ Below w.heap.size w w' := by
  have HF : Hid (∀ w, HasMax m w → Calls Tryd.prog 5 #[.string ⟨exT21.toArray⟩] w (GivesF patCod [exPt] (0, 0, 0) w)) := fun w a => by
    have := topoFile_any exT21 (by decide) m w a
    rwa [ex21] at this
  have hV : nameV exX = hostC (nameH exX) := nameV_eq (by decide)
  have he : ptB exPt exPt = true := ptB_iff.2 rfl
  have g0 : (Lit.int .i64 0).wf = true := rfl
  have hl : ([exPt] : List GPt).length = 1 := rfl
  unfold exPt at *
  generalize nameH exX = H at *
  unfold exX at hV
  unfold exT21 at HF
  unfold exA21 at *
  have he2 : patEq true H true true [47, 97, 112, 112] true H true true [47, 97, 112, 112] = true := he
  have hn : ([47, 97, 112, 112] : List UInt8).length ≤ maxLen := by decide
  have hn4 : 4 ≤ maxLen := by decide
  have hf0 : faultEq 0 0 0 0 0 0 = true := rfl
  clear he
  go_enter Tryd.func6, Tryd.ntmps6
  go_upto_region 2 with (go_at_call 5; (with_reducible refine (HF.out _ ?_).mono ?_); (exact (by repeat (first | exact hm | apply HasMax.grown | apply HasMax.alloc | apply HasMax.drew))); intro e w1 hg; obtain ⟨a1, c1, rfl, hc1, hb1, hl1⟩ := hg; have HB1 := Lib.hid hb1; have HL1 := Lib.hid hl1; clear hb1 hl1)
  have HBW : Hid (Below w.heap.size w (w1.alloc (Obj.cells (faultV 0 0 0) 24))) := HB1.out.alloc (by have := HB1.out.size; omega) _
  have HV : Hid (Var (w1.alloc (Obj.cells (faultV 0 0 0) 24)) w1.heap.size (faultR 0 0 0)) := Var.new _ _ _ rfl rfl
  have HL2 := Lib.hid (HL1.out.alloc (Obj.cells (faultV 0 0 0) 24))
  generalize w1.alloc (Obj.cells (faultV 0 0 0) 24) = w2 at *
  obtain ⟨b1, o1, rfl, _, h1, hat1⟩ := HL2.out.resolve_left (fun h => by cases h)
  obtain ⟨r1, q1⟩ := patRow hat1 0 (by simp)
  rw [Nat.zero_mul, Nat.add_zero] at r1 q1
  unfold ptV at q1
  dsimp only [List.getElem_cons_zero] at q1
  have hr2 : hasRow w2 ⟨w1.heap.size, 0, none⟩ 3 = true := HV.out.hasRow rfl
  have hq2 : rowAt w2 ⟨w1.heap.size, 0, none⟩ 3 = faultV 0 0 0 := HV.out.rowAt rfl
  have hbw := HBW.out
  clear hat1
  go_wp2
  go_ret
  exact ⟨by first | rfl | exact ret_bool (by simp), (by repeat (first | exact Below.refl _ _ | assumption | refine below_grown ?_ (by first | omega | (simp [go_sem]; done) | (simp [go_sem] <;> omega)) _ | refine Below.alloc ?_ (by first | omega | (simp [go_sem]; done) | (simp [go_sem] <;> omega)) _ | refine below_bytesW ?_ (by first | omega | (simp [go_sem]; done) | (simp [go_sem] <;> omega)) _ | refine Below.drew ?_ | refine below_drewN ?_ _))⟩
end

section
open Go Go.RowKit
set_option maxRecDepth 20000
set_option linter.unusedSimpArgs false
set_option linter.unusedVariables false

/-- Bytes of the texts of hosts: no blank, no star, no end of a line. -/
def tc (c : UInt8) : Bool := c != 32 && (c != 42 && (c != 10 && c != 13))
theorem lab_tc (c : UInt8) (h : labC c = true) : tc c = true := by
  have key : ∀ i : Fin 256, labC (UInt8.ofNat i.val) = true → tc (UInt8.ofNat i.val) = true := by decide +kernel
  have := key ⟨c.toNat, c.toNat_lt⟩
  simp only [UInt8.ofNat_toNat] at this
  exact this h
theorem decT_tc (c : UInt8) : (decT c.toNat).all tc = true := by
  have key : ∀ i : Fin 256, (decT i.val).all tc = true := by decide +kernel
  exact key ⟨c.toNat, c.toNat_lt⟩
theorem hexd_tc (i : Nat) (h : i < 16) : tc (hexd i) = true := by
  have key : ∀ i : Fin 16, tc (hexd i.val) = true := by decide +kernel
  exact key ⟨i, h⟩
theorem join_tc (c : UInt8) (hc : tc c = true) (L : List (List UInt8)) (hL : ∀ x ∈ L, x.all tc = true) : (joinL c L).all tc = true := by
  rw [List.all_eq_true]
  intro x hx
  rcases joinL_mem c L x hx with rfl | ⟨q, hq, hxq⟩
  · exact hc
  · exact List.all_eq_true.1 (hL q hq) x hxq
theorem name_tc {n : List UInt8} (h : (splitL 46 n).all labOk = true) : n.all tc = true := by
  rw [← join_split 46 n]
  refine join_tc 46 (by decide) _ fun x hx => ?_
  rw [List.all_eq_true]
  exact fun c hc => lab_tc c (List.all_eq_true.1 (labOk_all (List.all_eq_true.1 h x hx)) c hc)
theorem text4_tc (a : List UInt8) : (text4L a).all tc = true :=
  join_tc 46 (by decide) _ fun x hx => by
    simp only [List.mem_map] at hx
    obtain ⟨c, _, rfl⟩ := hx
    exact decT_tc c
theorem written_tc (g : List UInt16) : (writtenL g).all tc = true :=
  join_tc 58 (by decide) _ fun x hx => by
    simp only [List.mem_map] at hx
    obtain ⟨c, _, rfl⟩ := hx
    rw [List.all_eq_true]
    intro d hd
    obtain ⟨i, hi, rfl⟩ := hexL_mem c.toNat c.toNat_lt d hd
    exact hexd_tc i hi
theorem text6_tc (a : List UInt8) : (text6L a).all tc = true := by
  unfold text6L text6G
  split
  · exact written_tc _
  · rw [List.all_append, List.all_append, written_tc, written_tc]; rfl
theorem text4_le16 (a : GAddr) : (text4L a.b).length ≤ 16 := by
  have := joinL_le 46 ((a.b.drop 12).map fun c => decT c.toNat) 3 (fun p hp => by
    simp only [List.mem_map] at hp
    obtain ⟨y, _, rfl⟩ := hp
    exact (decT_ok y).2.2.2)
  rw [List.length_map, List.length_drop, a.len] at this
  show (joinL 46 _).length ≤ _
  omega
theorem text_tc {h : GHost} (hr : rightB h = true) : textH h ≠ [] ∧ (textH h).all tc = true ∧ (textH h).length ≤ 253 := by
  have hp : parseOk (textH h) = true := by
    unfold rightB at hr
    simp only [Bool.and_eq_true] at hr
    exact hr.1
  have h0 : parseOk [] = false := by decide +kernel
  have hne : textH h ≠ [] := by
    intro e
    rw [e, h0] at hp; cases hp
  refine ⟨hne, ?_⟩
  by_cases k1 : h.kind = 1
  · have hf := nameOk_facts (h := h) (by unfold nameOk; rw [hr, k1]; rfl)
    rw [show textH h = h.name from if_pos k1]
    exact ⟨name_tc hf.2.2.1, hf.2.1⟩
  · by_cases k2 : h.kind = 2
    · rw [show textH h = text4L h.addr.b by unfold textH; rw [if_neg k1, if_pos k2]]
      exact ⟨text4_tc _, Nat.le_trans (text4_le16 _) (by decide)⟩
    · by_cases k3 : h.kind = 3
      · rw [show textH h = 91 :: (text6L h.addr.b ++ [93]) by unfold textH; rw [if_neg k1, if_neg k2, if_pos k3]; rfl]
        have := (text6_len _ (grpG h.addr).len).2
        refine ⟨?_, ?_⟩
        · rw [List.all_cons, List.all_append, text6_tc]; rfl
        · have e : (text6L h.addr.b).length ≤ 39 := this
          simp; omega
      · exact absurd (by unfold textH; rw [if_neg k1, if_neg k2, if_neg k3]) hne
theorem path_tc (c : UInt8) (h : pathC c = true) : c ≠ 32 ∧ c ≠ 10 ∧ c ≠ 13 := by
  have key : ∀ i : Fin 256, pathC (UInt8.ofNat i.val) = true → UInt8.ofNat i.val ≠ 32 ∧ UInt8.ofNat i.val ≠ 10 ∧ UInt8.ofNat i.val ≠ 13 := by decide +kernel
  have := key ⟨c.toNat, c.toNat_lt⟩
  simp only [UInt8.ofNat_toNat] at this
  exact this h
def ptLine (p : GPt) : List UInt8 := patLine p.1 p.2.1 p.2.2.1 p.2.2.2.1 p.2.2.2.2
structure BackP (p : GPt) : Prop where
  out : topoLine (ptLine p) = (p, 0, 0)
  ends : ∀ c ∈ ptLine p, c ≠ 10 ∧ c ≠ 13
  first : ∃ t, ptLine p = 104 :: t
  len : (ptLine p).length ≤ 267 + p.2.2.2.2.length
theorem scheme_back (pl se : Bool) (h : (pl || se) = true) : schemeL pl se ≠ [] ∧ (32 : UInt8) ∉ schemeL pl se ∧ ¬ schemeN (schemeL pl se) < 1 ∧ plainN (schemeL pl se) = pl ∧ secureN (schemeL pl se) = se ∧ (∀ c ∈ schemeL pl se, c ≠ 10 ∧ c ≠ 13) ∧ (schemeL pl se).length ≤ 5 := by
  cases pl <;> cases se <;> first | (exact absurd h (by decide)) | decide
theorem backP {p : GPt} (h : rightP p = true) : BackP p := by
  obtain ⟨wi, ho, pl, se, pa⟩ := p
  have h' : (rightB ho && ((!wi || ho.kind == 1) && ((pl || se) && pathOk pa))) = true := h
  simp only [Bool.and_eq_true] at h'
  obtain ⟨hr, hk, hs, hp⟩ := h'
  obtain ⟨t0, t1, t2⟩ := text_tc hr
  obtain ⟨s0, s1, s2, s3, s4, s5, s6⟩ := scheme_back pl se hs
  obtain ⟨p1, p2, p3, p4⟩ := path_byte hp
  have hr' := hr
  unfold rightB at hr'
  simp only [Bool.and_eq_true] at hr'
  have hpk : parseH (textH ho) = ho := (hostEq_iff _ _).1 hr'.2
  have tA := List.all_eq_true.1 t1
  have tB : ∀ c ∈ textH ho, c ≠ 32 ∧ c ≠ 42 ∧ c ≠ 10 ∧ c ≠ 13 := fun c hc => by
    have := tA c hc
    unfold tc at this
    simp only [Bool.and_eq_true, bne_iff_ne] at this
    exact ⟨this.1, this.2.1, this.2.2.1, this.2.2.2⟩
  have pA : ∀ c ∈ pa, c ≠ 32 ∧ c ≠ 10 ∧ c ≠ 13 := fun c hc => path_tc c (List.all_eq_true.1 p4 c hc)
  have e3 : ∀ t : List UInt8, List.isPrefixOf ([] : List UInt8) t = true := fun t => by cases t <;> rfl
  have hn : (∀ c ∈ nameL wi ho, c ≠ 32 ∧ c ≠ 10 ∧ c ≠ 13) ∧ nameL wi ho ≠ [] ∧ Lib.hasPrefix (nameL wi ho) [42, 46] = wi ∧ Lib.trimPrefix (nameL wi ho) [42, 46] = textH ho ∧ (nameL wi ho).length ≤ 255 := by
    cases wi
    · have e : nameL false ho = textH ho := rfl
      have hx : Lib.hasPrefix (textH ho) [42, 46] = false := by
        rcases hq : textH ho with _ | ⟨c, t⟩
        · exact absurd hq t0
        · have := (tB c (by rw [hq]; exact List.mem_cons_self)).2.1
          show ((42 : UInt8) == c && List.isPrefixOf [46] t) = false
          rw [beq_eq_false_iff_ne.2 (Ne.symm this)]; rfl
      rw [e]
      refine ⟨fun c hc => ⟨(tB c hc).1, (tB c hc).2.2.1, (tB c hc).2.2.2⟩, t0, hx, ?_, by omega⟩
      unfold Lib.trimPrefix
      rw [hx, if_neg (by decide)]
    · have e : nameL true ho = 42 :: 46 :: textH ho := rfl
      have hx : Lib.hasPrefix (42 :: 46 :: textH ho) [42, 46] = true := by
        show ((42 : UInt8) == 42 && ((46 : UInt8) == 46 && List.isPrefixOf ([] : List UInt8) (textH ho))) = true
        rw [e3]; rfl
      rw [e]
      refine ⟨fun c hc => ?_, by simp, hx, ?_, by simp; omega⟩
      · rcases List.mem_cons.1 hc with rfl | hc
        · decide
        · rcases List.mem_cons.1 hc with rfl | hc
          · decide
          · exact ⟨(tB c hc).1, (tB c hc).2.2.1, (tB c hc).2.2.2⟩
      · unfold Lib.trimPrefix
        rw [if_pos hx]; rfl
  obtain ⟨n1, n2, n3, n4, n5⟩ := hn
  have hsp : splitL 32 (patLine wi ho pl se pa) = [verbL, nameL wi ho, schemeL pl se, pa] := by
    unfold patLine
    rw [splitL_append 32 verbL _ (by decide), splitL_append 32 _ _ (fun hc => (n1 _ hc).1 rfl), splitL_append 32 _ _ s1, splitL_none 32 pa (fun hc => (pA _ hc).1 rfl)]
  have hpa : pa ≠ [] := by rintro rfl; simp at p1
  refine ⟨?_, ?_, ⟨_, rfl⟩, ?_⟩
  · show topoLine (patLine wi ho pl se pa) = _
    unfold topoLine
    rw [hsp]
    dsimp only
    rw [if_neg (by simp [n2, s0, hpa]), n3, n4, hr'.1, hpk, if_neg (by
      rintro (h | ⟨h1, h2⟩)
      · cases h
      · rw [h1] at hk
        simp at hk
        exact h2 hk), if_neg s2, hp, if_neg (by decide), s3, s4]
  · intro c hc
    have hc' : c ∈ verbL ++ 32 :: (nameL wi ho ++ 32 :: (schemeL pl se ++ 32 :: pa)) := hc
    simp only [List.mem_append, List.mem_cons] at hc'
    have hv : ∀ c ∈ verbL, c ≠ 10 ∧ c ≠ 13 := by decide
    rcases hc' with h | rfl | h | rfl | h | rfl | h
    · exact hv c h
    · decide
    · exact (n1 c h).2
    · decide
    · exact s5 c h
    · decide
    · exact (pA c h).2
  · show (verbL ++ 32 :: (nameL wi ho ++ 32 :: (schemeL pl se ++ 32 :: pa))).length ≤ 267 + pa.length
    have : verbL.length = 4 := rfl
    simp only [List.length_append, List.length_cons]
    omega
def ptFil (R : List GPt) : List UInt8 := R.flatMap fun r => ptLine r ++ [10]
theorem ptFil_cons (r : GPt) (R : List GPt) : ptFil (r :: R) = ptLine r ++ 10 :: ptFil R := by simp [ptFil]
theorem ptFil_snoc (R : List GPt) (r : GPt) : ptFil (R ++ [r]) = ptFil R ++ (ptLine r ++ [10]) := by simp [ptFil]
theorem ptFil_take (R : List GPt) (k : Nat) (h : k < R.length) : ptFil (R.take (k + 1)) = ptFil (R.take k) ++ (ptLine (R[k]'h) ++ [10]) := by
  rw [List.take_succ_eq_append_getElem h, ptFil_snoc]
theorem ptFil_len (R : List GPt) (h : ∀ r ∈ R, (ptLine r).length ≤ 1267) : (ptFil R).length ≤ 1268 * R.length := by
  induction R with
  | nil => exact Nat.le_refl _
  | cons r R ih =>
    have h1 := h r List.mem_cons_self
    have h2 := ih (fun x hx => h x (List.mem_cons_of_mem _ hx))
    rw [ptFil_cons, List.length_append, List.length_cons, List.length_cons]; omega
theorem cut_line {p : GPt} (h : BackP p) : cutCR (ptLine p) = ptLine p := by
  unfold cutCR Lib.trimSuffix
  rw [if_neg]
  intro hs
  unfold Lib.hasSuffix at hs
  rw [List.isSuffixOf_iff_suffix] at hs
  obtain ⟨y, hy⟩ := hs
  exact (h.ends 13 (by rw [← hy]; simp)).2 rfl
theorem split_pts : ∀ (R : List GPt), (∀ r ∈ R, BackP r) → splitL 10 (ptFil R) = R.map ptLine ++ [[]]
  | [], _ => rfl
  | r :: R, hR => by
    rw [ptFil_cons, splitL_append 10 _ _ (fun hc => ((hR r List.mem_cons_self).ends _ hc).1 rfl), split_pts R (fun x hx => hR x (List.mem_cons_of_mem _ hx))]
    rfl
def headT : List UInt8 := [35, 32, 97, 108, 108, 10, 10]
theorem lines_pts (R : List GPt) (hR : ∀ r ∈ R, BackP r) : linesL (headT ++ ptFil R) = [35, 32, 97, 108, 108] :: [] :: R.map ptLine := by
  have h : splitL 10 (headT ++ ptFil R) = [35, 32, 97, 108, 108] :: [] :: (R.map ptLine ++ [[]]) := by
    have e : headT ++ ptFil R = [35, 32, 97, 108, 108] ++ 10 :: ([] ++ 10 :: ptFil R) := rfl
    rw [e, splitL_append 10 _ _ (by decide), splitL_append 10 _ _ (by simp), split_pts R hR]
  unfold linesL dropEmpty
  have e2 : [35, 32, 97, 108, 108] :: [] :: (R.map ptLine ++ [[]]) = ([35, 32, 97, 108, 108] :: [] :: R.map ptLine) ++ [([] : List UInt8)] := rfl
  rw [h, e2, if_pos (by rw [List.getLast?_concat]), List.dropLast_concat, List.map_cons, List.map_cons, List.map_map]
  have e4 : R.map (cutCR ∘ ptLine) = R.map ptLine := List.map_congr_left fun r hr => cut_line (hR r hr)
  rw [e4]
  rfl
theorem step_pts : ∀ (R : List GPt) (i : Nat) (out : List GPt), (∀ r ∈ R, BackP r) → (out ++ R).Nodup → (out ++ R).length ≤ 12 → topoStep (R.map ptLine) i out = (out ++ R, 0, 0, 0)
  | [], i, out, _, _, _ => by simp [topoStep]
  | r :: R, i, out, hR, hn, hl => by
    have hb := hR r List.mem_cons_self
    obtain ⟨t, ht⟩ := hb.first
    have hno : hasPt out r = false := by
      rw [List.nodup_append] at hn
      cases hc : hasPt out r
      · rfl
      · exact absurd rfl (hn.2.2 r (hasPt_mem.1 hc) r List.mem_cons_self)
    rw [List.length_append, List.length_cons] at hl
    have hx : ¬ (ptLine r = [] ∨ Lib.hasPrefix (ptLine r) [35] = true) := by
      rw [ht]
      rintro (h | h)
      · cases h
      · exact absurd h (by show ¬ ((35 : UInt8) == 104 && List.isPrefixOf ([] : List UInt8) t) = true; simp)
    rw [List.map_cons, topoStep, if_neg hx, hb.out]
    dsimp only
    rw [if_neg (by simp), if_neg (by rw [hno]; decide), if_neg (by omega), step_pts R (i + 1) (out ++ [r]) (fun x hx => hR x (List.mem_cons_of_mem _ hx)) (by simpa using hn) (by simp; omega)]
    rw [List.append_assoc, List.singleton_append]
theorem file_pts (R : List GPt) (hR : ∀ r ∈ R, rightP r = true) (hn : R.Nodup) (hl : R.length ≤ 12) (hp : ∀ r ∈ R, r.2.2.2.2.length ≤ 1000) : topoFile (headT ++ ptFil R) = (R, 0, 0, 0) := by
  have hB : ∀ r ∈ R, BackP r := fun r h => backP (hR r h)
  have hlen := ptFil_len R (fun r h => by have := (hB r h).len; have := hp r h; omega)
  have h7 : headT.length = 7 := rfl
  unfold topoFile
  rw [if_neg (by rw [List.length_append]; omega), lines_pts R hB, topoStep, if_pos (.inr (by decide)), topoStep, if_pos (.inl rfl)]
  exact step_pts R _ [] hB hn hl
end

section
open Go Go.RowKit
set_option maxRecDepth 20000
set_option linter.unusedSimpArgs false
set_option linter.unusedVariables false

theorem Var.pa21 {w : World} {b : Nat} {wi : Bool} {h : GHost} {pl se : Bool} {pa : List UInt8} (hv : Var w b (patR wi h pl se pa)) : w.cell? ⟨b, 21, none⟩ = some (.string ⟨pa.toArray⟩) := by
  rw [hv.cell 21 (by rw [patR_length]; decide), ← patV_21 wi h pl se pa]
  unfold patV
  rw [List.getElem?_toArray, List.getElem?_eq_getElem (by rw [patR_length]; decide)]
end
end Go.Proofs.YthklfbakffaioaaDoor
