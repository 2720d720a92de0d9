/- The shelf's Use walked. -/
import Derived.Test.YtaondmaebgicgaaShPut
namespace Go.Proofs.Ytaondmaebgicgaa
open Go Go.RowKit
set_option maxRecDepth 20000
set_option linter.unusedSimpArgs false
set_option linter.unusedVariables false

theorem shUse_no (W : List GKept) (last B bs ba bi : Nat) (c : GCookie) (now : Int) (w : World) (h : ShR w bs ba bi W last B) (hf : findW W c = none) :
    Calls Try.prog 15 #[.pointer (some ⟨bs, 0, none⟩), .agg (cookieC c), .int .i64 now] w fun e w' => e = .returned (.bool false) ∧ Below w.heap.size w w' := by
  obtain ⟨es, ck, hmb, hlks⟩ := h.looks
  have hlk := fun W' => hlks c W'
  rw [hf] at hlk
  have hba : isOld ba w = true := isOld_iff.2 h.2.1.lt
  clear hlks hf
  have h0 : w.cell? ⟨bs, 0, none⟩ = some (.map (some ba)) := h.1.cell 0 (by simp)
  have hbs : isOld bs w = true := isOld_iff.2 h.1.lt
  simp only [Option.isSome_none, Option.getD_none] at hlk
  generalize zeroKt = k at *
  clear h
  have HAT := Lib.hid (fun w => at_any c w)
  go_enter Try.func15, Try.ntmps15
  go_upto_region 1 with fail
  go_region_law (first | (go_simp; (with_reducible refine (HAT.out _).mono ?_); intro e w2 he; obtain ⟨rfl, hb2⟩ := he; obtain ⟨p2, rfl⟩ := grown_of hb2; clear hb2; dsimp only))
  all_goals
    go_wp2
    go_ret
    have e2 : w.heap.size ≤ w.heap.size + 1 := by omega
    refine ⟨rfl, ?_⟩
    try refine below_setRow ?_ e2 _
    exact (by repeat (first | exact Below.refl _ _ | assumption | refine below_grown ?_ (by first | omega | (simp [go_sem]; done) | (simp [go_sem] <;> omega)) _ | refine Below.alloc ?_ (by first | omega | (simp [go_sem]; done) | (simp [go_sem] <;> omega)) _ | refine below_bytesW ?_ (by first | omega | (simp [go_sem]; done) | (simp [go_sem] <;> omega)) _ | refine Below.drew ?_ | refine below_drewN ?_ _))
theorem sitesF_congr {W W' : List GKept} (h : ∀ x, countW W' x = countW W x) : sitesF W' = sitesF W := by
  funext kl
  cases kl with
  | string x => rw [sitesF_str, sitesF_str, h x]
  | _ => rfl
theorem sites_use {W : List GKept} (hA : Apart W) {c : GCookie} {k x : GKept} (h : findW W c = some k) (hx : x.2 = k.2) : sitesF (replW W c x) = sitesF W :=
  sitesF_congr fun s => by rw [count_repl hA h, count_drop hA h, hx]
theorem kept_use (k : GKept) (now : Int) (h : (Lit.int .i64 now).wf = true) : (keptR k).set 27 (.int .i64 now) = keptR (useC k.1 now h, k.2) := by
  rw [kept_set _ _ _ (by decide), use_set _ _ h]
  rfl
set_option maxHeartbeats 4000000 in
theorem shUse_yes (W : List GKept) (hA : Apart W) (hW : W.length < 4611686018427387904) (last B bs ba bi : Nat) (c : GCookie) (now : Int) (hnow : (Lit.int .i64 now).wf = true) (w : World) (h : ShR w bs ba bi W last B) (k : GKept) (hf : findW W c = some k) :
    Calls Try.prog 15 #[.pointer (some ⟨bs, 0, none⟩), .agg (cookieC c), .int .i64 now] w fun e w' => e = .returned (.bool true) ∧ ShR w' bs ba bi (replW W c (useC k.1 now hnow, k.2)) last B ∧ Keeps (ShO bs ba bi) w w' := by
  have HSH := Lib.hid h
  have hlba := h.2.1.lt
  have hlbs := h.1.lt
  have hlbi : bi < w.heap.size := by
    obtain ⟨n, _, h4⟩ := h.2.2.1
    exact h4.lt
  obtain ⟨hne1, hne2, hne3⟩ := h.2.2.2
  obtain ⟨es, ck, hmb, hlks⟩ := h.looks
  have hlk := fun W' => hlks c W'
  rw [hf] at hlk
  have hba : isOld ba w = true := isOld_iff.2 h.2.1.lt
  clear hlks
  have h0 : w.cell? ⟨bs, 0, none⟩ = some (.map (some ba)) := h.1.cell 0 (by simp)
  have hbs : isOld bs w = true := isOld_iff.2 h.1.lt
  simp only [Option.isSome_some, Option.getD_some] at hlk
  have HF := Lib.hid hf
  have HAP := Lib.hid hA
  have HXS : Hid (samePl (useC k.1 now hnow, k.2).1 c = true) := (show samePl k.1 c = true from find_place hf)
  clear h hf hA
  have HAT := Lib.hid (fun w => at_any c w)
  go_enter Try.func15, Try.ntmps15
  go_upto_region 1 with fail
  go_cut [7, 8] (fun s7 s8 wx => ∃ b7, w.heap.size < b7 ∧ s7 = .pointer (some ⟨b7, 0, none⟩) ∧ s8 = .bool true ∧ Below (w.heap.size + 1) (w.alloc (Obj.cells (cookieC c) 31)) wx ∧ Var wx b7 (keptR k))
  case first =>
    --P
    go_region_law (first | (go_simp; (with_reducible refine (HAT.out _).mono ?_); intro e w2 he; obtain ⟨rfl, hb2⟩ := he; obtain ⟨p2, rfl⟩ := grown_of hb2; clear hb2; dsimp only))
    all_goals
      go_wp2_with fail
      go_meet
      have hz : (w.alloc (Obj.cells (cookieC c) 31)).heap.size = w.heap.size + 1 := by simp
      refine ⟨_, ?_, rfl, rfl, ?_, ?_⟩
      · omega
      · try refine below_setRow ?_ (Nat.le_refl _) _
        exact (by repeat (first | exact Below.refl _ _ | assumption | refine below_grown ?_ (by first | omega | (simp [go_sem]; done) | (simp [go_sem] <;> omega)) _ | refine Below.alloc ?_ (by first | omega | (simp [go_sem]; done) | (simp [go_sem] <;> omega)) _ | refine below_bytesW ?_ (by first | omega | (simp [go_sem]; done) | (simp [go_sem] <;> omega)) _ | refine Below.drew ?_ | refine below_drewN ?_ _))
      · first
          | exact Var.new _ _ _ rfl (by simp [go_sem])
          | exact Var.setRow (Var.grown (Var.drew (Var.new _ _ _ rfl (by simp [go_sem]))) _) (keptR k)
          | exact Var.setRow (Var.grown (Var.new _ _ _ rfl (by simp [go_sem])) _) (keptR k)
    --Q
  case rest =>
  obtain ⟨b7, hb7, rfl, rfl, hbw, hv7⟩ := hcut
  have hz : (w.alloc (Obj.cells (cookieC c) 31)).heap.size = w.heap.size + 1 := by simp
  have hv4 : Var wc w.heap.size (cookieL c) := (Var.new w (cookieC c) 31 rfl rfl).below (by rw [hz]; exact hbw)
  have hbw2 : Below w.heap.size w wc := ((Below.refl _ _).alloc (Nat.le_refl _) _).trans (hbw.mono (by omega))
  have hsh := HSH.out.below hbw2
  have hl7 := hv7.lt
  have hl4 := hv4.lt
  have hzc := hbw2.size
  have HBW := Lib.hid hbw2
  clear hbw hbw2 hmb hlk hba h0 hbs HSH es ck
  have c7 : wc.cell? ⟨b7, 27, none⟩ = some (.int .i64 k.1.used) := hv7.at (by rw [keptR_at _ _ (by decide), cookieL_at _ _ (by decide)]; rfl)
  have f7 := hv7.free 27
  have HSH := Lib.hid hsh
  have HV4 := Lib.hid hv4
  have HV7 := Lib.hid hv7
  clear hsh hv4 hv7
  go_upto_region 4 with fail
  have hv7 : Var (wc.setCell ⟨b7, 27, none⟩ (.int .i64 now)) b7 (keptR (useC k.1 now hnow, k.2)) := by rw [← kept_use]; exact HV7.out.setCell 27 _
  have hk7 : Keeps (fun j => j = b7) wc (wc.setCell ⟨b7, 27, none⟩ (.int .i64 now)) := keeps_setCell (Q := fun j => j = b7) (Keeps.refl _ _) (.inr rfl) _
  have hKA : Keeps (ShO bs ba bi) w (wc.setCell ⟨b7, 27, none⟩ (.int .i64 now)) := keeps_setCell (Keeps.of_below HBW.out) (.inl (by show _ ≤ b7; omega)) _
  have hv4 := HV4.out.keeps hk7 (by omega)
  obtain ⟨q1, q2, ⟨n, q3, q4⟩, _⟩ := HSH.out
  have hv0 := q1.keeps hk7 (by omega)
  have hM := q2.keeps hk7 (by omega)
  have hS := q4.keeps hk7 (by omega)
  clear HSH HV4 HV7 HBW q1 q2 q4 c7 f7
  generalize (wc.setCell ⟨b7, 27, none⟩ (.int .i64 now)) = w4 at *
  obtain ⟨es, ck, hmb, hblk⟩ := hM.block
  obtain ⟨U7, hU7, HU7⟩ := hM.upds placeLaw allTy (placeKey c) (by unfold maxLen; omega) (.agg (keptV (useC k.1 now hnow, k.2))) hblk
  have h0 : w4.cell? ⟨bs, 0, none⟩ = some (.map (some ba)) := hv0.at rfl
  have hbs : isOld bs w4 = true := isOld_iff.2 hv0.lt
  have hba : isOld ba w4 = true := isOld_iff.2 hM.lt
  have k30 : hasRow w4 ⟨w.heap.size, 0, none⟩ 29 = true := hv4.hasRow (cookieL_length _)
  have k31 : rowAt w4 ⟨w.heap.size, 0, none⟩ 29 = cookieC c := hv4.rowAt (cookieL_length _)
  have i30 : isOld w.heap.size w4 = true := isOld_iff.2 hv4.lt
  have k70 : hasRow w4 ⟨b7, 0, none⟩ 30 = true := hv7.hasRow (keptR_length _)
  have k71 : rowAt w4 ⟨b7, 0, none⟩ 30 = keptV (useC k.1 now hnow, k.2) := hv7.rowAt (keptR_length _)
  have i70 : isOld b7 w4 = true := isOld_iff.2 hv7.lt
  have HV0 := Lib.hid hv0
  have HS0 := Lib.hid hS
  have HK0 := Lib.hid hKA
  have HSO : Hid ((allF W (placeLit c)).isSome = true) := by
    show _ = true
    rw [allF_at, HF.out]; rfl
  have HFIN : Hid (∀ X, mapB X ba es ck = true → Below w4.heap.size w4 X → MapF Try.prog 62 (U7 X) ba (allF (replW W c (useC k.1 now hnow, k.2))) (replW W c (useC k.1 now hnow, k.2)).length ∧ Keeps (fun j => j = ba) w4 (U7 X)) := fun X hX hb => by
    obtain ⟨g1, g2⟩ := HU7.out X hX
    rw [HSO.out, if_pos rfl, allF_repl HF.out HXS.out] at g1
    rw [repl_length]
    exact ⟨g1, (Keeps.of_below hb).trans g2⟩
  clear hv4 hv0 hM hS hblk hKA hv7 hk7 HU7
  go_cut [] (fun wx => MapF Try.prog 62 wx ba (allF (replW W c (useC k.1 now hnow, k.2))) (replW W c (useC k.1 now hnow, k.2)).length ∧ Keeps (fun j => j = ba) w4 wx)
  case first =>
    go_region_law (first | (go_simp; (with_reducible refine (HAT.out _).mono ?_); intro e w2 he; obtain ⟨rfl, hb2⟩ := he; obtain ⟨p2, rfl⟩ := grown_of hb2; clear hb2; dsimp only))
    all_goals
      go_wp2_with fail
      go_meet
      exact HFIN.out _ (by simp [go_sem, hmb, hba]) (by repeat (first | exact Below.refl _ _ | assumption | refine below_grown ?_ (by first | omega | (simp [go_sem]; done) | (simp [go_sem] <;> omega)) _ | refine Below.alloc ?_ (by first | omega | (simp [go_sem]; done) | (simp [go_sem] <;> omega)) _ | refine below_bytesW ?_ (by first | omega | (simp [go_sem]; done) | (simp [go_sem] <;> omega)) _ | refine Below.drew ?_ | refine below_drewN ?_ _))
  case rest =>
  obtain ⟨hM7, hK7⟩ := hcut
  clear hU7 HFIN hmb hba hbs h0 k30 k31 i30 k70 k71 i70 U7 es ck
  go_wp2
  go_ret
  exact ⟨rfl, ⟨HV0.out.keeps hK7 hne1, hM7, ⟨n, q3, by rw [sites_use (x := (useC k.1 now hnow, k.2)) HAP.out HF.out rfl]; exact HS0.out.keeps hK7 (fun e => hne3 e.symm)⟩, hne1, hne2, hne3⟩, HK0.out.trans (hK7.sub (fun j e => .inr (.inl e)))⟩
end Go.Proofs.Ytaondmaebgicgaa
