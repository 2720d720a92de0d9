/- The shelf's Drop walked. -/
import Derived.Test.YtaondmaebgicgaaShS
import Derived.Test.YtaondmaebgicgaaShW
namespace Go.Proofs.Ytaondmaebgicgaa
open Go Go.RowKit
set_option maxRecDepth 20000
set_option linter.unusedSimpArgs false
set_option linter.unusedVariables false

theorem keptR_site (k : GKept) (h : 29 < (keptR k).length) : (keptR k)[29]'h = .string ⟨k.2.toArray⟩ := by
  have := keptV_site k
  unfold keptV at this
  rw [List.getElem?_toArray, List.getElem?_eq_getElem h] at this
  exact Option.some.inj this
/-- A shelf's look-ups in whatever world its all-map's block is as now. -/
theorem shDrop_no (W : List GKept) (last B bs ba bi : Nat) (c : GCookie) (w : World) (h : ShR w bs ba bi W last B) (hf : findW W c = none) :
    Calls Try.prog 9 #[.pointer (some ⟨bs, 0, none⟩), .agg (cookieC c)] w fun e w' => e = .returned (.bool false) ∧ Below w.heap.size w w' := by
  obtain ⟨es, ck, hmb, hlks⟩ := h.looks
  have hlk := fun W' => hlks c W'
  rw [hf] at hlk
  have hba : isOld ba w = true := isOld_iff.2 h.2.1.lt
  clear hlks hf
  have h0 : w.cell? ⟨bs, 0, none⟩ = some (.map (some ba)) := h.1.cell 0 (by simp)
  have hbs : isOld bs w = true := isOld_iff.2 h.1.lt
  simp only [Option.isSome_none, Option.getD_none] at hlk
  generalize zeroKt = k at *
  clear h
  have HAT := Lib.hid (fun w => at_any c w)
  go_enter Try.func9, Try.ntmps9
  go_upto_region 1 with fail
  go_region_law (first | (go_simp; (with_reducible refine (HAT.out _).mono ?_); intro e w2 he; obtain ⟨rfl, hb2⟩ := he; obtain ⟨p2, rfl⟩ := grown_of hb2; clear hb2; dsimp only))
  all_goals
    go_wp2
    go_ret
    have e2 : w.heap.size ≤ w.heap.size + 1 := by omega
    refine ⟨rfl, ?_⟩
    try refine below_setRow ?_ e2 _
    exact (by repeat (first | exact Below.refl _ _ | assumption | refine below_grown ?_ (by first | omega | (simp [go_sem]; done) | (simp [go_sem] <;> omega)) _ | refine Below.alloc ?_ (by first | omega | (simp [go_sem]; done) | (simp [go_sem] <;> omega)) _ | refine below_bytesW ?_ (by first | omega | (simp [go_sem]; done) | (simp [go_sem] <;> omega)) _ | refine Below.drew ?_ | refine below_drewN ?_ _))
set_option maxHeartbeats 4000000 in
theorem shDrop_yes (W : List GKept) (hA : Apart W) (hW : W.length < 4611686018427387904) (last B bs ba bi : Nat) (hB : B < maxLen) (c : GCookie) (w : World) (h : ShR w bs ba bi W last B) (k : GKept) (hf : findW W c = some k) (hks : k.2.length ≤ maxLen) :
    Calls Try.prog 9 #[.pointer (some ⟨bs, 0, none⟩), .agg (cookieC c)] w fun e w' => e = .returned (.bool true) ∧ ShR w' bs ba bi (dropW W c) last B ∧ Keeps (ShO bs ba bi) w w' := by
  have HSH := Lib.hid h
  have hlba := h.2.1.lt
  have hlbs := h.1.lt
  have hlbi : bi < w.heap.size := by
    obtain ⟨n, _, h4⟩ := h.2.2.1
    exact h4.lt
  obtain ⟨hne1, hne2, hne3⟩ := h.2.2.2
  obtain ⟨es, ck, hmb, hlks⟩ := h.looks
  have hlk := fun W' => hlks c W'
  rw [hf] at hlk
  have hba : isOld ba w = true := isOld_iff.2 h.2.1.lt
  clear hlks
  have h0 : w.cell? ⟨bs, 0, none⟩ = some (.map (some ba)) := h.1.cell 0 (by simp)
  have hbs : isOld bs w = true := isOld_iff.2 h.1.lt
  simp only [Option.isSome_some, Option.getD_some] at hlk
  have HF := Lib.hid hf
  have HAP := Lib.hid hA
  clear h hf hA
  have HAT := Lib.hid (fun w => at_any c w)
  go_enter Try.func9, Try.ntmps9
  go_upto_region 1 with fail
  go_cut [5, 6] (fun s5 s6 wx => ∃ b5, w.heap.size < b5 ∧ s5 = .pointer (some ⟨b5, 0, none⟩) ∧ s6 = .bool true ∧ Below (w.heap.size + 1) (w.alloc (Obj.cells (cookieC c) 31)) wx ∧ Var wx b5 (keptR k))
  case first =>
    --P
    go_region_law (first | (go_simp; (with_reducible refine (HAT.out _).mono ?_); intro e w2 he; obtain ⟨rfl, hb2⟩ := he; obtain ⟨p2, rfl⟩ := grown_of hb2; clear hb2; dsimp only))
    all_goals
      go_wp2_with fail
      go_meet
      have hz : (w.alloc (Obj.cells (cookieC c) 31)).heap.size = w.heap.size + 1 := by simp
      refine ⟨_, ?_, rfl, rfl, ?_, ?_⟩
      · omega
      · try refine below_setRow ?_ (Nat.le_refl _) _
        exact (by repeat (first | exact Below.refl _ _ | assumption | refine below_grown ?_ (by first | omega | (simp [go_sem]; done) | (simp [go_sem] <;> omega)) _ | refine Below.alloc ?_ (by first | omega | (simp [go_sem]; done) | (simp [go_sem] <;> omega)) _ | refine below_bytesW ?_ (by first | omega | (simp [go_sem]; done) | (simp [go_sem] <;> omega)) _ | refine Below.drew ?_ | refine below_drewN ?_ _))
      · first
          | exact Var.new _ _ _ rfl (by simp [go_sem])
          | exact Var.setRow (Var.grown (Var.drew (Var.new _ _ _ rfl (by simp [go_sem]))) _) (keptR k)
          | exact Var.setRow (Var.grown (Var.new _ _ _ rfl (by simp [go_sem])) _) (keptR k)
    --Q
  case rest =>
  obtain ⟨b5, hb5, rfl, rfl, hbw, hv5⟩ := hcut
  have hz : (w.alloc (Obj.cells (cookieC c) 31)).heap.size = w.heap.size + 1 := by simp
  have hv3 : Var wc w.heap.size (cookieL c) := (Var.new w (cookieC c) 31 rfl rfl).below (by rw [hz]; exact hbw)
  have hbw2 : Below w.heap.size w wc := ((Below.refl _ _).alloc (Nat.le_refl _) _).trans (hbw.mono (by omega))
  have hsh := HSH.out.below hbw2
  have hl5 := hv5.lt
  have hzc := hbw2.size
  have HB := Lib.hid hbw2
  clear hbw hbw2 hmb hlk hba h0 hbs HSH
  clear es ck
  obtain ⟨es, ck, hmb, hblk⟩ := hsh.2.1.block
  have HBLK := Lib.hid hblk
  have HSH := Lib.hid hsh
  have hba : isOld ba wc = true := isOld_iff.2 hsh.2.1.lt
  have h0 : wc.cell? ⟨bs, 0, none⟩ = some (.map (some ba)) := hsh.1.cell 0 (by simp)
  have hbs : isOld bs wc = true := isOld_iff.2 hsh.1.lt
  have k30 : hasRow wc ⟨w.heap.size, 0, none⟩ 29 = true := hv3.hasRow (cookieL_length _)
  have k31 : rowAt wc ⟨w.heap.size, 0, none⟩ 29 = cookieC c := hv3.rowAt (cookieL_length _)
  have i30 : isOld w.heap.size wc = true := isOld_iff.2 hv3.lt
  clear hsh hblk
  go_upto_region 4 with fail
  have HFN : Hid ((if (allF W (placeLit c)).isSome = true then W.length - 1 else W.length) = (dropW W c).length) := (drop_length HAP.out c).symm
  have HFF := Lib.hid (allF_drop W c)
  go_cut [] (fun wx => MapF Try.prog 62 wx ba (allF (dropW W c)) (dropW W c).length ∧ Keeps (fun j => j = ba) wc wx)
  case first =>
    --P
    go_region_law (first
      | (go_simp; (with_reducible refine (HAT.out _).mono ?_); intro e w2 he; obtain ⟨rfl, hb2⟩ := he; obtain ⟨p2, rfl⟩ := grown_of hb2; clear hb2; dsimp only)
      | (refine step_delete_map rfl (.tmp 22) (.tmp 24) 54 62 59 rfl _ (HBLK.out _ (by simp [go_sem, hmb, hba])) placeLaw allTy (placeKey c) rfl rfl ?_; intro w9 hm9 hk9; rw [HFN.out, HFF.out] at hm9; have HM9 := Lib.hid hm9; have HK9 := Lib.hid hk9; clear hm9 hk9))
    all_goals
      go_wp2_with fail
      go_meet
      exact ⟨HM9.out, (Keeps.of_below (by repeat (first | exact Below.refl _ _ | assumption | refine below_grown ?_ (by first | omega | (simp [go_sem]; done) | (simp [go_sem] <;> omega)) _ | refine Below.alloc ?_ (by first | omega | (simp [go_sem]; done) | (simp [go_sem] <;> omega)) _ | refine below_bytesW ?_ (by first | omega | (simp [go_sem]; done) | (simp [go_sem] <;> omega)) _ | refine Below.drew ?_ | refine below_drewN ?_ _))).trans HK9.out⟩
    --Q
  case rest =>
  obtain ⟨hM1, hK1⟩ := hcut
  have hbs1 := HSH.out.1.keeps hK1 hne1
  obtain ⟨n, hnB, hS0⟩ := HSH.out.2.2.1
  have hS1 := hS0.keeps hK1 (fun e => hne3 e.symm)
  have hv51 := hv5.keeps hK1 (by omega)
  have HKA : Hid (Keeps (ShO bs ba bi) w _) := (Keeps.of_below HB.out).trans (hK1.sub (fun j e => .inr (.inl e)))
  have hkk : keyOf Try.prog 9 (.string ⟨k.2.toArray⟩) = some (.string k.2) := Go.WideMaps.keyOf_string_mk Try.underlying9 (by simpa [ByteArray.size] using hks)
  have hcd := count_drop HAP.out HF.out k.2
  rw [if_pos rfl] at hcd
  have hcw := countW_le W k.2
  have HM1 := Lib.hid hM1
  have hco : ∀ x, x ≠ k.2 → countW (dropW W c) x = countW W x := fun x hx => by
    have := count_drop HAP.out HF.out x
    rw [if_neg (fun e => hx e.symm)] at this
    exact this.symm
  have HCO := Lib.hid hco
  have hlook : ∀ W' n' f v, (f (.string k.2)).getD (.int .i64 0) = v → MapF Try.prog 9 W' bi f n' → (Instr.lookup 55 (.map (some bi)) (.string ⟨k.2.toArray⟩) false).run Try.prog W' = .ok v W' := fun W' n' f v hv hm => by
    rw [← hv]
    exact (hm.look siteLaw sitesTy (zeroInt W') hkk).2
  have HLOOK := Lib.hid hlook
  have hz5 : (sitesF W (.string k.2)).getD (.int .i64 0) = .int .i64 ((countW (dropW W c) k.2 + 1 : Nat) : Int) := by
    rw [sitesF_str, if_pos (by omega), hcd]
    rfl
  have HSF1 : Hid (0 < countW (dropW W c) k.2 → (fun kl => if kl.sameKey (.string k.2) = true then some (Value.int .i64 (countW (dropW W c) k.2 : Nat)) else sitesF W kl) = sitesF (dropW W c)) := fun e => sitesF_set _ (siteLaw.key hkk) hco e
  have HSF2 : Hid (countW (dropW W c) k.2 = 0 → ∀ v, (fun kl => if kl.sameKey (.string k.2) = true then none else (if kl.sameKey (.string k.2) = true then some v else sitesF W kl)) = sitesF (dropW W c)) := fun e v => sitesF_cut _ (siteLaw.key hkk) hco e
  generalize hmE : countW (dropW W c) k.2 = m at *
  obtain ⟨es5, ck5, hmb5, hblk5⟩ := hS1.block
  have HBLK5 := Lib.hid hblk5
  have hlk5 : ∀ W', mapB W' bi es5 ck5 = true → (Instr.lookup 55 (.map (some bi)) (.string ⟨k.2.toArray⟩) false).run Try.prog W' = .ok (.int .i64 ((m + 1 : Nat) : Int)) W' := fun W' h' => HLOOK.out W' _ _ _ hz5 (hblk5 W' h')
  have c0 : _ = some (Value.map (some bi)) := hbs1.cell 1 (by simp)
  have c1 : wc.cell? ⟨b5, 29, none⟩ = some (.string ⟨k.2.toArray⟩) := by rw [hv51.cell 29 (by rw [keptR_length]; decide), keptR_site]
  have HBS1 := Lib.hid hbs1
  have HV51 := Lib.hid hv51
  clear hbs1 hv51 hS0 hM1 hlook hco hv5 hv3 HSH HBLK hmb h0 hbs hba k30 k31 i30
  have hsome : (sitesF W (.string k.2)).isSome = true := by rw [sitesF_str, if_pos (by omega)]; rfl
  have hnB' : n < maxLen := Nat.lt_of_le_of_lt hnB hB
  have HSOME := Lib.hid hsome
  have hmw : (m : Int) < 4611686018427387904 := by omega
  clear hsome hcd hcw hz5
  obtain ⟨U5, hU5, HU5⟩ := hS1.upds siteLaw sitesTy hkk hnB' (.int .i64 (m : Nat)) hblk5
  clear hblk5
  go_upto_region 5 with fail
  go_cut [] (fun wx => MapF Try.prog 9 wx bi (fun kl => if kl.sameKey (.string k.2) = true then some (Value.int .i64 (m : Nat)) else sitesF W kl) n ∧ Keeps (fun j => j = bi) wc wx)
  case first =>
    --P
    go_region
    all_goals
      go_wp2_with fail
      go_meet
      have hh := HU5.out wc.drew (by simp [go_sem, hmb5])
      rw [if_pos HSOME.out] at hh
      exact ⟨hh.1, (Keeps.refl _ wc).drew.trans hh.2⟩
    --Q
  case rest =>
  obtain ⟨hM5, hK5⟩ := hcut
  clear hS1 hmb5 hlk5 HBLK5 hU5 HU5 c0 c1 HLOOK es5 ck5
  have hbs5 := HBS1.out.keeps hK5 hne2
  have hv55 := HV51.out.keeps hK5 (by omega)
  have hM15 := HM1.out.keeps hK5 hne3
  have HKB : Hid (Keeps (ShO bs ba bi) w _) := HKA.out.trans (hK5.sub (fun j e => .inr (.inr e)))
  obtain ⟨es6, ck6, hmb6, hblk6⟩ := hM5.block
  have HBLK6 := Lib.hid hblk6
  have hlk6 : ∀ W', mapB W' bi es6 ck6 = true → (Instr.lookup 55 (.map (some bi)) (.string ⟨k.2.toArray⟩) false).run Try.prog W' = .ok (.int .i64 (m : Nat)) W' := fun W' h' => by
    have := ((hblk6 W' h').look siteLaw sitesTy (zeroInt W') hkk).2
    rw [if_pos (Go.WideAt.sameKey_self (siteLaw.key hkk))] at this
    exact this
  have c0 : _ = some (Value.map (some bi)) := hbs5.cell 1 (by simp)
  have c1 : wc.cell? ⟨b5, 29, none⟩ = some (.string ⟨k.2.toArray⟩) := by rw [hv55.cell 29 (by rw [keptR_length]; decide), keptR_site]
  have HBS5 := Lib.hid hbs5
  have HV55 := Lib.hid hv55
  have HM15 := Lib.hid hM15
  have HM5 := Lib.hid hM5
  clear hbs5 hv55 hM15 hM5 hblk6 HBS1 HV51 HM1 HKA
  go_upto_region 6 with fail
  go_cut [40] (fun s40 wx => s40 = .bool ((m : Int) == 0) ∧ Below wc.heap.size wc wx)
  case first =>
    --P
    go_region
    all_goals
      go_wp2_with fail
      go_meet
      exact ⟨rfl, (by repeat (first | exact Below.refl _ _ | assumption | refine below_grown ?_ (by first | omega | (simp [go_sem]; done) | (simp [go_sem] <;> omega)) _ | refine Below.alloc ?_ (by first | omega | (simp [go_sem]; done) | (simp [go_sem] <;> omega)) _ | refine below_bytesW ?_ (by first | omega | (simp [go_sem]; done) | (simp [go_sem] <;> omega)) _ | refine Below.drew ?_ | refine below_drewN ?_ _))⟩
    --Q
  case rest =>
  obtain ⟨h40, hbw6⟩ := hcut
  have HB6 := Lib.hid hbw6
  have hzl := hbw6.size
  have hli := HM5.out.lt
  have hla := HM15.out.lt
  have hls := HBS5.out.lt
  clear hbw6 c0 c1 hmb6 hlk6 HBLK6 es6 ck6
  have hM6 := HM5.out.old (HB6.out.block bi hli)
  have hbs6 := HBS5.out.below HB6.out
  have hv56 := HV55.out.below HB6.out
  have hM16 := HM15.out.old (HB6.out.block ba hla)
  have HKC : Hid (Keeps (ShO bs ba bi) w _) := HKB.out.trans (Keeps.of_below HB6.out)
  have HBS6 := Lib.hid hbs6
  have HM16 := Lib.hid hM16
  rcases Nat.eq_zero_or_pos m with hm0 | hm0
  · have hb : ((m : Int) == 0) = true := by rw [beq_iff_eq]; omega
    rw [hb] at h40
    subst h40
    obtain ⟨es7, ck7, hmb7, hblk7⟩ := hM6.block
    have HBLK7 := Lib.hid hblk7
    have c0 : _ = some (Value.map (some bi)) := hbs6.cell 1 (by simp)
    have c1 : wc.cell? ⟨b5, 29, none⟩ = some (.string ⟨k.2.toArray⟩) := by rw [hv56.cell 29 (by rw [keptR_length]; decide), keptR_site]
    have HS2 := Lib.hid (HSF2.out hm0)
    have hsk : ((fun kl : Lit => if kl.sameKey (.string k.2) = true then some (Value.int .i64 (m : Nat)) else sitesF W kl) (.string k.2)).isSome = true := by
      show (if _ then _ else _ : Option Value).isSome = true
      rw [if_pos (Go.WideAt.sameKey_self (siteLaw.key hkk))]
      rfl
    have HSK := Lib.hid hsk
    clear hM6 hblk7 hbs6 hv56 hM16 hb hsk
    go_upto_region 7 with fail
    go_cut [] (fun wx => MapF Try.prog 9 wx bi (sitesF (dropW W c)) (n - 1) ∧ Keeps (fun j => j = bi) wc wx)
    case first =>
      go_region_law (refine step_delete_map rfl (.tmp 44) (.tmp 46) 55 9 3 rfl _ (HBLK7.out _ (by simp [go_sem, hmb7])) siteLaw sitesTy hkk rfl rfl ?_; intro w9 hm9 hk9; rw [if_pos HSK.out, HS2.out] at hm9; have HM9 := Lib.hid hm9; have HK9 := Lib.hid hk9; clear hm9 hk9)
      all_goals
        go_wp2_with fail
        go_meet
        exact ⟨HM9.out, (Keeps.of_below (by repeat (first | exact Below.refl _ _ | assumption | refine below_grown ?_ (by first | omega | (simp [go_sem]; done) | (simp [go_sem] <;> omega)) _ | refine Below.alloc ?_ (by first | omega | (simp [go_sem]; done) | (simp [go_sem] <;> omega)) _ | refine below_bytesW ?_ (by first | omega | (simp [go_sem]; done) | (simp [go_sem] <;> omega)) _ | refine Below.drew ?_ | refine below_drewN ?_ _))).trans HK9.out⟩
    case rest =>
    obtain ⟨hM7, hK7⟩ := hcut
    clear c0 c1 hmb7 HBLK7
    go_wp2
    go_ret
    exact ⟨rfl, ⟨HBS6.out.keeps hK7 hne2, HM16.out.keeps hK7 hne3, ⟨_, by omega, hM7⟩, hne1, hne2, hne3⟩, HKC.out.trans (hK7.sub (fun j e => .inr (.inr e)))⟩
  · have hb : ((m : Int) == 0) = false := by rw [beq_eq_false_iff_ne]; omega
    rw [hb] at h40
    subst h40
    rw [HSF1.out hm0] at hM6
    have HM6 := Lib.hid hM6
    clear hM6 hbs6 hv56 hM16 hb
    go_wp2
    go_ret
    exact ⟨rfl, ⟨HBS6.out, HM16.out, ⟨_, hnB, HM6.out⟩, hne1, hne2, hne3⟩, HKC.out⟩
end Go.Proofs.Ytaondmaebgicgaa
