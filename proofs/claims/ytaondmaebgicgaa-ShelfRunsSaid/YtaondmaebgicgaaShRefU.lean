/- The document's Use walked. -/
import Derived.Test.YtaondmaebgicgaaShRefP
namespace Go.Proofs.Ytaondmaebgicgaa
open Go Go.RowKit
set_option maxRecDepth 20000
set_option linter.unusedSimpArgs false
set_option linter.unusedVariables false

theorem ret_sh {fn : Func} {p u : Tmp} {R : Ending → World → Prop} {a : Act} {w : World} (g : Nat) (ad : Option Addr) (n cap last : Nat) (v : Value) (h : fn.results = #[.cell p 50, .tmp u]) (hp : a.tmps.getD p undef = .pointer (some ⟨g, 0, none⟩)) (hv : a.tmps.getD u undef = v)
    (hr : hasRow w ⟨g, 0, none⟩ 2 = true) (hc : rowAt w ⟨g, 0, none⟩ 2 = shC ad n cap last) (hd : a.defers = []) (hR : R (.returned (.tuple #[.agg (shC ad n cap last), v])) w) : bodyPost Try.prog fn R .ret a w :=
  ret_cell_tmp g (shC ad n cap last) v h hp hv agg_dshelf (by rw [cellsOf_dshelf]; exact hr) (by rw [cellsOf_dshelf]; exact hc) hd hR
set_option maxHeartbeats 4000000 in
theorem refUse_no (W : List GKept) (a : Option Addr) (cap last : Nat) (hcap : W.length ≤ cap) (c : GCookie) (now : Int) (hW : W.length ≤ 1000) (w : World) (hin : ListIn dkCod w a W 0) (hf : findW W c = none) :
    Calls Try.prog 29 #[.agg (shC a W.length cap last), .agg (cookieC c), .int .i64 now] w (DocGives W last (.bool false) w) := by
  obtain ⟨POST, hpost⟩ : ∃ POST : Ending → World → Prop, DocGives W last (.bool false) w = POST := ⟨_, rfl⟩
  rw [hpost]
  have HPOST := Lib.hid hpost
  have HIN := Lib.hid hin
  have HAT : Hid (∀ w', ListIn dkCod w' a W 0 → Calls Try.prog 26 #[.agg (shC a W.length cap last), .agg (cookieC c)] w' fun e w'' => e = .returned (.int .i64 (-1)) ∧ Below w'.heap.size w' w'') := fun w' h => by
    have := refAt_any W a cap last c hW w' h
    unfold atW at this
    rw [hf] at this
    exact this
  clear hin hpost hf
  go_enter Try.func29, Try.ntmps29
  go_wp2_with (go_at_call 26; (with_reducible refine (HAT.out _ (HIN.out.below (by repeat (first | exact Below.refl _ _ | assumption | refine below_grown ?_ (by first | omega | (simp [go_sem]; done) | (simp [go_sem] <;> omega)) _ | refine Below.alloc ?_ (by first | omega | (simp [go_sem]; done) | (simp [go_sem] <;> omega)) _ | refine below_bytesW ?_ (by first | omega | (simp [go_sem]; done) | (simp [go_sem] <;> omega)) _ | refine Below.drew ?_ | refine below_drewN ?_ _)))).mono ?_); rintro e w1 ⟨rfl, hb1⟩; obtain ⟨p1, rfl⟩ := grown_of hb1; clear hb1)
  have hb : Below w.heap.size w (grown (((w.alloc (.cells (shC a W.length cap last) 50)).alloc (.cells (cookieC c) 31)).alloc (.cells (shC none 0 0 0) 50)) p1) := (by repeat (first | exact Below.refl _ _ | assumption | refine below_grown ?_ (by first | omega | (simp [go_sem]; done) | (simp [go_sem] <;> omega)) _ | refine Below.alloc ?_ (by first | omega | (simp [go_sem]; done) | (simp [go_sem] <;> omega)) _ | refine below_bytesW ?_ (by first | omega | (simp [go_sem]; done) | (simp [go_sem] <;> omega)) _ | refine Below.drew ?_ | refine below_drewN ?_ _))
  refine ret_sh (w.heap.size + 1 + 1) a W.length cap last (.bool false) rfl rfl rfl (by simp [go_sem]) (by simp [go_sem]) rfl ?_
  rw [← HPOST.out]
  have hb2 := below_setRow hb (b := w.heap.size + 1 + 1) (by omega) (shC a W.length cap last)
  exact ⟨a, cap, rfl, hcap, HIN.out.below hb2, hb2⟩
theorem dk_one {w : World} {g n cap : Nat} {xs : List GKept} {Q : Nat → Prop} {v : Value} (h : Own dkCod Q w v xs) (hne : xs ≠ []) : ∃ g cap, v = .slice (some ⟨g, 0, none⟩) xs.length cap ∧ xs.length ≤ cap ∧ Q g ∧ g < w.heap.size ∧ ListAt dkCod w g 0 xs := by
  rcases h.form with ⟨_, h0⟩ | ⟨g, cap, h1, h2, h3, h4, h5, _⟩
  · exact absurd h0 hne
  · exact ⟨g, cap, h1, h2, h3, h4, h5⟩
theorem keptV_set (k : GKept) (now : Int) (h : (Lit.int .i64 now).wf = true) : (keptV k).setIfInBounds 27 (.int .i64 now) = keptV (useC k.1 now h, k.2) := by
  unfold keptV
  rw [← kept_use]
  simp
theorem hr_var {w : World} {b : Nat} {cs : List Value} (h : Var w b cs) (j : Nat) (v : Value) (hj : cs[j]? = some v) : w.cell? ⟨b, j, none⟩ = some v := h.cellAt hj
set_option maxRecDepth 100000 in
set_option maxHeartbeats 4000000 in
theorem refUse_yes (W : List GKept) (hA : Apart W) (a : Option Addr) (cap last : Nat) (c : GCookie) (now : Int) (hnow : (Lit.int .i64 now).wf = true) (hW : W.length ≤ 1000) (w : World) (hin : ListIn dkCod w a W 0) (k : GKept) (hf : findW W c = some k) :
    Calls Try.prog 29 #[.agg (shC a W.length cap last), .agg (cookieC c), .int .i64 now] w (DocGives (replW W c (useC k.1 now hnow, k.2)) last (.bool true) w) := by
  obtain ⟨POST, hpost⟩ : ∃ POST : Ending → World → Prop, DocGives (replW W c (useC k.1 now hnow, k.2)) last (.bool true) w = POST := ⟨_, rfl⟩
  rw [hpost]
  have HPOST := Lib.hid hpost
  have HIN := Lib.hid hin
  obtain ⟨hi, hat, hik⟩ := atW_some hf
  have HRS := Lib.hid (repl_set (x := (useC k.1 now hnow, k.2)) hA hf)
  have HAT : Hid (∀ w', ListIn dkCod w' a W 0 → Calls Try.prog 26 #[.agg (shC a W.length cap last), .agg (cookieC c)] w' fun e w'' => e = .returned (.int .i64 (idxW W c : Nat)) ∧ Below w'.heap.size w' w'') := fun w' h => by
    have := refAt_any W a cap last c hW w' h
    rw [hat] at this
    exact this
  generalize idxW W c = i at *
  clear hin hpost hf hat hA
  have HIK := Lib.hid hik
  clear hik
  obtain ⟨g, o, rfl, hlo, hhi, hls⟩ := HIN.out.resolve_left (fun h => by subst h; exact absurd hi (Nat.not_lt_zero _))
  have HLS := Lib.hid hls
  clear hls
  go_enter Try.func29, Try.ntmps29
  go_upto_region 4 with (go_at_call 26; (with_reducible refine (HAT.out _ (ListIn.below HIN.out (by repeat (first | exact Below.refl _ _ | assumption | refine below_grown ?_ (by first | omega | (simp [go_sem]; done) | (simp [go_sem] <;> omega)) _ | refine Below.alloc ?_ (by first | omega | (simp [go_sem]; done) | (simp [go_sem] <;> omega)) _ | refine below_bytesW ?_ (by first | omega | (simp [go_sem]; done) | (simp [go_sem] <;> omega)) _ | refine Below.drew ?_ | refine below_drewN ?_ _)))).mono ?_); rintro e w1 ⟨rfl, hb1⟩; obtain ⟨p1, rfl⟩ := grown_of hb1; clear hb1)
  have hb : Below w.heap.size w (grown (((w.alloc (.cells (shC (some ⟨g, o, none⟩) W.length cap last) 50)).alloc (.cells (cookieC c) 31)).alloc (.cells (shC none 0 0 0) 50)) p1) := (by repeat (first | exact Below.refl _ _ | assumption | refine below_grown ?_ (by first | omega | (simp [go_sem]; done) | (simp [go_sem] <;> omega)) _ | refine Below.alloc ?_ (by first | omega | (simp [go_sem]; done) | (simp [go_sem] <;> omega)) _ | refine below_bytesW ?_ (by first | omega | (simp [go_sem]; done) | (simp [go_sem] <;> omega)) _ | refine Below.drew ?_ | refine below_drewN ?_ _))
  have hv3 : Var (grown (((w.alloc (.cells (shC (some ⟨g, o, none⟩) W.length cap last) 50)).alloc (.cells (cookieC c) 31)).alloc (.cells (shC none 0 0 0) 50)) p1) w.heap.size (shL (some ⟨g, o, none⟩) W.length cap last) := (((Var.new w _ _ rfl rfl).alloc _).alloc _).grown _
  have hv6 : Var (grown (((w.alloc (.cells (shC (some ⟨g, o, none⟩) W.length cap last) 50)).alloc (.cells (cookieC c) 31)).alloc (.cells (shC none 0 0 0) 50)) p1) (w.heap.size + 1 + 1) (shL none 0 0 0) := (Var.new _ _ _ rfl (by simp)).grown _
  change Code.wp _ _ _ _ (grown (((w.alloc (.cells (shC (some ⟨g, o, none⟩) W.length cap last) 50)).alloc (.cells (cookieC c) 31)).alloc (.cells (shC none 0 0 0) 50)) p1)
  generalize (grown (((w.alloc (.cells (shC (some ⟨g, o, none⟩) W.length cap last) 50)).alloc (.cells (cookieC c) 31)).alloc (.cells (shC none 0 0 0) 50)) p1) = w5 at *
  have hz5 := hb.size
  have c30 : w5.cell? ⟨w.heap.size, 0, none⟩ = some (.slice (some ⟨g, o, none⟩) W.length cap) := hv3.cellAt rfl
  have o3 : isOld w.heap.size w5 = true := isOld_iff.2 hv3.lt
  have hl6 := hv6.lt
  have hl3 := hv3.lt
  have HB := Lib.hid hb
  have HV3 := Lib.hid hv3
  have HV6 := Lib.hid hv6
  have hne : W ≠ [] := by rintro rfl; exact absurd hi (Nat.not_lt_zero _)
  have HO5 : Hid (Own dkCod (From w5.heap.size) (w5.alloc (Obj.cells #[] 73)) (.slice (some ⟨w5.heap.size, 0, none⟩) 0 0) []) := Own.made0 (Nat.le_refl _) rfl
  clear hb hv3 hv6
  go_upto_region 5 with (at_builtin; refine wpList_append_list rfl dkCod (.tmp 17) (.tmp 19) 48 rfl rfl (From w5.heap.size) _ _ [] rfl HO5.out _ _ _ _ W rfl rfl (HLS.out.below (HB.out.alloc (Nat.le_of_lt (by omega)) _)) (by simp [dkCod]; omega) (by simp; omega) (by show _ ≤ _; simp) ?_; intro v' w9 ho1 hb1; rw [List.nil_append] at ho1; obtain ⟨g9, c9, rfl, hc9, hq9, hl9, hls9⟩ := dk_one (w := w9) (g := 0) (n := 0) (cap := 0) ho1 hne; have HO9 := Lib.hid ho1; have HK9 := Lib.hid (((Keeps.of_below ((Below.refl w5.heap.size w5).alloc (Nat.le_refl _) _)).trans hb1)); obtain ⟨r1, q1⟩ := dkRow hls9 i hi; rw [Nat.zero_add] at r1 q1; have o9 : isOld g9 w9 = true := isOld_iff.2 hl9; clear ho1 hb1 hls9)
  rw [HIK.out] at q1
  have hii : (i : Int) < (W.length : Int) := by omega
  have hz9 := HK9.out.size
  go_upto_region 7 with fail
  have hn : ∀ {b : Nat}, b < w5.heap.size → ¬ From w5.heap.size b := fun h h' => absurd (show w5.heap.size ≤ _ from h') (by omega)
  rw [keptV_set k now hnow]
  have hw1 : Keeps (fun j => j = w9.heap.size) w9 (w9.alloc (Obj.cells (keptV (useC k.1 now hnow, k.2)) 73)) := Keeps.of_below ((Below.refl w9.heap.size w9).alloc (Nat.le_refl _) _)
  have hv10 : Var (w9.alloc (Obj.cells (keptV (useC k.1 now hnow, k.2)) 73)) w9.heap.size (keptR (useC k.1 now hnow, k.2)) := Var.new w9 _ _ rfl rfl
  have ho11 : Own dkCod (From w5.heap.size) (w9.alloc (Obj.cells (keptV (useC k.1 now hnow, k.2)) 73)) (.slice (some ⟨g9, 0, none⟩) W.length c9) W := HO9.out.alloc _
  have HW1 := Lib.hid (HK9.out.trans (hw1.sub (fun j e => by show w5.heap.size ≤ j; omega)))
  have HV10 := Lib.hid hv10
  have HO11 := Lib.hid ho11
  clear hw1 hv10 ho11 r1 q1
  generalize (w9.alloc (Obj.cells (keptV (useC k.1 now hnow, k.2)) 73)) = w11 at *
  have k1 : hasRow w11 ⟨w9.heap.size, 0, none⟩ 30 = true := HV10.out.hasRow (keptR_length _)
  have k2 : rowAt w11 ⟨w9.heap.size, 0, none⟩ 30 = keptV (useC k.1 now hnow, k.2) := HV10.out.rowAt (keptR_length _)
  obtain ⟨w12, hst, hl12, hk12, hq12, hg12⟩ := store_mid HO11.out i hi (useC k.1 now hnow, k.2)
  have HK12 := Lib.hid (HW1.out.trans (hk12.sub (fun j e => by show w5.heap.size ≤ j; rw [e]; exact hq9)))
  have HL12 := Lib.hid hl12
  have hv312 := HV3.out.keeps HK12.out (hn hl3)
  have hv612 := HV6.out.keeps HK12.out (hn hl6)
  have c31 : w12.cell? ⟨w.heap.size, 1, none⟩ = some (.int .i64 (last : Int)) := hv312.cellAt rfl
  have h6 : hasVar w12 (w.heap.size + 1 + 1) 2 = true := hv612.has rfl
  clear hl12 hk12 hv312 hv612 c30 o3 o9
  go_wp2
  have hbe : Below w.heap.size w w12 := HB.out.trans (HK12.out.below (fun j hj => ⟨by omega, fun h => absurd (show w5.heap.size ≤ j from h) (by omega)⟩))
  refine ret_sh (w.heap.size + 1 + 1) (some ⟨g9, 0, none⟩) W.length c9 last (.bool true) rfl rfl rfl (by simp [go_sem, h6]) (by simp [go_sem, h6]) rfl ?_
  rw [← HPOST.out, HRS.out]
  have hb2 := below_setRow hbe (b := w.heap.size + 1 + 1) (by omega) (shC (some ⟨g9, 0, none⟩) W.length c9 last)
  refine ⟨some ⟨g9, 0, none⟩, c9, by rw [List.length_set], by rw [List.length_set]; exact hc9, .inr ⟨g9, 0, rfl, Nat.zero_le _, by rw [setRow_size']; exact hg12, ?_⟩, hb2⟩
  intro j u hj
  have hg6 : g9 ≠ w.heap.size + 1 + 1 := by have : w5.heap.size ≤ g9 := hq9; omega
  rw [World.cell?_of_block (a := ⟨g9, 0 + j, none⟩) (setRow_other w12 (w.heap.size + 1 + 1) g9 _ hg6)]
  exact HL12.out j u hj
end Go.Proofs.Ytaondmaebgicgaa
