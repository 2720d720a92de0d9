/- The walk of the statement SuffixGrows. -/
import Derived.Test.YtmfjabpmhkechaaGreatDoorSufGrL
namespace Go.Proofs.YtmfjabpmhkechaaGreatDoor
open Go Go.RowKit
set_option maxRecDepth 20000
set_option linter.unusedSimpArgs false
set_option linter.unusedVariables false

set_option maxRecDepth 100000 in
set_option maxHeartbeats 8000000 in
theorem sufGrows_cons (R : List GRule) (x s : List UInt8) (hx : x.length ≤ 1048576) (hs : s.length ≤ 1048576) (a : Option Addr) (ca la : Nat) (hR : R.length ≤ maxLen) (hr : ∀ r ∈ R, (Lit.int .i64 r.1).wf = true ∧ r.2.length ≤ maxLen) (m : Int) (w : World) (hin : ListIn ruleCod w a R la) (hm : HasMax m w) (htz : HasTz w) (hd : HasDec w) (hR0 : R ≠ [])
    (hcase : greatB R (parseH s) = false ∧ x.length ≤ 400 ∧ s.length ≤ 400 ∧ parseE s = 0) :
    Calls Tryz.prog 7 #[.slice a R.length ca, .string ⟨x.toArray⟩, .string ⟨s.toArray⟩] w fun e w' => e = .returned (.bool true) ∧ Below w.heap.size w w' := by
  unfold maxLen at hR
  have hxm : x.length ≤ maxLen := Nat.le_trans hx (by decide)
  have HIN := Lib.hid hin
  have HP : Hid (∀ w, Calls Tryz.prog 18 #[.string ⟨s.toArray⟩] w fun e w' => e = .returned (.tuple #[.agg (hostC (parseH s)), .int .i64 (parseE s)]) ∧ Below w.heap.size w w') := fun w => refParse_any s (by omega) w
  have HG : Hid (∀ w, ListIn ruleCod w a R la → Calls Tryz.prog 9 #[.slice a R.length ca, .agg (hostC (parseH s))] w fun e w' => e = .returned (.bool (greatB R (parseH s))) ∧ Below w.heap.size w w') := fun w y => great_any R (parseH s) a ca la (by omega) w y
  have hnm := parseH_name s
  generalize parseH s = H at *
  generalize parseE s = E at *
  obtain ⟨hg, hx4, hs4, hE0⟩ := hcase
  subst hE0
  rw [hg] at HG
  obtain ⟨g1, g2, g3⟩ := great_no hg
  have hx5 : (x.length : Int) ≤ 400 := by omega
  have hs5 : (s.length : Int) ≤ 400 := by omega
  have HN : Hid (∀ w, ListIn ruleCod w a R la → HasMax m w → HasTz w → HasDec w → Calls Tryz.prog 10 #[.slice a R.length ca] w (TabGives R w)) := fun w x y z v => new_any R a ca la (by omega) (fun r q => ⟨g1 r q, (hr r q).1⟩) m w x y z v
  have HN2 : Hid (∀ w a2 c2 l2, ListIn ruleCod w a2 (R ++ [(1, x)]) l2 → HasMax m w → HasTz w → HasDec w → Calls Tryz.prog 10 #[.slice a2 (R.length + 1) c2] w (TabGives (R ++ [(1, x)]) w)) := fun w a2 c2 l2 y z u v => by
    have := new_any (R ++ [(1, x)]) a2 c2 l2 (by simp; omega) (fun r q => by
      rcases List.mem_append.1 q with q | q
      · exact ⟨g1 r q, (hr r q).1⟩
      · rw [List.mem_singleton] at q; subst q; exact ⟨hx4, rfl⟩) m w y z u v
    rw [List.length_append] at this
    exact this
  have H1 : Hid (∀ bt w, TabOk R bt w → HasMax m w → HasTz w → HasDec w → Calls Tryz.prog 11 #[.pointer (some ⟨bt, 0, none⟩), .agg (hostC H)] w fun e w' => e = .returned (.int .i64 (sufN R H : Nat)) ∧ Below w.heap.size w w') := fun bt w x y z v => suffix_tab R H (by omega) bt m w x y z v
  have H2 : Hid (∀ bt w, TabOk (R ++ [(1, x)]) bt w → HasMax m w → HasTz w → HasDec w → Calls Tryz.prog 11 #[.pointer (some ⟨bt, 0, none⟩), .agg (hostC H)] w fun e w' => e = .returned (.int .i64 (sufN (R ++ [(1, x)]) H : Nat)) ∧ Below w.heap.size w w') := fun bt w x y z v => suffix_tab _ H (by omega) bt m w x y z v
  have hfin := grow_plain R x hxm H
  have HNM : Hid (∀ w, Calls Tryz.prog 20 #[.string ⟨x.toArray⟩] w fun e w' => e = .returned (.agg (hostC (nmH x hxm))) ∧ Below w.heap.size w w') := fun w => name_any x hxm w
  have HL : Hid (∀ w, Calls Tryz.prog 22 #[.agg (hostC (nmH x hxm))] w (Gives strCod (labelsL (nmH x hxm)) w)) := fun w => refLabels_any _ (by show x.length ≤ _; omega) w
  have HFIN := Lib.hid hfin
  have hb1 := sufN_le R H
  have hb2 := sufN_le (R ++ [(1, x)]) H
  have hl9 := labels_len (h := H) (by omega)
  have hv1 : sufN R H ≤ 254 := by omega
  have hv2 : sufN (R ++ [(1, x)]) H ≤ 254 := by omega
  clear g1 g3 hr hin hg hfin hb1 hb2 hl9
  generalize hv2E : sufN (R ++ [(1, x)]) H = v2 at *
  generalize sufN R H = v1 at *
  clear hv2E
  generalize labelsL (nmH x hxm) = LL at *
  generalize nmH x hxm = D at *
  go_enter Tryz.func7, Tryz.ntmps7
  go_upto_region 4 with (first
    | (go_at_call 8; refine (sufAlive_any m _ (by repeat (first | exact hm | apply HasMax.grown | apply HasMax.alloc | apply HasMax.drew)) (by repeat (first | exact htz | apply HasTz.grown | apply HasTz.alloc | apply HasTz.drew)) (by repeat (first | exact hd | apply HasDec.grown | apply HasDec.alloc | apply HasDec.drew))).mono ?_; rintro e w1 ⟨rfl, hb1⟩; obtain ⟨p1, rfl⟩ := grown_of hb1; clear hb1)
    | (go_at_call 18; (with_reducible refine (HP.out _).mono ?_); intro e w3 he; obtain ⟨rfl, hb3⟩ := he; have HB3 := Lib.hid (bel_up (w := w) (by repeat (first | exact Below.refl _ _ | assumption | refine below_grown ?_ (by first | omega | (simp [go_sem]; done) | (simp [go_sem] <;> omega)) _ | refine Below.alloc ?_ (by first | omega | (simp [go_sem]; done) | (simp [go_sem] <;> omega)) _ | refine below_bytesW ?_ (by first | omega | (simp [go_sem]; done) | (simp [go_sem] <;> omega)) _ | refine Below.drew ?_ | refine below_drewN ?_ _)) hb3); clear hb3))
  have hs3 := HB3.out.size
  have HV7 : Hid (Var (w3.alloc (Obj.cells (hostC H) 26)) w3.heap.size (hostL H)) := Var.new _ _ _ rfl rfl
  have HB4 : Hid (Below w.heap.size w (w3.alloc (Obj.cells (hostC H) 26))) := HB3.out.alloc hs3 _
  have hs4' : (w3.alloc (Obj.cells (hostC H) 26)).heap.size = w3.heap.size + 1 := by simp
  generalize (w3.alloc (Obj.cells (hostC H) 26)) = w4 at *
  have k30 : hasRow w4 ⟨w3.heap.size, 0, none⟩ 18 = true := HV7.out.hasRow (hostL_len _)
  have k31 : rowAt w4 ⟨w3.heap.size, 0, none⟩ 18 = hostC H := HV7.out.rowAt (hostL_len _)
  have i30 : isOld w3.heap.size w4 = true := isOld_iff.2 (by omega)
  go_upto_region 6 with (go_at_call 9; (with_reducible refine (HG.out _ (ListIn.below HIN.out HB4.out)).mono ?_); intro e w5 he; obtain ⟨rfl, hb5⟩ := he; have HB5 := Lib.hid hb5; clear hb5)
  have hs5' := HB5.out.size
  have HBW5 : Hid (Below w.heap.size w w5) := HB4.out.trans (HB5.out.mono (by omega))
  have HV75 := Lib.hid (HV7.out.below HB5.out)
  clear k30 k31 i30
  have k30 : hasRow w5 ⟨w3.heap.size, 0, none⟩ 18 = true := HV75.out.hasRow (hostL_len _)
  have k31 : rowAt w5 ⟨w3.heap.size, 0, none⟩ 18 = hostC H := HV75.out.rowAt (hostL_len _)
  have i30 : isOld w3.heap.size w5 = true := isOld_iff.2 (by omega)
  have hm5 := hm.below HBW5.out
  have ht5 := htz.below HBW5.out
  have hd5 := hd.below HBW5.out
  have HIN5 := Lib.hid (HIN.out.below HBW5.out)
  clear hm htz hd
  have hm := hm5
  have htz := ht5
  have hd := hd5
  go_cut [9] (fun s9 wx => s9 = .int .i64 (v1 : Nat) ∧ Below w5.heap.size w5 wx)
  case first =>
    go_region_law (first | (go_simp; (first | ((with_reducible refine (HN.out _ (ListIn.below HIN5.out (by repeat (first | exact Below.refl _ _ | assumption | refine below_grown ?_ (by first | omega | (simp [go_sem]; done) | (simp [go_sem] <;> omega)) _ | refine Below.alloc ?_ (by first | omega | (simp [go_sem]; done) | (simp [go_sem] <;> omega)) _ | refine below_bytesW ?_ (by first | omega | (simp [go_sem]; done) | (simp [go_sem] <;> omega)) _ | refine Below.drew ?_ | refine below_drewN ?_ _))) (by repeat (first | exact hm | apply HasMax.grown | apply HasMax.alloc | apply HasMax.drew)) (by repeat (first | exact htz | apply HasTz.grown | apply HasTz.alloc | apply HasTz.drew)) (by repeat (first | exact hd | apply HasDec.grown | apply HasDec.alloc | apply HasDec.drew))).mono ?_); intro e w6 hgv; obtain ⟨bt, rfl, htab, hb6⟩ := TabOk.of hgv; have HTAB := Lib.hid htab; obtain ⟨p6, rfl⟩ := grown_of hb6; clear hgv hb6 htab) | ((with_reducible refine (H1.out _ _ (TabOk.below HTAB.out (by repeat (first | exact Below.refl _ _ | assumption | refine below_grown ?_ (by first | omega | (simp [go_sem]; done) | (simp [go_sem] <;> omega)) _ | refine Below.alloc ?_ (by first | omega | (simp [go_sem]; done) | (simp [go_sem] <;> omega)) _ | refine below_bytesW ?_ (by first | omega | (simp [go_sem]; done) | (simp [go_sem] <;> omega)) _ | refine Below.drew ?_ | refine below_drewN ?_ _))) (by repeat (first | exact hm | apply HasMax.grown | apply HasMax.alloc | apply HasMax.drew)) (by repeat (first | exact htz | apply HasTz.grown | apply HasTz.alloc | apply HasTz.drew)) (by repeat (first | exact hd | apply HasDec.grown | apply HasDec.alloc | apply HasDec.drew))).mono ?_); rintro e w1 ⟨rfl, hb1⟩; obtain ⟨p1, rfl⟩ := grown_of hb1; clear hb1)); dsimp only))
    all_goals
      go_wp2_with fail
      go_meet
      exact ⟨rfl, (by repeat (first | exact Below.refl _ _ | assumption | refine below_grown ?_ (by first | omega | (simp [go_sem]; done) | (simp [go_sem] <;> omega)) _ | refine Below.alloc ?_ (by first | omega | (simp [go_sem]; done) | (simp [go_sem] <;> omega)) _ | refine below_bytesW ?_ (by first | omega | (simp [go_sem]; done) | (simp [go_sem] <;> omega)) _ | refine Below.drew ?_ | refine below_drewN ?_ _))⟩
  case rest =>
  obtain ⟨rfl, hbw6⟩ := hcut
  have HBW6 := Lib.hid hbw6
  have hs6 := hbw6.size
  have HV7c := Lib.hid (HV75.out.below hbw6)
  have HINc := Lib.hid (HIN5.out.below hbw6)
  have hmc := hm5.below hbw6
  have htc := ht5.below hbw6
  have hdc := hd5.below hbw6
  clear hbw6 k30 k31 i30 hm htz hd hm5 ht5 hd5
  have hm := hmc
  have htz := htc
  have hd := hdc
  have k30 : hasRow wc ⟨w3.heap.size, 0, none⟩ 18 = true := HV7c.out.hasRow (hostL_len _)
  have k31 : rowAt wc ⟨w3.heap.size, 0, none⟩ 18 = hostC H := HV7c.out.rowAt (hostL_len _)
  have i30 : isOld w3.heap.size wc = true := isOld_iff.2 (by omega)
  go_upto_region 7 with fail
  go_cut [10] (fun s10 wx => s10 = .int .i64 (v2 : Nat) ∧ Below wc.heap.size wc wx)
  case first =>
    have L2 : Hid (ListAt ruleCod ((wc.alloc (Obj.cells #[] 50)).alloc (Obj.cells #[.int .i64 1, .string ⟨x.toArray⟩] 50)) (wc.heap.size + 1) 0 [(1, x)]) := listAt_new _ _ [(1, x)] _ rfl (by simp)
    have L3 : Hid (ListAt ruleCod ((wc.alloc (Obj.cells #[.int .i64 1, .string ⟨x.toArray⟩] 50)).alloc (Obj.cells #[] 50)) wc.heap.size 0 [(1, x)]) := (listAt_new wc _ [(1, x)] _ rfl rfl).below ((Below.refl _ _).alloc (Nat.le_refl _) _)
    have O2 : Hid (((wc.alloc (Obj.cells #[] 50)).alloc (Obj.cells #[.int .i64 1, .string ⟨x.toArray⟩] 50)).heap[wc.heap.size]? = some (Obj.cells #[] 50)) := (((Below.refl _ _).alloc (Nat.le_refl _) _).block wc.heap.size (by simp)).trans (heap_alloc_new wc _)
    have O3 : Hid (((wc.alloc (Obj.cells #[.int .i64 1, .string ⟨x.toArray⟩] 50)).alloc (Obj.cells #[] 50)).heap[wc.heap.size + 1]? = some (Obj.cells #[] 50)) := by
      have := heap_alloc_new (wc.alloc (Obj.cells #[.int .i64 1, .string ⟨x.toArray⟩] 50)) (Obj.cells #[] 50)
      rw [World.size_alloc] at this
      exact this
    obtain ⟨b, o, rfl, hlo, hhi, hat⟩ := HIN.out.resolve_left hR0
    have HATc := Lib.hid ((hat.below HBW5.out).below HBW6.out)
    clear hat
    go_region_law (first
      | (refine step_append_list rfl ruleCod (.tmp 39) (.tmp 40) 22 rfl rfl (Also _ _) _ _ [] rfl (by first | exact own0 _ [] (heap_alloc_new wc _) rfl | exact own0 _ [] O2.out rfl | exact own0 _ [] O3.out rfl) _ _ _ _ R rfl rfl (HATc.out.below (by repeat (first | exact Below.refl _ _ | assumption | refine below_grown ?_ (by first | omega | (simp [go_sem]; done) | (simp [go_sem] <;> omega)) _ | refine Below.alloc ?_ (by first | omega | (simp [go_sem]; done) | (simp [go_sem] <;> omega)) _ | refine below_bytesW ?_ (by first | omega | (simp [go_sem]; done) | (simp [go_sem] <;> omega)) _ | refine Below.drew ?_ | refine below_drewN ?_ _))) (by simp [ruleCod]; omega) (by simp [ruleCod]; omega) (.inr (Nat.le_refl _)) ?_; intro v8 w8 ho8 hb8; have HO8 := Lib.hid ho8; have HB8 := Lib.hid hb8; have hsz8 := hb8.size; have hw8 : Below wc.heap.size wc w8 := Below.trans (by repeat (first | exact Below.refl _ _ | assumption | refine below_grown ?_ (by first | omega | (simp [go_sem]; done) | (simp [go_sem] <;> omega)) _ | refine Below.alloc ?_ (by first | omega | (simp [go_sem]; done) | (simp [go_sem] <;> omega)) _ | refine below_bytesW ?_ (by first | omega | (simp [go_sem]; done) | (simp [go_sem] <;> omega)) _ | refine Below.drew ?_ | refine below_drewN ?_ _)) (hb8.below (B := wc.heap.size) (fun j hj => ⟨by first | omega | (simp; omega), by rintro (h | h) <;> first | omega | (simp at h <;> omega)⟩)); have e30 : hasRow w8 ⟨w3.heap.size, 0, none⟩ 18 = true := (HV7c.out.below hw8).hasRow (hostL_len _); have e31 : rowAt w8 ⟨w3.heap.size, 0, none⟩ 18 = hostC H := (HV7c.out.below hw8).rowAt (hostL_len _); have e32 : isOld w3.heap.size w8 = true := isOld_iff.2 (HV7c.out.below hw8).lt; simp at hsz8; clear ho8 hb8)
      | (refine step_append_list rfl ruleCod (.tmp 41) (.tmp 44) 22 rfl rfl (Also _ _) _ _ R rfl (HO8.out.alloc _) _ 0 _ _ [(1, x)] rfl rfl (listAt_new _ _ [_] _ rfl (by first | rfl | (simp; done))) (by simp [ruleCod]; omega) (by simp [ruleCod]; omega) (.inr (by simp; omega)) ?_; intro v9 w9 ho9 hb9; obtain ⟨a9, c9, rfl, hc9, hl9⟩ := ho9.slice (B := 0) (fun _ _ => Nat.zero_le _); have HL9 := Lib.hid hl9; have hsz9 := hb9.size; have hw9 : Below wc.heap.size wc w9 := Below.trans (by repeat (first | exact Below.refl _ _ | assumption | refine below_grown ?_ (by first | omega | (simp [go_sem]; done) | (simp [go_sem] <;> omega)) _ | refine Below.alloc ?_ (by first | omega | (simp [go_sem]; done) | (simp [go_sem] <;> omega)) _ | refine below_bytesW ?_ (by first | omega | (simp [go_sem]; done) | (simp [go_sem] <;> omega)) _ | refine Below.drew ?_ | refine below_drewN ?_ _)) (hb9.below (B := wc.heap.size) (fun j hj => ⟨by first | omega | (simp; omega), by rintro (h | h) <;> first | omega | (simp at h <;> omega)⟩)); have f30 : hasRow w9 ⟨w3.heap.size, 0, none⟩ 18 = true := (HV7c.out.below hw9).hasRow (hostL_len _); have f31 : rowAt w9 ⟨w3.heap.size, 0, none⟩ 18 = hostC H := (HV7c.out.below hw9).rowAt (hostL_len _); have f32 : isOld w3.heap.size w9 = true := isOld_iff.2 (HV7c.out.below hw9).lt; have hm9 := hm.below hw9; have ht9 := htz.below hw9; have hd9 := hd.below hw9; clear ho9 hb9 hl9)
      | (refine step_append_list rfl ruleCod (.tmp 41) (.tmp 44) 22 rfl rfl (Also _ _) _ _ R rfl HO8.out _ 0 _ _ [(1, x)] rfl rfl (L2.out.drew.keeps HB8.out (by first | (simp; done) | (simp; omega)) (by rintro (h | h) <;> first | omega | (simp at h <;> omega))) (by simp [ruleCod]; omega) (by simp [ruleCod]; omega) (.inr (by simp; omega)) ?_; intro v9 w9 ho9 hb9; obtain ⟨a9, c9, rfl, hc9, hl9⟩ := ho9.slice (B := 0) (fun _ _ => Nat.zero_le _); have HL9 := Lib.hid hl9; have hsz9 := hb9.size; have hw9 : Below wc.heap.size wc w9 := Below.trans (by repeat (first | exact Below.refl _ _ | assumption | refine below_grown ?_ (by first | omega | (simp [go_sem]; done) | (simp [go_sem] <;> omega)) _ | refine Below.alloc ?_ (by first | omega | (simp [go_sem]; done) | (simp [go_sem] <;> omega)) _ | refine below_bytesW ?_ (by first | omega | (simp [go_sem]; done) | (simp [go_sem] <;> omega)) _ | refine Below.drew ?_ | refine below_drewN ?_ _)) (hb9.below (B := wc.heap.size) (fun j hj => ⟨by first | omega | (simp; omega), by rintro (h | h) <;> first | omega | (simp at h <;> omega)⟩)); have f30 : hasRow w9 ⟨w3.heap.size, 0, none⟩ 18 = true := (HV7c.out.below hw9).hasRow (hostL_len _); have f31 : rowAt w9 ⟨w3.heap.size, 0, none⟩ 18 = hostC H := (HV7c.out.below hw9).rowAt (hostL_len _); have f32 : isOld w3.heap.size w9 = true := isOld_iff.2 (HV7c.out.below hw9).lt; have hm9 := hm.below hw9; have ht9 := htz.below hw9; have hd9 := hd.below hw9; clear ho9 hb9 hl9)
      | (refine step_append_list rfl ruleCod (.tmp 41) (.tmp 44) 22 rfl rfl (Also _ _) _ _ R rfl HO8.out _ 0 _ _ [(1, x)] rfl rfl (L3.out.drew.keeps HB8.out (by first | (simp; done) | (simp; omega)) (by rintro (h | h) <;> first | omega | (simp at h <;> omega))) (by simp [ruleCod]; omega) (by simp [ruleCod]; omega) (.inr (by simp; omega)) ?_; intro v9 w9 ho9 hb9; obtain ⟨a9, c9, rfl, hc9, hl9⟩ := ho9.slice (B := 0) (fun _ _ => Nat.zero_le _); have HL9 := Lib.hid hl9; have hsz9 := hb9.size; have hw9 : Below wc.heap.size wc w9 := Below.trans (by repeat (first | exact Below.refl _ _ | assumption | refine below_grown ?_ (by first | omega | (simp [go_sem]; done) | (simp [go_sem] <;> omega)) _ | refine Below.alloc ?_ (by first | omega | (simp [go_sem]; done) | (simp [go_sem] <;> omega)) _ | refine below_bytesW ?_ (by first | omega | (simp [go_sem]; done) | (simp [go_sem] <;> omega)) _ | refine Below.drew ?_ | refine below_drewN ?_ _)) (hb9.below (B := wc.heap.size) (fun j hj => ⟨by first | omega | (simp; omega), by rintro (h | h) <;> first | omega | (simp at h <;> omega)⟩)); have f30 : hasRow w9 ⟨w3.heap.size, 0, none⟩ 18 = true := (HV7c.out.below hw9).hasRow (hostL_len _); have f31 : rowAt w9 ⟨w3.heap.size, 0, none⟩ 18 = hostC H := (HV7c.out.below hw9).rowAt (hostL_len _); have f32 : isOld w3.heap.size w9 = true := isOld_iff.2 (HV7c.out.below hw9).lt; have hm9 := hm.below hw9; have ht9 := htz.below hw9; have hd9 := hd.below hw9; clear ho9 hb9 hl9)
      | (go_simp; ((with_reducible refine (HN2.out _ _ _ _ HL9.out hm9 ht9 hd9).mono ?_); intro e w6 hgv; obtain ⟨bt2, rfl, htab, hb6⟩ := TabOk.of hgv; have HTAB2 := Lib.hid htab; obtain ⟨p6, rfl⟩ := grown_of hb6; clear hgv hb6 htab); dsimp only)
      | (go_simp; ((with_reducible refine (H2.out _ _ (TabOk.below HTAB2.out (by repeat (first | exact Below.refl _ _ | assumption | refine below_grown ?_ (by first | omega | (simp [go_sem]; done) | (simp [go_sem] <;> omega)) _ | refine Below.alloc ?_ (by first | omega | (simp [go_sem]; done) | (simp [go_sem] <;> omega)) _ | refine below_bytesW ?_ (by first | omega | (simp [go_sem]; done) | (simp [go_sem] <;> omega)) _ | refine Below.drew ?_ | refine below_drewN ?_ _))) (by repeat (first | exact hm9 | apply HasMax.grown | apply HasMax.alloc | apply HasMax.drew)) (by repeat (first | exact ht9 | apply HasTz.grown | apply HasTz.alloc | apply HasTz.drew)) (by repeat (first | exact hd9 | apply HasDec.grown | apply HasDec.alloc | apply HasDec.drew))).mono ?_); rintro e w1 ⟨rfl, hb1⟩; obtain ⟨p1, rfl⟩ := grown_of hb1; clear hb1); dsimp only))
    all_goals
      go_wp2_with fail
      go_meet
      have hz9 := hw9.size
      exact ⟨rfl, (by repeat (first | exact Below.refl _ _ | assumption | refine below_grown ?_ (by first | omega | (simp [go_sem]; done) | (simp [go_sem] <;> omega)) _ | refine Below.alloc ?_ (by first | omega | (simp [go_sem]; done) | (simp [go_sem] <;> omega)) _ | refine below_bytesW ?_ (by first | omega | (simp [go_sem]; done) | (simp [go_sem] <;> omega)) _ | refine Below.drew ?_ | refine below_drewN ?_ _))⟩
  case rest =>
  obtain ⟨rfl, hbw7⟩ := hcut
  have HB7 : Hid (Below w.heap.size w wc) := HBW5.out.trans ((HBW6.out.mono HBW5.out.size).trans (hbw7.mono (Nat.le_trans HBW5.out.size HBW6.out.size)))
  clear hbw7 k30 k31 i30 hm htz hd hmc htc hdc
  have hs7 := HB7.out.size
  rcases HFIN.out with rfl | ⟨hlt, hll⟩
  · clear HFIN
    go_wp2
    go_ret
    have hbe := HB7.out
    exact ⟨by first | rfl | exact ret_bool (by simp), (by repeat (first | exact Below.refl _ _ | assumption | refine below_grown ?_ (by first | omega | (simp [go_sem]; done) | (simp [go_sem] <;> omega)) _ | refine Below.alloc ?_ (by first | omega | (simp [go_sem]; done) | (simp [go_sem] <;> omega)) _ | refine below_bytesW ?_ (by first | omega | (simp [go_sem]; done) | (simp [go_sem] <;> omega)) _ | refine Below.drew ?_ | refine below_drewN ?_ _))⟩
  · have h1 : ((v2 : Int) == (v1 : Int)) = false := by rw [beq_eq_false_iff_ne]; omega
    have h2 : (v1 : Int) < (v2 : Int) := by omega
    have h3 : ((v2 : Int) == (LL.length : Int)) = true := by rw [beq_iff_eq]; omega
    have h4 : ¬ (v2 : Int) ≤ (v1 : Int) := by omega
    clear HFIN hlt hll
    go_wp2_with (first
      | (go_at_call 20; (with_reducible refine (HNM.out _).mono ?_); rintro e w1 ⟨rfl, hb1⟩; obtain ⟨p1, rfl⟩ := grown_of hb1; clear hb1)
      | (go_at_call 22; (with_reducible refine (HL.out _).mono ?_); intro e w1 hg; obtain ⟨a1, c1, rfl, hc1, hb1, hl1⟩ := hg; obtain ⟨p1, rfl⟩ := grown_of hb1; clear hb1))
    go_ret
    have hbe := HB7.out
    exact ⟨by first | rfl | exact ret_bool (by simp), (by repeat (first | exact Below.refl _ _ | assumption | refine below_grown ?_ (by first | omega | (simp [go_sem]; done) | (simp [go_sem] <;> omega)) _ | refine Below.alloc ?_ (by first | omega | (simp [go_sem]; done) | (simp [go_sem] <;> omega)) _ | refine below_bytesW ?_ (by first | omega | (simp [go_sem]; done) | (simp [go_sem] <;> omega)) _ | refine Below.drew ?_ | refine below_drewN ?_ _))⟩
end Go.Proofs.YtmfjabpmhkechaaGreatDoor
