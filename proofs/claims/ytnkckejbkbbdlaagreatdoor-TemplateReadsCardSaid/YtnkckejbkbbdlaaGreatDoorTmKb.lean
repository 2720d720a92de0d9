/- Merged: TplKb. -/
import Derived.Test.YtnkckejbkbbdlaaGreatDoorTmK
namespace Go.Proofs.YtnkckejbkbbdlaaGreatDoor
section
open Go Go.RowKit
set_option maxRecDepth 20000
set_option linter.unusedSimpArgs false
set_option linter.unusedVariables false

set_option maxRecDepth 100000 in
set_option maxHeartbeats 8000000 in
theorem cookie_fine (B b : Nat) (T : List GTpl) (C : List GCh) (hTl : T.length ≤ 8) (hCl : C.length ≤ 6) (hCv : ∀ c ∈ C, c.vals.length ≤ 6 ∧ ∀ x ∈ c.vals, x.length ≤ 100000) (line : Int) (aw : Option Addr) (cw : Nat) (W : List (List UInt8)) (hWc : W.length ≤ cw) (hsum : ((W.map (fun w => w.length + 1)).sum : Nat) ≤ 1000000) (hk : W.length = 4) (hx : ∀ x ∈ W, x.length ≤ 100000) (m : Int) (w : World) (hm : HasMax m w) (hb : b < B) (hB : B ≤ w.heap.size) (hS : RdS w B b T C line (.slice aw W.length cw)) (hw : ListIn strCod w aw W 0) (hn : nameT (W[1]'(by omega)) = true) (hA0 : T.any (fun r => r.name == (W[1]'(by omega))) = false) :
    Calls Tryz.prog 35 #[.pointer (some ⟨b, 0, none⟩)] w (CookiePost B b T C line (.slice aw W.length cw) W w) := by
  obtain ⟨POST, hpost⟩ : ∃ POST : Ending → World → Prop, CookiePost B b T C line (.slice aw W.length cw) W w = POST := ⟨_, rfl⟩
  rw [hpost]
  have HPOST := Lib.hid hpost
  have hWl : W.length ≤ 1000000 := by omega
  obtain ⟨vT, vC, R, hV, hoT, hoC, hCs, hVs⟩ := hS
  obtain ⟨aT, cT, rfl, hcT, hlT⟩ := hoT.slice (B := B) (fun _ h => from_le h)
  obtain ⟨aC, cC, rfl, hcC, hlC⟩ := hoC.slice (B := B) (fun _ h => from_le h)
  have hRl : R.length ≤ 6 := by rw [hCs.1]; exact hCl
  have hn1 : nth W 1 = W[1]'(by omega) := by unfold nth; rw [List.getD_eq_getElem?_getD, List.getElem?_eq_getElem (by omega)]; rfl
  have hn2 : nth W 2 = W[2]'(by omega) := by unfold nth; rw [List.getD_eq_getElem?_getD, List.getElem?_eq_getElem (by omega)]; rfl
  have hn3 : nth W 3 = W[3]'(by omega) := by unfold nth; rw [List.getD_eq_getElem?_getD, List.getElem?_eq_getElem (by omega)]; rfl
  have HNM : Hid (∀ bb w', Below w.heap.size w w' → Var w' bb [.pointer (some ⟨b, 0, none⟩)] → Calls Tryz.prog 55 #[.pointer (some ⟨b, 0, none⟩), .func (.func 60) #[] #[.pointer (some ⟨bb, 0, none⟩)]] w' (NamedPost (W[1]'(by omega)) (T.any (fun r => r.name == (W[1]'(by omega)))) line (colW W 1) w')) := fun bb w' h1 h2 => ckNamed_any b bb _ _ line aw cw W hWc hWl hsum (by omega) (by have := hx _ (List.getElem_mem (l := W) (n := 1) (by omega)); omega) T (by omega) aT cT w' (hV.below h1) (hw.below h1) rfl h2 ((hlT.mono (Nat.zero_le _)).below h1)
  have HTX : Hid (∀ w', Below w.heap.size w w' → Calls Tryz.prog 59 #[.pointer (some ⟨b, 0, none⟩), .int .i64 3] w' (TextPost (W[3]'(by omega)) (faultP 131 line (colW W 3)) w')) := fun w' h1 => text_any b _ _ line aw cw W hWc hWl hsum 3 (by omega) (by have := hx _ (List.getElem_mem (l := W) (n := 3) (by omega)); omega) w' (hV.below h1) (hw.below h1)
  have HFL : Hid (∀ (code : Int) (k : Nat), k ≤ W.length → ∀ w', Below w.heap.size w w' → Calls Tryz.prog 36 #[.pointer (some ⟨b, 0, none⟩), .int .i64 code, .int .i64 (k : Int)] w' fun e w'' => e = faultP code line (colW W k) ∧ w' = w'') := fun code k hk w' h1 => fail_any b _ _ line aw cw W hWc hWl hsum code k hk w' (hV.below h1) (hw.below h1)
  have HPU : Hid (∀ w', HasMax m w' → Calls Tryz.prog 63 #[.string ⟨(W[2]'(by omega)).toArray⟩] w' fun e w'' => e = .returned (.tuple #[.agg (urlV (urlOut (W[2]'(by omega))).2.1 (urlOut (W[2]'(by omega))).2.2.1 (urlOut (W[2]'(by omega))).2.2.2.1 (urlOut (W[2]'(by omega))).2.2.2.2), .int .i64 (urlOut (W[2]'(by omega))).1]) ∧ Below w'.heap.size w' w'') := fun w' h => parseU_any _ (by have := hx _ (List.getElem_mem (l := W) (n := 2) (by omega)); omega) m w' h
  have hck : ckLine W T C line = (if nameT (W[1]'(by omega)) = false then (221, 1, zeroTp) else if T.any (fun t => t.name == (W[1]'(by omega))) = true then (52, 1, zeroTp) else if (urlOut (W[2]'(by omega))).1 ≠ 0 then ((urlOut (W[2]'(by omega))).1, 2, zeroTp) else if (unwL (W[3]'(by omega))).2 = false then (131, 3, zeroTp) else if textE C (unwL (W[3]'(by omega))).1 ≠ 0 then (textE C (unwL (W[3]'(by omega))).1, 3, zeroTp) else if T.length = 8 then (53, 0, zeroTp) else (0, 0, ⟨W[1]'(by omega), (urlOut (W[2]'(by omega))).2, (unwL (W[3]'(by omega))).1, line⟩) : Int × Nat × GTpl) := by
    unfold ckLine
    rw [hn1, hn2, hn3]
  have HCK := Lib.hid hck
  have HCV := Lib.hid hCv
  clear hCv
  have HV := Lib.hid hV
  have HOT := Lib.hid hoT
  have HOC := Lib.hid hoC
  have HCS := Lib.hid hCs
  have HVS := Lib.hid hVs
  have HLC := Lib.hid (hlC.mono (Nat.zero_le _))
  have HMX := Lib.hid hm
  have hux := unwL_len (W[3]'(by omega))
  have hx3 := hx _ (List.getElem_mem (l := W) (n := 3) (by omega))
  obtain ⟨g, o, rfl, _, hgw, hat⟩ := hw.resolve_left (fun h => by rw [h] at hk; cases hk)
  have HC2 : Hid (w.cell? ⟨g, o + 2, none⟩ = some (.string ⟨(W[2]'(by omega)).toArray⟩)) := strAt hat 2 (by omega)
  have hbw : b < w.heap.size := hV.lt
  have hk2 : (2 : Int) < (W.length : Int) := by omega
  have hmf : ∀ (fn : Fn) (first cap : Array Value) (w : World), (Instr.makeFunc fn first cap).run Tryz.prog w = .ok (.func fn first cap) w := fun _ _ _ _ => rfl
  have HKP : Hid (∀ w', Below w.heap.size w w' → Keeps (Also b B) w w') := fun w' h => Keeps.of_below h
  clear hpost hck hn1 hn2 hn3 hV hoT hoC hCs hlC hlT hw hVs hat hm
  generalize hx1 : W[1]'(by omega) = x at *
  generalize hx2 : W[2]'(by omega) = y at *
  generalize hx4 : W[3]'(by omega) = z at *
  generalize hA : T.any (fun r => r.name == x) = A at *
  subst hA0
  have c1 : w.cell? ⟨b, 2, none⟩ = some (.int .i64 line) := HV.out.cell 2 (by simp)
  have ib : isOld b w = true := isOld_iff.2 hbw
  have hk4 : 4 ≤ W.length := by omega
  clear hx1 hx2 hx4 hk
  · have hck2 : ckLine W T C line = (if (urlOut y).1 ≠ 0 then ((urlOut y).1, 2, zeroTp) else if (unwL z).2 = false then (131, 3, zeroTp) else if textE C (unwL z).1 ≠ 0 then (textE C (unwL z).1, 3, zeroTp) else if T.length = 8 then (53, 0, zeroTp) else (0, 0, ⟨x, (urlOut y).2, (unwL z).1, line⟩) : Int × Nat × GTpl) := by rw [HCK.out, if_neg (by rw [hn]; decide), if_neg (by decide)]
    have HK2 := Lib.hid hck2
    have HNM2 : Hid (∀ bb w', Below w.heap.size w w' → Var w' bb [.pointer (some ⟨b, 0, none⟩)] → Calls Tryz.prog 55 #[.pointer (some ⟨b, 0, none⟩), .func (.func 60) #[] #[.pointer (some ⟨bb, 0, none⟩)]] w' fun e w'' => e = .returned (.string ⟨x.toArray⟩) ∧ Below w'.heap.size w' w'') := fun bb w' h1 h2 => (HNM.out bb w' h1 h2).mono fun e w'' h => by
      obtain ⟨h, hb⟩ := h
      rcases h with ⟨h, _⟩ | ⟨_, h, _⟩ | ⟨_, _, h⟩
      · rw [hn] at h; cases h
      · cases h
      · exact ⟨h, hb⟩
    clear hck2 HCK HNM
    go_enter Tryz.func35, Tryz.ntmps35
    go_upto_region 1 with fail
    have HB1 : Hid (Below w.heap.size w (w.alloc (Obj.cells #[.pointer (some ⟨b, 0, none⟩)] 48))) := (by repeat (first | exact Below.refl _ _ | assumption | refine below_grown ?_ (by first | omega | (simp [go_sem]; done) | (simp [go_sem] <;> omega)) _ | refine Below.alloc ?_ (by first | omega | (simp [go_sem]; done) | (simp [go_sem] <;> omega)) _ | refine below_bytesW ?_ (by first | omega | (simp [go_sem]; done) | (simp [go_sem] <;> omega)) _ | refine Below.drew ?_ | refine below_drewN ?_ _))
    have HV1 : Hid (Var (w.alloc (Obj.cells #[.pointer (some ⟨b, 0, none⟩)] 48)) w.heap.size [.pointer (some ⟨b, 0, none⟩)]) := Var.new w _ _ rfl rfl
    have hsz1 : (w.alloc (Obj.cells #[.pointer (some ⟨b, 0, none⟩)] 48)).heap.size = w.heap.size + 1 := by simp
    generalize w.alloc (Obj.cells #[.pointer (some ⟨b, 0, none⟩)] 48) = w1 at *
    have HVB1 := Lib.hid (HV.out.below HB1.out)
    have hbb1 := HB1.out
    have HS : Hid (∀ w', Below w1.heap.size w1 w' → w'.cell? ⟨w.heap.size, 0, none⟩ = some (.pointer (some ⟨b, 0, none⟩)) ∧ w'.cell? ⟨b, 2, none⟩ = some (.int .i64 line)) := fun w' h => ⟨(HV1.out.below h).cell 0 (by simp), (HVB1.out.below h).cell 2 (by simp)⟩
    have i1 : isOld w.heap.size w1 = true := isOld_iff.2 (by omega)
    have i2 : isOld b w1 = true := isOld_iff.2 (by omega)
    clear c1 ib
    go_cut [2] (fun s2 wx => ∃ b2, s2 = .pointer (some ⟨b2, 0, none⟩) ∧ w.heap.size < b2 ∧ Var wx w.heap.size [.pointer (some ⟨b, 0, none⟩)] ∧ Var wx b2 (tpR ⟨x, zeroU, [], line⟩) ∧ Below w.heap.size w wx)
    case first =>
      go_region_held3 (fun w' => w'.cell? ⟨w.heap.size, 0, none⟩ = some (.pointer (some ⟨b, 0, none⟩)) ∧ w'.cell? ⟨b, 2, none⟩ = some (.int .i64 line)) (first | exact HS.out _ (below_setRow (by repeat (first | exact Below.refl _ _ | assumption | refine below_grown ?_ (by first | omega | (simp [go_sem]; done) | (simp [go_sem] <;> omega)) _ | refine Below.alloc ?_ (by first | omega | (simp [go_sem]; done) | (simp [go_sem] <;> omega)) _ | refine below_bytesW ?_ (by first | omega | (simp [go_sem]; done) | (simp [go_sem] <;> omega)) _ | refine Below.drew ?_ | refine below_drewN ?_ _)) (by omega) _) | exact HS.out _ (by repeat (first | exact Below.refl _ _ | assumption | refine below_grown ?_ (by first | omega | (simp [go_sem]; done) | (simp [go_sem] <;> omega)) _ | refine Below.alloc ?_ (by first | omega | (simp [go_sem]; done) | (simp [go_sem] <;> omega)) _ | refine below_bytesW ?_ (by first | omega | (simp [go_sem]; done) | (simp [go_sem] <;> omega)) _ | refine Below.drew ?_ | refine below_drewN ?_ _))) ((go_at_call 55; (with_reducible refine (HNM2.out _ _ (by repeat (first | exact Below.refl _ _ | assumption | refine below_grown ?_ (by first | omega | (simp [go_sem]; done) | (simp [go_sem] <;> omega)) _ | refine Below.alloc ?_ (by first | omega | (simp [go_sem]; done) | (simp [go_sem] <;> omega)) _ | refine below_bytesW ?_ (by first | omega | (simp [go_sem]; done) | (simp [go_sem] <;> omega)) _ | refine Below.drew ?_ | refine below_drewN ?_ _)) (by first | exact HV1.out.drew | exact (HV1.out.alloc _).drew | exact HV1.out.drew.alloc _)).mono ?_); rintro e w1 ⟨rfl, hb1⟩; obtain ⟨p1, rfl⟩ := grown_of hb1; clear hb1))
      all_goals
        go_wp2_with fail
        go_meet
        first
          | exact ⟨_, rfl, by omega, (HV1.out.drew.grown p1).alloc _, Var.new _ _ _ rfl (by first | (simp [go_sem]; done) | omega | (simp [go_sem]; omega)), (by repeat (first | exact Below.refl _ _ | assumption | refine below_grown ?_ (by first | omega | (simp [go_sem]; done) | (simp [go_sem] <;> omega)) _ | refine Below.alloc ?_ (by first | omega | (simp [go_sem]; done) | (simp [go_sem] <;> omega)) _ | refine below_bytesW ?_ (by first | omega | (simp [go_sem]; done) | (simp [go_sem] <;> omega)) _ | refine Below.drew ?_ | refine below_drewN ?_ _))⟩
          | exact ⟨_, rfl, by omega, ((HV1.out.alloc _).drew.grown p1).setRow_other _ _ (by omega), ((Var.new w1 _ _ rfl hsz1.symm).drew.grown p1).setRow_same _ rfl, below_setRow (by repeat (first | exact Below.refl _ _ | assumption | refine below_grown ?_ (by first | omega | (simp [go_sem]; done) | (simp [go_sem] <;> omega)) _ | refine Below.alloc ?_ (by first | omega | (simp [go_sem]; done) | (simp [go_sem] <;> omega)) _ | refine below_bytesW ?_ (by first | omega | (simp [go_sem]; done) | (simp [go_sem] <;> omega)) _ | refine Below.drew ?_ | refine below_drewN ?_ _)) (by omega) _⟩
          | exact ⟨_, rfl, by omega, ((HV1.out.drew.alloc _).grown p1).setRow_other _ _ (by omega), ((Var.new w1.drew _ _ rfl hsz1.symm).grown p1).setRow_same _ rfl, below_setRow (by repeat (first | exact Below.refl _ _ | assumption | refine below_grown ?_ (by first | omega | (simp [go_sem]; done) | (simp [go_sem] <;> omega)) _ | refine Below.alloc ?_ (by first | omega | (simp [go_sem]; done) | (simp [go_sem] <;> omega)) _ | refine below_bytesW ?_ (by first | omega | (simp [go_sem]; done) | (simp [go_sem] <;> omega)) _ | refine Below.drew ?_ | refine below_drewN ?_ _)) (by omega) _⟩
          | (trace_state; sorry)
    case rest =>
      obtain ⟨b2, rfl, hb2, hvb, hv2, hbc⟩ := hcut
      have hszc := hbc.size
      have hb2c := hv2.lt
      have HBC := Lib.hid hbc
      have HVBc := Lib.hid hvb
      have HV2c := Lib.hid hv2
      have HVc := Lib.hid (HV.out.below hbc)
      have ccb : wc.cell? ⟨w.heap.size, 0, none⟩ = some (.pointer (some ⟨b, 0, none⟩)) := hvb.cell 0 (by simp)
      have cc3 : wc.cell? ⟨b, 3, none⟩ = some (.slice (some ⟨g, o, none⟩) W.length cw) := HVc.out.cell 3 (by simp)
      have cc2 : wc.cell? ⟨g, o + 2, none⟩ = some (.string ⟨y.toArray⟩) := (World.cell?_of_block (a := ⟨g, _, none⟩) (hbc.block g hgw)).trans HC2.out
      have ibb : isOld w.heap.size wc = true := isOld_iff.2 hvb.lt
      have ib2 : isOld b wc = true := isOld_iff.2 (by omega)
      have ig : isOld g wc = true := isOld_iff.2 (by omega)
      have hm := HMX.out.below hbc
      clear hvb hv2 hbc
      obtain ⟨⟨e, u⟩, hU⟩ : ∃ z, urlOut y = z := ⟨_, rfl⟩
      have HPU2 : Hid (∀ w', HasMax m w' → Calls Tryz.prog 63 #[.string ⟨y.toArray⟩] w' fun e' w'' => e' = .returned (.tuple #[.agg (urlV u.1 u.2.1 u.2.2.1 u.2.2.2), .int .i64 e]) ∧ Below w'.heap.size w' w'') := fun w' h => by have := HPU.out w' h; rw [hU] at this; exact this
      have HK3 : Hid (ckLine W T C line = (if e ≠ 0 then (e, 2, zeroTp) else if (unwL z).2 = false then (131, 3, zeroTp) else if textE C (unwL z).1 ≠ 0 then (textE C (unwL z).1, 3, zeroTp) else if T.length = 8 then (53, 0, zeroTp) else (0, 0, ⟨x, u, (unwL z).1, line⟩) : Int × Nat × GTpl)) := by
        show _ = _
        rw [HK2.out, hU]
      clear HPU hU HK2 HNM2
      by_cases he : e = 0
      · subst he
        have HK4 : Hid (ckLine W T C line = (if (unwL z).2 = false then (131, 3, zeroTp) else if textE C (unwL z).1 ≠ 0 then (textE C (unwL z).1, 3, zeroTp) else if T.length = 8 then (53, 0, zeroTp) else (0, 0, ⟨x, u, (unwL z).1, line⟩) : Int × Nat × GTpl)) := by
          show _ = _
          rw [HK3.out, if_neg (show ¬ ((0 : Int) ≠ 0) by decide)]
        clear HK3
        go_upto_region 5 with (go_at_call 63; (with_reducible refine (HPU2.out _ (by repeat (first | exact hm | apply HasMax.grown | apply HasMax.alloc | apply HasMax.drew))).mono ?_); rintro e w1 ⟨rfl, hb1⟩; obtain ⟨p1, rfl⟩ := grown_of hb1; clear hb1)
        obtain ⟨wu, hwu⟩ : ∃ wu, (grown wc p1).alloc (Obj.cells (urlV u.1 u.2.1 u.2.2.1 u.2.2.2) 39) = wu := ⟨_, rfl⟩
        have hbu : Below wc.heap.size wc wu := by rw [← hwu]; exact (by repeat (first | exact Below.refl _ _ | assumption | refine below_grown ?_ (by first | omega | (simp [go_sem]; done) | (simp [go_sem] <;> omega)) _ | refine Below.alloc ?_ (by first | omega | (simp [go_sem]; done) | (simp [go_sem] <;> omega)) _ | refine below_bytesW ?_ (by first | omega | (simp [go_sem]; done) | (simp [go_sem] <;> omega)) _ | refine Below.drew ?_ | refine below_drewN ?_ _))
        have HVU : Hid (Var wu (wc.heap.size + p1.os.size) (urlR u.1 u.2.1 u.2.2.1 u.2.2.2)) := by rw [← hwu]; exact Var.new _ _ _ rfl (by simp [go_sem])
        rw [hwu]
        clear hwu
        obtain ⟨b3, hb3⟩ : ∃ b3, wc.heap.size + p1.os.size = b3 := ⟨_, rfl⟩
        have hb3c : wc.heap.size ≤ b3 := by omega
        rw [hb3] at HVU
        simp only [hb3]
        clear hb3
        have hbwu : Below w.heap.size w wu := HBC.out.trans (hbu.mono hszc)
        have HVBu := Lib.hid (HVBc.out.below hbu)
        have HV2u := Lib.hid (HV2c.out.below hbu)
        have HVu := Lib.hid (HVc.out.below hbu)
        have hszu := hbwu.size
        have hb3u := HVU.out.lt
        have k1 : hasRow wu ⟨b3, 0, none⟩ 21 = true := HVU.out.hasRow (urlR_length _ _ _ _)
        have k2 : rowAt wu ⟨b3, 0, none⟩ 21 = urlV u.1 u.2.1 u.2.2.1 u.2.2.2 := HVU.out.rowAt (urlR_length _ _ _ _)
        have k3 : wu.cell? ⟨w.heap.size, 0, none⟩ = some (.pointer (some ⟨b, 0, none⟩)) := HVBu.out.cell 0 (by simp)
        have k4 : hasVar wu b2 24 = true := HV2u.out.has (tpR_length _)
        have k5 : wu.frozen? ⟨b2, 22, none⟩ = false := HV2u.out.free 22
        have k6 : isOld w.heap.size wu = true := isOld_iff.2 HVBu.out.lt
        have k7 : isOld b2 wu = true := isOld_iff.2 HV2u.out.lt
        have k8 : isOld b3 wu = true := isOld_iff.2 hb3u
        have k9 : isOld b wu = true := isOld_iff.2 HVu.out.lt
        clear ccb cc3 cc2 ibb ib2 ig hm HPU2 hbu
        obtain ⟨⟨s, ok⟩, hun⟩ : ∃ q, unwL z = q := ⟨_, rfl⟩
        rw [hun] at HK4 hux
        dsimp only at hux
        have HT : Hid (∀ w', Below w.heap.size w w' → Calls Tryz.prog 59 #[.pointer (some ⟨b, 0, none⟩), .int .i64 3] w' fun e w'' => ((ok = true ∧ e = .returned (.string ⟨s.toArray⟩)) ∨ (ok = false ∧ e = faultP 131 line (colW W 3))) ∧ Below w'.heap.size w' w'') := fun w' h => by have := HTX.out w' h; unfold TextPost at this; rw [hun] at this; exact this
        clear hun HTX
        cases ok
        · have HE : Hid (ckLine W T C line = (131, 3, zeroTp)) := by show _ = _; rw [HK4.out, if_pos rfl]
          have HT2 : Hid (∀ w', Below w.heap.size w w' → Calls Tryz.prog 59 #[.pointer (some ⟨b, 0, none⟩), .int .i64 3] w' fun e w'' => e = .panicked [{ v := .iface 24 (.agg (faultV 131 line (colW W 3))), recovered := false }] ∧ Below w'.heap.size w' w'') := fun w' h => (HT.out w' h).mono fun e w'' h => by
            rcases h with ⟨⟨h, _⟩ | ⟨_, h⟩, hb⟩
            · cases h
            · exact ⟨h, hb⟩
          clear HT HK4
          go_region_law (go_simp; go_at_call 59; (with_reducible refine (HT2.out _ (by repeat (first | exact Below.refl _ _ | assumption | refine below_grown ?_ (by first | omega | (simp [go_sem]; done) | (simp [go_sem] <;> omega)) _ | refine Below.alloc ?_ (by first | omega | (simp [go_sem]; done) | (simp [go_sem] <;> omega)) _ | refine below_bytesW ?_ (by first | omega | (simp [go_sem]; done) | (simp [go_sem] <;> omega)) _ | refine Below.drew ?_ | refine below_drewN ?_ _))).mono ?_); rintro e w1 ⟨rfl, hb1⟩; obtain ⟨p1, rfl⟩ := grown_of hb1; clear hb1; dsimp only; refine panicOut (w0 := w) (by refine ⟨rfl, ?_⟩; rw [← HPOST.out]; exact ⟨HKP.out _ (by repeat (first | exact Below.refl _ _ | assumption | refine below_grown ?_ (by first | omega | (simp [go_sem]; done) | (simp [go_sem] <;> omega)) _ | refine Below.alloc ?_ (by first | omega | (simp [go_sem]; done) | (simp [go_sem] <;> omega)) _ | refine below_bytesW ?_ (by first | omega | (simp [go_sem]; done) | (simp [go_sem] <;> omega)) _ | refine Below.drew ?_ | refine below_drewN ?_ _)), .inr ⟨by rw [HE.out]; show (131 : Int) ≠ 0; decide, by rw [HE.out]; rfl⟩⟩) ?_)
          all_goals trivial
        · have HT2 : Hid (∀ w', Below w.heap.size w w' → Calls Tryz.prog 59 #[.pointer (some ⟨b, 0, none⟩), .int .i64 3] w' fun e w'' => e = .returned (.string ⟨s.toArray⟩) ∧ Below w'.heap.size w' w'') := fun w' h => (HT.out w' h).mono fun e w'' h => by
            rcases h with ⟨⟨_, h⟩ | ⟨h, _⟩, hb⟩
            · exact ⟨h, hb⟩
            · cases h
          have HK5 : Hid (ckLine W T C line = (if textE C s ≠ 0 then (textE C s, 3, zeroTp) else if T.length = 8 then (53, 0, zeroTp) else (0, 0, ⟨x, u, s, line⟩) : Int × Nat × GTpl)) := by
            show _ = _
            rw [HK4.out, if_neg (show ¬ (true = false) by decide)]
          clear HT HK4
          have hsu : ∀ p, storeRow Tryz.prog (grown wu.drew p) 39 (.pointer (some ⟨b2, 1, none⟩)) (.agg (urlV u.1 u.2.1 u.2.2.1 u.2.2.2)) = .ok .skip ((grown wu.drew p).setRow b2 (tpV ⟨x, u, [], line⟩)) := fun p => store_url _ _ _ zeroU u _ _ (HV2u.out.drew.grown p)
          go_cut [2] (fun s2 w5 => s2 = .pointer (some ⟨b2, 0, none⟩) ∧ Below w.heap.size w w5 ∧ Var w5 w.heap.size [.pointer (some ⟨b, 0, none⟩)] ∧ Var w5 b2 (tpR ⟨x, u, s, line⟩))
          case first =>
            go_region_law (go_simp; go_at_call 59; (with_reducible refine (HT2.out _ (by repeat (first | exact Below.refl _ _ | assumption | refine below_grown ?_ (by first | omega | (simp [go_sem]; done) | (simp [go_sem] <;> omega)) _ | refine Below.alloc ?_ (by first | omega | (simp [go_sem]; done) | (simp [go_sem] <;> omega)) _ | refine below_bytesW ?_ (by first | omega | (simp [go_sem]; done) | (simp [go_sem] <;> omega)) _ | refine Below.drew ?_ | refine below_drewN ?_ _))).mono ?_); rintro e w1 ⟨rfl, hb1⟩; obtain ⟨p1, rfl⟩ := grown_of hb1; clear hb1; dsimp only)
            all_goals
              go_wp2_with fail
              go_meet
              first
                | exact ⟨rfl, (below_setRow (by repeat (first | exact Below.refl _ _ | assumption | refine below_grown ?_ (by first | omega | (simp [go_sem]; done) | (simp [go_sem] <;> omega)) _ | refine Below.alloc ?_ (by first | omega | (simp [go_sem]; done) | (simp [go_sem] <;> omega)) _ | refine below_bytesW ?_ (by first | omega | (simp [go_sem]; done) | (simp [go_sem] <;> omega)) _ | refine Below.drew ?_ | refine below_drewN ?_ _)) (by omega) _).setCell (by show w.heap.size ≤ b2; omega) _, ((HVBu.out.drew.grown p1).setRow_other _ _ (by omega)).setCell_other ⟨b2, 22, none⟩ _ (by show w.heap.size ≠ b2; omega), by have hh := (((HV2u.out.drew.grown p1).setRow_same (tpV ⟨x, u, [], line⟩) (cs' := tpR ⟨x, u, [], line⟩) rfl).setCell 22 (.string ⟨s.toArray⟩)); simp only [tpV, List.toList_toArray, tpR_set22] at hh; exact hh⟩
                | (trace_state; sorry)
          case rest =>
            obtain ⟨rfl, hb5, hv1, hv2⟩ := hcut
            obtain ⟨w5, rfl⟩ : ∃ w5, w5 = wc := ⟨_, rfl⟩
            have HB5 := Lib.hid hb5
            have HVB5 := Lib.hid hv1
            have HV25 := Lib.hid hv2
            have hs5 := hb5.size
            have hl25 := hv2.lt
            clear hb5 hv1 hv2 k1 k2 k3 k4 k5 k6 k7 k8 k9 hsu HVU HVBu HV2u HVu HVBc HV2c HVc HBC hbwu HT2
            clear hszu hb3u hb3c hb2c hszc
            have HV5 := Lib.hid (HV.out.below HB5.out)
            have HIN5 := Lib.hid (HLC.out.below HB5.out)
            have HCS5 := Lib.hid (HCS.out.below HB5.out)
            have hm5 := HMX.out.below HB5.out
            obtain ⟨ol, hol⟩ : ∃ ol, partsT C s = ol := ⟨_, rfl⟩
            have HPA : Hid (∀ w', HasMax m w' → ListIn chCod w' aC R 0 → Calls Tryz.prog 22 #[.string ⟨s.toArray⟩, .slice aC R.length cC] w' (Gives2 partCod (ol.getD []) ol.isSome w')) := fun w' h1 h2 => by
              rw [← hol]
              exact tparts_any C R HCS.out.names (by omega) aC cC s (by omega) m w' h1 h2
            have hll : (ol.getD []).length ≤ 300000 ∧ (∀ u ∈ usesT (ol.getD []), u < C.length) ∧ (∀ p ∈ ol.getD [], p.1.length ≤ 100000 ∧ (0 ≤ p.2 → p.2.toNat < C.length)) := by
              cases ol with
              | none => exact ⟨by simp, fun u hu => absurd hu (List.not_mem_nil), fun p hp => absurd hp (List.not_mem_nil)⟩
              | some l =>
                have h1 := partsT_ok hol
                exact ⟨by have := h1.1; simp; omega, usesT_lt hol, fun p hp => ⟨by have := (h1.2 p hp).1; omega, (h1.2 p hp).2⟩⟩
            have HTE : Hid (textE C s = if ol.isSome = false then 222 else if 24 < rowsGo C 1 (usesT (ol.getD [])) then 53 else if 2000 < lenGo C 0 (ol.getD []) then 54 else 0) := by
              show _ = _
              unfold textE
              rw [hol]
              cases ol <;> rfl
            clear hol
            generalize ol.getD [] = l at *
            generalize ol.isSome = ok0 at *
            have HS6 : Hid (∀ w', Below w5.heap.size w5 w' → w'.cell? ⟨w.heap.size, 0, none⟩ = some (.pointer (some ⟨b, 0, none⟩)) ∧ w'.cell? ⟨b, 1, none⟩ = some (.slice aC R.length cC) ∧ w'.cell? ⟨b2, 22, none⟩ = some (.string ⟨s.toArray⟩)) := fun w' h => ⟨(HVB5.out.below h).cell 0 (by simp), (HV5.out.below h).cell 1 (by simp), tp_cell22 (HV25.out.below h)⟩
            have hs61 := (HS6.out _ (Below.refl _ _)).1
            have hs62 := (HS6.out _ (Below.refl _ _)).2.1
            have hs63 := (HS6.out _ (Below.refl _ _)).2.2
            have hob : isOld b w5 = true := isOld_iff.2 HV5.out.lt
            have hobr : isOld w.heap.size w5 = true := isOld_iff.2 HVB5.out.lt
            have hob2 : isOld b2 w5 = true := isOld_iff.2 hl25
            have HHL := Lib.hid hll
            clear hll
            go_upto_region 6 with fail
            go_cut [5, 6] (fun s5 s6 wx => ∃ al cl, s5 = .slice al l.length cl ∧ s6 = .bool ok0 ∧ Below w5.heap.size w5 wx ∧ ListIn partCod wx al l 0)
            case first =>
              go_region_held3 (fun w' => w'.cell? ⟨w.heap.size, 0, none⟩ = some (.pointer (some ⟨b, 0, none⟩)) ∧ w'.cell? ⟨b, 1, none⟩ = some (.slice aC R.length cC) ∧ w'.cell? ⟨b2, 22, none⟩ = some (.string ⟨s.toArray⟩)) (exact HS6.out _ (by repeat (first | exact Below.refl _ _ | assumption | refine below_grown ?_ (by first | omega | (simp [go_sem]; done) | (simp [go_sem] <;> omega)) _ | refine Below.alloc ?_ (by first | omega | (simp [go_sem]; done) | (simp [go_sem] <;> omega)) _ | refine below_bytesW ?_ (by first | omega | (simp [go_sem]; done) | (simp [go_sem] <;> omega)) _ | refine Below.drew ?_ | refine below_drewN ?_ _))) ((go_at_call 22; (with_reducible refine (HPA.out _ (by repeat (first | exact hm5 | apply HasMax.grown | apply HasMax.alloc | apply HasMax.drew)) (HIN5.out.below (by repeat (first | exact Below.refl _ _ | assumption | refine below_grown ?_ (by first | omega | (simp [go_sem]; done) | (simp [go_sem] <;> omega)) _ | refine Below.alloc ?_ (by first | omega | (simp [go_sem]; done) | (simp [go_sem] <;> omega)) _ | refine below_bytesW ?_ (by first | omega | (simp [go_sem]; done) | (simp [go_sem] <;> omega)) _ | refine Below.drew ?_ | refine below_drewN ?_ _)))).mono ?_); rintro e w1 ⟨al, cl, rfl, hcl, hb1, hl1⟩; obtain ⟨p1, rfl⟩ := grown_of hb1; have HL6 := Lib.hid (hl1.mono (Nat.zero_le _)); clear hb1 hl1))
              all_goals
                go_wp2_with fail
                go_meet
                exact ⟨_, _, rfl, rfl, (by repeat (first | exact Below.refl _ _ | assumption | refine below_grown ?_ (by first | omega | (simp [go_sem]; done) | (simp [go_sem] <;> omega)) _ | refine Below.alloc ?_ (by first | omega | (simp [go_sem]; done) | (simp [go_sem] <;> omega)) _ | refine below_bytesW ?_ (by first | omega | (simp [go_sem]; done) | (simp [go_sem] <;> omega)) _ | refine Below.drew ?_ | refine below_drewN ?_ _)), HL6.out⟩
            case rest =>
              obtain ⟨al, cl, rfl, rfl, hb6, hl6⟩ := hcut
              obtain ⟨w6, rfl⟩ : ∃ w6, w6 = wc := ⟨_, rfl⟩
              have hs6 := hb6.size
              have HB6 : Hid (Below w.heap.size w w6) := HB5.out.trans (hb6.mono (by omega))
              have HL6 := Lib.hid hl6
              have HVB6 := Lib.hid (HVB5.out.below hb6)
              have HV26 := Lib.hid (HV25.out.below hb6)
              have HV6 := Lib.hid (HV5.out.below hb6)
              have HIN6 := Lib.hid (HIN5.out.below hb6)
              have HCS6 := Lib.hid (HCS5.out.below hb6)
              clear hb6 hl6 HB5 HVB5 HV25 HV5 HIN5 HCS5 HS6 hs61 hs62 hs63 hob hobr hob2 HPA hm5
              have n1 : w6.cell? ⟨w.heap.size, 0, none⟩ = some (.pointer (some ⟨b, 0, none⟩)) := HVB6.out.cell 0 (by simp)
              have n2 : w6.cell? ⟨b, 1, none⟩ = some (.slice aC R.length cC) := HV6.out.cell 1 (by simp)
              have n4 : isOld b w6 = true := isOld_iff.2 HV6.out.lt
              have n5 : isOld w.heap.size w6 = true := isOld_iff.2 HVB6.out.lt
              have n6 : isOld b2 w6 = true := isOld_iff.2 HV26.out.lt
              cases ok0
              · have HE : Hid (ckLine W T C line = (222, 3, zeroTp)) := by show _ = _; rw [HK5.out, HTE.out, if_pos rfl, if_pos (show (222 : Int) ≠ 0 by decide)]
                have HF : Hid (∀ w', Below w.heap.size w w' → Calls Tryz.prog 36 #[.pointer (some ⟨b, 0, none⟩), .int .i64 222, .int .i64 3] w' fun e' w'' => e' = .panicked [{ v := .iface 24 (.agg (faultV 222 line (colW W 3))), recovered := false }] ∧ w' = w'') := fun w' h => HFL.out 222 3 (by omega) w' h
                clear HK5 HTE
                go_wp2_with (go_at_call 36; (with_reducible refine (HF.out _ HB6.out).mono ?_); rintro e' w3 ⟨rfl, rfl⟩)
                refine ⟨rfl, ?_⟩
                rw [← HPOST.out]
                exact ⟨HKP.out _ HB6.out, .inr ⟨by rw [HE.out]; show (222 : Int) ≠ 0; decide, by rw [HE.out]; rfl⟩⟩
              · have HTE2 : Hid (textE C s = if 24 < rowsGo C 1 (usesT l) then 53 else if 2000 < lenGo C 0 l then 54 else 0) := by show _ = _; rw [HTE.out, if_neg (by decide)]
                clear HTE
                have hul := usesT_len l
                have hl3 := HHL.out.1
                have HUS : Hid (∀ al' cl' w', ListIn partCod w' al' l 0 → Calls Tryz.prog 23 #[.slice al' l.length cl'] w' (Gives natCod (usesT l) w')) := fun al' cl' w' h => uses_any l HHL.out.1 al' cl' w' h
                have HRO : Hid (∀ au cu w', ListIn chCod w' aC R 0 → ChsOk w' B R C → ListIn natCod w' au (usesT l) 0 → Calls Tryz.prog 24 #[.slice au (usesT l).length cu, .slice aC R.length cC] w' fun e w'' => e = .returned (.int .i64 (rowsGo C 1 (usesT l) : Nat)) ∧ w' = w'') := fun au cu w' h1 h2 h3 => rows_any C R B (usesT l) (by omega) HHL.out.2.1 (fun c hc => by have := (HCV.out c hc).1; omega) aC au cC cu w' h1 h2 h3
                have HLN : Hid (∀ al' cl' w', ListIn chCod w' aC R 0 → ChsOk w' B R C → ListIn partCod w' al' l 0 → Calls Tryz.prog 25 #[.slice al' l.length cl', .slice aC R.length cC] w' fun e w'' => e = .returned (.int .i64 (lenGo C 0 l : Nat)) ∧ Below w'.heap.size w' w'') := fun al' cl' w' h1 h2 h3 => length_any C R B l HHL.out.1 HHL.out.2.2 (fun c hc => ⟨by have := (HCV.out c hc).1; omega, (HCV.out c hc).2⟩) aC al' cC cl' w' h1 h2 h3
                generalize usesT l = us at *
                generalize rowsGo C 1 us = rw0 at *
                generalize lenGo C 0 l = ln0 at *
                go_upto_region 9 with fail
                have HS9 : Hid (∀ w', Below w6.heap.size w6 w' → w'.cell? ⟨w.heap.size, 0, none⟩ = some (.pointer (some ⟨b, 0, none⟩)) ∧ w'.cell? ⟨b, 1, none⟩ = some (.slice aC R.length cC)) := fun w' h => ⟨(HVB6.out.below h).cell 0 (by simp), (HV6.out.below h).cell 1 (by simp)⟩
                go_cut [50] (fun s50 wx => s50 = .bool (decide ((24 : Int) < (rw0 : Int))) ∧ Below w6.heap.size w6 wx)
                case first =>
                  go_region_held3 (fun w' => w'.cell? ⟨w.heap.size, 0, none⟩ = some (.pointer (some ⟨b, 0, none⟩)) ∧ w'.cell? ⟨b, 1, none⟩ = some (.slice aC R.length cC)) (exact HS9.out _ (by repeat (first | exact Below.refl _ _ | assumption | refine below_grown ?_ (by first | omega | (simp [go_sem]; done) | (simp [go_sem] <;> omega)) _ | refine Below.alloc ?_ (by first | omega | (simp [go_sem]; done) | (simp [go_sem] <;> omega)) _ | refine below_bytesW ?_ (by first | omega | (simp [go_sem]; done) | (simp [go_sem] <;> omega)) _ | refine Below.drew ?_ | refine below_drewN ?_ _))) (first
                    | (go_at_call 23; (with_reducible refine (HUS.out _ _ _ (HL6.out.below (by repeat (first | exact Below.refl _ _ | assumption | refine below_grown ?_ (by first | omega | (simp [go_sem]; done) | (simp [go_sem] <;> omega)) _ | refine Below.alloc ?_ (by first | omega | (simp [go_sem]; done) | (simp [go_sem] <;> omega)) _ | refine below_bytesW ?_ (by first | omega | (simp [go_sem]; done) | (simp [go_sem] <;> omega)) _ | refine Below.drew ?_ | refine below_drewN ?_ _)))).mono ?_); rintro e w1 ⟨au, cu, rfl, hcu, hb1, hl1⟩; obtain ⟨p1, rfl⟩ := grown_of hb1; have HU9 := Lib.hid (hl1.mono (Nat.zero_le _)); clear hb1 hl1)
                    | (go_at_call 24; (with_reducible refine (HRO.out _ _ _ (HIN6.out.below (by repeat (first | exact Below.refl _ _ | assumption | refine below_grown ?_ (by first | omega | (simp [go_sem]; done) | (simp [go_sem] <;> omega)) _ | refine Below.alloc ?_ (by first | omega | (simp [go_sem]; done) | (simp [go_sem] <;> omega)) _ | refine below_bytesW ?_ (by first | omega | (simp [go_sem]; done) | (simp [go_sem] <;> omega)) _ | refine Below.drew ?_ | refine below_drewN ?_ _))) (HCS6.out.below (by repeat (first | exact Below.refl _ _ | assumption | refine below_grown ?_ (by first | omega | (simp [go_sem]; done) | (simp [go_sem] <;> omega)) _ | refine Below.alloc ?_ (by first | omega | (simp [go_sem]; done) | (simp [go_sem] <;> omega)) _ | refine below_bytesW ?_ (by first | omega | (simp [go_sem]; done) | (simp [go_sem] <;> omega)) _ | refine Below.drew ?_ | refine below_drewN ?_ _))) (by repeat (first | with_reducible exact HU9.out | apply ListIn.grown))).mono ?_); rintro e w2 ⟨rfl, rfl⟩))
                  all_goals
                    go_wp2_with fail
                    go_meet
                    exact ⟨by first | rfl | simp, (by repeat (first | exact Below.refl _ _ | assumption | refine below_grown ?_ (by first | omega | (simp [go_sem]; done) | (simp [go_sem] <;> omega)) _ | refine Below.alloc ?_ (by first | omega | (simp [go_sem]; done) | (simp [go_sem] <;> omega)) _ | refine below_bytesW ?_ (by first | omega | (simp [go_sem]; done) | (simp [go_sem] <;> omega)) _ | refine Below.drew ?_ | refine below_drewN ?_ _))⟩
                case rest =>
                  obtain ⟨rfl, hb9⟩ := hcut
                  obtain ⟨w9, rfl⟩ : ∃ w9, w9 = wc := ⟨_, rfl⟩
                  have hs9 := hb9.size
                  have HB9 : Hid (Below w.heap.size w w9) := HB6.out.trans (hb9.mono (by omega))
                  have HL9 := Lib.hid (HL6.out.below hb9)
                  have HVB9 := Lib.hid (HVB6.out.below hb9)
                  have HV29 := Lib.hid (HV26.out.below hb9)
                  have HV9 := Lib.hid (HV6.out.below hb9)
                  have HIN9 := Lib.hid (HIN6.out.below hb9)
                  have HCS9 := Lib.hid (HCS6.out.below hb9)
                  clear hb9 HB6 HL6 HVB6 HV26 HV6 HIN6 HCS6 HS9 n1 n2 n4 n5 n6 HUS HRO
                  have n1 : w9.cell? ⟨w.heap.size, 0, none⟩ = some (.pointer (some ⟨b, 0, none⟩)) := HVB9.out.cell 0 (by simp)
                  have n2 : w9.cell? ⟨b, 1, none⟩ = some (.slice aC R.length cC) := HV9.out.cell 1 (by simp)
                  have n3 : w9.cell? ⟨b, 0, none⟩ = some (.slice aT T.length cT) := HV9.out.cell 0 (by simp)
                  have n4 : isOld b w9 = true := isOld_iff.2 HV9.out.lt
                  have n5 : isOld w.heap.size w9 = true := isOld_iff.2 HVB9.out.lt
                  have n6 : isOld b2 w9 = true := isOld_iff.2 HV29.out.lt
                  have HFF : Hid (∀ (code : Int) (k : Nat), k ≤ 3 → ∀ w', Below w.heap.size w w' → Calls Tryz.prog 36 #[.pointer (some ⟨b, 0, none⟩), .int .i64 code, .int .i64 (k : Int)] w' fun e' w'' => e' = .panicked [{ v := .iface 24 (.agg (faultV code line (colW W k))), recovered := false }] ∧ w' = w'') := fun code k hk' w' h => HFL.out code k (by omega) w' h
                  by_cases hrw : 24 < rw0
                  · have HE : Hid (ckLine W T C line = (53, 3, zeroTp)) := by show _ = _; rw [HK5.out, HTE2.out, if_pos hrw, if_pos (show (53 : Int) ≠ 0 by decide)]
                    have hd : decide ((24 : Int) < (rw0 : Int)) = true := decide_eq_true (by omega)
                    rw [hd]
                    clear hd
                    have HF : Hid (∀ w', Below w.heap.size w w' → Calls Tryz.prog 36 #[.pointer (some ⟨b, 0, none⟩), .int .i64 53, .int .i64 3] w' fun e' w'' => e' = .panicked [{ v := .iface 24 (.agg (faultV 53 line (colW W 3))), recovered := false }] ∧ w' = w'') := fun w' h => HFF.out 53 3 (by omega) w' h
                    clear HK5 HTE2 hrw
                    go_wp2_with (go_at_call 36; (with_reducible refine (HF.out _ HB9.out).mono ?_); rintro e' w3 ⟨rfl, rfl⟩)
                    refine ⟨rfl, ?_⟩
                    rw [← HPOST.out]
                    exact ⟨HKP.out _ HB9.out, .inr ⟨by rw [HE.out]; show (53 : Int) ≠ 0; decide, by rw [HE.out]; rfl⟩⟩
                  · have hd : decide ((24 : Int) < (rw0 : Int)) = false := decide_eq_false (by omega)
                    rw [hd]
                    clear hd
                    have HTE3 : Hid (textE C s = if 2000 < ln0 then 54 else 0) := by show _ = _; rw [HTE2.out, if_neg hrw]
                    clear hrw HTE2
                    by_cases hln : 2000 < ln0
                    · have HE : Hid (ckLine W T C line = (54, 3, zeroTp)) := by show _ = _; rw [HK5.out, HTE3.out, if_pos hln, if_pos (show (54 : Int) ≠ 0 by decide)]
                      have hli : (2000 : Int) < (ln0 : Int) := by omega
                      have HF : Hid (∀ w', Below w.heap.size w w' → Calls Tryz.prog 36 #[.pointer (some ⟨b, 0, none⟩), .int .i64 54, .int .i64 3] w' fun e' w'' => e' = .panicked [{ v := .iface 24 (.agg (faultV 54 line (colW W 3))), recovered := false }] ∧ w' = w'') := fun w' h => HFF.out 54 3 (by omega) w' h
                      clear HK5 HTE3 hln
                      go_wp2_with (first
                        | (go_at_call 25; (with_reducible refine (HLN.out _ _ _ HIN9.out HCS9.out HL9.out).mono ?_); rintro e w1 ⟨rfl, hb1⟩; obtain ⟨p1, rfl⟩ := grown_of hb1; clear hb1)
                        | (go_at_call 36; (with_reducible refine (HF.out _ (HB9.out.trans (Below.mono (B := w9.heap.size) (by repeat (first | exact Below.refl _ _ | assumption | refine below_grown ?_ (by first | omega | (simp [go_sem]; done) | (simp [go_sem] <;> omega)) _ | refine Below.alloc ?_ (by first | omega | (simp [go_sem]; done) | (simp [go_sem] <;> omega)) _ | refine below_bytesW ?_ (by first | omega | (simp [go_sem]; done) | (simp [go_sem] <;> omega)) _ | refine Below.drew ?_ | refine below_drewN ?_ _)) HB9.out.size))).mono ?_); rintro e' w3 ⟨rfl, rfl⟩))
                      refine ⟨rfl, ?_⟩
                      rw [← HPOST.out]
                      exact ⟨HKP.out _ (HB9.out.trans (Below.mono (B := w9.heap.size) (by repeat (first | exact Below.refl _ _ | assumption | refine below_grown ?_ (by first | omega | (simp [go_sem]; done) | (simp [go_sem] <;> omega)) _ | refine Below.alloc ?_ (by first | omega | (simp [go_sem]; done) | (simp [go_sem] <;> omega)) _ | refine below_bytesW ?_ (by first | omega | (simp [go_sem]; done) | (simp [go_sem] <;> omega)) _ | refine Below.drew ?_ | refine below_drewN ?_ _)) HB9.out.size)), .inr ⟨by rw [HE.out]; show (54 : Int) ≠ 0; decide, by rw [HE.out]; rfl⟩⟩
                    · have hli : ¬ (2000 : Int) < (ln0 : Int) := by omega
                      have HK6 : Hid (ckLine W T C line = (if T.length = 8 then (53, 0, zeroTp) else (0, 0, ⟨x, u, s, line⟩) : Int × Nat × GTpl)) := by
                        show _ = _
                        rw [HK5.out, HTE3.out, if_neg hln, if_neg (show ¬ ((0 : Int) ≠ 0) by decide)]
                      clear HK5 HTE3 hln
                      by_cases h8 : T.length = 8
                      · have HE : Hid (ckLine W T C line = (53, 0, zeroTp)) := by show _ = _; rw [HK6.out, if_pos h8]
                        have h8i : ((T.length : Int) == 8) = true := by rw [beq_iff_eq]; omega
                        have HF : Hid (∀ w', Below w.heap.size w w' → Calls Tryz.prog 36 #[.pointer (some ⟨b, 0, none⟩), .int .i64 53, .int .i64 0] w' fun e' w'' => e' = .panicked [{ v := .iface 24 (.agg (faultV 53 line (colW W 0))), recovered := false }] ∧ w' = w'') := fun w' h => HFF.out 53 0 (by omega) w' h
                        clear HK6 h8
                        go_wp2_with (first
                          | (go_at_call 25; (with_reducible refine (HLN.out _ _ _ HIN9.out HCS9.out HL9.out).mono ?_); rintro e w1 ⟨rfl, hb1⟩; obtain ⟨p1, rfl⟩ := grown_of hb1; clear hb1)
                          | (go_at_call 36; (with_reducible refine (HF.out _ (HB9.out.trans (Below.mono (B := w9.heap.size) (by repeat (first | exact Below.refl _ _ | assumption | refine below_grown ?_ (by first | omega | (simp [go_sem]; done) | (simp [go_sem] <;> omega)) _ | refine Below.alloc ?_ (by first | omega | (simp [go_sem]; done) | (simp [go_sem] <;> omega)) _ | refine below_bytesW ?_ (by first | omega | (simp [go_sem]; done) | (simp [go_sem] <;> omega)) _ | refine Below.drew ?_ | refine below_drewN ?_ _)) HB9.out.size))).mono ?_); rintro e' w3 ⟨rfl, rfl⟩))
                        refine ⟨rfl, ?_⟩
                        rw [← HPOST.out]
                        exact ⟨HKP.out _ (HB9.out.trans (Below.mono (B := w9.heap.size) (by repeat (first | exact Below.refl _ _ | assumption | refine below_grown ?_ (by first | omega | (simp [go_sem]; done) | (simp [go_sem] <;> omega)) _ | refine Below.alloc ?_ (by first | omega | (simp [go_sem]; done) | (simp [go_sem] <;> omega)) _ | refine below_bytesW ?_ (by first | omega | (simp [go_sem]; done) | (simp [go_sem] <;> omega)) _ | refine Below.drew ?_ | refine below_drewN ?_ _)) HB9.out.size)), .inr ⟨by rw [HE.out]; show (53 : Int) ≠ 0; decide, by rw [HE.out]; rfl⟩⟩
                      · have HE : Hid (ckLine W T C line = (0, 0, ⟨x, u, s, line⟩)) := by show _ = _; rw [HK6.out, if_neg h8]
                        have h8i : ((T.length : Int) == 8) = false := by rw [beq_eq_false_iff_ne]; omega
                        clear HK6 h8 HFF HFL
                        go_upto_region 15 with (go_at_call 25; (with_reducible refine (HLN.out _ _ _ HIN9.out HCS9.out HL9.out).mono ?_); rintro e w1 ⟨rfl, hb1⟩; obtain ⟨p1, rfl⟩ := grown_of hb1; clear hb1)
                        obtain ⟨wr, hwr⟩ : ∃ wr, grown w9 p1 = wr := ⟨_, rfl⟩
                        have HBL : Hid (Below w9.heap.size w9 wr) := by rw [← hwr]; exact below_grown' w9 p1
                        have hsr := HBL.out.size
                        rw [hwr]
                        clear hwr
                        have HBR : Hid (Below w.heap.size w wr) := HB9.out.trans (HBL.out.mono (by omega))
                        have HVBr := Lib.hid (HVB9.out.below HBL.out)
                        have HV2r := Lib.hid (HV29.out.below HBL.out)
                        have HVr := Lib.hid (HV9.out.below HBL.out)
                        clear HB9 HL9 HVB9 HV29 HV9 HIN9 HCS9 HLN n1 n2 n3 n4 n5 n6 HBL
                        have n1 : wr.cell? ⟨w.heap.size, 0, none⟩ = some (.pointer (some ⟨b, 0, none⟩)) := HVBr.out.cell 0 (by simp)
                        have n3 : wr.cell? ⟨b, 0, none⟩ = some (.slice aT T.length cT) := HVr.out.cell 0 (by simp)
                        have n4 : isOld b wr = true := isOld_iff.2 HVr.out.lt
                        have n5 : isOld w.heap.size wr = true := isOld_iff.2 HVBr.out.lt
                        have n6 : isOld b2 wr = true := isOld_iff.2 HV2r.out.lt
                        have k1 : hasRow wr ⟨b2, 0, none⟩ 24 = true := HV2r.out.hasRow (tpR_length _)
                        have k2 : rowAt wr ⟨b2, 0, none⟩ 24 = tpV ⟨x, u, s, line⟩ := HV2r.out.rowAt (tpR_length _)
                        have g2 : wr.frozen? ⟨b, 0, none⟩ = false := HVr.out.free 0
                        obtain ⟨QQ, hQQ⟩ : ∃ QQ : Nat → Prop, (fun g => (Value.slice aT T.length cT).ownBlock = some g ∨ wr.heap.size ≤ g) = QQ := ⟨_, rfl⟩
                        have HQS : Hid (∀ z, wr.heap.size ≤ z → QQ z) := fun z hz => by rw [← hQQ]; exact .inr hz
                        have HQN : Hid (∀ q, QQ q → (q < w.heap.size ∧ B ≤ q ∧ (Value.slice aT T.length cT).ownBlock = some q) ∨ wr.heap.size ≤ q) := fun q hq => by
                          rw [← hQQ] at hq
                          rcases hq with h | h
                          · exact .inl ⟨(own_cellsC HOT.out h).1, from_le (HOT.out.2 q h), h⟩
                          · exact .inr h
                        have HOTr : Hid (∀ w', Below wr.heap.size wr w' → Own tpCod QQ w' (.slice aT T.length cT) T) := fun w' hw' => Own.blocks (c := tpCod) (Q := QQ) (w := w) ⟨HOT.out.1, fun g hg => by rw [← hQQ]; exact .inl hg⟩ (fun g _ hg => (hw'.block g (by omega)).trans (HBR.out.block g hg))
                        clear hQQ
                        have hbw1 : w.heap.size < wr.heap.size := HVBr.out.lt
                        have HFIN : Hid (∀ w4 a5 c5, Keeps QQ wr w4 → Own tpCod QQ w4 (.slice a5 (T ++ [(⟨x, u, s, line⟩ : GTpl)]).length c5) (T ++ [⟨x, u, s, line⟩]) → POST (.returned (.tuple #[])) (w4.setCell ⟨b, 0, none⟩ (.slice a5 (T.length + 1) c5))) := by
                          intro w4 a5 c5 hk' ho
                          rw [← HPOST.out]
                          have hnq : ∀ q, q < wr.heap.size → ¬ (q < w.heap.size ∧ B ≤ q ∧ (Value.slice aT T.length cT).ownBlock = some q) → ¬ QQ q := fun q hq hn' h => by
                            rcases HQN.out q h with h | h
                            · exact hn' h
                            · omega
                          have hV4 := HVr.out.keeps hk' (hnq b (by omega) (by omega))
                          have hblk : ∀ g, g < w.heap.size → g ≠ b → (Value.slice aT T.length cT).ownBlock ≠ some g → (w4.setCell ⟨b, 0, none⟩ (.slice a5 (T.length + 1) c5)).heap[g]? = w.heap[g]? := fun g h1 h2 h3 => by
                            rw [setCell_other' _ _ _ _ h2, hk'.block g (by omega) (hnq g (by omega) (fun h => h3 h.2.2)), HBR.out.block g h1]
                          have hk1 : Keeps (Also b B) w (w4.setCell ⟨b, 0, none⟩ (.slice a5 (T.length + 1) c5)) := keeps_setCell ((HKP.out _ HBR.out).trans ⟨hk'.os, hk'.tape, hk'.output, hk'.size, fun q hq hn' => hk'.block q hq (fun h => hn' (by
                            rcases HQN.out q h with ⟨_, h, _⟩ | h
                            · exact .inr h
                            · exact .inr (by omega)))⟩) (.inr (.inl rfl)) _
                          refine ⟨hk1, .inl ⟨by rw [HE.out], rfl, ?_⟩⟩
                          have hE : (ckLine W T C line).2.2 = ⟨x, u, s, line⟩ := by rw [HE.out]
                          rw [hE]
                          have hstr : ∀ g cur fz, w.heap[g]? = some (.cells cur 9 fz) → (Value.slice aT T.length cT).ownBlock ≠ some g := fun g cur fz e2 hc => by
                            obtain ⟨c2, e3⟩ := own_elem HOT.out hc
                            rw [e2] at e3
                            have e4 : 9 = tpCod.E := by simp only [Option.some.injEq, Obj.cells.injEq] at e3; exact e3.2.1
                            exact absurd e4 (by decide)
                          refine ⟨.slice a5 (T.length + 1) c5, .slice aC R.length cC, R, hV4.setCell 0 _, ?_, HOC.out.blocks (fun g hg hgl => hblk g hgl (by have := from_le (HOC.out.2 g hg); omega) (fun hc => ?_)), ?_, ?_⟩
                          · have ho' : Own tpCod QQ w4 (.slice a5 (T.length + 1) c5) (T ++ [⟨x, u, s, line⟩]) := by rwa [List.length_append, List.length_singleton] at ho
                            refine (ho'.sub (Q' := From B) (fun g hg => ?_)).blocks (fun g hg _ => setCell_other' _ _ _ _ ?_)
                            · rcases HQN.out g hg with ⟨_, h, _⟩ | h
                              · exact h
                              · show B ≤ g; omega
                            · rcases HQN.out g (ho'.2 g hg) with ⟨_, h, _⟩ | h
                              · show g ≠ b; omega
                              · show g ≠ b; omega
                          · obtain ⟨c1, e1⟩ := own_elem HOC.out hg
                            obtain ⟨c2, e2⟩ := own_elem HOT.out hc
                            rw [e1] at e2
                            have e3 : chCod.E = tpCod.E := by simp only [Option.some.injEq, Obj.cells.injEq] at e2; exact e2.2.1
                            exact absurd e3 (by decide)
                          · refine ⟨HCS.out.1, fun i h1 h2 => ?_⟩
                            obtain ⟨g1, g2', g3, g4⟩ := HCS.out.2 i h1 h2
                            refine ⟨g1, g2', g3, ?_⟩
                            rcases g4 with g4 | ⟨g', o', g5, g6, g7, g8⟩
                            · exact .inl g4
                            · by_cases h0 : (C[i]'h2).vals = []
                              · exact .inl h0
                              · have hne : (R[i]'h1).n ≠ 0 := by rw [g2']; exact fun e => h0 (List.eq_nil_of_length_eq_zero e)
                                obtain ⟨g'', o'', cur, fz, e1, _, e2⟩ := (HVS.out _ (List.getElem_mem h1)).resolve_left hne
                                rw [g5] at e1
                                cases e1
                                have hh := hblk g' g7 (by omega) (hstr _ _ _ e2)
                                exact .inr ⟨g', o', g5, g6, by rw [show (w4.setCell ⟨b, 0, none⟩ (.slice a5 (T.length + 1) c5)).heap.size = w4.heap.size by simp [World.setCell]]; have := hk'.size; omega, fun q u' hq => by rw [World.cell?_of_block (a := ⟨g', _, none⟩) hh]; exact g8 q u' hq⟩
                          · intro r hr
                            rcases HVS.out r hr with h | ⟨g', o', cur, fz, e1, e0, e2⟩
                            · exact .inl h
                            · have hgl : g' < w.heap.size := (Array.getElem?_eq_some_iff.1 e2).1
                              exact .inr ⟨g', o', cur, fz, e1, e0, by rw [hblk g' hgl (by omega) (hstr _ _ _ e2)]; exact e2⟩
                        go_region_law (go_loud (refine step_append_list rfl tpCod (.tmp 84) (.tmp 86) 27 rfl rfl QQ _ _ T rfl (HOTr.out _ (by repeat (first | exact Below.refl _ _ | assumption | refine below_grown ?_ (by first | omega | (simp [go_sem]; done) | (simp [go_sem] <;> omega)) _ | refine Below.alloc ?_ (by first | omega | (simp [go_sem]; done) | (simp [go_sem] <;> omega)) _ | refine below_bytesW ?_ (by first | omega | (simp [go_sem]; done) | (simp [go_sem] <;> omega)) _ | refine Below.drew ?_ | refine below_drewN ?_ _))) _ 0 _ _ [⟨x, u, s, line⟩] rfl rfl (by first | exact tp_new _ _ _ (by simp [go_sem]) | exact ListAt.below (tp_new _ _ _ (by simp [go_sem])) (by repeat (first | exact Below.refl _ _ | assumption | refine below_grown ?_ (by first | omega | (simp [go_sem]; done) | (simp [go_sem] <;> omega)) _ | refine Below.alloc ?_ (by first | omega | (simp [go_sem]; done) | (simp [go_sem] <;> omega)) _ | refine below_bytesW ?_ (by first | omega | (simp [go_sem]; done) | (simp [go_sem] <;> omega)) _ | refine Below.drew ?_ | refine below_drewN ?_ _))) (by simp [tpCod]; omega) (by simp; omega) (HQS.out _ (by first | (simp; done) | (simp [go_sem]; done) | (simp [go_sem]; omega))) ?_); intro v' w4 ho4 hb4; have HB4 : Hid (Keeps QQ wr w4) := Keeps.trans (Keeps.of_below (by repeat (first | exact Below.refl _ _ | assumption | refine below_grown ?_ (by first | omega | (simp [go_sem]; done) | (simp [go_sem] <;> omega)) _ | refine Below.alloc ?_ (by first | omega | (simp [go_sem]; done) | (simp [go_sem] <;> omega)) _ | refine below_bytesW ?_ (by first | omega | (simp [go_sem]; done) | (simp [go_sem] <;> omega)) _ | refine Below.drew ?_ | refine below_drewN ?_ _))) hb4; have HV4 := Lib.hid (HVr.out.keeps HB4.out (fun h => by rcases HQN.out _ h with ⟨_, h, _⟩ | h <;> omega)); have d0 : w4.cell? ⟨w.heap.size, 0, none⟩ = some (.pointer (some ⟨b, 0, none⟩)) := (HVBr.out.keeps HB4.out (fun h => by rcases HQN.out _ h with ⟨h, _, _⟩ | h <;> omega)).cell 0 (by simp); have d1 : w4.frozen? ⟨b, 0, none⟩ = false := HV4.out.free 0; have d2 : w4.cell? ⟨b, 0, none⟩ = some (.slice aT T.length cT) := HV4.out.cell 0 (by simp); obtain ⟨a5, c5, rfl, hc5, hl5⟩ := ho4.slice (B := B) (fun q hq => by rcases HQN.out _ hq with ⟨_, h, _⟩ | h <;> omega); have HO4 := Lib.hid ho4; clear ho4 hb4 hl5)
                        all_goals
                          go_end0
                          exact HFIN.out _ _ _ HB4.out HO4.out
      · have HE : Hid (ckLine W T C line = (e, 2, zeroTp)) := by show _ = _; rw [HK3.out, if_pos he]
        have he1 : (e == 0) = false := beq_eq_false_iff_ne.2 he
        have HF2 : Hid (∀ w', Below w.heap.size w w' → Calls Tryz.prog 36 #[.pointer (some ⟨b, 0, none⟩), .int .i64 e, .int .i64 2] w' fun e' w'' => e' = .panicked [{ v := .iface 24 (.agg (faultV e line (colW W 2))), recovered := false }] ∧ w' = w'') := fun w' h => HFL.out e 2 (by omega) w' h
        clear HK3
        go_wp2_with (first
          | (go_at_call 63; (with_reducible refine (HPU2.out _ (by repeat (first | exact hm | apply HasMax.grown | apply HasMax.alloc | apply HasMax.drew))).mono ?_); rintro e w1 ⟨rfl, hb1⟩; obtain ⟨p1, rfl⟩ := grown_of hb1; clear hb1)
          | (go_at_call 36; (with_reducible refine (HF2.out _ (HBC.out.trans (Below.mono (B := wc.heap.size) (by repeat (first | exact Below.refl _ _ | assumption | refine below_grown ?_ (by first | omega | (simp [go_sem]; done) | (simp [go_sem] <;> omega)) _ | refine Below.alloc ?_ (by first | omega | (simp [go_sem]; done) | (simp [go_sem] <;> omega)) _ | refine below_bytesW ?_ (by first | omega | (simp [go_sem]; done) | (simp [go_sem] <;> omega)) _ | refine Below.drew ?_ | refine below_drewN ?_ _)) hszc))).mono ?_); rintro e' w3 ⟨rfl, rfl⟩))
        refine ⟨rfl, ?_⟩
        rw [← HPOST.out]
        exact ⟨HKP.out _ (HBC.out.trans (Below.mono (B := wc.heap.size) (by repeat (first | exact Below.refl _ _ | assumption | refine below_grown ?_ (by first | omega | (simp [go_sem]; done) | (simp [go_sem] <;> omega)) _ | refine Below.alloc ?_ (by first | omega | (simp [go_sem]; done) | (simp [go_sem] <;> omega)) _ | refine below_bytesW ?_ (by first | omega | (simp [go_sem]; done) | (simp [go_sem] <;> omega)) _ | refine Below.drew ?_ | refine below_drewN ?_ _)) hszc)), .inr ⟨by rw [HE.out]; exact he, by rw [HE.out]; rfl⟩⟩
end
end Go.Proofs.YtnkckejbkbbdlaaGreatDoor
