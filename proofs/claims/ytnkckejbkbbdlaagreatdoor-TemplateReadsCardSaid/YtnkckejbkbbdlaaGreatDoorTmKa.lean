/- Merged: TplKa. -/
import Derived.Test.YtnkckejbkbbdlaaGreatDoorTmK
namespace Go.Proofs.YtnkckejbkbbdlaaGreatDoor
section
open Go Go.RowKit
set_option maxRecDepth 20000
set_option linter.unusedSimpArgs false
set_option linter.unusedVariables false

set_option maxRecDepth 100000 in
set_option maxHeartbeats 8000000 in
theorem cookie_bad (B b : Nat) (T : List GTpl) (C : List GCh) (hTl : T.length ≤ 8) (hCl : C.length ≤ 6) (hCv : ∀ c ∈ C, c.vals.length ≤ 6 ∧ ∀ x ∈ c.vals, x.length ≤ 100000) (line : Int) (aw : Option Addr) (cw : Nat) (W : List (List UInt8)) (hWc : W.length ≤ cw) (hsum : ((W.map (fun w => w.length + 1)).sum : Nat) ≤ 1000000) (hk : W.length = 4) (hx : ∀ x ∈ W, x.length ≤ 100000) (m : Int) (w : World) (hm : HasMax m w) (hb : b < B) (hB : B ≤ w.heap.size) (hS : RdS w B b T C line (.slice aw W.length cw)) (hw : ListIn strCod w aw W 0) (hn : nameT (W[1]'(by omega)) = false) :
    Calls Tryz.prog 35 #[.pointer (some ⟨b, 0, none⟩)] w (CookiePost B b T C line (.slice aw W.length cw) W w) := by
  obtain ⟨POST, hpost⟩ : ∃ POST : Ending → World → Prop, CookiePost B b T C line (.slice aw W.length cw) W w = POST := ⟨_, rfl⟩
  rw [hpost]
  have HPOST := Lib.hid hpost
  have hWl : W.length ≤ 1000000 := by omega
  obtain ⟨vT, vC, R, hV, hoT, hoC, hCs, hVs⟩ := hS
  obtain ⟨aT, cT, rfl, hcT, hlT⟩ := hoT.slice (B := B) (fun _ h => from_le h)
  obtain ⟨aC, cC, rfl, hcC, hlC⟩ := hoC.slice (B := B) (fun _ h => from_le h)
  have hRl : R.length ≤ 6 := by rw [hCs.1]; exact hCl
  have hn1 : nth W 1 = W[1]'(by omega) := by unfold nth; rw [List.getD_eq_getElem?_getD, List.getElem?_eq_getElem (by omega)]; rfl
  have hn2 : nth W 2 = W[2]'(by omega) := by unfold nth; rw [List.getD_eq_getElem?_getD, List.getElem?_eq_getElem (by omega)]; rfl
  have hn3 : nth W 3 = W[3]'(by omega) := by unfold nth; rw [List.getD_eq_getElem?_getD, List.getElem?_eq_getElem (by omega)]; rfl
  have HNM : Hid (∀ bb w', Below w.heap.size w w' → Var w' bb [.pointer (some ⟨b, 0, none⟩)] → Calls Tryz.prog 55 #[.pointer (some ⟨b, 0, none⟩), .func (.func 60) #[] #[.pointer (some ⟨bb, 0, none⟩)]] w' (NamedPost (W[1]'(by omega)) (T.any (fun r => r.name == (W[1]'(by omega)))) line (colW W 1) w')) := fun bb w' h1 h2 => ckNamed_any b bb _ _ line aw cw W hWc hWl hsum (by omega) (by have := hx _ (List.getElem_mem (l := W) (n := 1) (by omega)); omega) T (by omega) aT cT w' (hV.below h1) (hw.below h1) rfl h2 ((hlT.mono (Nat.zero_le _)).below h1)
  have HTX : Hid (∀ w', Below w.heap.size w w' → Calls Tryz.prog 59 #[.pointer (some ⟨b, 0, none⟩), .int .i64 3] w' (TextPost (W[3]'(by omega)) (faultP 131 line (colW W 3)) w')) := fun w' h1 => text_any b _ _ line aw cw W hWc hWl hsum 3 (by omega) (by have := hx _ (List.getElem_mem (l := W) (n := 3) (by omega)); omega) w' (hV.below h1) (hw.below h1)
  have HFL : Hid (∀ (code : Int) (k : Nat), k ≤ W.length → ∀ w', Below w.heap.size w w' → Calls Tryz.prog 36 #[.pointer (some ⟨b, 0, none⟩), .int .i64 code, .int .i64 (k : Int)] w' fun e w'' => e = faultP code line (colW W k) ∧ w' = w'') := fun code k hk w' h1 => fail_any b _ _ line aw cw W hWc hWl hsum code k hk w' (hV.below h1) (hw.below h1)
  have HPU : Hid (∀ w', HasMax m w' → Calls Tryz.prog 63 #[.string ⟨(W[2]'(by omega)).toArray⟩] w' fun e w'' => e = .returned (.tuple #[.agg (urlV (urlOut (W[2]'(by omega))).2.1 (urlOut (W[2]'(by omega))).2.2.1 (urlOut (W[2]'(by omega))).2.2.2.1 (urlOut (W[2]'(by omega))).2.2.2.2), .int .i64 (urlOut (W[2]'(by omega))).1]) ∧ Below w'.heap.size w' w'') := fun w' h => parseU_any _ (by have := hx _ (List.getElem_mem (l := W) (n := 2) (by omega)); omega) m w' h
  have hck : ckLine W T C line = (if nameT (W[1]'(by omega)) = false then (221, 1, zeroTp) else if T.any (fun t => t.name == (W[1]'(by omega))) = true then (52, 1, zeroTp) else if (urlOut (W[2]'(by omega))).1 ≠ 0 then ((urlOut (W[2]'(by omega))).1, 2, zeroTp) else if (unwL (W[3]'(by omega))).2 = false then (131, 3, zeroTp) else if textE C (unwL (W[3]'(by omega))).1 ≠ 0 then (textE C (unwL (W[3]'(by omega))).1, 3, zeroTp) else if T.length = 8 then (53, 0, zeroTp) else (0, 0, ⟨W[1]'(by omega), (urlOut (W[2]'(by omega))).2, (unwL (W[3]'(by omega))).1, line⟩) : Int × Nat × GTpl) := by
    unfold ckLine
    rw [hn1, hn2, hn3]
  have HCK := Lib.hid hck
  have HCV := Lib.hid hCv
  clear hCv
  have HV := Lib.hid hV
  have HOT := Lib.hid hoT
  have HOC := Lib.hid hoC
  have HCS := Lib.hid hCs
  have HVS := Lib.hid hVs
  have HLC := Lib.hid (hlC.mono (Nat.zero_le _))
  have HMX := Lib.hid hm
  have hux := unwL_len (W[3]'(by omega))
  have hx3 := hx _ (List.getElem_mem (l := W) (n := 3) (by omega))
  obtain ⟨g, o, rfl, _, hgw, hat⟩ := hw.resolve_left (fun h => by rw [h] at hk; cases hk)
  have HC2 : Hid (w.cell? ⟨g, o + 2, none⟩ = some (.string ⟨(W[2]'(by omega)).toArray⟩)) := strAt hat 2 (by omega)
  have hbw : b < w.heap.size := hV.lt
  have hk2 : (2 : Int) < (W.length : Int) := by omega
  have hmf : ∀ (fn : Fn) (first cap : Array Value) (w : World), (Instr.makeFunc fn first cap).run Tryz.prog w = .ok (.func fn first cap) w := fun _ _ _ _ => rfl
  have HKP : Hid (∀ w', Below w.heap.size w w' → Keeps (Also b B) w w') := fun w' h => Keeps.of_below h
  clear hpost hck hn1 hn2 hn3 hV hoT hoC hCs hlC hlT hw hVs hat hm
  generalize hx1 : W[1]'(by omega) = x at *
  generalize hx2 : W[2]'(by omega) = y at *
  generalize hx4 : W[3]'(by omega) = z at *
  generalize hA : T.any (fun r => r.name == x) = A at *
  have c1 : w.cell? ⟨b, 2, none⟩ = some (.int .i64 line) := HV.out.cell 2 (by simp)
  have ib : isOld b w = true := isOld_iff.2 hbw
  have hk4 : 4 ≤ W.length := by omega
  clear hx1 hx2 hx4 hk
  · have HE : Hid (ckLine W T C line = (221, 1, zeroTp)) := by show _ = _; rw [HCK.out, if_pos hn]
    have HNM2 : Hid (∀ bb w', Below w.heap.size w w' → Var w' bb [.pointer (some ⟨b, 0, none⟩)] → Calls Tryz.prog 55 #[.pointer (some ⟨b, 0, none⟩), .func (.func 60) #[] #[.pointer (some ⟨bb, 0, none⟩)]] w' fun e w'' => e = .panicked [{ v := .iface 24 (.agg (faultV 221 line (colW W 1))), recovered := false }] ∧ Below w'.heap.size w' w'') := fun bb w' h1 h2 => (HNM.out bb w' h1 h2).mono fun e w'' h => by
      obtain ⟨h, hb⟩ := h
      rcases h with ⟨_, h⟩ | ⟨h, _⟩ | ⟨h, _⟩
      · exact ⟨h, hb⟩
      · rw [hn] at h; cases h
      · rw [hn] at h; cases h
    go_enter Tryz.func35, Tryz.ntmps35
    go_upto_region 1 with fail
    have HB1 : Hid (Below w.heap.size w (w.alloc (Obj.cells #[.pointer (some ⟨b, 0, none⟩)] 48))) := (by repeat (first | exact Below.refl _ _ | assumption | refine below_grown ?_ (by first | omega | (simp [go_sem]; done) | (simp [go_sem] <;> omega)) _ | refine Below.alloc ?_ (by first | omega | (simp [go_sem]; done) | (simp [go_sem] <;> omega)) _ | refine below_bytesW ?_ (by first | omega | (simp [go_sem]; done) | (simp [go_sem] <;> omega)) _ | refine Below.drew ?_ | refine below_drewN ?_ _))
    have HV1 : Hid (Var (w.alloc (Obj.cells #[.pointer (some ⟨b, 0, none⟩)] 48)) w.heap.size [.pointer (some ⟨b, 0, none⟩)]) := Var.new w _ _ rfl rfl
    have hsz1 : (w.alloc (Obj.cells #[.pointer (some ⟨b, 0, none⟩)] 48)).heap.size = w.heap.size + 1 := by simp
    generalize w.alloc (Obj.cells #[.pointer (some ⟨b, 0, none⟩)] 48) = w1 at *
    have HVB1 := Lib.hid (HV.out.below HB1.out)
    have hbb1 := HB1.out
    have HS : Hid (∀ w', Below w1.heap.size w1 w' → w'.cell? ⟨w.heap.size, 0, none⟩ = some (.pointer (some ⟨b, 0, none⟩)) ∧ w'.cell? ⟨b, 2, none⟩ = some (.int .i64 line)) := fun w' h => ⟨(HV1.out.below h).cell 0 (by simp), (HVB1.out.below h).cell 2 (by simp)⟩
    have i1 : isOld w.heap.size w1 = true := isOld_iff.2 (by omega)
    have i2 : isOld b w1 = true := isOld_iff.2 (by omega)
    clear c1 ib
    have hs1 := (HS.out _ (Below.refl _ _)).1
    have hs2 := (HS.out _ (Below.refl _ _)).2
    go_region_law (go_simp; go_at_call 55; (with_reducible refine (HNM2.out _ _ (by repeat (first | exact Below.refl _ _ | assumption | refine below_grown ?_ (by first | omega | (simp [go_sem]; done) | (simp [go_sem] <;> omega)) _ | refine Below.alloc ?_ (by first | omega | (simp [go_sem]; done) | (simp [go_sem] <;> omega)) _ | refine below_bytesW ?_ (by first | omega | (simp [go_sem]; done) | (simp [go_sem] <;> omega)) _ | refine Below.drew ?_ | refine below_drewN ?_ _)) (by first | exact HV1.out.drew | exact (HV1.out.alloc _).drew | exact HV1.out.drew.alloc _)).mono ?_); rintro e w1 ⟨rfl, hb1⟩; obtain ⟨p1, rfl⟩ := grown_of hb1; clear hb1; dsimp only; refine panicOut (w0 := w) (by refine ⟨rfl, ?_⟩; rw [← HPOST.out]; exact ⟨HKP.out _ (by repeat (first | exact Below.refl _ _ | assumption | refine below_grown ?_ (by first | omega | (simp [go_sem]; done) | (simp [go_sem] <;> omega)) _ | refine Below.alloc ?_ (by first | omega | (simp [go_sem]; done) | (simp [go_sem] <;> omega)) _ | refine below_bytesW ?_ (by first | omega | (simp [go_sem]; done) | (simp [go_sem] <;> omega)) _ | refine Below.drew ?_ | refine below_drewN ?_ _)), .inr ⟨by rw [HE.out]; decide, by rw [HE.out]; rfl⟩⟩) ?_)
    all_goals trivial
set_option maxRecDepth 100000 in
set_option maxHeartbeats 8000000 in
theorem cookie_taken (B b : Nat) (T : List GTpl) (C : List GCh) (hTl : T.length ≤ 8) (hCl : C.length ≤ 6) (hCv : ∀ c ∈ C, c.vals.length ≤ 6 ∧ ∀ x ∈ c.vals, x.length ≤ 100000) (line : Int) (aw : Option Addr) (cw : Nat) (W : List (List UInt8)) (hWc : W.length ≤ cw) (hsum : ((W.map (fun w => w.length + 1)).sum : Nat) ≤ 1000000) (hk : W.length = 4) (hx : ∀ x ∈ W, x.length ≤ 100000) (m : Int) (w : World) (hm : HasMax m w) (hb : b < B) (hB : B ≤ w.heap.size) (hS : RdS w B b T C line (.slice aw W.length cw)) (hw : ListIn strCod w aw W 0) (hn : nameT (W[1]'(by omega)) = true) (hA0 : T.any (fun r => r.name == (W[1]'(by omega))) = true) :
    Calls Tryz.prog 35 #[.pointer (some ⟨b, 0, none⟩)] w (CookiePost B b T C line (.slice aw W.length cw) W w) := by
  obtain ⟨POST, hpost⟩ : ∃ POST : Ending → World → Prop, CookiePost B b T C line (.slice aw W.length cw) W w = POST := ⟨_, rfl⟩
  rw [hpost]
  have HPOST := Lib.hid hpost
  have hWl : W.length ≤ 1000000 := by omega
  obtain ⟨vT, vC, R, hV, hoT, hoC, hCs, hVs⟩ := hS
  obtain ⟨aT, cT, rfl, hcT, hlT⟩ := hoT.slice (B := B) (fun _ h => from_le h)
  obtain ⟨aC, cC, rfl, hcC, hlC⟩ := hoC.slice (B := B) (fun _ h => from_le h)
  have hRl : R.length ≤ 6 := by rw [hCs.1]; exact hCl
  have hn1 : nth W 1 = W[1]'(by omega) := by unfold nth; rw [List.getD_eq_getElem?_getD, List.getElem?_eq_getElem (by omega)]; rfl
  have hn2 : nth W 2 = W[2]'(by omega) := by unfold nth; rw [List.getD_eq_getElem?_getD, List.getElem?_eq_getElem (by omega)]; rfl
  have hn3 : nth W 3 = W[3]'(by omega) := by unfold nth; rw [List.getD_eq_getElem?_getD, List.getElem?_eq_getElem (by omega)]; rfl
  have HNM : Hid (∀ bb w', Below w.heap.size w w' → Var w' bb [.pointer (some ⟨b, 0, none⟩)] → Calls Tryz.prog 55 #[.pointer (some ⟨b, 0, none⟩), .func (.func 60) #[] #[.pointer (some ⟨bb, 0, none⟩)]] w' (NamedPost (W[1]'(by omega)) (T.any (fun r => r.name == (W[1]'(by omega)))) line (colW W 1) w')) := fun bb w' h1 h2 => ckNamed_any b bb _ _ line aw cw W hWc hWl hsum (by omega) (by have := hx _ (List.getElem_mem (l := W) (n := 1) (by omega)); omega) T (by omega) aT cT w' (hV.below h1) (hw.below h1) rfl h2 ((hlT.mono (Nat.zero_le _)).below h1)
  have HTX : Hid (∀ w', Below w.heap.size w w' → Calls Tryz.prog 59 #[.pointer (some ⟨b, 0, none⟩), .int .i64 3] w' (TextPost (W[3]'(by omega)) (faultP 131 line (colW W 3)) w')) := fun w' h1 => text_any b _ _ line aw cw W hWc hWl hsum 3 (by omega) (by have := hx _ (List.getElem_mem (l := W) (n := 3) (by omega)); omega) w' (hV.below h1) (hw.below h1)
  have HFL : Hid (∀ (code : Int) (k : Nat), k ≤ W.length → ∀ w', Below w.heap.size w w' → Calls Tryz.prog 36 #[.pointer (some ⟨b, 0, none⟩), .int .i64 code, .int .i64 (k : Int)] w' fun e w'' => e = faultP code line (colW W k) ∧ w' = w'') := fun code k hk w' h1 => fail_any b _ _ line aw cw W hWc hWl hsum code k hk w' (hV.below h1) (hw.below h1)
  have HPU : Hid (∀ w', HasMax m w' → Calls Tryz.prog 63 #[.string ⟨(W[2]'(by omega)).toArray⟩] w' fun e w'' => e = .returned (.tuple #[.agg (urlV (urlOut (W[2]'(by omega))).2.1 (urlOut (W[2]'(by omega))).2.2.1 (urlOut (W[2]'(by omega))).2.2.2.1 (urlOut (W[2]'(by omega))).2.2.2.2), .int .i64 (urlOut (W[2]'(by omega))).1]) ∧ Below w'.heap.size w' w'') := fun w' h => parseU_any _ (by have := hx _ (List.getElem_mem (l := W) (n := 2) (by omega)); omega) m w' h
  have hck : ckLine W T C line = (if nameT (W[1]'(by omega)) = false then (221, 1, zeroTp) else if T.any (fun t => t.name == (W[1]'(by omega))) = true then (52, 1, zeroTp) else if (urlOut (W[2]'(by omega))).1 ≠ 0 then ((urlOut (W[2]'(by omega))).1, 2, zeroTp) else if (unwL (W[3]'(by omega))).2 = false then (131, 3, zeroTp) else if textE C (unwL (W[3]'(by omega))).1 ≠ 0 then (textE C (unwL (W[3]'(by omega))).1, 3, zeroTp) else if T.length = 8 then (53, 0, zeroTp) else (0, 0, ⟨W[1]'(by omega), (urlOut (W[2]'(by omega))).2, (unwL (W[3]'(by omega))).1, line⟩) : Int × Nat × GTpl) := by
    unfold ckLine
    rw [hn1, hn2, hn3]
  have HCK := Lib.hid hck
  have HCV := Lib.hid hCv
  clear hCv
  have HV := Lib.hid hV
  have HOT := Lib.hid hoT
  have HOC := Lib.hid hoC
  have HCS := Lib.hid hCs
  have HVS := Lib.hid hVs
  have HLC := Lib.hid (hlC.mono (Nat.zero_le _))
  have HMX := Lib.hid hm
  have hux := unwL_len (W[3]'(by omega))
  have hx3 := hx _ (List.getElem_mem (l := W) (n := 3) (by omega))
  obtain ⟨g, o, rfl, _, hgw, hat⟩ := hw.resolve_left (fun h => by rw [h] at hk; cases hk)
  have HC2 : Hid (w.cell? ⟨g, o + 2, none⟩ = some (.string ⟨(W[2]'(by omega)).toArray⟩)) := strAt hat 2 (by omega)
  have hbw : b < w.heap.size := hV.lt
  have hk2 : (2 : Int) < (W.length : Int) := by omega
  have hmf : ∀ (fn : Fn) (first cap : Array Value) (w : World), (Instr.makeFunc fn first cap).run Tryz.prog w = .ok (.func fn first cap) w := fun _ _ _ _ => rfl
  have HKP : Hid (∀ w', Below w.heap.size w w' → Keeps (Also b B) w w') := fun w' h => Keeps.of_below h
  clear hpost hck hn1 hn2 hn3 hV hoT hoC hCs hlC hlT hw hVs hat hm
  generalize hx1 : W[1]'(by omega) = x at *
  generalize hx2 : W[2]'(by omega) = y at *
  generalize hx4 : W[3]'(by omega) = z at *
  generalize hA : T.any (fun r => r.name == x) = A at *
  subst hA0
  have c1 : w.cell? ⟨b, 2, none⟩ = some (.int .i64 line) := HV.out.cell 2 (by simp)
  have ib : isOld b w = true := isOld_iff.2 hbw
  have hk4 : 4 ≤ W.length := by omega
  clear hx1 hx2 hx4 hk
  · have HE : Hid (ckLine W T C line = (52, 1, zeroTp)) := by show _ = _; rw [HCK.out, if_neg (by rw [hn]; decide), if_pos rfl]
    have HNM2 : Hid (∀ bb w', Below w.heap.size w w' → Var w' bb [.pointer (some ⟨b, 0, none⟩)] → Calls Tryz.prog 55 #[.pointer (some ⟨b, 0, none⟩), .func (.func 60) #[] #[.pointer (some ⟨bb, 0, none⟩)]] w' fun e w'' => e = .panicked [{ v := .iface 24 (.agg (faultV 52 line (colW W 1))), recovered := false }] ∧ Below w'.heap.size w' w'') := fun bb w' h1 h2 => (HNM.out bb w' h1 h2).mono fun e w'' h => by
      obtain ⟨h, hb⟩ := h
      rcases h with ⟨h, _⟩ | ⟨_, _, h⟩ | ⟨_, h, _⟩
      · rw [hn] at h; cases h
      · exact ⟨h, hb⟩
      · cases h
    go_enter Tryz.func35, Tryz.ntmps35
    go_upto_region 1 with fail
    have HB1 : Hid (Below w.heap.size w (w.alloc (Obj.cells #[.pointer (some ⟨b, 0, none⟩)] 48))) := (by repeat (first | exact Below.refl _ _ | assumption | refine below_grown ?_ (by first | omega | (simp [go_sem]; done) | (simp [go_sem] <;> omega)) _ | refine Below.alloc ?_ (by first | omega | (simp [go_sem]; done) | (simp [go_sem] <;> omega)) _ | refine below_bytesW ?_ (by first | omega | (simp [go_sem]; done) | (simp [go_sem] <;> omega)) _ | refine Below.drew ?_ | refine below_drewN ?_ _))
    have HV1 : Hid (Var (w.alloc (Obj.cells #[.pointer (some ⟨b, 0, none⟩)] 48)) w.heap.size [.pointer (some ⟨b, 0, none⟩)]) := Var.new w _ _ rfl rfl
    have hsz1 : (w.alloc (Obj.cells #[.pointer (some ⟨b, 0, none⟩)] 48)).heap.size = w.heap.size + 1 := by simp
    generalize w.alloc (Obj.cells #[.pointer (some ⟨b, 0, none⟩)] 48) = w1 at *
    have HVB1 := Lib.hid (HV.out.below HB1.out)
    have hbb1 := HB1.out
    have HS : Hid (∀ w', Below w1.heap.size w1 w' → w'.cell? ⟨w.heap.size, 0, none⟩ = some (.pointer (some ⟨b, 0, none⟩)) ∧ w'.cell? ⟨b, 2, none⟩ = some (.int .i64 line)) := fun w' h => ⟨(HV1.out.below h).cell 0 (by simp), (HVB1.out.below h).cell 2 (by simp)⟩
    have i1 : isOld w.heap.size w1 = true := isOld_iff.2 (by omega)
    have i2 : isOld b w1 = true := isOld_iff.2 (by omega)
    clear c1 ib
    have hs1 := (HS.out _ (Below.refl _ _)).1
    have hs2 := (HS.out _ (Below.refl _ _)).2
    go_region_law (go_simp; go_at_call 55; (with_reducible refine (HNM2.out _ _ (by repeat (first | exact Below.refl _ _ | assumption | refine below_grown ?_ (by first | omega | (simp [go_sem]; done) | (simp [go_sem] <;> omega)) _ | refine Below.alloc ?_ (by first | omega | (simp [go_sem]; done) | (simp [go_sem] <;> omega)) _ | refine below_bytesW ?_ (by first | omega | (simp [go_sem]; done) | (simp [go_sem] <;> omega)) _ | refine Below.drew ?_ | refine below_drewN ?_ _)) (by first | exact HV1.out.drew | exact (HV1.out.alloc _).drew | exact HV1.out.drew.alloc _)).mono ?_); rintro e w1 ⟨rfl, hb1⟩; obtain ⟨p1, rfl⟩ := grown_of hb1; clear hb1; dsimp only; refine panicOut (w0 := w) (by refine ⟨rfl, ?_⟩; rw [← HPOST.out]; exact ⟨HKP.out _ (by repeat (first | exact Below.refl _ _ | assumption | refine below_grown ?_ (by first | omega | (simp [go_sem]; done) | (simp [go_sem] <;> omega)) _ | refine Below.alloc ?_ (by first | omega | (simp [go_sem]; done) | (simp [go_sem] <;> omega)) _ | refine below_bytesW ?_ (by first | omega | (simp [go_sem]; done) | (simp [go_sem] <;> omega)) _ | refine Below.drew ?_ | refine below_drewN ?_ _)), .inr ⟨by rw [HE.out]; decide, by rw [HE.out]; rfl⟩⟩) ?_)
    all_goals trivial
end
end Go.Proofs.YtnkckejbkbbdlaaGreatDoor
