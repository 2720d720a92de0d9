/- Merged: TplC. -/
import Derived.Test.YtnkckejbkbbdlaaGreatDoorTmRd
import Derived.Deep.RegionLaw
namespace Go.Proofs.YtnkckejbkbbdlaaGreatDoor
section
open Go Go.RowKit
set_option maxRecDepth 20000
set_option linter.unusedSimpArgs false
set_option linter.unusedVariables false

theorem run_build_ch (s : List UInt8) (w : World) : (Instr.build 45 #[(0, .string ⟨s.toArray⟩)]).run Tryz.prog w = .ok (.agg (chV ⟨s, none, 0, 0⟩)) w := by kernel_rfl
@[go_sem ↓ high] theorem run_op_build_ch (ev : Operand → Value) (dst : Option Tmp) (x0 : Operand) (ty : TypeId) (pos : String) (af : Array Edge) (g : Option (Nat × Bool)) (w : World) :
    Sem.run Tryz.prog (execOp ev { dst := dst, op := .build 45 #[(0, x0)], type := ty, pos := pos, after := af, guard := g }) w = buildRow Tryz.prog w 45 #[(0, ev x0)] := by
  rw [run_op_build]
  simp
@[go_sem] theorem buildCh_at (s : List UInt8) (w : World) : buildRow Tryz.prog w 45 #[(0, .string ⟨s.toArray⟩)] = .ok (.value (.agg (chV ⟨s, none, 0, 0⟩))) w := by
  rw [buildRow, Sem.run_bind, run_build_ch]
  rfl
theorem containsS_mem (V : List (List UInt8)) (x : List UInt8) : Lib.containsS (V.map fun l => ByteArray.mk l.toArray) ⟨x.toArray⟩ = decide (x ∈ V) := by
  rw [Bool.eq_iff_iff, Lib.containsS_iff, decide_eq_true_eq, List.mem_map]
  constructor
  · rintro ⟨y, hy, he⟩
    have h1 : y.toArray = x.toArray := by simpa using he
    obtain rfl : y = x := by simpa using congrArg Array.toList h1
    exact hy
  · exact fun h => ⟨x, h, rfl⟩
theorem hasStr_any (V : List (List UInt8)) (hl : V.length ≤ 1000000) (a : Option Addr) (cap : Nat) (x : List UInt8) (w : World) (h : ListIn strCod w a V 0) :
    Calls Tryz.prog 54 #[.slice a V.length cap, .string ⟨x.toArray⟩] w fun e w' => e = .returned (.bool (decide (x ∈ V))) ∧ w' = w := by
  rcases h with rfl | ⟨b, o, rfl, _, _, hat⟩
  · have := Tryz.slices_Contains_string_empty a cap ⟨x.toArray⟩ w
    simpa using this
  · have := Tryz.slices_Contains_string b o V.length cap (V.map fun l => ByteArray.mk l.toArray) ⟨x.toArray⟩ w (by simp) (by omega) (fun j hj => by
      rw [List.length_map] at hj
      rw [strAt hat j hj, List.getD_eq_getElem?_getD, List.getElem?_map, List.getElem?_eq_getElem hj]; rfl)
    rw [List.take_of_length_le (by simp), containsS_mem] at this
    exact this
theorem own_cellsC {α : Type} {c : Cod α} {Q : Nat → Prop} {w : World} {v : Value} {xs : List α} (h : Own c Q w v xs) {g : Nat} (hg : v.ownBlock = some g) : g < w.heap.size ∧ ∀ D, w.heap[g]? ≠ some (.deferred D) := by
  obtain ⟨⟨h1, ⟨hv, h0⟩ | ⟨g', cap, cur, hv, hg', hh, _⟩⟩, hq⟩ := h
  · rw [hv] at hg; cases hg
  · rw [hv] at hg
    cases hg
    exact ⟨(Array.getElem?_eq_some_iff.1 hh).1, fun D e => by rw [hh] at e; cases e⟩
theorem own_elem {α : Type} {c : Cod α} {Q : Nat → Prop} {w : World} {v : Value} {xs : List α} (h : Own c Q w v xs) {g : Nat} (hg : v.ownBlock = some g) : ∃ cur, w.heap[g]? = some (.cells cur c.E (0, 0)) := by
  obtain ⟨⟨h1, ⟨hv, h0⟩ | ⟨g', cap, cur, hv, hg', hh, _⟩⟩, hq⟩ := h
  · rw [hv] at hg; cases hg
  · rw [hv] at hg
    cases hg
    exact ⟨cur, hh⟩
/-- Each choice's values lie in a block of strings. -/
def ValsOk (w : World) (B : Nat) (R : List RCh) : Prop := ∀ r ∈ R, r.n = 0 ∨ ∃ g o cur fz, r.a = some ⟨g, o, none⟩ ∧ B ≤ g ∧ w.heap[g]? = some (.cells cur 9 fz)
/-- The reader in memory: its templates and choices in blocks of their own. -/
def RdS (w : World) (B b : Nat) (T : List GTpl) (C : List GCh) (line : Int) (vW : Value) : Prop := ∃ vT vC R, Var w b [vT, vC, .int .i64 line, vW] ∧ Own tpCod (From B) w vT T ∧ Own chCod (From B) w vC R ∧ ChsOk w B R C ∧ ValsOk w B R
theorem chVals_at (W : List (List UInt8)) (j : Nat) (hj : j < W.length) (V : List (List UInt8)) : chVals (W.drop j) j V = if (unwL (W[j]'hj)).2 = false then (131, j, V) else if (unwL (W[j]'hj)).1 ∈ V then (52, j, V) else if V.length = 6 then (53, j, V) else chVals (W.drop (j + 1)) (j + 1) (V ++ [(unwL (W[j]'hj)).1]) := by
  rw [List.drop_eq_getElem_cons hj, chVals]
theorem str_new (w : World) (x : List UInt8) (t : TypeId) {b : Nat} (hb : b = w.heap.size) : ListAt strCod (w.alloc (.cells #[.string ⟨x.toArray⟩] t)) b 0 [x] := listAt_new w _ _ _ rfl hb
theorem ch_new (w : World) (r : RCh) (t : TypeId) {b : Nat} (hb : b = w.heap.size) : ListAt chCod (w.alloc (.cells (chV r) t)) b 0 [r] := listAt_new w _ _ _ (by show _ = chR r ++ []; rw [List.append_nil]; rfl) hb
def ChoicePost (B b : Nat) (T : List GTpl) (C : List GCh) (line : Int) (vW : Value) (W : List (List UInt8)) (w : World) (e : Ending) (w' : World) : Prop :=
  Keeps (Also b B) w w' ∧ (((chLine W C).1 = 0 ∧ e = .returned (.tuple #[]) ∧ RdS w' B b T (C ++ [(chLine W C).2.2]) line vW) ∨ ((chLine W C).1 ≠ 0 ∧ e = faultP (chLine W C).1 line (colW W (chLine W C).2.1)))
set_option maxRecDepth 100000 in
set_option maxHeartbeats 8000000 in
theorem choice_any (B b : Nat) (T : List GTpl) (C : List GCh) (hCl : C.length ≤ 6) (line : Int) (aw : Option Addr) (cw : Nat) (W : List (List UInt8)) (hWc : W.length ≤ cw) (hWl : W.length ≤ 1000000) (hsum : ((W.map (fun w => w.length + 1)).sum : Nat) ≤ 1000000) (hk : 2 < W.length) (hx : ∀ x ∈ W, x.length ≤ 1000000) (w : World) (hb : b < B) (hB : B ≤ w.heap.size) (hS : RdS w B b T C line (.slice aw W.length cw)) (hw : ListIn strCod w aw W 0) :
    Calls Tryz.prog 34 #[.pointer (some ⟨b, 0, none⟩)] w (ChoicePost B b T C line (.slice aw W.length cw) W w) := by
  obtain ⟨POST, hpost⟩ : ∃ POST : Ending → World → Prop, ChoicePost B b T C line (.slice aw W.length cw) W w = POST := ⟨_, rfl⟩
  rw [hpost]
  have HPOST := Lib.hid hpost
  obtain ⟨vT, vC, R, hV, hoT, hoC, hCs, hVs⟩ := hS
  obtain ⟨aC, cC, rfl, hcC, hlC⟩ := hoC.slice (B := B) (fun _ h => from_le h)
  have hRl : R.length ≤ 6 := by rw [hCs.1]; exact hCl
  have hnth : nth W 1 = W[1]'(by omega) := by unfold nth; rw [List.getD_eq_getElem?_getD, List.getElem?_eq_getElem (by omega)]; rfl
  have hhas : hasC C (W[1]'(by omega)) = R.any (fun r => r.name == (W[1]'(by omega))) := (at_names hCs.names _).1
  have HNM : Hid (∀ bb w', Below w.heap.size w w' → Var w' bb [.pointer (some ⟨b, 0, none⟩)] → Calls Tryz.prog 55 #[.pointer (some ⟨b, 0, none⟩), .func (.func 56) #[] #[.pointer (some ⟨bb, 0, none⟩)]] w' (NamedPost (W[1]'(by omega)) (R.any (fun r => r.name == (W[1]'(by omega)))) line (colW W 1) w')) := fun bb w' h1 h2 => chNamed_any b bb vT _ line aw cw W hWc hWl hsum (by omega) (hx _ (List.getElem_mem _)) R (by omega) aC cC w' (hV.below h1) (hw.below h1) rfl h2 ((hlC.mono (Nat.zero_le _)).below h1)
  have HTX : Hid (∀ (j : Nat) (hj : j < W.length) w', Below w.heap.size w w' → Calls Tryz.prog 59 #[.pointer (some ⟨b, 0, none⟩), .int .i64 (j : Int)] w' (TextPost (W[j]'hj) (faultP 131 line (colW W j)) w')) := fun j hj w' h1 => text_any b vT _ line aw cw W hWc hWl hsum j hj (hx _ (List.getElem_mem _)) w' (hV.below h1) (hw.below h1)
  have HFL : Hid (∀ (code : Int) (k : Nat), k ≤ W.length → ∀ w', Below w.heap.size w w' → Calls Tryz.prog 36 #[.pointer (some ⟨b, 0, none⟩), .int .i64 code, .int .i64 (k : Int)] w' fun e w'' => e = faultP code line (colW W k) ∧ w' = w'') := fun code k hk w' h1 => fail_any b vT _ line aw cw W hWc hWl hsum code k hk w' (hV.below h1) (hw.below h1)
  obtain ⟨RES, hres⟩ : ∃ RES, chVals (W.drop 2) 2 [] = RES := ⟨_, rfl⟩
  have HRES := Lib.hid hres
  have hcl : chLine W C = if nameT (W[1]'(by omega)) = false then (221, 1, ⟨[], []⟩) else if R.any (fun r => r.name == (W[1]'(by omega))) = true then (52, 1, ⟨[], []⟩) else if RES.1 ≠ 0 then (RES.1, RES.2.1, ⟨[], []⟩) else if C.length = 6 then (53, 0, ⟨[], []⟩) else (0, 0, ⟨W[1]'(by omega), RES.2.2⟩) := by
    unfold chLine
    rw [hnth, hhas, hres]
  have HCL := Lib.hid hcl
  have HV := Lib.hid hV
  have HOT := Lib.hid hoT
  have HOC := Lib.hid hoC
  have HCS := Lib.hid hCs
  have HVS := Lib.hid hVs
  have HAT := Lib.hid (chVals_at W)
  have hbw : b < w.heap.size := hV.lt
  have hk2 : (2 : Int) < (W.length : Int) := by omega
  have hmf : ∀ (fn : Fn) (first cap : Array Value) (w : World), (Instr.makeFunc fn first cap).run Tryz.prog w = .ok (.func fn first cap) w := fun _ _ _ _ => rfl
  have HKP : Hid (∀ w', Below w.heap.size w w' → Keeps (Also b B) w w') := fun w' h => Keeps.of_below h
  clear hpost hcl hres hnth hhas hV hoT hoC hCs hlC hw hVs
  generalize hx1 : W[1]'(by omega) = x at *
  generalize hA : R.any (fun r => r.name == x) = A at *
  cases hn : nameT x
  · have HE : Hid (chLine W C = (221, 1, ⟨[], []⟩)) := by show _ = _; rw [HCL.out, if_pos hn]
    have HNM2 : Hid (∀ bb w', Below w.heap.size w w' → Var w' bb [.pointer (some ⟨b, 0, none⟩)] → Calls Tryz.prog 55 #[.pointer (some ⟨b, 0, none⟩), .func (.func 56) #[] #[.pointer (some ⟨bb, 0, none⟩)]] w' fun e w'' => e = .panicked [{ v := .iface 24 (.agg (faultV 221 line (colW W 1))), recovered := false }] ∧ Below w'.heap.size w' w'') := fun bb w' h1 h2 => (HNM.out bb w' h1 h2).mono fun e w'' h => by
      obtain ⟨h, hb⟩ := h
      rcases h with ⟨_, h⟩ | ⟨h, _⟩ | ⟨h, _⟩
      · exact ⟨h, hb⟩
      · rw [hn] at h; cases h
      · rw [hn] at h; cases h
    go_enter Tryz.func34, Tryz.ntmps34
    go_wp2_with (go_at_call 55; (with_reducible refine (HNM2.out _ _ (by repeat (first | exact Below.refl _ _ | assumption | refine below_grown ?_ (by first | omega | (simp [go_sem]; done) | (simp [go_sem] <;> omega)) _ | refine Below.alloc ?_ (by first | omega | (simp [go_sem]; done) | (simp [go_sem] <;> omega)) _ | refine below_bytesW ?_ (by first | omega | (simp [go_sem]; done) | (simp [go_sem] <;> omega)) _ | refine Below.drew ?_ | refine below_drewN ?_ _)) (Var.new _ _ _ rfl (by simp))).mono ?_); rintro e w1 ⟨rfl, hb1⟩; obtain ⟨p1, rfl⟩ := grown_of hb1; clear hb1)
    refine ⟨rfl, ?_⟩
    rw [← HPOST.out]
    exact ⟨HKP.out _ (by repeat (first | exact Below.refl _ _ | assumption | refine below_grown ?_ (by first | omega | (simp [go_sem]; done) | (simp [go_sem] <;> omega)) _ | refine Below.alloc ?_ (by first | omega | (simp [go_sem]; done) | (simp [go_sem] <;> omega)) _ | refine below_bytesW ?_ (by first | omega | (simp [go_sem]; done) | (simp [go_sem] <;> omega)) _ | refine Below.drew ?_ | refine below_drewN ?_ _)), .inr ⟨by rw [HE.out]; decide, by rw [HE.out]; rfl⟩⟩
  · cases A
    · have hcl2 : chLine W C = if RES.1 ≠ 0 then (RES.1, RES.2.1, ⟨[], []⟩) else if C.length = 6 then (53, 0, ⟨[], []⟩) else (0, 0, ⟨x, RES.2.2⟩) := by rw [HCL.out, if_neg (by rw [hn]; decide), if_neg (by decide)]
      have HC2 := Lib.hid hcl2
      have HNM2 : Hid (∀ bb w', Below w.heap.size w w' → Var w' bb [.pointer (some ⟨b, 0, none⟩)] → Calls Tryz.prog 55 #[.pointer (some ⟨b, 0, none⟩), .func (.func 56) #[] #[.pointer (some ⟨bb, 0, none⟩)]] w' fun e w'' => e = .returned (.string ⟨x.toArray⟩) ∧ Below w'.heap.size w' w'') := fun bb w' h1 h2 => (HNM.out bb w' h1 h2).mono fun e w'' h => by
        obtain ⟨h, hb⟩ := h
        rcases h with ⟨h, _⟩ | ⟨_, h, _⟩ | ⟨_, _, h⟩
        · rw [hn] at h; cases h
        · cases h
        · exact ⟨h, hb⟩
      clear hcl2 HCL HNM
      go_enter Tryz.func34, Tryz.ntmps34
      go_upto_region 2 with (go_at_call 55; (with_reducible refine (HNM2.out _ _ (by repeat (first | exact Below.refl _ _ | assumption | refine below_grown ?_ (by first | omega | (simp [go_sem]; done) | (simp [go_sem] <;> omega)) _ | refine Below.alloc ?_ (by first | omega | (simp [go_sem]; done) | (simp [go_sem] <;> omega)) _ | refine below_bytesW ?_ (by first | omega | (simp [go_sem]; done) | (simp [go_sem] <;> omega)) _ | refine Below.drew ?_ | refine below_drewN ?_ _)) (Var.new _ _ _ rfl (by simp))).mono ?_); rintro e w1 ⟨rfl, hb1⟩; obtain ⟨p1, rfl⟩ := grown_of hb1; clear hb1)
      have HB2 : Hid (Below w.heap.size w ((grown (w.alloc (Obj.cells #[.pointer (some ⟨b, 0, none⟩)] 48)) p1).alloc (Obj.cells (chV ⟨x, none, 0, 0⟩) 45))) := (by repeat (first | exact Below.refl _ _ | assumption | refine below_grown ?_ (by first | omega | (simp [go_sem]; done) | (simp [go_sem] <;> omega)) _ | refine Below.alloc ?_ (by first | omega | (simp [go_sem]; done) | (simp [go_sem] <;> omega)) _ | refine below_bytesW ?_ (by first | omega | (simp [go_sem]; done) | (simp [go_sem] <;> omega)) _ | refine Below.drew ?_ | refine below_drewN ?_ _))
      have HVB : Hid (Var ((grown (w.alloc (Obj.cells #[.pointer (some ⟨b, 0, none⟩)] 48)) p1).alloc (Obj.cells (chV ⟨x, none, 0, 0⟩) 45)) w.heap.size [.pointer (some ⟨b, 0, none⟩)]) := ((Var.new w _ _ rfl rfl).grown p1).alloc _
      have HVC : Hid (Var ((grown (w.alloc (Obj.cells #[.pointer (some ⟨b, 0, none⟩)] 48)) p1).alloc (Obj.cells (chV ⟨x, none, 0, 0⟩) 45)) (w.heap.size + 1 + p1.os.size) [.string ⟨x.toArray⟩, .slice none 0 0]) := Var.new _ _ _ rfl (by simp [go_sem])
      have hszw : ((grown (w.alloc (Obj.cells #[.pointer (some ⟨b, 0, none⟩)] 48)) p1).alloc (Obj.cells (chV ⟨x, none, 0, 0⟩) 45)).heap.size = w.heap.size + 1 + p1.os.size + 1 := by simp [go_sem]
      generalize ((grown (w.alloc (Obj.cells #[.pointer (some ⟨b, 0, none⟩)] 48)) p1).alloc (Obj.cells (chV ⟨x, none, 0, 0⟩) 45)) = w2 at *
      obtain ⟨bc, hbc⟩ : ∃ bc, w.heap.size + 1 + p1.os.size = bc := ⟨_, rfl⟩
      have hbc1 : w.heap.size < bc := by omega
      rw [hbc] at HVC hszw
      simp only [hbc]
      clear hbc
      go_wp2_with fail
      go_loopw [3] (fun i wr => ∃ (j : Nat) (V : List (List UInt8)) (vV : Value), i = .int .i64 (j : Int) ∧ 2 ≤ j ∧ j ≤ W.length ∧ V.length ≤ 6 ∧ Below w.heap.size w wr ∧ Var wr w.heap.size [.pointer (some ⟨b, 0, none⟩)] ∧ Var wr bc [.string ⟨x.toArray⟩, vV] ∧ Own strCod (From (bc + 1)) wr vV V ∧ Hid (chVals (W.drop j) j V = RES)) (fun i _ => W.length - (intOf i).toNat)
      case atStart => exact ⟨2, [], _, rfl, Nat.le_refl _, by omega, Nat.zero_le _, HB2.out, HVB.out, HVC.out, Own.nil _ _, HRES.out⟩
      case round =>
        obtain ⟨j, V, vV, rfl, hj2, hj, hV6, hbr, hvb, hvc, hov, hinv⟩ := hrel
        have hszr := hbr.size
        have HBR := Lib.hid hbr
        have HVBr := Lib.hid hvb
        have HVCr := Lib.hid hvc
        have HOVr := Lib.hid hov
        obtain ⟨aV, cV, rfl, hcV, hlV⟩ := hov.slice (B := bc + 1) (fun _ h => from_le h)
        have HLV := Lib.hid hlV
        have cb0 : wr.cell? ⟨w.heap.size, 0, none⟩ = some (.pointer (some ⟨b, 0, none⟩)) := hvb.cell 0 (by simp)
        have cc1 : wr.cell? ⟨bc, 1, none⟩ = some (.slice aV V.length cV) := hvc.cell 1 (by simp)
        have HVr := Lib.hid (HV.out.below hbr)
        have cr3 : wr.cell? ⟨b, 3, none⟩ = some (.slice aw W.length cw) := HVr.out.cell 3 (by simp)
        have cr1 : wr.cell? ⟨b, 1, none⟩ = some (.slice aC R.length cC) := HVr.out.cell 1 (by simp)
        have ibb : isOld w.heap.size wr = true := isOld_iff.2 hvb.lt
        have ibc : isOld bc wr = true := isOld_iff.2 hvc.lt
        have ib : isOld b wr = true := isOld_iff.2 (by omega)
        clear hbr hvb hvc hov hlV
        by_cases hlt : j < W.length
        · have hst := HAT.out j hlt V
          rw [hinv.out] at hst
          have hji : (j : Int) < (W.length : Int) := by omega
          have hji0 : (0 : Int) ≤ (j : Int) := by omega
          have HT := Lib.hid (HTX.out j hlt wr HBR.out)
          have HF := Lib.hid (fun code w' h => HFL.out code j (by omega) w' h)
          have HST := Lib.hid hst
          clear hst hinv
          generalize W[j]'hlt = y at *
          obtain ⟨⟨s, ok⟩, hun⟩ : ∃ z, unwL y = z := ⟨_, rfl⟩
          unfold TextPost at HT
          rw [hun] at HT HST
          dsimp only at HT HST
          cases ok
          · have HR2 : Hid (RES = (131, j, V)) := by show _ = _; rw [HST.out, if_pos rfl]
            have HE : Hid (chLine W C = (131, j, ⟨[], []⟩)) := by show _ = _; rw [HC2.out, HR2.out, if_pos (show (131 : Int) ≠ 0 by decide)]
            have HT2 : Hid (Calls Tryz.prog 59 #[.pointer (some ⟨b, 0, none⟩), .int .i64 (j : Int)] wr fun e w' => e = .panicked [{ v := .iface 24 (.agg (faultV 131 line (colW W j))), recovered := false }] ∧ Below wr.heap.size wr w') := HT.out.mono fun e w' h => by
              rcases h with ⟨⟨h, _⟩ | ⟨_, h⟩, hb⟩
              · cases h
              · exact ⟨h, hb⟩
            clear HT HST
            go_wp2_with (go_at_call 59; (with_reducible refine HT2.out.mono ?_); rintro e w1 ⟨rfl, hb1⟩; obtain ⟨p1, rfl⟩ := grown_of hb1; clear hb1)
            refine ⟨rfl, ?_⟩
            rw [← HPOST.out]
            exact ⟨HKP.out _ (HBR.out.trans (Below.mono (B := wr.heap.size) (by repeat (first | exact Below.refl _ _ | assumption | refine below_grown ?_ (by first | omega | (simp [go_sem]; done) | (simp [go_sem] <;> omega)) _ | refine Below.alloc ?_ (by first | omega | (simp [go_sem]; done) | (simp [go_sem] <;> omega)) _ | refine below_bytesW ?_ (by first | omega | (simp [go_sem]; done) | (simp [go_sem] <;> omega)) _ | refine Below.drew ?_ | refine below_drewN ?_ _)) hszr)), .inr ⟨by rw [HE.out]; show (131 : Int) ≠ 0; decide, by rw [HE.out]; rfl⟩⟩
          · have HT2 : Hid (Calls Tryz.prog 59 #[.pointer (some ⟨b, 0, none⟩), .int .i64 (j : Int)] wr fun e w' => e = .returned (.string ⟨s.toArray⟩) ∧ Below wr.heap.size wr w') := HT.out.mono fun e w' h => by
              rcases h with ⟨⟨_, h⟩ | ⟨h, _⟩, hb⟩
              · exact ⟨h, hb⟩
              · cases h
            have HST2 : Hid (RES = if s ∈ V then (52, j, V) else if V.length = 6 then (53, j, V) else chVals (W.drop (j + 1)) (j + 1) (V ++ [s])) := by show _ = _; rw [HST.out, if_neg (by decide)]
            have HHS := Lib.hid (fun w' h => hasStr_any V (by omega) aV cV s w' h)
            clear HT HST
            by_cases hmem : s ∈ V
            · have HR2 : Hid (RES = (52, j, V)) := by show _ = _; rw [HST2.out, if_pos hmem]
              have HE : Hid (chLine W C = (52, j, ⟨[], []⟩)) := by show _ = _; rw [HC2.out, HR2.out, if_pos (show (52 : Int) ≠ 0 by decide)]
              rw [decide_eq_true hmem] at HHS
              unfold faultP at HF
              clear HST2 hmem
              go_wp2_with (first
                | (go_at_call 59; (with_reducible refine HT2.out.mono ?_); rintro e w1 ⟨rfl, hb1⟩; obtain ⟨p1, rfl⟩ := grown_of hb1; clear hb1)
                | (go_at_call 54; (with_reducible refine (HHS.out _ ((HLV.out.mono (Nat.zero_le _)).below (by repeat (first | exact Below.refl _ _ | assumption | refine below_grown ?_ (by first | omega | (simp [go_sem]; done) | (simp [go_sem] <;> omega)) _ | refine Below.alloc ?_ (by first | omega | (simp [go_sem]; done) | (simp [go_sem] <;> omega)) _ | refine below_bytesW ?_ (by first | omega | (simp [go_sem]; done) | (simp [go_sem] <;> omega)) _ | refine Below.drew ?_ | refine below_drewN ?_ _)))).mono ?_); rintro e w' ⟨rfl, rfl⟩)
                | (go_at_call 36; (with_reducible refine (HF.out _ _ (HBR.out.trans (Below.mono (B := wr.heap.size) (by repeat (first | exact Below.refl _ _ | assumption | refine below_grown ?_ (by first | omega | (simp [go_sem]; done) | (simp [go_sem] <;> omega)) _ | refine Below.alloc ?_ (by first | omega | (simp [go_sem]; done) | (simp [go_sem] <;> omega)) _ | refine below_bytesW ?_ (by first | omega | (simp [go_sem]; done) | (simp [go_sem] <;> omega)) _ | refine Below.drew ?_ | refine below_drewN ?_ _)) hszr))).mono ?_); rintro e w3 ⟨rfl, rfl⟩))
              refine ⟨rfl, ?_⟩
              rw [← HPOST.out]
              exact ⟨HKP.out _ (HBR.out.trans (Below.mono (B := wr.heap.size) (by repeat (first | exact Below.refl _ _ | assumption | refine below_grown ?_ (by first | omega | (simp [go_sem]; done) | (simp [go_sem] <;> omega)) _ | refine Below.alloc ?_ (by first | omega | (simp [go_sem]; done) | (simp [go_sem] <;> omega)) _ | refine below_bytesW ?_ (by first | omega | (simp [go_sem]; done) | (simp [go_sem] <;> omega)) _ | refine Below.drew ?_ | refine below_drewN ?_ _)) hszr)), .inr ⟨by rw [HE.out]; show (52 : Int) ≠ 0; decide, by rw [HE.out]; rfl⟩⟩
            · rw [decide_eq_false hmem] at HHS
              by_cases h6 : V.length = 6
              · have HR2 : Hid (RES = (53, j, V)) := by show _ = _; rw [HST2.out, if_neg hmem, if_pos h6]
                have HE : Hid (chLine W C = (53, j, ⟨[], []⟩)) := by show _ = _; rw [HC2.out, HR2.out, if_pos (show (53 : Int) ≠ 0 by decide)]
                have h6i : ((V.length : Int) == 6) = true := by rw [beq_iff_eq]; omega
                unfold faultP at HF
                clear HST2 hmem h6
                go_wp2_with (first
                  | (go_at_call 59; (with_reducible refine HT2.out.mono ?_); rintro e w1 ⟨rfl, hb1⟩; obtain ⟨p1, rfl⟩ := grown_of hb1; clear hb1)
                  | (go_at_call 54; (with_reducible refine (HHS.out _ ((HLV.out.mono (Nat.zero_le _)).below (by repeat (first | exact Below.refl _ _ | assumption | refine below_grown ?_ (by first | omega | (simp [go_sem]; done) | (simp [go_sem] <;> omega)) _ | refine Below.alloc ?_ (by first | omega | (simp [go_sem]; done) | (simp [go_sem] <;> omega)) _ | refine below_bytesW ?_ (by first | omega | (simp [go_sem]; done) | (simp [go_sem] <;> omega)) _ | refine Below.drew ?_ | refine below_drewN ?_ _)))).mono ?_); rintro e w' ⟨rfl, rfl⟩)
                  | (go_at_call 36; (with_reducible refine (HF.out _ _ (HBR.out.trans (Below.mono (B := wr.heap.size) (by repeat (first | exact Below.refl _ _ | assumption | refine below_grown ?_ (by first | omega | (simp [go_sem]; done) | (simp [go_sem] <;> omega)) _ | refine Below.alloc ?_ (by first | omega | (simp [go_sem]; done) | (simp [go_sem] <;> omega)) _ | refine below_bytesW ?_ (by first | omega | (simp [go_sem]; done) | (simp [go_sem] <;> omega)) _ | refine Below.drew ?_ | refine below_drewN ?_ _)) hszr))).mono ?_); rintro e w3 ⟨rfl, rfl⟩))
                refine ⟨rfl, ?_⟩
                rw [← HPOST.out]
                exact ⟨HKP.out _ (HBR.out.trans (Below.mono (B := wr.heap.size) (by repeat (first | exact Below.refl _ _ | assumption | refine below_grown ?_ (by first | omega | (simp [go_sem]; done) | (simp [go_sem] <;> omega)) _ | refine Below.alloc ?_ (by first | omega | (simp [go_sem]; done) | (simp [go_sem] <;> omega)) _ | refine below_bytesW ?_ (by first | omega | (simp [go_sem]; done) | (simp [go_sem] <;> omega)) _ | refine Below.drew ?_ | refine below_drewN ?_ _)) hszr)), .inr ⟨by rw [HE.out]; show (53 : Int) ≠ 0; decide, by rw [HE.out]; rfl⟩⟩
              · have HR2 : Hid (chVals (W.drop (j + 1)) (j + 1) (V ++ [s]) = RES) := by show _ = _; rw [HST2.out, if_neg hmem, if_neg h6]
                have h6i : ((V.length : Int) == 6) = false := by rw [beq_eq_false_iff_ne]; omega
                clear HST2 hmem
                go_upto_region 10 with (first
                  | (go_at_call 59; (with_reducible refine HT2.out.mono ?_); rintro e w1 ⟨rfl, hb1⟩; obtain ⟨p1, rfl⟩ := grown_of hb1; clear hb1)
                  | (go_at_call 54; (with_reducible refine (HHS.out _ ((HLV.out.mono (Nat.zero_le _)).below (by repeat (first | exact Below.refl _ _ | assumption | refine below_grown ?_ (by first | omega | (simp [go_sem]; done) | (simp [go_sem] <;> omega)) _ | refine Below.alloc ?_ (by first | omega | (simp [go_sem]; done) | (simp [go_sem] <;> omega)) _ | refine below_bytesW ?_ (by first | omega | (simp [go_sem]; done) | (simp [go_sem] <;> omega)) _ | refine Below.drew ?_ | refine below_drewN ?_ _)))).mono ?_); rintro e w' ⟨rfl, rfl⟩))
                obtain ⟨wg, hwg⟩ : ∃ wg, grown wr p1 = wg := ⟨_, rfl⟩
                have hbg : Below wr.heap.size wr wg := by rw [← hwg]; exact (by repeat (first | exact Below.refl _ _ | assumption | refine below_grown ?_ (by first | omega | (simp [go_sem]; done) | (simp [go_sem] <;> omega)) _ | refine Below.alloc ?_ (by first | omega | (simp [go_sem]; done) | (simp [go_sem] <;> omega)) _ | refine below_bytesW ?_ (by first | omega | (simp [go_sem]; done) | (simp [go_sem] <;> omega)) _ | refine Below.drew ?_ | refine below_drewN ?_ _))
                have HBG : Hid (Below w.heap.size w wg) := HBR.out.trans (hbg.mono hszr)
                have HVBg := Lib.hid (HVBr.out.below hbg)
                have HVCg := Lib.hid (HVCr.out.below hbg)
                have HOVg := Lib.hid (HOVr.out.below hbg)
                have hszg := hbg.size
                rw [hwg]
                clear hwg hbg
                have g1 : wg.cell? ⟨bc, 1, none⟩ = some (.slice aV V.length cV) := HVCg.out.cell 1 (by simp)
                have g2 : wg.frozen? ⟨bc, 1, none⟩ = false := HVCg.out.free 1
                have g3 : isOld bc wg = true := isOld_iff.2 HVCg.out.lt
                have hbcl := HVCg.out.lt
                clear cb0 cc1 cr3 cr1 ibb ibc ib
                go_wp2_with (at_builtin; go_loud (refine wpList_append_list rfl strCod (.tmp 38) (.tmp 40) 26 rfl rfl (From (bc + 1)) _ _ V rfl (HOVg.out.alloc _) _ 0 _ _ [s] rfl rfl (str_new _ _ _ (by simp [go_sem])) (by simp [strCod]; omega) (by simp; omega) (by show bc + 1 ≤ _; simp; omega) ?_); intro v' w4 ho4 hb4; have hsz4 := hb4.size; have d1 : w4.frozen? ⟨bc, 1, none⟩ = false := ((HVCg.out.alloc _).keeps hb4 (fun h => by have := from_le h; omega)).free 1; have HVC4 := Lib.hid ((HVCg.out.alloc _).keeps hb4 (fun h => by have := from_le h; omega)); have HVB4 := Lib.hid ((HVBg.out.alloc _).keeps hb4 (fun h => by have := from_le h; omega)); have d2 : w4.cell? ⟨bc, 1, none⟩ = some (.slice aV V.length cV) := HVC4.out.cell 1 (by simp); obtain ⟨a5, c5, rfl, hc5, hl5⟩ := ho4.slice (B := bc + 1) (fun _ h => from_le h); have HO4 := Lib.hid ho4; have HB4 := Lib.hid hb4; clear ho4 hb4 hl5)
                have hOO : Own strCod (From (bc + 1)) w4 (.slice a5 (V.length + 1) c5) (V ++ [s]) := by have := HO4.out; rwa [List.length_append, List.length_singleton] at this
                have hW4 : Below w.heap.size w w4 := (HBG.out.alloc HBG.out.size _).trans (HB4.out.below (B := w.heap.size) (fun q hq => ⟨by simp; omega, fun h => by have := from_le h; omega⟩))
                refine ⟨⟨j + 1, V ++ [s], .slice a5 (V.length + 1) c5, rfl, by omega, by omega, by simp; omega, hW4.setCell (p := ⟨bc, 1, none⟩) (by show w.heap.size ≤ bc; omega) _, HVB4.out.setCell_other ⟨bc, 1, none⟩ _ (by show w.heap.size ≠ bc; omega), HVC4.out.setCell 1 _, hOO.blocks (fun g hg _ => setCell_other' _ _ _ _ (by have := from_le (hOO.2 g hg); show g ≠ bc; omega)), HR2.out⟩, ?_⟩
                simp [intOf]; omega
        · obtain rfl : j = W.length := by omega
          have hR2 : RES = (0, 0, V) := by rw [← hinv.out, List.drop_length, chVals]
          have HC3 : Hid (chLine W C = if C.length = 6 then (53, 0, ⟨[], []⟩) else (0, 0, ⟨x, V⟩)) := by
            show _ = _
            rw [HC2.out, hR2, if_neg (show ¬ ((0 : Int) ≠ 0) by decide)]
          have hRC := HCS.out.1
          have HF0 : Hid (∀ w', Below w.heap.size w w' → Calls Tryz.prog 36 #[.pointer (some ⟨b, 0, none⟩), .int .i64 53, .int .i64 0] w' fun e w'' => e = .panicked [{ v := .iface 24 (.agg (faultV 53 line (colW W 0))), recovered := false }] ∧ w' = w'') := fun w' h => HFL.out 53 0 (by omega) w' h
          clear hinv hR2 HC2 HTX HFL HNM2
          by_cases h6 : C.length = 6
          · have HE : Hid (chLine W C = (53, 0, ⟨[], []⟩)) := by show _ = _; rw [HC3.out, if_pos h6]
            have h6i : ((R.length : Int) == 6) = true := by rw [beq_iff_eq]; omega
            clear h6 hRC HC3
            go_wp2_with (go_at_call 36; (with_reducible refine (HF0.out _ HBR.out).mono ?_); rintro e w3 ⟨rfl, rfl⟩)
            refine ⟨rfl, ?_⟩
            rw [← HPOST.out]
            exact ⟨HKP.out _ HBR.out, .inr ⟨by rw [HE.out]; decide, by rw [HE.out]; rfl⟩⟩
          · have HE : Hid (chLine W C = (0, 0, ⟨x, V⟩)) := by show _ = _; rw [HC3.out, if_neg h6]
            have h6i : ((R.length : Int) == 6) = false := by rw [beq_eq_false_iff_ne]; omega
            clear h6 hRC HC3 HF0
            go_upto_region 13 with fail
            have k1 : hasRow wr ⟨bc, 0, none⟩ 2 = true := HVCr.out.hasRow rfl
            have k2 : rowAt wr ⟨bc, 0, none⟩ 2 = chV ⟨x, aV, V.length, cV⟩ := HVCr.out.rowAt rfl
            have g2 : wr.frozen? ⟨b, 1, none⟩ = false := HVr.out.free 1
            obtain ⟨QQ, hQQ⟩ : ∃ QQ : Nat → Prop, (fun g => (Value.slice aC R.length cC).ownBlock = some g ∨ wr.heap.size ≤ g) = QQ := ⟨_, rfl⟩
            have HQQ := Lib.hid hQQ
            have HQS : Hid (∀ z, wr.heap.size ≤ z → QQ z) := fun z hz => by rw [← hQQ]; exact .inr hz
            have HQN : Hid (∀ q, QQ q → (q < w.heap.size ∧ B ≤ q ∧ (Value.slice aC R.length cC).ownBlock = some q) ∨ wr.heap.size ≤ q) := fun q hq => by
              rw [← hQQ] at hq
              rcases hq with h | h
              · exact .inl ⟨(own_cellsC HOC.out h).1, from_le (HOC.out.2 q h), h⟩
              · exact .inr h
            have HOCr : Hid (∀ w', Below wr.heap.size wr w' → Own chCod QQ w' (.slice aC R.length cC) R) := fun w' hw' => Own.blocks (c := chCod) (Q := QQ) (w := w) ⟨HOC.out.1, fun g hg => by rw [← hQQ]; exact .inl hg⟩ (fun g _ hg => (hw'.block g (by omega)).trans (HBR.out.block g hg))
            clear hQQ
            have hbw1 : w.heap.size < wr.heap.size := HVBr.out.lt
            have HFIN : Hid (∀ w4 a5 c5, Keeps QQ wr w4 → Own chCod QQ w4 (.slice a5 (R ++ [(⟨x, aV, V.length, cV⟩ : RCh)]).length c5) (R ++ [⟨x, aV, V.length, cV⟩]) → POST (.returned (.tuple #[])) (w4.setCell ⟨b, 1, none⟩ (.slice a5 (R.length + 1) c5))) := by
              intro w4 a5 c5 hk ho
              rw [← HPOST.out]
              have hnq : ∀ q, q < wr.heap.size → ¬ (q < w.heap.size ∧ B ≤ q ∧ (Value.slice aC R.length cC).ownBlock = some q) → ¬ QQ q := fun q hq hn h => by
                rcases HQN.out q h with h | h
                · exact hn h
                · omega
              have hV4 : Var w4 b [vT, .slice aC R.length cC, .int .i64 line, .slice aw W.length cw] := HVr.out.keeps hk (hnq b (by omega) (by omega))
              have hblk : ∀ g, g < w.heap.size → g ≠ b → (Value.slice aC R.length cC).ownBlock ≠ some g → (w4.setCell ⟨b, 1, none⟩ (.slice a5 (R.length + 1) c5)).heap[g]? = w.heap[g]? := fun g h1 h2 h3 => by
                rw [setCell_other' _ _ _ _ h2, hk.block g (by omega) (hnq g (by omega) (fun h => h3 h.2.2)), HBR.out.block g h1]
              have hk1 : Keeps (Also b B) w (w4.setCell ⟨b, 1, none⟩ (.slice a5 (R.length + 1) c5)) := keeps_setCell ((HKP.out _ HBR.out).trans ⟨hk.os, hk.tape, hk.output, hk.size, fun q hq hn => hk.block q hq (fun h => hn (by
                rcases HQN.out q h with ⟨_, h, _⟩ | h
                · exact .inr h
                · exact .inr (by omega)))⟩) (.inr (.inl rfl)) _
              refine ⟨hk1, .inl ⟨by rw [HE.out], rfl, ?_⟩⟩
              have hE : (chLine W C).2.2 = ⟨x, V⟩ := by rw [HE.out]
              rw [hE]
              refine ⟨vT, .slice a5 (R.length + 1) c5, R ++ [⟨x, aV, V.length, cV⟩], hV4.setCell 1 _, HOT.out.blocks (fun g hg hgl => hblk g hgl (by have := from_le (HOT.out.2 g hg); omega) (fun hc => ?_)), ?_, ?_, ?_⟩
              · obtain ⟨c1, e1⟩ := own_elem HOT.out hg
                obtain ⟨c2, e2⟩ := own_elem HOC.out hc
                rw [e1] at e2
                have e3 : tpCod.E = chCod.E := by simp only [Option.some.injEq, Obj.cells.injEq] at e2; exact e2.2.1
                exact absurd e3 (by decide)
              · have ho' : Own chCod QQ w4 (.slice a5 (R.length + 1) c5) (R ++ [⟨x, aV, V.length, cV⟩]) := by rwa [List.length_append, List.length_singleton] at ho
                refine (ho'.sub (Q' := From B) (fun g hg => ?_)).blocks (fun g hg _ => setCell_other' _ _ _ _ ?_)
                · rcases HQN.out g hg with ⟨_, h, _⟩ | h
                  · exact h
                  · show B ≤ g; omega
                · rcases HQN.out g (ho'.2 g hg) with ⟨_, h, _⟩ | h
                  · show g ≠ b; omega
                  · show g ≠ b; omega
              · have hold : ChsOk (w4.setCell ⟨b, 1, none⟩ (.slice a5 (R.length + 1) c5)) B R C := by
                  refine ⟨HCS.out.1, fun i h1 h2 => ?_⟩
                  obtain ⟨g1, g2, g3, g4⟩ := HCS.out.2 i h1 h2
                  refine ⟨g1, g2, g3, ?_⟩
                  rcases g4 with g4 | ⟨g, o, g5, g6, g7, g8⟩
                  · exact .inl g4
                  · by_cases h0 : (C[i]'h2).vals = []
                    · exact .inl h0
                    · have hne : (R[i]'h1).n ≠ 0 := by rw [g2]; exact fun e => h0 (List.eq_nil_of_length_eq_zero e)
                      obtain ⟨g', o', cur, fz, e1, _, e2⟩ := (HVS.out _ (List.getElem_mem h1)).resolve_left hne
                      rw [g5] at e1
                      cases e1
                      have hh := hblk g g7 (by omega) (fun hc => by
                        obtain ⟨c2, e3⟩ := own_elem HOC.out hc
                        rw [e2] at e3
                        have e4 : 9 = chCod.E := by simp only [Option.some.injEq, Obj.cells.injEq] at e3; exact e3.2.1
                        exact absurd e4 (by decide))
                      exact .inr ⟨g, o, g5, g6, by rw [show (w4.setCell ⟨b, 1, none⟩ (.slice a5 (R.length + 1) c5)).heap.size = w4.heap.size by simp [World.setCell]]; have := hk.size; omega, fun q u hq => by rw [World.cell?_of_block (a := ⟨g, _, none⟩) hh]; exact g8 q u hq⟩
                refine hold.snoc ⟨rfl, rfl, hcV, ?_⟩
                rcases HLV.out with h | ⟨g, o, g5, g6, g7, g8⟩
                · exact .inl h
                · have hh : (w4.setCell ⟨b, 1, none⟩ (.slice a5 (R.length + 1) c5)).heap[g]? = wr.heap[g]? := by
                    rw [setCell_other' _ _ _ _ (by show g ≠ b; omega), hk.block g g7 (hnq g g7 (by omega))]
                  exact .inr ⟨g, o, g5, by omega, by rw [show (w4.setCell ⟨b, 1, none⟩ (.slice a5 (R.length + 1) c5)).heap.size = w4.heap.size by simp [World.setCell]]; have := hk.size; omega, fun q u hq => by rw [World.cell?_of_block (a := ⟨g, _, none⟩) hh]; exact g8 q u hq⟩
              · intro r hr
                rcases List.mem_append.1 hr with hr | hr
                · rcases HVS.out r hr with h | ⟨g, o, cur, fz, e1, e0, e2⟩
                  · exact .inl h
                  · refine .inr ⟨g, o, cur, fz, e1, e0, ?_⟩
                    have hgl : g < w.heap.size := (Array.getElem?_eq_some_iff.1 e2).1
                    rw [hblk g hgl (by omega) (fun hc => by
                      obtain ⟨c2, e3⟩ := own_elem HOC.out hc
                      rw [e2] at e3
                      have e4 : 9 = chCod.E := by simp only [Option.some.injEq, Obj.cells.injEq] at e3; exact e3.2.1
                      exact absurd e4 (by decide))]
                    exact e2
                · rw [List.mem_singleton] at hr
                  subst hr
                  by_cases h0 : V.length = 0
                  · exact .inl h0
                  · obtain ⟨g, o, g5, g6, g7, g8⟩ := HLV.out.resolve_left (fun h => h0 (by rw [h]; rfl))
                    have hob : (Value.slice aV V.length cV).ownBlock = some g := by
                      rcases HOVr.out.form with ⟨e, e'⟩ | ⟨g', c', e, _⟩
                      · exact absurd (by rw [e']; rfl) h0
                      · rw [e]; cases e; cases g5; rfl
                    obtain ⟨cur, e2⟩ := own_elem HOVr.out hob
                    refine .inr ⟨g, o, cur, (0, 0), g5, by omega, ?_⟩
                    rw [setCell_other' _ _ _ _ (by show g ≠ b; omega), hk.block g g7 (hnq g g7 (by omega))]
                    exact e2
            go_region_law (go_loud (refine step_append_list rfl chCod (.tmp 55) (.tmp 57) 28 rfl rfl QQ _ _ R rfl (HOCr.out _ (by repeat (first | exact Below.refl _ _ | assumption | refine below_grown ?_ (by first | omega | (simp [go_sem]; done) | (simp [go_sem] <;> omega)) _ | refine Below.alloc ?_ (by first | omega | (simp [go_sem]; done) | (simp [go_sem] <;> omega)) _ | refine below_bytesW ?_ (by first | omega | (simp [go_sem]; done) | (simp [go_sem] <;> omega)) _ | refine Below.drew ?_ | refine below_drewN ?_ _))) _ 0 _ _ [⟨x, aV, V.length, cV⟩] rfl rfl (by first | exact ch_new _ _ _ (by simp [go_sem]) | exact ListAt.below (ch_new _ _ _ (by simp [go_sem])) (by repeat (first | exact Below.refl _ _ | assumption | refine below_grown ?_ (by first | omega | (simp [go_sem]; done) | (simp [go_sem] <;> omega)) _ | refine Below.alloc ?_ (by first | omega | (simp [go_sem]; done) | (simp [go_sem] <;> omega)) _ | refine below_bytesW ?_ (by first | omega | (simp [go_sem]; done) | (simp [go_sem] <;> omega)) _ | refine Below.drew ?_ | refine below_drewN ?_ _))) (by simp [chCod]; omega) (by simp; omega) (HQS.out _ (by first | (simp; done) | (simp [go_sem]; done) | (simp [go_sem]; omega))) ?_); intro v' w4 ho4 hb4; have HB4 : Hid (Keeps QQ wr w4) := Keeps.trans (Keeps.of_below (by repeat (first | exact Below.refl _ _ | assumption | refine below_grown ?_ (by first | omega | (simp [go_sem]; done) | (simp [go_sem] <;> omega)) _ | refine Below.alloc ?_ (by first | omega | (simp [go_sem]; done) | (simp [go_sem] <;> omega)) _ | refine below_bytesW ?_ (by first | omega | (simp [go_sem]; done) | (simp [go_sem] <;> omega)) _ | refine Below.drew ?_ | refine below_drewN ?_ _))) hb4; have HV4 : Hid (Var w4 b [vT, .slice aC R.length cC, .int .i64 line, .slice aw W.length cw]) := HVr.out.keeps HB4.out (fun h => by rcases HQN.out _ h with ⟨_, h, _⟩ | h <;> omega); have d0 : w4.cell? ⟨w.heap.size, 0, none⟩ = some (.pointer (some ⟨b, 0, none⟩)) := (HVBr.out.keeps HB4.out (fun h => by rcases HQN.out _ h with ⟨h, _, _⟩ | h <;> omega)).cell 0 (by simp); have d1 : w4.frozen? ⟨b, 1, none⟩ = false := HV4.out.free 1; have d2 : w4.cell? ⟨b, 1, none⟩ = some (.slice aC R.length cC) := HV4.out.cell 1 (by simp); obtain ⟨a5, c5, rfl, hc5, hl5⟩ := ho4.slice (B := B) (fun q hq => by rcases HQN.out _ hq with ⟨_, h, _⟩ | h <;> omega); have HO4 := Lib.hid ho4; clear ho4 hb4 hl5)
            all_goals
              go_end0
              exact HFIN.out _ _ _ HB4.out HO4.out
    · have HE : Hid (chLine W C = (52, 1, ⟨[], []⟩)) := by show _ = _; rw [HCL.out, if_neg (by rw [hn]; decide), if_pos rfl]
      have HNM2 : Hid (∀ bb w', Below w.heap.size w w' → Var w' bb [.pointer (some ⟨b, 0, none⟩)] → Calls Tryz.prog 55 #[.pointer (some ⟨b, 0, none⟩), .func (.func 56) #[] #[.pointer (some ⟨bb, 0, none⟩)]] w' fun e w'' => e = .panicked [{ v := .iface 24 (.agg (faultV 52 line (colW W 1))), recovered := false }] ∧ Below w'.heap.size w' w'') := fun bb w' h1 h2 => (HNM.out bb w' h1 h2).mono fun e w'' h => by
        obtain ⟨h, hb⟩ := h
        rcases h with ⟨h, _⟩ | ⟨_, _, h⟩ | ⟨_, h, _⟩
        · rw [hn] at h; cases h
        · exact ⟨h, hb⟩
        · cases h
      go_enter Tryz.func34, Tryz.ntmps34
      go_wp2_with (go_at_call 55; (with_reducible refine (HNM2.out _ _ (by repeat (first | exact Below.refl _ _ | assumption | refine below_grown ?_ (by first | omega | (simp [go_sem]; done) | (simp [go_sem] <;> omega)) _ | refine Below.alloc ?_ (by first | omega | (simp [go_sem]; done) | (simp [go_sem] <;> omega)) _ | refine below_bytesW ?_ (by first | omega | (simp [go_sem]; done) | (simp [go_sem] <;> omega)) _ | refine Below.drew ?_ | refine below_drewN ?_ _)) (Var.new _ _ _ rfl (by simp))).mono ?_); rintro e w1 ⟨rfl, hb1⟩; obtain ⟨p1, rfl⟩ := grown_of hb1; clear hb1)
      refine ⟨rfl, ?_⟩
      rw [← HPOST.out]
      exact ⟨HKP.out _ (by repeat (first | exact Below.refl _ _ | assumption | refine below_grown ?_ (by first | omega | (simp [go_sem]; done) | (simp [go_sem] <;> omega)) _ | refine Below.alloc ?_ (by first | omega | (simp [go_sem]; done) | (simp [go_sem] <;> omega)) _ | refine below_bytesW ?_ (by first | omega | (simp [go_sem]; done) | (simp [go_sem] <;> omega)) _ | refine Below.drew ?_ | refine below_drewN ?_ _)), .inr ⟨by rw [HE.out]; decide, by rw [HE.out]; rfl⟩⟩
end
end Go.Proofs.YtnkckejbkbbdlaaGreatDoor
