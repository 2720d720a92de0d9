/- The walk of the document's line of hosts. -/
import Derived.Test.YthklfbakffaioaaDoorTopoAllA
import Derived.Deep.DeepCutAuto
namespace Go.Proofs.YthklfbakffaioaaDoor
open Go Go.RowKit
set_option maxRecDepth 20000
set_option linter.unusedSimpArgs false
set_option linter.unusedVariables false

/-- A struct stored into a part of a variable. -/
theorem storeRow_part {P : Program} {t : TypeId} (w : World) (b o : Nat) (base cs out : List Value) (h : isAggT P t = true) (hs : cs.length = P.cellsOf t) (hv : Var w b base) (hn : o + cs.length ≤ base.length) (h1 : ∀ v ∈ cs, v.oneCell' = true) (ho : base.take o ++ cs ++ base.drop (o + cs.length) = out) :
    storeRow P w t (.pointer (some ⟨b, o, none⟩)) (.agg cs.toArray) = .ok .skip (w.setRow b out.toArray) := by
  obtain ⟨_, h2⟩ := isAggT_run h w
  obtain ⟨t', hh⟩ := hv
  have h3 : (Value.agg cs.toArray).cells = cs.toArray := rfl
  have := run_storeCells_at P b o t' cs 0 base.toArray w hh (by simp; omega) h1
  simp only [storeRow, Instr.storeAt, Instr.sureAddr, storeVar, Sem.run_bind, Sem.run_pure, Result.andThen_ok, h2, h3]
  simp only [Nat.add_zero] at this
  rw [ho] at this
  simp [this, hs]
theorem run_build_patP (pl se : Bool) (pa : List UInt8) (w : World) :
    (Instr.build 41 #[(2, .bool pl), (3, .bool se), (4, .string ⟨pa.toArray⟩)]).run Tryd.prog w = .ok (.agg (patV false zeroH pl se pa)) w := by kernel_rfl
@[go_sem ↓ high] theorem run_op_build_patP (ev : Operand → Value) (dst : Option Tmp) (x2 x3 x4 : Operand) (ty : TypeId) (pos : String) (af : Array Edge) (g : Option (Nat × Bool)) (w : World) :
    Sem.run Tryd.prog (execOp ev { dst := dst, op := .build 41 #[(2, x2), (3, x3), (4, x4)], type := ty, pos := pos, after := af, guard := g }) w = buildRow Tryd.prog w 41 #[(2, ev x2), (3, ev x3), (4, ev x4)] := by
  rw [run_op_build]
  simp
@[go_sem] theorem buildPatP_at (pl se : Bool) (pa : List UInt8) (w : World) : buildRow Tryd.prog w 41 #[(2, .bool pl), (3, .bool se), (4, .string ⟨pa.toArray⟩)] = .ok (.value (.agg (patV false zeroH pl se pa))) w := by
  rw [buildRow, Sem.run_bind, run_build_patP]; rfl
theorem Var.pa19 {w : World} {b : Nat} {wi : Bool} {h : GHost} {pl se : Bool} {pa : List UInt8} (hv : Var w b (patR wi h pl se pa)) : w.cell? ⟨b, 19, none⟩ = some (.bool pl) := by
  rw [hv.cell 19 (by rw [patR_length]; decide), ← patV_19 wi h pl se pa]
  unfold patV
  rw [List.getElem?_toArray, List.getElem?_eq_getElem (by rw [patR_length]; decide)]
theorem Var.pa20 {w : World} {b : Nat} {wi : Bool} {h : GHost} {pl se : Bool} {pa : List UInt8} (hv : Var w b (patR wi h pl se pa)) : w.cell? ⟨b, 20, none⟩ = some (.bool se) := by
  rw [hv.cell 20 (by rw [patR_length]; decide), ← patV_20 wi h pl se pa]
  unfold patV
  rw [List.getElem?_toArray, List.getElem?_eq_getElem (by rw [patR_length]; decide)]
theorem below_setCellR {B : Nat} {w w2 : World} (h : Below B w w2) {a : Addr} (hB : B ≤ a.block) (v : Value) : Below B w (w2.setCell a v) :=
  ⟨h.os, h.tape, h.output, by have := h.size; simp [World.setCell]; exact this, fun k hk => by rw [setCell_other' w2 a v k (by omega)]; exact h.block k hk⟩
theorem cell_setCell_other' (w : World) (a : Addr) (v : Value) (b o : Nat) (h : b ≠ a.block) : (w.setCell a v).cell? ⟨b, o, none⟩ = w.cell? ⟨b, o, none⟩ := by
  unfold World.cell?
  rw [setCell_other' w a v b h]
/-- The ways through a line, as the document goes. -/
theorem ref_ways (s : List UInt8) :
    ((splitL 32 s).length ≠ 4 ∧ topoLine s = (zeroPt, 131, 0)) ∨
    (∃ x0 x1 x2 x3, splitL 32 s = [x0, x1, x2, x3] ∧
      (((x0 ≠ verbL ∨ (x0 = verbL ∧ x1 = []) ∨ (x0 = verbL ∧ x1 ≠ [] ∧ x2 = []) ∨ (x0 = verbL ∧ x1 ≠ [] ∧ x2 ≠ [] ∧ x3 = [])) ∧ topoLine s = (zeroPt, 131, 0)) ∨
       (x0 = verbL ∧ x1 ≠ [] ∧ x2 ≠ [] ∧ x3 ≠ [] ∧
        ((parseOk (Lib.trimPrefix x1 [42, 46]) = false ∧ topoLine s = (zeroPt, 31, 1)) ∨
         (parseOk (Lib.trimPrefix x1 [42, 46]) = true ∧ Lib.hasPrefix x1 [42, 46] = true ∧ (parseH (Lib.trimPrefix x1 [42, 46])).kind ≠ 1 ∧ topoLine s = (zeroPt, 31, 1)) ∨
         (parseOk (Lib.trimPrefix x1 [42, 46]) = true ∧ (Lib.hasPrefix x1 [42, 46] = true → (parseH (Lib.trimPrefix x1 [42, 46])).kind = 1) ∧
           ((schemeN x2 < 1 ∧ topoLine s = (zeroPt, 211, 2)) ∨
            (¬ schemeN x2 < 1 ∧ pathOk x3 = false ∧ topoLine s = (zeroPt, 43, 3)) ∨
            (¬ schemeN x2 < 1 ∧ pathOk x3 = true ∧ topoLine s = ((Lib.hasPrefix x1 [42, 46], parseH (Lib.trimPrefix x1 [42, 46]), plainN x2, secureN x2, x3), 0, 0)))))))) := by
  by_cases h4 : (splitL 32 s).length = 4
  · right
    rcases topo_ways s with ⟨h1, hO⟩ | ⟨_, h2, _⟩ | ⟨_, x0, x1, x2, x3, hL, n1, n2, n3, hW⟩
    · rcases hL : splitL 32 s with _ | ⟨x0, _ | ⟨x1, _ | ⟨x2, _ | ⟨x3, _ | ⟨x4, M⟩⟩⟩⟩⟩
      all_goals (rw [hL] at h4; simp at h4)
      refine ⟨x0, x1, x2, x3, rfl, .inl ⟨?_, hO⟩⟩
      by_cases a0 : x0 = verbL
      · by_cases a1 : x1 = []
        · exact .inr (.inl ⟨a0, a1⟩)
        · by_cases a2 : x2 = []
          · exact .inr (.inr (.inl ⟨a0, a1, a2⟩))
          · refine .inr (.inr (.inr ⟨a0, a1, a2, ?_⟩))
            have hw : wordsOk s = !(splitL 32 s).any (·.isEmpty) := rfl
            rw [hw, hL] at h1
            subst a0
            simp [a1, a2, verbL] at h1
            exact h1
      · exact .inl a0
    · exact absurd h4 h2
    · refine ⟨x0, x1, x2, x3, hL, ?_⟩
      rcases hW with ⟨k1, hO⟩ | ⟨k0, k1, hO⟩ | ⟨k0, k1, k2, k3, hO⟩ | ⟨k0, k1, k2, hr⟩
      · exact .inl ⟨.inl k1, hO⟩
      · exact .inr ⟨k0, n1, n2, n3, .inl ⟨k1, hO⟩⟩
      · exact .inr ⟨k0, n1, n2, n3, .inr (.inl ⟨k1, k2, k3, hO⟩)⟩
      · exact .inr ⟨k0, n1, n2, n3, .inr (.inr ⟨k1, k2, hr⟩)⟩
  · left
    refine ⟨h4, ?_⟩
    rcases topo_ways s with ⟨_, hO⟩ | ⟨_, _, hO⟩ | ⟨_, x0, x1, x2, x3, hL, _⟩
    · exact hO
    · exact hO
    · rw [hL] at h4; exact absurd rfl h4
theorem cols (s x0 x1 x2 x3 : List UInt8) (h : splitL 32 s = [x0, x1, x2, x3]) (h0 : x0 = verbL) : colT s 1 = 6 ∧ colT s 2 = 7 + (x1.length : Int) ∧ colT s 3 = 8 + (x1.length : Int) + (x2.length : Int) := by
  subst h0
  unfold colT
  rw [h]
  have : verbL.length = 4 := rfl
  refine ⟨?_, ?_, ?_⟩ <;> simp [sumW, this] <;> omega
theorem trimP_drop (x : List UInt8) (h : Lib.hasPrefix x [42, 46] = true) : Lib.trimPrefix x [42, 46] = x.drop 2 := by
  unfold Lib.trimPrefix
  rw [if_pos h]; rfl
theorem trimP_keep (x : List UInt8) (h : Lib.hasPrefix x [42, 46] = false) : Lib.trimPrefix x [42, 46] = x := by
  unfold Lib.trimPrefix
  rw [if_neg (by rw [h]; decide)]
theorem pre2_take (x : List UInt8) (h : 2 ≤ x.length) : (x.take 2 == [42, 46]) = Lib.hasPrefix x [42, 46] := by
  rcases x with _ | ⟨a, _ | ⟨b, t⟩⟩
  · simp at h
  · simp at h
  · show ((a == 42) && ((b == 46) && true)) = ((42 == a) && ((46 == b) && List.isPrefixOf ([] : List UInt8) t))
    have e : List.isPrefixOf ([] : List UInt8) t = true := rfl
    rw [e, Bool.beq_comm (a := a), Bool.beq_comm (a := b)]
theorem pre2_short (x : List UInt8) (h : ¬ 2 ≤ x.length) : Lib.hasPrefix x [42, 46] = false := by
  unfold Lib.hasPrefix
  cases hp : List.isPrefixOf ([42, 46] : List UInt8) x
  · rfl
  · rw [List.isPrefixOf_iff_prefix] at hp
    have := hp.length_le
    simp at this; omega
set_option maxHeartbeats 1000000 in
theorem refBegins_any (x : List UInt8) (hx : x.length ≤ maxLen) (w : World) :
    Calls Tryd.prog 28 #[.string ⟨x.toArray⟩, .string ⟨[42, 46].toArray⟩] w fun e w' => e = .returned (.bool (Lib.hasPrefix x [42, 46])) ∧ w = w' := by
  unfold maxLen at hx
  by_cases h2 : (2 : Int) ≤ x.length
  · have ht := pre2_take x (by omega)
    rw [← ht]
    go_enter Tryd.func28, Tryd.ntmps28
    have hn1 : ¬ (x.length : Int) < 2 := by omega
    go_wp2
    go_ret
    exact ⟨by first | rfl | exact ret_bool (by rfl) | exact ret_bool (by simp), rfl⟩
  · rw [pre2_short x (by omega)]
    go_enter Tryd.func28, Tryd.ntmps28
    go_wp2
    go_ret
    exact ⟨by first | rfl | exact ret_bool (by simp), rfl⟩
set_option maxRecDepth 100000 in
set_option maxHeartbeats 8000000 in
theorem refTopoLine_any (s : List UInt8) (hs : s.length ≤ 1000000) (w : World) :
    Calls Tryd.prog 15 #[.string ⟨s.toArray⟩] w fun e w' => e = .returned (.tuple #[.agg (ptV (topoLine s).1), .int .i64 (topoLine s).2.1, .int .i64 (colT s (topoLine s).2.2.toNat)]) ∧ Below w.heap.size w w' := by
  have HSP : Hid (∀ w, Calls Tryd.prog 27 #[.string ⟨s.toArray⟩, .int .u8 32] w (Gives strCod (splitL 32 s) w)) := fun w => refSplit_any s 32 (by omega) w
  have C0 := Lib.hid (colT_zero s)
  rcases ref_ways s with ⟨h4, hO⟩ | ⟨x0, x1, x2, x3, hL, hW⟩
  · have HO := Lib.hid hO
    clear hO
    generalize topoLine s = out at *
    generalize colT s = ct at *
    generalize splitL 32 s = L at *
    have h4' : ((L.length : Int) != 4) = true := by rw [bne_iff_ne]; omega
    clear h4
    have hv2 : True := trivial
    have hi2 : True := trivial
    go_enter Tryd.func15, Tryd.ntmps15
    go_wp2_with (go_at_call 27; (with_reducible refine (HSP.out _).mono ?_); intro e w1 hg; obtain ⟨a1, c1, rfl, hc1, hb1, hl1⟩ := hg; obtain ⟨p1, rfl⟩ := grown_of hb1; clear hb1)
    exact ret_cell_pat w.heap.size (patV false zeroH false false []) (.int .i64 131) (.int .i64 1) rfl rfl rfl rfl agg_pat (by simp [go_sem, hv2, hi2]) (by simp [go_sem, hv2, hi2]) rfl ⟨by rw [HO.out]; show _ = Ending.returned (.tuple #[_, _, .int .i64 (ct 0)]); rw [C0.out]; rfl, below_setRow (by repeat (first | exact Below.refl _ _ | assumption | refine below_grown ?_ (by first | omega | (simp [go_sem]; done) | (simp [go_sem] <;> omega)) _ | refine Below.alloc ?_ (by first | omega | (simp [go_sem]; done) | (simp [go_sem] <;> omega)) _ | refine below_bytesW ?_ (by first | omega | (simp [go_sem]; done) | (simp [go_sem] <;> omega)) _ | refine Below.drew ?_ | refine below_drewN ?_ _)) (Nat.le_refl _) _⟩
  · have hpl : ∀ p ∈ splitL 32 s, p.length ≤ s.length := splitL_piece_le 32 s
    rw [hL] at hpl HSP
    have l1 : x1.length ≤ 1000000 := Nat.le_trans (hpl x1 (by simp)) hs
    have l2 : x2.length ≤ 1000000 := Nat.le_trans (hpl x2 (by simp)) hs
    have l3 : x3.length ≤ 1000000 := Nat.le_trans (hpl x3 (by simp)) hs
    have CC := Lib.hid (cols s x0 x1 x2 x3 hL)
    clear hL hpl
    generalize topoLine s = out at *
    generalize colT s = ct at *
    go_enter Tryd.func15, Tryd.ntmps15
    go_upto_region 2 with (go_at_call 27; (with_reducible refine (HSP.out _).mono ?_); intro e w1 hg; obtain ⟨a1, c1, rfl, hc1, hb1, hl1⟩ := hg; have HB1 := Lib.hid hb1; have HL1 := Lib.hid hl1; clear hb1 hl1)
    have hs1 := HB1.out.size
    simp at hs1
    obtain ⟨b1, o1, rfl, hlo1, hhi1, hat1⟩ := HL1.out.resolve_left (by simp)
    have hc0 := strAt hat1 0 (by simp)
    have hc1' := strAt hat1 1 (by simp)
    have hc2 := strAt hat1 2 (by simp)
    have hc3 := strAt hat1 3 (by simp)
    simp at hc0 hc1' hc2 hc3
    have hv2 : hasVar w1 w.heap.size 22 = true := (hasVar_congr (HB1.out.block _ (by simp))).trans (by simp [go_sem])
    have hi2 : isOld w.heap.size w1 = true := isOld_iff.2 (by omega)
    have hi1 : isOld b1 w1 = true := isOld_iff.2 hhi1
    have HBW : Hid (Below w.heap.size w w1) := ((Below.refl _ _).alloc (Nat.le_refl _) _).trans (HB1.out.mono (by simp))
    have HAT1 := Lib.hid hat1
    clear hat1
    rcases hW with ⟨hX, hO⟩ | ⟨rfl, n1, n2, n3, hW⟩
    · have HO := Lib.hid hO
      clear hO
      rcases hX with hX | ⟨rfl, rfl⟩ | ⟨rfl, m1, rfl⟩ | ⟨rfl, m1, m2, rfl⟩
      · have t0 : (x0 != [104, 111, 115, 116]) = true := by rw [bne_iff_ne]; exact hX
        have t0' : (x0 == [104, 111, 115, 116]) = false := by rw [beq_eq_false_iff_ne]; exact hX
        clear hX
        go_wp2
        exact ret_cell_pat w.heap.size (patV false zeroH false false []) (.int .i64 131) (.int .i64 1) rfl rfl rfl rfl agg_pat (by simp [go_sem, hv2, hi2]) (by simp [go_sem, hv2, hi2]) rfl ⟨by rw [HO.out]; show _ = Ending.returned (.tuple #[_, _, .int .i64 (ct 0)]); rw [C0.out]; rfl, below_setRow HBW.out (Nat.le_refl _) _⟩
      all_goals
        unfold verbL at *
        first | (have t1 : x1.isEmpty = false := by rw [List.isEmpty_eq_false_iff]; exact m1) | skip
        first | (have t2 : x2.isEmpty = false := by rw [List.isEmpty_eq_false_iff]; exact m2) | skip
        go_wp2
        exact ret_cell_pat w.heap.size (patV false zeroH false false []) (.int .i64 131) (.int .i64 1) rfl rfl rfl rfl agg_pat (by simp [go_sem, hv2, hi2]) (by simp [go_sem, hv2, hi2]) rfl ⟨by rw [HO.out]; show _ = Ending.returned (.tuple #[_, _, .int .i64 (ct 0)]); rw [C0.out]; rfl, below_setRow HBW.out (Nat.le_refl _) _⟩
    · have HW := Lib.hid hW
      clear hW
      obtain ⟨cc1, cc2, cc3⟩ := CC.out rfl
      have C1 := Lib.hid cc1
      have C2 := Lib.hid cc2
      have C3 := Lib.hid cc3
      clear cc1 cc2 cc3 CC
      unfold verbL at *
      have t1 : x1.isEmpty = false := by rw [List.isEmpty_eq_false_iff]; exact n1
      have t2 : x2.isEmpty = false := by rw [List.isEmpty_eq_false_iff]; exact n2
      have t3 : x3.isEmpty = false := by rw [List.isEmpty_eq_false_iff]; exact n3
      have HPS : Hid ((x2 = httpW ∧ plainN x2 = true ∧ secureN x2 = false) ∨ (x2 = httpsW ∧ plainN x2 = false ∧ secureN x2 = true) ∨ (x2 = bothW ∧ plainN x2 = true ∧ secureN x2 = true) ∨ (x2 ≠ httpW ∧ x2 ≠ httpsW ∧ x2 ≠ bothW ∧ plainN x2 = false ∧ secureN x2 = false)) := by
        rcases schemeN_cases x2 with ⟨h, _⟩ | ⟨h, _⟩ | ⟨h, _⟩ | ⟨h, _⟩ | ⟨_, h1, h2, h3, _⟩
        · exact absurd h n2
        · exact .inl ⟨h, by rw [h]; rfl, by rw [h]; rfl⟩
        · exact .inr (.inl ⟨h, by rw [h]; rfl, by rw [h]; rfl⟩)
        · exact .inr (.inr (.inl ⟨h, by rw [h]; rfl, by rw [h]; rfl⟩))
        · exact .inr (.inr (.inr ⟨h1, h2, h3, by unfold plainN; simp [h1, h3], by unfold secureN; simp [h2, h3]⟩))
      have HSN : Hid (schemeN x2 < 1 ↔ (plainN x2 || secureN x2) = false) := by
        rcases schemeN_cases x2 with ⟨h, e⟩ | ⟨h, e⟩ | ⟨h, e⟩ | ⟨h, e⟩ | ⟨_, h1, h2, h3, e⟩
        · exact absurd h n2
        · show _ ↔ _
          rw [e, h]; decide
        · show _ ↔ _
          rw [e, h]; decide
        · show _ ↔ _
          rw [e, h]; decide
        · have e1 : plainN x2 = false := by unfold plainN; simp [h1, h3]
          have e2 : secureN x2 = false := by unfold secureN; simp [h2, h3]
          show _ ↔ _
          rw [e, e1, e2]; decide
      generalize schemeN x2 = sn at *
      generalize plainN x2 = pl at *
      generalize secureN x2 = se at *
      clear n1 n2 n3
      go_upto_region 4 with fail
      go_cut [6] (fun s6 wx => ∃ b6 : Nat, s6 = .pointer (some ⟨b6, 0, none⟩) ∧ Below w1.heap.size w1 wx ∧ w1.heap.size ≤ b6 ∧ Var wx b6 (patR false zeroH pl se x3))
      case first =>
        unfold httpW httpsW bothW at HPS
        rcases HPS.out with ⟨rfl, rfl, rfl⟩ | ⟨rfl, rfl, rfl⟩ | ⟨rfl, rfl, rfl⟩ | ⟨q1, q2, q3, rfl, rfl⟩
        all_goals
          first | (have u1 : (x2 == [104, 116, 116, 112]) = false := by rw [beq_eq_false_iff_ne]; exact q1) | skip
          first | (have u2 : (x2 == [104, 116, 116, 112, 115]) = false := by rw [beq_eq_false_iff_ne]; exact q2) | skip
          first | (have u3 : (x2 == [98, 111, 116, 104]) = false := by rw [beq_eq_false_iff_ne]; exact q3) | skip
          go_region
          go_wp2
          go_meet
          exact ⟨_, rfl, below_setRow (below_drew ((Below.refl _ _).alloc (Nat.le_refl _) _)) (Nat.le_refl _) _, Nat.le_refl _, Var.setRow_same (Var.drew (Var.new _ _ _ rfl rfl)) _ rfl⟩
      case rest =>
      obtain ⟨b6, rfl, hbc, hb6, hv6⟩ := hcut
      have hbs := hbc.size
      have hvl := hv6.lt
      have HATC := Lib.hid (HAT1.out.below hbc)
      have HVC : Hid (hasVar wc w.heap.size 22 = true) := (hasVar_congr (hbc.block _ (by omega))).trans hv2
      have HBWC : Hid (Below w.heap.size w wc) := HBW.out.trans (hbc.mono (by omega))
      have HV6 := Lib.hid hv6
      have hi1' : isOld b1 wc = true := isOld_iff.2 (by omega)
      have hi6' : isOld b6 wc = true := isOld_iff.2 hvl
      have hf6 : wc.frozen? ⟨b6, 0, none⟩ = false := hv6.free 0
      have hc60 : wc.cell? ⟨b6, 0, none⟩ = some (.bool false) := hv6.cell 0 (by rw [patR_length]; decide)
      clear hc0 hc1' hc2 hc3 hv2 hi2 hi1 hbc hv6 HPS HB1 HL1 HAT1 HBW HSP
      have hc1' := strAt HATC.out 1 (by simp)
      simp at hc1'
      have HBG := Lib.hid (fun w => refBegins_any x1 (by unfold maxLen; omega) w)
      have HPA : Hid (∀ w, Calls Tryd.prog 29 #[.string ⟨(Lib.trimPrefix x1 [42, 46]).toArray⟩] w fun e w' => e = .returned (.tuple #[.agg (hostC (parseH (Lib.trimPrefix x1 [42, 46]))), .int .i64 (parseE (Lib.trimPrefix x1 [42, 46]))]) ∧ Below w.heap.size w w') := fun w => refParse_any _ (by
        have : (Lib.trimPrefix x1 [42, 46]).length ≤ x1.length := by
          unfold Lib.trimPrefix
          split
          · simp
          · exact Nat.le_refl _
        omega) w
      have hE : (parseOk (Lib.trimPrefix x1 [42, 46]) = true ∧ parseE (Lib.trimPrefix x1 [42, 46]) = 0) ∨ (parseOk (Lib.trimPrefix x1 [42, 46]) = false ∧ parseE (Lib.trimPrefix x1 [42, 46]) = 31) := by
        unfold parseE
        cases parseOk (Lib.trimPrefix x1 [42, 46])
        · exact .inr ⟨rfl, rfl⟩
        · exact .inl ⟨rfl, rfl⟩
      have HPK := Lib.hid (fun w => refUPath_any x3 (by unfold maxLen; omega) w)
      have hTD := trimP_drop x1
      have hTK := trimP_keep x1
      have hLN : Lib.hasPrefix x1 [42, 46] = true → 2 ≤ x1.length := fun h => Decidable.byContradiction fun hc => by rw [pre2_short x1 hc] at h; cases h
      generalize Lib.trimPrefix x1 [42, 46] = nm at *
      generalize Lib.hasPrefix x1 [42, 46] = so at *
      generalize parseH nm = H at *
      generalize parseE nm = eH at *
      generalize parseOk nm = ok at *
      generalize pathOk x3 = pk at *
      have hw7 : IntKind.i64.wrap (7 + (x1.length : Int)) = 7 + (x1.length : Int) := IntWalk.i64_in _ (by omega)
      have hw8 : IntKind.i64.wrap (8 + (x1.length : Int)) = 8 + (x1.length : Int) := IntWalk.i64_in _ (by omega)
      have hw9 : IntKind.i64.wrap (8 + (x1.length : Int) + (x2.length : Int)) = 8 + (x1.length : Int) + (x2.length : Int) := IntWalk.i64_in _ (by omega)
      cases so
      · have hnm := (hTK rfl).symm
        subst hnm
        clear hTD hTK hLN
        go_upto_region 10 with (first
          | (go_at_call 28; (with_reducible refine (HBG.out _).mono ?_); intro e w' h; obtain ⟨rfl, h2⟩ := h; subst w')
          | (go_at_call 29; (with_reducible refine (HPA.out _).mono ?_); intro e w4 he; obtain ⟨rfl, hb4⟩ := he; have HB4 := Lib.hid hb4; clear hb4))
        have hs4 := HB4.out.size
        try simp [go_sem] at hs4
        have HV46 : Hid (Var w4 b6 (patR false zeroH pl se x3)) := Var.below HV6.out HB4.out
        have HVW4 : Hid (hasVar w4 w.heap.size 22 = true) := (hasVar_congr ((HB4.out.block _ (by first | omega | (simp [go_sem]; omega))).trans (by first | rfl | exact setCell_other' _ _ _ _ (by simp; omega)))).trans HVC.out
        have HBW4 : Hid (Below w.heap.size w w4) := HBWC.out.trans (HB4.out.mono (by omega))
        have HAT4 : Hid (ListAt strCod w4 b1 o1 [[104, 111, 115, 116], x1, x2, x3]) := HATC.out.below HB4.out
        have HV5H : Hid (Var (w4.alloc (Obj.cells (hostC H) 39)) w4.heap.size (hostL H)) := Var.new _ _ _ rfl rfl
        have HV56 := Lib.hid (HV46.out.alloc (Obj.cells (hostC H) 39))
        have HVW5 : Hid (hasVar (w4.alloc (Obj.cells (hostC H) 39)) w.heap.size 22 = true) := (hasVar_congr (((Below.refl _ _).alloc (Nat.le_refl _) _).block _ (by omega))).trans HVW4.out
        have HBW5 : Hid (Below w.heap.size w (w4.alloc (Obj.cells (hostC H) 39))) := HBW4.out.alloc (by omega) _
        have HAT5 : Hid (ListAt strCod (w4.alloc (Obj.cells (hostC H) 39)) b1 o1 [[104, 111, 115, 116], x1, x2, x3]) := HAT4.out.below ((Below.refl _ _).alloc (Nat.le_refl _) _)
        have hs5 : w4.heap.size + 1 = (w4.alloc (Obj.cells (hostC H) 39)).heap.size := by simp
        generalize (w4.alloc (Obj.cells (hostC H) 39)) = w5 at *
        have hst : storeRow Tryd.prog w5 39 (.pointer (some ⟨b6, 1, none⟩)) (.agg (hostC H)) = .ok .skip (w5.setRow b6 (patV false H pl se x3)) := storeRow_part w5 b6 1 _ (hostL H) (patR false H pl se x3) agg_host (by rw [hostL_length, cellsOf_host]) HV56.out (by rw [hostL_length, patR_length]; decide) (host_one H) (by simp [patR, hostL_length, List.drop_append])
        have hrh : hasRow w5 ⟨w4.heap.size, 0, none⟩ 18 = true := HV5H.out.hasRow (hostL_length H)
        have hqh : rowAt w5 ⟨w4.heap.size, 0, none⟩ 18 = hostC H := HV5H.out.rowAt (hostL_length H)
        have hih : isOld w4.heap.size w5 = true := isOld_iff.2 (by omega)
        have hi65 : isOld b6 w5 = true := isOld_iff.2 (by omega)
        clear hc1' hf6 hc60 hi1' hi6'
        go_upto_region 11 with fail
        have HV66 : Hid (Var (w5.setRow b6 (patV false H pl se x3)) b6 (patR false H pl se x3)) := HV56.out.setRow_same _ rfl
        have HV6H : Hid (Var (w5.setRow b6 (patV false H pl se x3)) w4.heap.size (hostL H)) := HV5H.out.setRow_other _ _ (by omega)
        have HVW6 : Hid (hasVar (w5.setRow b6 (patV false H pl se x3)) w.heap.size 22 = true) := (hasVar_setRow_other _ _ _ _ _ (by omega)).trans HVW5.out
        have HBW6 : Hid (Below w.heap.size w (w5.setRow b6 (patV false H pl se x3))) := below_setRow HBW5.out (by omega) _
        have HAT6 : Hid (ListAt strCod (w5.setRow b6 (patV false H pl se x3)) b1 o1 [[104, 111, 115, 116], x1, x2, x3]) := fun j u hj => by rw [cell_setRow_other _ _ _ _ _ (by omega)]; exact HAT5.out j u hj
        have hs6 : (w5.setRow b6 (patV false H pl se x3)).heap.size = w5.heap.size := setRow_size' _ _ _
        generalize (w5.setRow b6 (patV false H pl se x3)) = w6 at *
        have hc60 : w6.cell? ⟨b6, 0, none⟩ = some (.bool false) := HV66.out.cell 0 (by rw [patR_length]; decide)
        have hr6 : hasRow w6 ⟨b6, 0, none⟩ 22 = true := HV66.out.hasRow (patR_length _ _ _ _ _)
        have hq6 : rowAt w6 ⟨b6, 0, none⟩ 22 = patV false H pl se x3 := HV66.out.rowAt (patR_length _ _ _ _ _)
        have hc619 : w6.cell? ⟨b6, 19, none⟩ = some (.bool pl) := HV66.out.pa19
        have hc620 : w6.cell? ⟨b6, 20, none⟩ = some (.bool se) := HV66.out.pa20
        have hcH : w6.cell? ⟨w4.heap.size, 0, none⟩ = some (.int .i64 H.kind) := HV6H.out.cell 0 (by rw [hostL_length]; decide)
        have hc1 := strAt HAT6.out 1 (by simp)
        have hc2 := strAt HAT6.out 2 (by simp)
        have hc3 := strAt HAT6.out 3 (by simp)
        simp at hc1 hc2 hc3
        have hi1 : isOld b1 w6 = true := isOld_iff.2 (by omega)
        have hi6 : isOld b6 w6 = true := isOld_iff.2 (by omega)
        have hiH : isOld w4.heap.size w6 = true := isOld_iff.2 (by omega)
        have hv2 := HVW6.out
        have hi2 : isOld w.heap.size w6 = true := isOld_iff.2 (by omega)
        have hne1 : b1 ≠ w.heap.size := by simp at hlo1; omega
        clear hst hrh hqh hih hi65
        rcases HW.out with ⟨k1, hO⟩ | ⟨k1, k2, k3, hO⟩ | ⟨k1, k2, hrest⟩
        · have HO := Lib.hid hO
          have e31 : eH = 31 := by
            rcases hE with ⟨h, h'⟩ | ⟨h, h'⟩
            · rw [k1] at h; cases h
            · exact h'
          subst e31
          clear hO hE HW k1
          go_wp2
          exact ret_cell_pat w.heap.size (patV false zeroH false false []) (.int .i64 31) (.int .i64 6) rfl rfl rfl rfl agg_pat (by simp [go_sem, hv2, hi2]) (by simp [go_sem, hv2, hi2]) rfl ⟨by rw [HO.out]; show _ = Ending.returned (.tuple #[_, _, .int .i64 (ct 1)]); rw [C1.out]; rfl, below_setRow HBW6.out (Nat.le_refl _) _⟩
        · have HO := Lib.hid hO
          have e0 : eH = 0 := by
            rcases hE with ⟨h, h'⟩ | ⟨h, h'⟩
            · exact h'
            · rw [k1] at h; cases h
          subst e0
          have hk1 : (H.kind != 1) = true := by rw [bne_iff_ne]; exact k3
          clear hO hE HW k1 k3
          first
            | (exact absurd k2 (by decide))
            | (go_wp2
               exact ret_cell_pat w.heap.size (patV false zeroH false false []) (.int .i64 31) (.int .i64 6) rfl rfl rfl rfl agg_pat (by simp [go_sem, hv2, hi2]) (by simp [go_sem, hv2, hi2]) rfl ⟨by rw [HO.out]; show _ = Ending.returned (.tuple #[_, _, .int .i64 (ct 1)]); rw [C1.out]; rfl, below_setRow HBW6.out (Nat.le_refl _) _⟩)
        · have e0 : eH = 0 := by
            rcases hE with ⟨h, h'⟩ | ⟨h, h'⟩
            · exact h'
            · rw [k1] at h; cases h
          subst e0
          clear hE HW k1 k2
          rcases hrest with ⟨q1, hO⟩ | ⟨q1, rfl, hO⟩ | ⟨q1, rfl, hO⟩
          · have HO := Lib.hid hO
            have hps := HSN.out.1 q1
            rw [Bool.or_eq_false_iff] at hps
            obtain ⟨rfl, rfl⟩ := hps
            clear hO q1 HSN
            go_wp2
            go_region
            go_wp2
            exact ret_cell_pat w.heap.size (patV false zeroH false false []) (.int .i64 211) (.int .i64 (7 + (x1.length : Int))) rfl rfl rfl rfl agg_pat (by simp [go_sem, hv2, hi2]) (by simp [go_sem, hv2, hi2]) rfl ⟨by rw [HO.out]; show _ = Ending.returned (.tuple #[_, _, .int .i64 (ct 2)]); rw [C2.out]; rfl, below_setRow (below_drew HBW6.out) (Nat.le_refl _) _⟩
          · have HO := Lib.hid hO
            have hps : (pl || se) = true := by
              cases hps : (pl || se)
              · exact absurd (HSN.out.2 hps) (by omega)
              · rfl
            clear hO q1 HSN
            cases pl <;> cases se <;> first | (exact absurd hps (by decide)) | skip
            all_goals
              go_wp2_with (go_at_call 30; (with_reducible refine (HPK.out _).mono ?_); intro e w' h; obtain ⟨rfl, h2⟩ := h; subst w')
              go_region
              go_wp2
              exact ret_cell_pat w.heap.size (patV false zeroH false false []) (.int .i64 43) (.int .i64 (8 + (x1.length : Int) + (x2.length : Int))) rfl rfl rfl rfl agg_pat (by simp [go_sem, hv2, hi2]) (by simp [go_sem, hv2, hi2]) rfl ⟨by rw [HO.out]; show _ = Ending.returned (.tuple #[_, _, .int .i64 (ct 3)]); rw [C3.out]; rfl, below_setRow (below_drew HBW6.out) (Nat.le_refl _) _⟩
          · have HO := Lib.hid hO
            have hps : (pl || se) = true := by
              cases hps : (pl || se)
              · exact absurd (HSN.out.2 hps) (by omega)
              · rfl
            clear hO q1 HSN
            cases pl <;> cases se <;> first | (exact absurd hps (by decide)) | skip
            all_goals
              go_wp2_with (go_at_call 30; (with_reducible refine (HPK.out _).mono ?_); intro e w' h; obtain ⟨rfl, h2⟩ := h; subst w')
              first
                | exact ret_cell_pat w.heap.size (patV false H true false x3) (.int .i64 0) (.int .i64 1) rfl rfl rfl rfl agg_pat (by simp [go_sem, hv2, hi2]) (by simp [go_sem, hv2, hi2]) rfl ⟨by rw [HO.out]; show _ = Ending.returned (.tuple #[_, _, .int .i64 (ct 0)]); rw [C0.out]; rfl, below_setRow HBW6.out (Nat.le_refl _) _⟩
                | exact ret_cell_pat w.heap.size (patV false H false true x3) (.int .i64 0) (.int .i64 1) rfl rfl rfl rfl agg_pat (by simp [go_sem, hv2, hi2]) (by simp [go_sem, hv2, hi2]) rfl ⟨by rw [HO.out]; show _ = Ending.returned (.tuple #[_, _, .int .i64 (ct 0)]); rw [C0.out]; rfl, below_setRow HBW6.out (Nat.le_refl _) _⟩
                | exact ret_cell_pat w.heap.size (patV false H true true x3) (.int .i64 0) (.int .i64 1) rfl rfl rfl rfl agg_pat (by simp [go_sem, hv2, hi2]) (by simp [go_sem, hv2, hi2]) rfl ⟨by rw [HO.out]; show _ = Ending.returned (.tuple #[_, _, .int .i64 (ct 0)]); rw [C0.out]; rfl, below_setRow HBW6.out (Nat.le_refl _) _⟩
      · obtain rfl := hTD rfl
        have hl2 := hLN rfl
        have hl2' : ¬ (x1.length : Int) < 2 := by omega
        clear hTD hTK hLN
        go_upto_region 10 with (first
          | (go_at_call 28; (with_reducible refine (HBG.out _).mono ?_); intro e w' h; obtain ⟨rfl, h2⟩ := h; subst w')
          | (go_at_call 29; (with_reducible refine (HPA.out _).mono ?_); intro e w4 he; obtain ⟨rfl, hb4⟩ := he; have HB4 := Lib.hid hb4; clear hb4))
        have hs4 := HB4.out.size
        try simp [go_sem] at hs4
        have HV46 : Hid (Var w4 b6 (patR true zeroH pl se x3)) := Var.below (HV6.out.setCell 0 (.bool true)) HB4.out
        have HVW4 : Hid (hasVar w4 w.heap.size 22 = true) := (hasVar_congr ((HB4.out.block _ (by first | omega | (simp [go_sem]; omega))).trans (by first | rfl | exact setCell_other' _ _ _ _ (by simp; omega)))).trans HVC.out
        have HBW4 : Hid (Below w.heap.size w w4) := Below.trans (below_setCellR HBWC.out (a := ⟨b6, 0, none⟩) (by show _ ≤ b6; omega) (.bool true)) (HB4.out.mono (by simp [go_sem]; omega))
        have HAT4 : Hid (ListAt strCod w4 b1 o1 [[104, 111, 115, 116], x1, x2, x3]) := ListAt.below (fun j u hj => by rw [cell_setCell_other' _ _ _ _ _ (by show b1 ≠ b6; omega)]; exact HATC.out j u hj) HB4.out
        have HV5H : Hid (Var (w4.alloc (Obj.cells (hostC H) 39)) w4.heap.size (hostL H)) := Var.new _ _ _ rfl rfl
        have HV56 := Lib.hid (HV46.out.alloc (Obj.cells (hostC H) 39))
        have HVW5 : Hid (hasVar (w4.alloc (Obj.cells (hostC H) 39)) w.heap.size 22 = true) := (hasVar_congr (((Below.refl _ _).alloc (Nat.le_refl _) _).block _ (by omega))).trans HVW4.out
        have HBW5 : Hid (Below w.heap.size w (w4.alloc (Obj.cells (hostC H) 39))) := HBW4.out.alloc (by omega) _
        have HAT5 : Hid (ListAt strCod (w4.alloc (Obj.cells (hostC H) 39)) b1 o1 [[104, 111, 115, 116], x1, x2, x3]) := HAT4.out.below ((Below.refl _ _).alloc (Nat.le_refl _) _)
        have hs5 : w4.heap.size + 1 = (w4.alloc (Obj.cells (hostC H) 39)).heap.size := by simp
        generalize (w4.alloc (Obj.cells (hostC H) 39)) = w5 at *
        have hst : storeRow Tryd.prog w5 39 (.pointer (some ⟨b6, 1, none⟩)) (.agg (hostC H)) = .ok .skip (w5.setRow b6 (patV true H pl se x3)) := storeRow_part w5 b6 1 _ (hostL H) (patR true H pl se x3) agg_host (by rw [hostL_length, cellsOf_host]) HV56.out (by rw [hostL_length, patR_length]; decide) (host_one H) (by simp [patR, hostL_length, List.drop_append])
        have hrh : hasRow w5 ⟨w4.heap.size, 0, none⟩ 18 = true := HV5H.out.hasRow (hostL_length H)
        have hqh : rowAt w5 ⟨w4.heap.size, 0, none⟩ 18 = hostC H := HV5H.out.rowAt (hostL_length H)
        have hih : isOld w4.heap.size w5 = true := isOld_iff.2 (by omega)
        have hi65 : isOld b6 w5 = true := isOld_iff.2 (by omega)
        clear hc1' hf6 hc60 hi1' hi6'
        go_upto_region 11 with fail
        have HV66 : Hid (Var (w5.setRow b6 (patV true H pl se x3)) b6 (patR true H pl se x3)) := HV56.out.setRow_same _ rfl
        have HV6H : Hid (Var (w5.setRow b6 (patV true H pl se x3)) w4.heap.size (hostL H)) := HV5H.out.setRow_other _ _ (by omega)
        have HVW6 : Hid (hasVar (w5.setRow b6 (patV true H pl se x3)) w.heap.size 22 = true) := (hasVar_setRow_other _ _ _ _ _ (by omega)).trans HVW5.out
        have HBW6 : Hid (Below w.heap.size w (w5.setRow b6 (patV true H pl se x3))) := below_setRow HBW5.out (by omega) _
        have HAT6 : Hid (ListAt strCod (w5.setRow b6 (patV true H pl se x3)) b1 o1 [[104, 111, 115, 116], x1, x2, x3]) := fun j u hj => by rw [cell_setRow_other _ _ _ _ _ (by omega)]; exact HAT5.out j u hj
        have hs6 : (w5.setRow b6 (patV true H pl se x3)).heap.size = w5.heap.size := setRow_size' _ _ _
        generalize (w5.setRow b6 (patV true H pl se x3)) = w6 at *
        have hc60 : w6.cell? ⟨b6, 0, none⟩ = some (.bool true) := HV66.out.cell 0 (by rw [patR_length]; decide)
        have hr6 : hasRow w6 ⟨b6, 0, none⟩ 22 = true := HV66.out.hasRow (patR_length _ _ _ _ _)
        have hq6 : rowAt w6 ⟨b6, 0, none⟩ 22 = patV true H pl se x3 := HV66.out.rowAt (patR_length _ _ _ _ _)
        have hc619 : w6.cell? ⟨b6, 19, none⟩ = some (.bool pl) := HV66.out.pa19
        have hc620 : w6.cell? ⟨b6, 20, none⟩ = some (.bool se) := HV66.out.pa20
        have hcH : w6.cell? ⟨w4.heap.size, 0, none⟩ = some (.int .i64 H.kind) := HV6H.out.cell 0 (by rw [hostL_length]; decide)
        have hc1 := strAt HAT6.out 1 (by simp)
        have hc2 := strAt HAT6.out 2 (by simp)
        have hc3 := strAt HAT6.out 3 (by simp)
        simp at hc1 hc2 hc3
        have hi1 : isOld b1 w6 = true := isOld_iff.2 (by omega)
        have hi6 : isOld b6 w6 = true := isOld_iff.2 (by omega)
        have hiH : isOld w4.heap.size w6 = true := isOld_iff.2 (by omega)
        have hv2 := HVW6.out
        have hi2 : isOld w.heap.size w6 = true := isOld_iff.2 (by omega)
        have hne1 : b1 ≠ w.heap.size := by simp at hlo1; omega
        clear hst hrh hqh hih hi65
        rcases HW.out with ⟨k1, hO⟩ | ⟨k1, k2, k3, hO⟩ | ⟨k1, k2, hrest⟩
        · have HO := Lib.hid hO
          have e31 : eH = 31 := by
            rcases hE with ⟨h, h'⟩ | ⟨h, h'⟩
            · rw [k1] at h; cases h
            · exact h'
          subst e31
          clear hO hE HW k1
          go_wp2
          exact ret_cell_pat w.heap.size (patV false zeroH false false []) (.int .i64 31) (.int .i64 6) rfl rfl rfl rfl agg_pat (by simp [go_sem, hv2, hi2]) (by simp [go_sem, hv2, hi2]) rfl ⟨by rw [HO.out]; show _ = Ending.returned (.tuple #[_, _, .int .i64 (ct 1)]); rw [C1.out]; rfl, below_setRow HBW6.out (Nat.le_refl _) _⟩
        · have HO := Lib.hid hO
          have e0 : eH = 0 := by
            rcases hE with ⟨h, h'⟩ | ⟨h, h'⟩
            · exact h'
            · rw [k1] at h; cases h
          subst e0
          have hk1 : (H.kind != 1) = true := by rw [bne_iff_ne]; exact k3
          clear hO hE HW k1 k3
          first
            | (exact absurd k2 (by decide))
            | (go_wp2
               exact ret_cell_pat w.heap.size (patV false zeroH false false []) (.int .i64 31) (.int .i64 6) rfl rfl rfl rfl agg_pat (by simp [go_sem, hv2, hi2]) (by simp [go_sem, hv2, hi2]) rfl ⟨by rw [HO.out]; show _ = Ending.returned (.tuple #[_, _, .int .i64 (ct 1)]); rw [C1.out]; rfl, below_setRow HBW6.out (Nat.le_refl _) _⟩)
        · have e0 : eH = 0 := by
            rcases hE with ⟨h, h'⟩ | ⟨h, h'⟩
            · exact h'
            · rw [k1] at h; cases h
          subst e0
          have hk1 : (H.kind != 1) = false := by have h := k2 (by first | rfl | trivial); simp [h]
          clear hE HW k1 k2
          rcases hrest with ⟨q1, hO⟩ | ⟨q1, rfl, hO⟩ | ⟨q1, rfl, hO⟩
          · have HO := Lib.hid hO
            have hps := HSN.out.1 q1
            rw [Bool.or_eq_false_iff] at hps
            obtain ⟨rfl, rfl⟩ := hps
            clear hO q1 HSN
            go_wp2
            go_region
            go_wp2
            exact ret_cell_pat w.heap.size (patV false zeroH false false []) (.int .i64 211) (.int .i64 (7 + (x1.length : Int))) rfl rfl rfl rfl agg_pat (by simp [go_sem, hv2, hi2]) (by simp [go_sem, hv2, hi2]) rfl ⟨by rw [HO.out]; show _ = Ending.returned (.tuple #[_, _, .int .i64 (ct 2)]); rw [C2.out]; rfl, below_setRow (below_drew HBW6.out) (Nat.le_refl _) _⟩
          · have HO := Lib.hid hO
            have hps : (pl || se) = true := by
              cases hps : (pl || se)
              · exact absurd (HSN.out.2 hps) (by omega)
              · rfl
            clear hO q1 HSN
            cases pl <;> cases se <;> first | (exact absurd hps (by decide)) | skip
            all_goals
              go_wp2_with (go_at_call 30; (with_reducible refine (HPK.out _).mono ?_); intro e w' h; obtain ⟨rfl, h2⟩ := h; subst w')
              go_region
              go_wp2
              exact ret_cell_pat w.heap.size (patV false zeroH false false []) (.int .i64 43) (.int .i64 (8 + (x1.length : Int) + (x2.length : Int))) rfl rfl rfl rfl agg_pat (by simp [go_sem, hv2, hi2]) (by simp [go_sem, hv2, hi2]) rfl ⟨by rw [HO.out]; show _ = Ending.returned (.tuple #[_, _, .int .i64 (ct 3)]); rw [C3.out]; rfl, below_setRow (below_drew HBW6.out) (Nat.le_refl _) _⟩
          · have HO := Lib.hid hO
            have hps : (pl || se) = true := by
              cases hps : (pl || se)
              · exact absurd (HSN.out.2 hps) (by omega)
              · rfl
            clear hO q1 HSN
            cases pl <;> cases se <;> first | (exact absurd hps (by decide)) | skip
            all_goals
              go_wp2_with (go_at_call 30; (with_reducible refine (HPK.out _).mono ?_); intro e w' h; obtain ⟨rfl, h2⟩ := h; subst w')
              first
                | exact ret_cell_pat w.heap.size (patV true H true false x3) (.int .i64 0) (.int .i64 1) rfl rfl rfl rfl agg_pat (by simp [go_sem, hv2, hi2]) (by simp [go_sem, hv2, hi2]) rfl ⟨by rw [HO.out]; show _ = Ending.returned (.tuple #[_, _, .int .i64 (ct 0)]); rw [C0.out]; rfl, below_setRow HBW6.out (Nat.le_refl _) _⟩
                | exact ret_cell_pat w.heap.size (patV true H false true x3) (.int .i64 0) (.int .i64 1) rfl rfl rfl rfl agg_pat (by simp [go_sem, hv2, hi2]) (by simp [go_sem, hv2, hi2]) rfl ⟨by rw [HO.out]; show _ = Ending.returned (.tuple #[_, _, .int .i64 (ct 0)]); rw [C0.out]; rfl, below_setRow HBW6.out (Nat.le_refl _) _⟩
                | exact ret_cell_pat w.heap.size (patV true H true true x3) (.int .i64 0) (.int .i64 1) rfl rfl rfl rfl agg_pat (by simp [go_sem, hv2, hi2]) (by simp [go_sem, hv2, hi2]) rfl ⟨by rw [HO.out]; show _ = Ending.returned (.tuple #[_, _, .int .i64 (ct 0)]); rw [C0.out]; rfl, below_setRow HBW6.out (Nat.le_refl _) _⟩
end Go.Proofs.YthklfbakffaioaaDoor
