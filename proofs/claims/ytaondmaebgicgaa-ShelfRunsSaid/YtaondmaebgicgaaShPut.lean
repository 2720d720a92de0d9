/- The shelf's Put walked. -/
import Derived.Test.YtaondmaebgicgaaShL
import Derived.Test.YtaondmaebgicgaaShDr
namespace Go.Proofs.Ytaondmaebgicgaa
open Go Go.RowKit
set_option maxRecDepth 20000
set_option linter.unusedSimpArgs false
set_option linter.unusedVariables false

/-- What Put does to the list: was there one, the cookie as it is kept, the list, the last number. -/
inductive PutW (W : List GKept) (last : Nat) (c : GCookie) (s : List UInt8) : Bool → GCookie → List GKept → Nat → Prop
  | yes (k : GKept) (h : findW W c = some k) : PutW W last c s true (putC c k) (replW W c (putC c k, s)) last
  | no (h : findW W c = none) (hw : (Lit.int .i64 ((last + 1 : Nat) : Int)).wf = true) : PutW W last c s false (newC c ((last + 1 : Nat) : Int) hw) (W ++ [(newC c ((last + 1 : Nat) : Int) hw, s)]) (last + 1)
theorem PutW.facts {W : List GKept} {last : Nat} {c c' : GCookie} {s : List UInt8} {b : Bool} {W' : List GKept} {last' : Nat} (hp : PutW W last c s b c' W' last') (hA : Apart W) :
    (findW W c).isSome = b ∧ placeV c' = placeV c ∧ (fun kl => if kl.sameKey (placeLit c) = true then some (.agg (keptV (c', s))) else allF (dropW W c) kl) = allF W' ∧ W'.length = (dropW W c).length + 1 ∧ ∀ x, countW W' x = countW (dropW W c) x + (if s = x then 1 else 0) := by
  cases hp with
  | yes k h =>
    exact ⟨by rw [h]; rfl, rfl, allF_repl_drop h (samePl_of (place_put c k)), by rw [repl_length, drop_len hA h], count_repl hA h⟩
  | no h hw =>
    rw [drop_none h]
    exact ⟨by rw [h]; rfl, rfl, allF_snoc h (samePl_of (place_new c _ hw)), by simp, count_snoc W _⟩
def cookieP (c : GCookie) : List Value := [.string ⟨c.name.toArray⟩, .string ⟨c.value.toArray⟩] ++ hostL c.host
def cookieN (c : GCookie) : List Value := [.bool c.only, .string ⟨c.path.toArray⟩, .bool c.secure, .bool c.httpOnly, .int .i64 c.same, .int .i64 c.expires, .int .i64 c.born, .int .i64 c.used, .int .i64 c.seq]
theorem cookieL_pn (c : GCookie) : cookieL c = cookieP c ++ cookieN c := by simp [cookieL, cookieP, cookieN]
theorem cookieP_length (c : GCookie) : (cookieP c).length = 20 := by simp [cookieP, hostL_length]
theorem cookie_set (c : GCookie) (i : Nat) (v : Value) (h : 20 ≤ i) : (cookieL c).set i v = cookieP c ++ (cookieN c).set (i - 20) v := by
  rw [cookieL_pn, List.set_append, if_neg (by rw [cookieP_length]; omega), cookieP_length]
theorem put_set (c : GCookie) (k : GKept) : ((cookieL c).set 26 (.int .i64 k.1.born)).set 28 (.int .i64 k.1.seq) = cookieL (putC c k) ∧ ((cookieL c).set 28 (.int .i64 k.1.seq)).set 26 (.int .i64 k.1.born) = cookieL (putC c k) := by
  constructor <;> (rw [cookie_set _ _ _ (by decide), List.set_append, if_neg (by rw [cookieP_length]; omega), cookieP_length, cookieL_pn (putC c k)]; rfl)
theorem new_set (c : GCookie) (n : Int) (h : (Lit.int .i64 n).wf = true) : (cookieL c).set 28 (.int .i64 n) = cookieL (newC c n h) := by
  rw [cookie_set _ _ _ (by decide), cookieL_pn (newC c n h)]; rfl
theorem use_set (c : GCookie) (n : Int) (h : (Lit.int .i64 n).wf = true) : (cookieL c).set 27 (.int .i64 n) = cookieL (useC c n h) := by
  rw [cookie_set _ _ _ (by decide), cookieL_pn (useC c n h)]; rfl
theorem kept_set (k : GKept) (i : Nat) (v : Value) (h : i < 29) : (keptR k).set i v = (cookieL k.1).set i v ++ [.string ⟨k.2.toArray⟩] := by
  unfold keptR
  rw [List.set_append, if_pos (by rw [cookieL_length]; exact h)]
theorem cookieL_at (c : GCookie) (i : Nat) (h : 20 ≤ i) : (cookieL c)[i]? = (cookieN c)[i - 20]? := by
  rw [cookieL_pn, List.getElem?_append_right (by rw [cookieP_length]; exact h), cookieP_length]
theorem keptR_at (k : GKept) (i : Nat) (h : i < 29) : (keptR k)[i]? = (cookieL k.1)[i]? := by
  unfold keptR
  rw [List.getElem?_append_left (by rw [cookieL_length]; exact h)]
theorem Var.at {w : World} {b : Nat} {cs : List Value} (h : Var w b cs) {i : Nat} {v : Value} (hi : cs[i]? = some v) : w.cell? ⟨b, i, none⟩ = some v := by
  obtain ⟨hl, rfl⟩ := List.getElem?_eq_some_iff.1 hi
  exact h.cell i hl
/-! ### a kept cookie built -/
theorem list29s {α : Type} (l : List α) (h : l.length = 29) : ∃ a b c d e f g i j k m n o p q r s t u v x y z a1 a2 a3 a4 a5 a6, l = [a, b, c, d, e, f, g, i, j, k, m, n, o, p, q, r, s, t, u, v, x, y, z, a1, a2, a3, a4, a5, a6] := by
  match l, h with
  | [a, b, c, d, e, f, g, i, j, k, m, n, o, p, q, r, s, t, u, v, x, y, z, a1, a2, a3, a4, a5, a6], _ => exact ⟨a, b, c, d, e, f, g, i, j, k, m, n, o, p, q, r, s, t, u, v, x, y, z, a1, a2, a3, a4, a5, a6, rfl⟩
theorem run_build_kept (c : GCookie) (s : List UInt8) (w : World) :
    (Instr.build 59 #[(0, .agg (cookieC c)), (1, .string ⟨s.toArray⟩)]).run Try.prog w = .ok (.agg (keptV (c, s))) w := by
  have : ∀ l : List Value, l.length = 29 → (Instr.build 59 #[(0, .agg l.toArray), (1, .string ⟨s.toArray⟩)]).run Try.prog w = .ok (.agg ((l ++ [.string ⟨s.toArray⟩] : List Value)).toArray) w := by
    intro l hl
    obtain ⟨a, b, c, d, e, f, g, i, j, k, m, n, o, p, q, r, s, t, u, v, x, y, z, a1, a2, a3, a4, a5, a6, rfl⟩ := list29s l hl
    kernel_rfl
  exact this (cookieL c) (cookieL_length c)
@[go_sem ↓ high] theorem run_op_build_kept (ev : Operand → Value) (dst : Option Tmp) (x0 x1 : Operand) (ty : TypeId) (pos : String) (af : Array Edge) (g : Option (Nat × Bool)) (w : World) :
    Sem.run Try.prog (execOp ev { dst := dst, op := .build 59 #[(0, x0), (1, x1)], type := ty, pos := pos, after := af, guard := g }) w = buildRow Try.prog w 59 #[(0, ev x0), (1, ev x1)] := by
  rw [run_op_build]
  simp
@[go_sem] theorem buildKept_at (c : GCookie) (s : List UInt8) (w : World) : buildRow Try.prog w 59 #[(0, .agg (cookieC c)), (1, .string ⟨s.toArray⟩)] = .ok (.value (.agg (keptV (c, s)))) w := by
  rw [buildRow, Sem.run_bind, run_build_kept]
  rfl
set_option maxHeartbeats 4000000 in
theorem shPut_any (W : List GKept) (hA : Apart W) (hW : W.length < 4611686018427387904) (last B bs ba bi : Nat) (hlast : last < 4611686018427387904) (hB : B < 4611686018427387904) (c : GCookie) (s : List UInt8) (hs : s.length ≤ maxLen) (hks : ∀ k ∈ W, k.2.length ≤ maxLen) (w : World) (h : ShR w bs ba bi W last B)
    (b : Bool) (c' : GCookie) (W' : List GKept) (last' : Nat) (hp : PutW W last c s b c' W' last') :
    Calls Try.prog 10 #[.pointer (some ⟨bs, 0, none⟩), .agg (cookieC c), .string ⟨s.toArray⟩] w fun e w' => e = .returned (.bool b) ∧ ShR w' bs ba bi W' last' (B + 1) ∧ Keeps (ShO bs ba bi) w w' := by
  have HSH := Lib.hid h
  have hlba := h.2.1.lt
  have hlbs := h.1.lt
  have hlbi : bi < w.heap.size := by
    obtain ⟨n, _, h4⟩ := h.2.2.1
    exact h4.lt
  obtain ⟨hne1, hne2, hne3⟩ := h.2.2.2
  obtain ⟨es, ck, hmb, hlks⟩ := h.looks
  have hlk := fun W' => hlks c W'
  obtain ⟨hpb, hpp, hpa, hpl, hpc⟩ := hp.facts hA
  have hba : isOld ba w = true := isOld_iff.2 h.2.1.lt
  clear hlks
  have h0 : w.cell? ⟨bs, 0, none⟩ = some (.map (some ba)) := h.1.cell 0 (by simp)
  have hbs : isOld bs w = true := isOld_iff.2 h.1.lt
  rw [hpb] at hlk
  have HAP := Lib.hid hA
  have HKS := Lib.hid hks
  have HPA := Lib.hid hpa
  have HPC := Lib.hid hpc
  have HPL := Lib.hid hpl
  have HPP := Lib.hid hpp
  have HP := Lib.hid hp
  clear h hA hks hpb hpa hpc hpl hpp hp
  generalize hk0 : (findW W c).getD zeroKt = k0 at *
  have HK0 := Lib.hid hk0
  clear hk0
  have HAT := Lib.hid (fun w => at_any c w)
  have HAT2 := Lib.hid (fun w => at_any c' w)
  go_enter Try.func10, Try.ntmps10
  go_upto_region 1 with fail
  go_cut [7, 8] (fun s7 s8 wx => ∃ b7, w.heap.size < b7 ∧ s7 = .pointer (some ⟨b7, 0, none⟩) ∧ s8 = .bool b ∧ Below (w.heap.size + 1) (w.alloc (Obj.cells (cookieC c) 31)) wx ∧ Var wx b7 (keptR k0))
  case first =>
    --P
    go_region_law (first | (go_simp; (with_reducible refine (HAT.out _).mono ?_); intro e w2 he; obtain ⟨rfl, hb2⟩ := he; obtain ⟨p2, rfl⟩ := grown_of hb2; clear hb2; dsimp only))
    all_goals
      go_wp2_with fail
      go_meet
      have hz : (w.alloc (Obj.cells (cookieC c) 31)).heap.size = w.heap.size + 1 := by simp
      refine ⟨_, ?_, rfl, rfl, ?_, ?_⟩
      · omega
      · try refine below_setRow ?_ (Nat.le_refl _) _
        exact (by repeat (first | exact Below.refl _ _ | assumption | refine below_grown ?_ (by first | omega | (simp [go_sem]; done) | (simp [go_sem] <;> omega)) _ | refine Below.alloc ?_ (by first | omega | (simp [go_sem]; done) | (simp [go_sem] <;> omega)) _ | refine below_bytesW ?_ (by first | omega | (simp [go_sem]; done) | (simp [go_sem] <;> omega)) _ | refine Below.drew ?_ | refine below_drewN ?_ _))
      · first
          | exact Var.new _ _ _ rfl (by simp [go_sem])
          | exact Var.setRow (Var.grown (Var.drew (Var.new _ _ _ rfl (by simp [go_sem]))) _) (keptR k0)
          | exact Var.setRow (Var.grown (Var.new _ _ _ rfl (by simp [go_sem])) _) (keptR k0)
    --Q
  case rest =>
  obtain ⟨b7, hb7, rfl, rfl, hbw, hv7⟩ := hcut
  have hz : (w.alloc (Obj.cells (cookieC c) 31)).heap.size = w.heap.size + 1 := by simp
  have hv4 : Var wc w.heap.size (cookieL c) := (Var.new w (cookieC c) 31 rfl rfl).below (by rw [hz]; exact hbw)
  have hbw2 : Below w.heap.size w wc := ((Below.refl _ _).alloc (Nat.le_refl _) _).trans (hbw.mono (by omega))
  have hsh := HSH.out.below hbw2
  have hl7 := hv7.lt
  have hl4 := hv4.lt
  have hzc := hbw2.size
  have HBW := Lib.hid hbw2
  have HV4 := Lib.hid hv4
  have HV7 := Lib.hid hv7
  have HSH2 := Lib.hid hsh
  clear hbw hbw2 hmb hlk hba h0 hbs HSH es ck hv4 hv7 hsh
  go_upto_if 19 with fail
  go_cut [] (fun wx => Var wx w.heap.size (cookieL c') ∧ Var wx bs [.map (some ba), .map (some bi), .int .i64 (last' : Int)] ∧ MapF Try.prog 62 wx ba (allF (dropW W c)) (dropW W c).length ∧ (∃ n, n ≤ B ∧ MapF Try.prog 9 wx bi (sitesF (dropW W c)) n) ∧ Keeps (ShO bs ba bi) w wx)
  case first =>
    --P
    have hp := HP.out
    have hk30 : hasRow wc ⟨w.heap.size, 0, none⟩ 29 = true := HV4.out.hasRow (cookieL_length _)
    have hk31 : rowAt wc ⟨w.heap.size, 0, none⟩ 29 = cookieC c := HV4.out.rowAt (cookieL_length _)
    cases hp with
    | yes k hf =>
      have hkk : k0 = k := by rw [← HK0.out, hf]; rfl
      subst hkk
      have HD : Hid (Calls Try.prog 9 #[.pointer (some ⟨bs, 0, none⟩), .agg (cookieC c)] wc fun e w' => e = .returned (.bool true) ∧ ShR w' bs ba bi (dropW W c) last B ∧ Keeps (ShO bs ba bi) wc w') := shDrop_yes W HAP.out hW last B bs ba bi (Nat.lt_trans hB (by decide)) c wc HSH2.out k0 hf (HKS.out k0 (find_mem hf))
      clear hf
      go_upto_region 4 with (go_at_call 9; (with_reducible refine HD.out.mono ?_); intro e w3 he; obtain ⟨rfl, hr3, hk3⟩ := he; have HR3 := Lib.hid hr3; have HK3 := Lib.hid hk3; clear hr3 hk3)
      have hq4 : ¬ ShO bs ba bi w.heap.size := by rintro (h | h | h) <;> omega
      have hq7 : ¬ ShO bs ba bi b7 := by rintro (h | h | h) <;> omega
      have hv4 := HV4.out.keeps HK3.out hq4
      have hv7 := HV7.out.keeps HK3.out hq7
      have c1 : w3.cell? ⟨b7, 26, none⟩ = some (.int .i64 k0.1.born) := hv7.at (by rw [keptR_at _ _ (by decide), cookieL_at _ _ (by decide)]; rfl)
      have c2 : w3.cell? ⟨b7, 28, none⟩ = some (.int .i64 k0.1.seq) := hv7.at (by rw [keptR_at _ _ (by decide), cookieL_at _ _ (by decide)]; rfl)
      have c3 : w3.cell? ⟨w.heap.size, 26, none⟩ = some (.int .i64 c.born) := hv4.at (by rw [cookieL_at _ _ (by decide)]; rfl)
      have c4 : w3.cell? ⟨w.heap.size, 28, none⟩ = some (.int .i64 c.seq) := hv4.at (by rw [cookieL_at _ _ (by decide)]; rfl)
      have f3 := hv4.free 26
      have f4 := hv4.free 28
      have HV43 := Lib.hid hv4
      clear hv4 hv7 hk30 hk31
      go_region
      all_goals
        go_wp2_with fail
        go_meet
        have hx : ∀ {W9 : World}, Keeps (fun j => j = w.heap.size) w3 W9 → Keeps (ShO bs ba bi) w W9 → Var W9 w.heap.size (cookieL (putC c k0)) → Var W9 w.heap.size (cookieL (putC c k0)) ∧ Var W9 bs [.map (some ba), .map (some bi), .int .i64 (last : Int)] ∧ MapF Try.prog 62 W9 ba (allF (dropW W c)) (dropW W c).length ∧ (∃ n, n ≤ B ∧ MapF Try.prog 9 W9 bi (sitesF (dropW W c)) n) ∧ Keeps (ShO bs ba bi) w W9 := by
          intro W9 hk hk' hv
          obtain ⟨q1, q2, ⟨n, q3, q4⟩, _⟩ := HR3.out
          exact ⟨hv, q1.keeps hk (by omega), q2.keeps hk (by omega), ⟨n, q3, q4.keeps hk (by omega)⟩, hk'⟩
        refine hx ?_ ?_ ?_
        · exact (keeps_setCell (Q := fun j => j = w.heap.size) (keeps_setCell (Q := fun j => j = w.heap.size) (Keeps.refl _ _) (.inr rfl) _) (.inr rfl) _).drew
        · exact (keeps_setCell (keeps_setCell ((Keeps.of_below HBW.out).trans HK3.out) (.inl (Nat.le_refl _)) _) (.inl (Nat.le_refl _)) _).drew
        · first
            | (rw [← (put_set c k0).1]; exact ((HV43.out.setCell 26 _).setCell 28 _).drew)
            | (rw [← (put_set c k0).2]; exact ((HV43.out.setCell 28 _).setCell 26 _).drew)
    | no hf hw =>
      have h2 : wc.cell? ⟨bs, 2, none⟩ = some (.int .i64 (last : Int)) := HSH2.out.1.at rfl
      have f2 := HSH2.out.1.free 2
      have c4 : wc.cell? ⟨w.heap.size, 28, none⟩ = some (.int .i64 c.seq) := HV4.out.at (by rw [cookieL_at _ _ (by decide)]; rfl)
      have f4 := HV4.out.free 28
      have hll : (last : Int) < 4611686018427387904 := by omega
      clear hk30 hk31
      go_wp2
      go_meet
      have hbsn : bs ≠ w.heap.size := by omega
      obtain ⟨q1, q2, ⟨n, q3, q4⟩, _⟩ := HSH2.out
      have hD := drop_none hf
      rw [hD]
      have e : ((last + 1 : Nat) : Int) = (last : Int) + 1 := by omega
      refine ⟨?_, ?_, ?_, ⟨n, q3, ?_⟩, ?_⟩
      · rw [← new_set, e]
        exact (HV4.out.setCell_other _ _ (Ne.symm hbsn)).setCell 28 _
      · rw [e]
        exact (q1.setCell 2 _).setCell_other _ _ hbsn
      · exact q2.keeps (Q := fun j => j = bs ∨ j = w.heap.size) (keeps_setCell (keeps_setCell (Keeps.refl _ _) (.inr (.inl rfl)) _) (.inr (.inr rfl)) _) (by omega)
      · exact q4.keeps (Q := fun j => j = bs ∨ j = w.heap.size) (keeps_setCell (keeps_setCell (Keeps.refl _ _) (.inr (.inl rfl)) _) (.inr (.inr rfl)) _) (by omega)
      · exact keeps_setCell (keeps_setCell (Keeps.of_below HBW.out) (.inr (.inl rfl)) _) (.inl (Nat.le_refl _)) _
    --Q
  case rest =>
  clear HSH2 HV4 HV7 HBW HK0
  obtain ⟨hv4, hv0, hM, ⟨n, hnB, hS⟩, hK⟩ := hcut
  have hpl : placeLit c' = placeLit c := by
    have h1 := placeKey c'
    rw [HPP.out, placeKey c] at h1
    simpa using h1.symm
  have hnone : allF (dropW W c) (placeLit c') = none := by rw [hpl, allF_at, find_drop]; rfl
  have hdl : (dropW W c).length ≤ W.length := List.length_filter_le _ _
  obtain ⟨es, ck, hmb, hblk⟩ := hM.block
  obtain ⟨U7, hU7, HU7⟩ := hM.upds placeLaw allTy (placeKey c') (by unfold maxLen; omega) (.agg (keptV (c', s))) hblk
  have h0 : wc.cell? ⟨bs, 0, none⟩ = some (.map (some ba)) := hv0.at rfl
  have hbs : isOld bs wc = true := isOld_iff.2 hv0.lt
  have hba : isOld ba wc = true := isOld_iff.2 hM.lt
  have k30 : hasRow wc ⟨w.heap.size, 0, none⟩ 29 = true := hv4.hasRow (cookieL_length _)
  have k31 : rowAt wc ⟨w.heap.size, 0, none⟩ 29 = cookieC c' := hv4.rowAt (cookieL_length _)
  have i30 : isOld w.heap.size wc = true := isOld_iff.2 hv4.lt
  have HV0 := Lib.hid hv0
  have HS0 := Lib.hid hS
  have HK0 := Lib.hid hK
  have HM0 := Lib.hid hM
  have HNO := Lib.hid hnone
  have HPLC := Lib.hid hpl
  have HFIN : Hid (∀ X, mapB X ba es ck = true → Below wc.heap.size wc X → MapF Try.prog 62 (U7 X) ba (allF W') W'.length ∧ Keeps (fun j => j = ba) wc (U7 X)) := fun X hX hb => by
    obtain ⟨g1, g2⟩ := HU7.out X hX
    rw [HNO.out, HPLC.out, HPA.out] at g1
    simp only [Option.isSome_none, Bool.false_eq_true, if_false] at g1
    rw [← HPL.out] at g1
    exact ⟨g1, (Keeps.of_below hb).trans g2⟩
  clear hv4 hv0 hM hS hblk hnone hK hpl HU7
  go_upto_region 7 with fail
  go_cut [] (fun wx => MapF Try.prog 62 wx ba (allF W') W'.length ∧ Keeps (fun j => j = ba) wc wx)
  case first =>
    --P
    go_region_law (first | (go_simp; (with_reducible refine (HAT2.out _).mono ?_); intro e w2 he; obtain ⟨rfl, hb2⟩ := he; obtain ⟨p2, rfl⟩ := grown_of hb2; clear hb2; dsimp only))
    all_goals
      go_wp2_with fail
      go_meet
      exact HFIN.out _ (by simp [go_sem, hmb, hba]) (by repeat (first | exact Below.refl _ _ | assumption | refine below_grown ?_ (by first | omega | (simp [go_sem]; done) | (simp [go_sem] <;> omega)) _ | refine Below.alloc ?_ (by first | omega | (simp [go_sem]; done) | (simp [go_sem] <;> omega)) _ | refine below_bytesW ?_ (by first | omega | (simp [go_sem]; done) | (simp [go_sem] <;> omega)) _ | refine Below.drew ?_ | refine below_drewN ?_ _))
    --Q
  case rest =>
  obtain ⟨hM7, hK7⟩ := hcut
  clear hU7 HFIN hmb hba hbs h0 k30 k31 i30 U7 es ck
  have hv0 := HV0.out.keeps hK7 hne1
  have hS7 := HS0.out.keeps hK7 (fun e => hne3 e.symm)
  have hkk : keyOf Try.prog 9 (.string ⟨s.toArray⟩) = some (.string s) := Go.WideMaps.keyOf_string_mk Try.underlying9 (by simpa [ByteArray.size] using hs)
  have hlk : (Instr.lookup 55 (.map (some bi)) (.string ⟨s.toArray⟩) false).run Try.prog wc = .ok (.int .i64 (countW (dropW W c) s : Nat)) wc := by
    have := (hS7.look siteLaw sitesTy (zeroInt wc) hkk).2
    rw [this]
    by_cases h0 : 0 < countW (dropW W c) s
    · simp [sitesF, h0]
    · have h1 : countW (dropW W c) s = 0 := by omega
      simp [sitesF, h1]
  have hcs := countW_le (dropW W c) s
  have hcb : ((countW (dropW W c) s : Nat) : Int) < 4611686018427387904 := by omega
  have HC1 : Hid (countW W' s = countW (dropW W c) s + 1) := by have := HPC.out s; rw [if_pos rfl] at this; exact this
  have HSF : Hid ((fun kl => if kl.sameKey (.string s) = true then some (Value.int .i64 (countW W' s : Nat)) else sitesF (dropW W c) kl) = sitesF W') := sitesF_set _ (siteLaw.key hkk) (fun x hx => by have := HPC.out x; rw [if_neg (fun e => hx e.symm)] at this; exact this) (by rw [HC1.out]; omega)
  generalize countW (dropW W c) s = m at *
  obtain ⟨w8, hu8, hM8, hg8⟩ := hS7.put siteLaw sitesTy hkk (by unfold maxLen; omega) (.int .i64 ((m : Int) + 1))
  have hk8 := Keeps.of_grown hg8
  have h1 : wc.cell? ⟨bs, 1, none⟩ = some (.map (some bi)) := hv0.at rfl
  have HV7 := Lib.hid hv0
  have HM7 := Lib.hid hM7
  have HM8 := Lib.hid hM8
  have HK8 := Lib.hid hk8
  have HK7 := Lib.hid hK7
  clear hv0 hM7 hM8 hk8 hg8 hS7 hK7 hcs HM0 HS0 HV0
  go_wp2
  go_ret
  refine ⟨rfl, ⟨HV7.out.keeps HK8.out hne2, HM7.out.keeps HK8.out hne3, ⟨if (sitesF (dropW W c) (.string s)).isSome = true then n else n + 1, ?_, ?_⟩, hne1, hne2, hne3⟩, ?_⟩
  · split <;> omega
  · have e := HM8.out
    have e2 : ((m : Int) + 1) = ((countW W' s : Nat) : Int) := by rw [HC1.out]; omega
    rw [e2, HSF.out] at e
    exact e
  · exact (HK0.out.trans (HK7.out.sub (fun j e => .inr (.inl e)))).trans (HK8.out.sub (fun j e => .inr (.inr e)))
end Go.Proofs.Ytaondmaebgicgaa
