/- The document's Put walked. -/
import Derived.Test.YtaondmaebgicgaaShRefQ
namespace Go.Proofs.Ytaondmaebgicgaa
open Go Go.RowKit
set_option maxRecDepth 20000
set_option linter.unusedSimpArgs false
set_option linter.unusedVariables false

theorem run_append0 (w : World) (ty : TypeId) (g : Nat) (a : Option Addr) (k : Nat) : (Builtin.append_ #[48, 48] ty #[.slice (some ⟨g, 0, none⟩) 0 0, .slice a 0 k]).run Try.prog w = .ok (.slice (some ⟨g, 0, none⟩) 0 0) w := by
  have hi0 := dkCod.info
  cases hi : Try.prog.info? dkCod.E with
  | none => rw [hi] at hi0; cases hi0
  | some i0 =>
    have hu : Try.prog.underlying 48 = some (.slice 73) := dkCod.und
    have hi' : Try.prog.info? 73 = some i0 := hi
    cases a <;> simp [Builtin.append_, run_underlying hu, sizeOf, typeInfo, hi', Builtin.lenOf, Builtin.firstCells, loadCells, loadCellsFrom, storeCells]
theorem wpList_append0 {ops : Array Oper} {rest : List Oper} {o : Oper} {a : Act} {Z : Exit → Act → World → Prop} (hgd : o.guard = none) (s x : Operand)
    (ho : o.op = .call { callee := .builtin .append, args := #[s, x], argTypes := #[48, 48] }) (w : World) (g : Nat) (a' : Option Addr) (k : Nat) (hs : a.eval s = .slice (some ⟨g, 0, none⟩) 0 0) (hx : a.eval x = .slice a' 0 k)
    (h : wpList Try.prog ops Z rest (a.put o.dst (.slice (some ⟨g, 0, none⟩) 0 0)) w) : wpList Try.prog ops Z (o :: rest) a w :=
  wpList_plain hgd fun _ hK => by
    unfold Oper.wp execOp
    simp only [ho, resolve, invoke, builtin, Sem.run_bind, Sem.run_pure, Result.andThen_ok, List.map_toArray, List.map_cons, List.map_nil, hs, hx, run_append0]
    exact hK _ _ h
set_option maxRecDepth 100000 in
set_option maxHeartbeats 8000000 in
theorem refPut_any (W : List GKept) (hA : Apart W) (a : Option Addr) (cap last : Nat) (hlast : last < 1000) (c : GCookie) (s : List UInt8) (hs : s.length ≤ maxLen) (hW : W.length ≤ 900) (w : World) (hin : ListIn dkCod w a W 0)
    (b : Bool) (c' : GCookie) (W' : List GKept) (last' : Nat) (hp : PutW W last c s b c' W' last') :
    Calls Try.prog 27 #[.agg (shC a W.length cap last), .agg (cookieC c), .string ⟨s.toArray⟩] w (DocGives W' last' (.bool b) w) := by
  obtain ⟨POST, hpost⟩ : ∃ POST : Ending → World → Prop, DocGives W' last' (.bool b) w = POST := ⟨_, rfl⟩
  rw [hpost]
  have HPOST := Lib.hid hpost
  have HIN := Lib.hid hin
  have HPW := Lib.hid hp
  have HAP := Lib.hid hA
  have HAT : Hid (∀ w', ListIn dkCod w' a W 0 → Calls Try.prog 26 #[.agg (shC a W.length cap last), .agg (cookieC c)] w' fun e w'' => e = .returned (.int .i64 (atW W c)) ∧ Below w'.heap.size w' w'') := fun w' h => refAt_any W a cap last c (by omega) w' h
  clear hin hpost hp hA
  go_enter Try.func27, Try.ntmps27
  go_upto_region 1 with fail
  change Code.wp _ _ _ _ (((w.alloc (.cells (shC a W.length cap last) 50)).alloc (.cells (cookieC c) 31)).alloc (.cells (shC none 0 0 0) 50))
  have hv3 : Var (((w.alloc (.cells (shC a W.length cap last) 50)).alloc (.cells (cookieC c) 31)).alloc (.cells (shC none 0 0 0) 50)) w.heap.size (shL a W.length cap last) := ((Var.new w _ _ rfl rfl).alloc _).alloc _
  have hv4 : Var (((w.alloc (.cells (shC a W.length cap last) 50)).alloc (.cells (cookieC c) 31)).alloc (.cells (shC none 0 0 0) 50)) (w.heap.size + 1) (cookieL c) := (Var.new _ _ _ rfl (by simp)).alloc _
  have hv6 : Var (((w.alloc (.cells (shC a W.length cap last) 50)).alloc (.cells (cookieC c) 31)).alloc (.cells (shC none 0 0 0) 50)) (w.heap.size + 1 + 1) (shL none 0 0 0) := Var.new _ _ _ rfl (by simp)
  have hb2 : Below w.heap.size w (((w.alloc (.cells (shC a W.length cap last) 50)).alloc (.cells (cookieC c) 31)).alloc (.cells (shC none 0 0 0) 50)) := (by repeat (first | exact Below.refl _ _ | assumption | refine below_grown ?_ (by first | omega | (simp [go_sem]; done) | (simp [go_sem] <;> omega)) _ | refine Below.alloc ?_ (by first | omega | (simp [go_sem]; done) | (simp [go_sem] <;> omega)) _ | refine below_bytesW ?_ (by first | omega | (simp [go_sem]; done) | (simp [go_sem] <;> omega)) _ | refine Below.drew ?_ | refine below_drewN ?_ _))
  have hz2 : (((w.alloc (.cells (shC a W.length cap last) 50)).alloc (.cells (cookieC c) 31)).alloc (.cells (shC none 0 0 0) 50)).heap.size = w.heap.size + 3 := by simp
  generalize (((w.alloc (.cells (shC a W.length cap last) 50)).alloc (.cells (cookieC c) 31)).alloc (.cells (shC none 0 0 0) 50)) = w2 at *
  have HV3 := Lib.hid hv3
  have HV4 := Lib.hid hv4
  have HV6 := Lib.hid hv6
  have HB2 := Lib.hid hb2
  have HZ2 := Lib.hid hz2
  have c30 : w2.cell? ⟨w.heap.size, 0, none⟩ = some (.slice a W.length cap) := hv3.cellAt rfl
  have o3 : isOld w.heap.size w2 = true := isOld_iff.2 hv3.lt
  have HO2 : Hid (Own dkCod (From w2.heap.size) (w2.alloc (Obj.cells #[] 73)) (.slice (some ⟨w2.heap.size, 0, none⟩) 0 0) []) := Own.made0 (Nat.le_refl _) rfl
  clear hv3 hv4 hv6 hb2 hz2
  go_cut [8] (fun s8 wx => Own dkCod (From w2.heap.size) wx s8 W ∧ Keeps (From w2.heap.size) w2 wx)
  case first =>
    by_cases hW0 : W = []
    · subst hW0
      go_wp2_with (at_builtin; refine wpList_append0 rfl (.tmp 10) (.tmp 12) rfl _ _ _ _ rfl rfl ?_)
      go_meet
      exact ⟨HO2.out, Keeps.of_below ((Below.refl w2.heap.size w2).alloc (Nat.le_refl _) _)⟩
    · obtain ⟨g, o, rfl, hlo, hhi, hls⟩ := HIN.out.resolve_left hW0
      have HLS := Lib.hid ((hls.below HB2.out).below ((Below.refl w2.heap.size w2).alloc (Nat.le_refl _) (Obj.cells #[] 73)))
      clear hls
      go_wp2_with (at_builtin; refine wpList_append_list rfl dkCod (.tmp 10) (.tmp 12) 48 rfl rfl (From w2.heap.size) _ _ [] rfl HO2.out _ _ _ _ W rfl rfl HLS.out (by simp [dkCod]; omega) (by simp; omega) (by show _ ≤ _; simp) ?_; intro v' w9 ho1 hb1; rw [List.nil_append] at ho1; have HO9 := Lib.hid ho1; have HK9 := Lib.hid hb1; clear ho1 hb1)
      go_meet
      exact ⟨HO9.out, (Keeps.of_below ((Below.refl w2.heap.size w2).alloc (Nat.le_refl _) _)).trans HK9.out⟩
  case rest =>
  obtain ⟨ho, hk⟩ := hcut
  have HZ := HZ2.out
  have hzc := hk.size
  have hn : ∀ {q : Nat}, q < w2.heap.size → ¬ From w2.heap.size q := fun h h' => absurd (show w2.heap.size ≤ _ from h') (by omega)
  have hv3 := HV3.out.keeps hk (hn (by omega))
  have hv4 := HV4.out.keeps hk (hn (by omega))
  have hv6 := HV6.out.keeps hk (hn (by omega))
  have HINc := Lib.hid ((HIN.out.below HB2.out).keeps hk (fun q _ hq => hn hq))
  have HBc : Hid (Below w.heap.size w wc) := HB2.out.trans (hk.below (fun q hq => ⟨by omega, hn (by omega)⟩))
  have k30 : hasRow wc ⟨w.heap.size, 0, none⟩ 2 = true := hv3.hasRow rfl
  have k31 : rowAt wc ⟨w.heap.size, 0, none⟩ 2 = shC a W.length cap last := hv3.rowAt rfl
  have k40 : hasRow wc ⟨w.heap.size + 1, 0, none⟩ 29 = true := hv4.hasRow (cookieL_length _)
  have k41 : rowAt wc ⟨w.heap.size + 1, 0, none⟩ 29 = cookieC c := hv4.rowAt (cookieL_length _)
  have o3 : isOld w.heap.size wc = true := isOld_iff.2 hv3.lt
  have o4 : isOld (w.heap.size + 1) wc = true := isOld_iff.2 hv4.lt
  have o6 : isOld (w.heap.size + 1 + 1) wc = true := isOld_iff.2 hv6.lt
  have HV3c := Lib.hid hv3
  have HV4c := Lib.hid hv4
  have HV6c := Lib.hid hv6
  have HOc := Lib.hid ho
  have hp := HPW.out
  clear hv3 hv4 hv6 ho hk c30
  cases hp with
  | yes k hf =>
    obtain ⟨hi, hat, hik⟩ := atW_some hf
    have HRS := Lib.hid (repl_set (x := (putC c k, s)) HAP.out hf)
    rw [hat] at HAT
    generalize idxW W c = i at *
    have hne : W ≠ [] := by rintro rfl; exact absurd hi (Nat.not_lt_zero _)
    obtain ⟨g9, c9, rfl, hc9, hq9, hl9, hls9⟩ := dk_one (w := wc) (g := 0) (n := 0) (cap := 0) HOc.out hne
    have hq9' : w2.heap.size ≤ g9 := hq9
    have o9 : isOld g9 wc = true := isOld_iff.2 hl9
    have hii : (i : Int) < (W.length : Int) := by omega
    have hi0 : (0 : Int) ≤ (i : Int) := by omega
    have e26 := hls9.get i hi 26 (.int .i64 k.1.born) (by rw [hik]; show (keptR k)[26]? = _; rw [keptR_at _ _ (by decide), cookieL_at _ _ (by decide)]; rfl)
    have e28 := hls9.get i hi 28 (.int .i64 k.1.seq) (by rw [hik]; show (keptR k)[28]? = _; rw [keptR_at _ _ (by decide), cookieL_at _ _ (by decide)]; rfl)
    have c26 : wc.cell? ⟨g9, i * 30 + 26, none⟩ = some (.int .i64 k.1.born) := by rw [Nat.zero_add] at e26; exact e26
    have c28 : wc.cell? ⟨g9, i * 30 + 28, none⟩ = some (.int .i64 k.1.seq) := by rw [Nat.zero_add] at e28; exact e28
    have d26 : wc.cell? ⟨w.heap.size + 1, 26, none⟩ = some (.int .i64 c.born) := HV4c.out.cellAt (by rw [cookieL_at _ _ (by decide)]; rfl)
    have d28 : wc.cell? ⟨w.heap.size + 1, 28, none⟩ = some (.int .i64 c.seq) := HV4c.out.cellAt (by rw [cookieL_at _ _ (by decide)]; rfl)
    have f26 := HV4c.out.free 26
    have f28 := HV4c.out.free 28
    clear hf hat hik e26 e28 hls9
    go_upto_region 6 with (go_at_call 26; (with_reducible refine (HAT.out _ HINc.out).mono ?_); rintro e w1 ⟨rfl, hb1⟩; obtain ⟨p1, rfl⟩ := grown_of hb1; clear hb1)
    have hw6 : Keeps (fun j => j = w.heap.size + 1) wc (((grown wc p1).setCell ⟨w.heap.size + 1, 26, none⟩ (.int .i64 k.1.born)).setCell ⟨w.heap.size + 1, 28, none⟩ (.int .i64 k.1.seq)) := keeps_setCell (Q := fun j => j = w.heap.size + 1) (keeps_setCell (Q := fun j => j = w.heap.size + 1) (Keeps.of_below (below_grown' wc p1)) (.inr rfl) _) (.inr rfl) _
    have hv46 : Var (((grown wc p1).setCell ⟨w.heap.size + 1, 26, none⟩ (.int .i64 k.1.born)).setCell ⟨w.heap.size + 1, 28, none⟩ (.int .i64 k.1.seq)) (w.heap.size + 1) (cookieL (putC c k)) := by
      rw [← (put_set c k).1]
      exact ((HV4c.out.grown p1).setCell 26 _).setCell 28 _
    generalize (((grown wc p1).setCell ⟨w.heap.size + 1, 26, none⟩ (.int .i64 k.1.born)).setCell ⟨w.heap.size + 1, 28, none⟩ (.int .i64 k.1.seq)) = w6 at *
    have HW6 := Lib.hid hw6
    have HO6 := Lib.hid (HOc.out.keeps (Q' := fun j => j = w.heap.size + 1) hw6 (fun g hg _ e => by have : w2.heap.size ≤ g := hg; omega))
    have hv36 := HV3c.out.keeps hw6 (by omega)
    have hv66 := HV6c.out.keeps hw6 (by omega)
    have m40 : hasRow w6 ⟨w.heap.size + 1, 0, none⟩ 29 = true := hv46.hasRow (cookieL_length _)
    have m41 : rowAt w6 ⟨w.heap.size + 1, 0, none⟩ 29 = cookieC (putC c k) := hv46.rowAt (cookieL_length _)
    obtain ⟨w12, hst, hl12, hk12, hq12, hg12⟩ := store_mid HO6.out i hi (putC c k, s)
    have hne2 : ∀ {q : Nat}, q < w2.heap.size → ¬ q = g9 := fun h e => by omega
    have hv312 := hv36.keeps hk12 (hne2 (by omega))
    have hv612 := hv66.keeps hk12 (hne2 (by omega))
    have c31 : w12.cell? ⟨w.heap.size, 1, none⟩ = some (.int .i64 (last : Int)) := hv312.cellAt rfl
    have h6 : hasVar w12 (w.heap.size + 1 + 1) 2 = true := hv612.has rfl
    have HK12 := Lib.hid hk12
    have HL12 := Lib.hid hl12
    clear hw6 hv46 hv36 hv66 hv312 hv612 hl12 hk12 c26 c28 d26 d28 f26 f28 k30 k31 k40 k41
    go_wp2
    have hbe : Below w.heap.size w w12 := (HBc.out.trans (HW6.out.below (fun q hq => ⟨by omega, by omega⟩))).trans (HK12.out.below (fun q hq => ⟨by have := HW6.out.size; omega, by omega⟩))
    refine ret_sh (w.heap.size + 1 + 1) (some ⟨g9, 0, none⟩) W.length c9 last (.bool true) rfl rfl rfl (by simp [go_sem, h6]) (by simp [go_sem, h6]) rfl ?_
    rw [← HPOST.out, HRS.out]
    have hb2 := below_setRow hbe (b := w.heap.size + 1 + 1) (by omega) (shC (some ⟨g9, 0, none⟩) W.length c9 last)
    refine ⟨some ⟨g9, 0, none⟩, c9, by rw [List.length_set], by rw [List.length_set]; exact hc9, .inr ⟨g9, 0, rfl, Nat.zero_le _, by rw [setRow_size']; exact hg12, ?_⟩, hb2⟩
    intro j u hj
    rw [World.cell?_of_block (a := ⟨g9, 0 + j, none⟩) (setRow_other w12 (w.heap.size + 1 + 1) g9 _ (by omega))]
    exact HL12.out j u hj
  | no hf hw =>
    have hat : atW W c = -1 := by unfold atW; rw [hf]; rfl
    rw [hat] at HAT
    have hwk : IntKind.i64.wrap ((last : Int) + 1) = (last : Int) + 1 := IntWalk.i64_in _ (by omega)
    have c31 : wc.cell? ⟨w.heap.size, 1, none⟩ = some (.int .i64 (last : Int)) := HV3c.out.cellAt rfl
    have d28 : wc.cell? ⟨w.heap.size + 1, 28, none⟩ = some (.int .i64 c.seq) := HV4c.out.cellAt (by rw [cookieL_at _ _ (by decide)]; rfl)
    have f28 := HV4c.out.free 28
    clear hat hf
    go_upto_region 9 with (go_at_call 26; (with_reducible refine (HAT.out _ HINc.out).mono ?_); rintro e w1 ⟨rfl, hb1⟩; obtain ⟨p1, rfl⟩ := grown_of hb1; clear hb1)
    have hw6 : Keeps (fun j => j = w.heap.size + 1) wc ((grown wc p1).setCell ⟨w.heap.size + 1, 28, none⟩ (.int .i64 ((last : Int) + 1))) := keeps_setCell (Q := fun j => j = w.heap.size + 1) (Keeps.of_below (below_grown' wc p1)) (.inr rfl) _
    have hv46 : Var ((grown wc p1).setCell ⟨w.heap.size + 1, 28, none⟩ (.int .i64 ((last : Int) + 1))) (w.heap.size + 1) (cookieL (newC c ((last + 1 : Nat) : Int) hw)) := by
      rw [← new_set c _ hw]
      exact (HV4c.out.grown p1).setCell 28 _
    generalize ((grown wc p1).setCell ⟨w.heap.size + 1, 28, none⟩ (.int .i64 ((last : Int) + 1))) = w6 at *
    generalize newC c ((last + 1 : Nat) : Int) hw = c6 at *
    have HW6 := Lib.hid hw6
    have hz6 := hw6.size
    have HO6 := Lib.hid (HOc.out.keeps (Q' := fun j => j = w.heap.size + 1) hw6 (fun g hg _ e => by have : w2.heap.size ≤ g := hg; omega))
    have hv36 := HV3c.out.keeps hw6 (by omega)
    have hv66 := HV6c.out.keeps hw6 (by omega)
    have m40 : hasRow w6 ⟨w.heap.size + 1, 0, none⟩ 29 = true := hv46.hasRow (cookieL_length _)
    have m41 : rowAt w6 ⟨w.heap.size + 1, 0, none⟩ 29 = cookieC c6 := hv46.rowAt (cookieL_length _)
    have n31 : w6.cell? ⟨w.heap.size, 1, none⟩ = some (.int .i64 (last : Int)) := hv36.cellAt rfl
    have h6 : hasVar w6 (w.heap.size + 1 + 1) 2 = true := hv66.has rfl
    have p3 : isOld w.heap.size w6 = true := isOld_iff.2 hv36.lt
    have p4 : isOld (w.heap.size + 1) w6 = true := isOld_iff.2 hv46.lt
    have p6 : isOld (w.heap.size + 1 + 1) w6 = true := isOld_iff.2 hv66.lt
    have HB6 : Hid (Below w.heap.size w w6) := HBc.out.trans (HW6.out.below (fun q hq => ⟨by omega, by omega⟩))
    have HV3 := Lib.hid hv36
    have HV6 := Lib.hid hv66
    clear hw6 hv46 hv36 hv66 c31 d28 f28 k30 k31 k40 k41 o3 o4 o6 hw
    go_cut [7] (fun s7 wx => s7 = .bool false ∧ ∃ a9 c9, Var wx (w.heap.size + 1 + 1) (shL a9 (W ++ [(c6, s)]).length c9 (last + 1)) ∧ (W ++ [(c6, s)]).length ≤ c9 ∧ ListIn dkCod wx a9 (W ++ [(c6, s)]) 0 ∧ Below w.heap.size w wx)
    case first =>
      go_region_law (first
        | (refine step_append_list rfl dkCod (.tmp 47) (.tmp 51) 48 rfl rfl (From w2.heap.size) _ _ W rfl (HO6.out.keeps (Q' := fun _ => False) (Keeps.of_below (by repeat (first | exact Below.refl _ _ | assumption | refine below_grown ?_ (by first | omega | (simp [go_sem]; done) | (simp [go_sem] <;> omega)) _ | refine Below.alloc ?_ (by first | omega | (simp [go_sem]; done) | (simp [go_sem] <;> omega)) _ | refine below_bytesW ?_ (by first | omega | (simp [go_sem]; done) | (simp [go_sem] <;> omega)) _ | refine Below.drew ?_ | refine below_drewN ?_ _))) (fun _ _ _ h => h)) _ _ _ _ [(c6, s)] rfl rfl (by first | exact listAt_new _ _ [_] _ (dk_encs1 _) (by first | rfl | (simp [go_sem]; done)) | exact ListAt.below (listAt_new _ _ [_] _ (dk_encs1 _) (by first | rfl | (simp [go_sem]; done))) (by repeat (first | exact Below.refl _ _ | assumption | refine below_grown ?_ (by first | omega | (simp [go_sem]; done) | (simp [go_sem] <;> omega)) _ | refine Below.alloc ?_ (by first | omega | (simp [go_sem]; done) | (simp [go_sem] <;> omega)) _ | refine below_bytesW ?_ (by first | omega | (simp [go_sem]; done) | (simp [go_sem] <;> omega)) _ | refine Below.drew ?_ | refine below_drewN ?_ _))) (by simp [dkCod]; omega) (by simp; omega) (by show _ ≤ _; simp; omega) ?_; intro v8 w8 ho8 hb8; have hwB : Keeps (From w2.heap.size) w6 w8 := Keeps.trans (Keeps.of_below (by repeat (first | exact Below.refl _ _ | assumption | refine below_grown ?_ (by first | omega | (simp [go_sem]; done) | (simp [go_sem] <;> omega)) _ | refine Below.alloc ?_ (by first | omega | (simp [go_sem]; done) | (simp [go_sem] <;> omega)) _ | refine below_bytesW ?_ (by first | omega | (simp [go_sem]; done) | (simp [go_sem] <;> omega)) _ | refine Below.drew ?_ | refine below_drewN ?_ _))) hb8; obtain ⟨a9, c9, rfl, hc9, hl9⟩ := ho8.slice (B := w2.heap.size) (fun _ h => h); have HL9 := Lib.hid hl9; have HC9 := Lib.hid hc9; have HK9 := Lib.hid hwB; have n31' := (HV3.out.keeps hwB (hn (by omega))).cellAt (i := 1) rfl; have h6' : hasVar w8 (w.heap.size + 1 + 1) 2 = true := (HV6.out.keeps hwB (hn (by omega))).has rfl; have p3' : isOld w.heap.size w8 = true := isOld_iff.2 (HV3.out.keeps hwB (hn (by omega))).lt; have p6' : isOld (w.heap.size + 1 + 1) w8 = true := isOld_iff.2 (HV6.out.keeps hwB (hn (by omega))).lt; clear ho8 hb8 hwB hl9 hc9))
      all_goals
        go_wp2_with fail
        go_meet
        have hbe : Below w.heap.size w _ := HB6.out.trans (HK9.out.below (fun q hq => ⟨by omega, hn (by omega)⟩))
        refine ⟨rfl, a9, c9, ?_, HC9.out, ?_, below_setRow hbe (by omega) _⟩
        · rw [show (W ++ [(c6, s)]).length = W.length + 1 by simp]
          exact (HV6.out.keeps HK9.out (hn (by omega))).setRow_same _ (by simp [shL])
        · exact (HL9.out.keeps (Q := fun j => j = w.heap.size + 1 + 1) (keeps_setRow (Q := fun j => j = w.heap.size + 1 + 1) (Keeps.refl _ _) (.inr rfl) _) (fun j hj _ => by omega)).mono (Nat.zero_le _)
    case rest =>
    obtain ⟨rfl, a9, c9, hv, hc, hl, hbe⟩ := hcut
    have k1 : hasRow wc ⟨w.heap.size + 1 + 1, 0, none⟩ 2 = true := hv.hasRow rfl
    have k2 : rowAt wc ⟨w.heap.size + 1 + 1, 0, none⟩ 2 = shC a9 (W ++ [(c6, s)]).length c9 (last + 1) := hv.rowAt rfl
    have HC := Lib.hid hc
    have HL := Lib.hid hl
    have HBE := Lib.hid hbe
    clear hv hc hl hbe
    go_wp2
    refine ret_sh (w.heap.size + 1 + 1) a9 (W ++ [(c6, s)]).length c9 (last + 1) (.bool false) rfl rfl rfl k1 k2 rfl ?_
    rw [← HPOST.out]
    exact ⟨a9, c9, rfl, HC.out, HL.out, HBE.out⟩
end Go.Proofs.Ytaondmaebgicgaa
