/- The walk of the statement ShelfApart (printed by gen_apart.py). -/
import Derived.Test.YtaondmaebgicgaaShLive
import Derived.Test.YtaondmaebgicgaaShUse
namespace Go.Proofs.Ytaondmaebgicgaa
open Go Go.RowKit
set_option maxRecDepth 20000
set_option linter.unusedSimpArgs false
set_option linter.unusedVariables false

/-- Variables of one's own that hold cookies, none of them a block of the shelf. -/
def Boxes (S : Nat → Prop) (w : World) (l : List (Nat × GCookie)) : Prop := ∀ p ∈ l, Var w p.1 (cookieL p.2) ∧ ¬ S p.1
theorem Boxes.keeps {S : Nat → Prop} {w w' : World} {l : List (Nat × GCookie)} (h : Boxes S w l) (hk : Keeps S w w') : Boxes S w' l := fun p hp => ⟨(h p hp).1.keeps hk (h p hp).2, (h p hp).2⟩
theorem Boxes.below {S : Nat → Prop} {w w' : World} {l : List (Nat × GCookie)} (h : Boxes S w l) (hb : Below w.heap.size w w') : Boxes S w' l := fun p hp => ⟨(h p hp).1.below hb, (h p hp).2⟩
theorem Boxes.cons {S : Nat → Prop} {w : World} {l : List (Nat × GCookie)} {b : Nat} {c : GCookie} (h : Boxes S w l) (hv : Var w b (cookieL c)) (hn : ¬ S b) : Boxes S w ((b, c) :: l) := fun p hp => by
  rcases List.mem_cons.1 hp with rfl | hp
  · exact ⟨hv, hn⟩
  · exact h p hp
theorem Boxes.nil {S : Nat → Prop} {w : World} : Boxes S w [] := fun p hp => (List.not_mem_nil hp).elim
theorem Boxes.at {S : Nat → Prop} {w : World} {l : List (Nat × GCookie)} (h : Boxes S w l) {b : Nat} {c : GCookie} (hm : (b, c) ∈ l) : hasRow w ⟨b, 0, none⟩ 29 = true ∧ rowAt w ⟨b, 0, none⟩ 29 = cookieC c ∧ isOld b w = true :=
  ⟨(h _ hm).1.hasRow (cookieL_length _), (h _ hm).1.rowAt (cookieL_length _), isOld_iff.2 (h _ hm).1.lt⟩
def bangC (b : GCookie) (h : b.value.length + 1 ≤ maxLen) : GCookie := { b with value := b.value ++ [33], hvalue := by simpa using h }
theorem bang_set (b : GCookie) (h : b.value.length + 1 ≤ maxLen) : (cookieL b).set 1 (.string ⟨(b.value ++ [33]).toArray⟩) = cookieL (bangC b h) := rfl
/-! ### the list, step by step -/
def apA (a : GCookie) : GCookie := newC a ((0 + 1 : Nat) : Int) (wf_nat (by decide))
def apB (b : GCookie) : GCookie := newC b ((1 + 1 : Nat) : Int) (wf_nat (by decide))
def apL2 (a b : GCookie) : List GKept := [(apA a, [120]), (apB b, [120])]
theorem ap_bA (a b : GCookie) (hab : samePl a b = false) : samePl (apA a) b = false := hab
theorem ap_put1 (a b : GCookie) (hab : samePl a b = false) : PutW [] 0 a [120] false (apA a) [(apA a, [120])] 1 := PutW.no (last := 0) rfl (wf_nat (by decide))
theorem ap_put2 (a b : GCookie) (hab : samePl a b = false) : PutW [(apA a, [120])] 1 b [120] false (apB b) (apL2 a b) 2 := PutW.no (W := [(apA a, [120])]) (last := 1) (by unfold findW; rw [List.find?_cons]; show (match samePl (apA a) b with | true => _ | false => _) = none; rw [ap_bA a b hab]; rfl) (wf_nat (by decide))
theorem ap_get1 (a b : GCookie) (hab : samePl a b = false) : findW (apL2 a b) a = some (apA a, [120]) := by
  unfold findW apL2
  rw [List.find?_cons]
  have : samePl (apA a) a = true := samePl_refl a
  rw [this]
theorem ap_findB (a b : GCookie) (hab : samePl a b = false) (x : GCookie) (s : List UInt8) (hx : samePl x b = true) : findW [(apA a, [120]), (x, s)] b = some (x, s) := by
  unfold findW
  rw [List.find?_cons, List.find?_cons]
  have h1 : samePl (apA a) b = false := hab
  have h2 : samePl x b = true := hx
  show (match samePl (apA a) b with | true => _ | false => match samePl x b with | true => _ | false => _) = _
  rw [h1, h2]
theorem ap_repl (a b : GCookie) (hab : samePl a b = false) (x : GCookie) (s : List UInt8) (y : GKept) (hx : samePl x b = true) : replW [(apA a, [120]), (x, s)] b y = [(apA a, [120]), y] := by
  unfold replW
  have h1 : samePl (apA a) b = false := hab
  have h2 : samePl x b = true := hx
  simp [h1, h2]
theorem ap_drop (a b : GCookie) (hab : samePl a b = false) (x : GCookie) (s : List UInt8) (hx : samePl x b = true) : dropW [(apA a, [120]), (x, s)] b = [(apA a, [120])] := by
  unfold dropW
  have h1 : samePl (apA a) b = false := hab
  have h2 : samePl x b = true := hx
  simp [h1, h2]
theorem ap_get2 (a b : GCookie) (hab : samePl a b = false) : findW [(apA a, [120])] a = some (apA a, [120]) := by
  unfold findW
  rw [List.find?_cons]
  have : samePl (apA a) a = true := samePl_refl a
  rw [this]
theorem ap_get3 (a b : GCookie) (hab : samePl a b = false) : findW [(apA a, [120])] b = none := by
  unfold findW
  rw [List.find?_cons]
  show (match samePl (apA a) b with | true => _ | false => _) = _
  have h1 : samePl (apA a) b = false := hab
  rw [h1]; rfl
theorem ap_apart1 (a b : GCookie) (hab : samePl a b = false) : Apart [(apA a, [120])] := List.pairwise_singleton _ _
theorem ap_apart2 (a b : GCookie) (hab : samePl a b = false) (x : GCookie) (s : List UInt8) (hx : samePl x b = true) : Apart [(apA a, [120]), (x, s)] := by
  refine List.pairwise_cons.2 ⟨fun y hy => ?_, List.pairwise_singleton _ _⟩
  rw [List.mem_singleton] at hy
  subst hy
  show samePl (apA a) x = false
  rw [samePl_symm, samePl_trans hx, samePl_symm]
  exact hab
set_option maxRecDepth 100000 in
set_option maxHeartbeats 8000000 in
theorem shelfApart_no (a b : GCookie) (hab : samePl a b = false) (hbv : b.value.length + 1 ≤ maxLen) (now : Int) (hnow : (Lit.int .i64 now).wf = true) (w : World) :
    Calls Try.prog 4 #[.agg (cookieC a), .agg (cookieC b), .int .i64 now] w fun e w' => e = .returned (.bool true) ∧ Below w.heap.size w w' := by
  have HK : Hid (∀ w, Calls Try.prog 13 #[.agg (cookieC a), .agg (cookieC b)] w fun e w' => e = .returned (.bool false) ∧ Below w.heap.size w w') := fun w => by have := refKey_any a b w; rw [hab] at this; exact this
  have HAB := Lib.hid hab
  obtain ⟨BX, hbx⟩ : ∃ BX, BX = apB b := ⟨_, rfl⟩
  have hxb : samePl (apB b) b = true := samePl_refl b
  obtain ⟨UB, hub⟩ : ∃ UB, UB = useC (apB b) now hnow := ⟨_, rfl⟩
  have HUB : Hid (samePl UB b = true) := by show _ = true; rw [hub]; exact samePl_refl b
  obtain ⟨CB, hcb⟩ : ∃ CB, CB = bangC b hbv := ⟨_, rfl⟩
  have HCBS : Hid (samePl CB b = true) := by show _ = true; rw [hcb]; exact samePl_refl b
  obtain ⟨PB, hpb⟩ : ∃ PB, PB = putC CB (UB, [120]) := ⟨_, rfl⟩
  have HPBS : Hid (samePl PB b = true) := by show _ = true; rw [hpb, hcb]; exact samePl_refl b
  have HCBE : Hid (cookieL CB = (cookieL b).set 1 (.string ⟨(b.value ++ [33]).toArray⟩)) := by show _ = _; rw [hcb, bang_set]
  have HUSE := Lib.hid hub
  have HPUT3 : Hid (PutW [(apA a, [120]), (UB, [120])] 2 CB [121] true PB [(apA a, [120]), (PB, [121])] 2) := by
    have hf : findW [(apA a, [120]), (UB, [120])] CB = some (UB, [120]) := by
      have := ap_findB a CB (by show samePl a CB = false; rw [samePl_trans' HCBS.out]; exact hab) UB [120] (by rw [samePl_trans' HCBS.out]; exact HUB.out)
      exact this
    have := PutW.yes (W := [(apA a, [120]), (UB, [120])]) (last := 2) (c := CB) (s := [121]) (UB, [120]) hf
    rw [ap_repl a CB (by show samePl a CB = false; rw [samePl_trans' HCBS.out]; exact hab) UB [120] _ (by rw [samePl_trans' HCBS.out]; exact HUB.out), ← hpb] at this
    exact this
  have hvb : ¬ 9223372036854775807 < b.value.length + 1 := by have := hbv; unfold maxLen at this; omega
  clear hab hub hcb hpb hbx hbv
  go_enter Try.func4, Try.ntmps4
  go_upto_region 5 with (first
    | (go_at_call 7; refine (shAlive_any _).mono ?_; rintro e w1 ⟨rfl, hb1⟩; obtain ⟨p1, rfl⟩ := grown_of hb1; clear hb1)
    | (go_at_call 13; (with_reducible refine (HK.out _).mono ?_); rintro e w1 ⟨rfl, hb1⟩; obtain ⟨p1, rfl⟩ := grown_of hb1; clear hb1))
  go_cut [7] (fun s7 wx => ∃ bs ba bi, s7 = .pointer (some ⟨bs, 0, none⟩) ∧ ShR wx bs ba bi [] 0 0 ∧ Boxes (ShO bs ba bi) wx [(w.heap.size, a), (w.heap.size + 1, b)] ∧ Below w.heap.size w wx ∧ w.heap.size ≤ bs ∧ w.heap.size ≤ ba ∧ w.heap.size ≤ bi)
  case first =>
    go_wp2_with (go_at_call 8; refine (shNew_any _).mono ?_; rintro e w1 ⟨bs, ba, bi, rfl, hsh, hb, h1, h2, h3⟩; have HSH := Lib.hid hsh; have HB := Lib.hid hb; have HLE := Lib.hid (And.intro h1 (And.intro h2 h3)); clear hsh hb h1 h2 h3)
    go_meet
    obtain ⟨h1, h2, h3⟩ := HLE.out
    simp only [size_grown, World.size_alloc] at h1 h2 h3
    refine ⟨bs, ba, bi, rfl, HSH.out, ?_, ?_, by omega, by omega, by omega⟩
    · refine Boxes.below (Boxes.cons (Boxes.cons Boxes.nil ?_ ?_) ?_ ?_) HB.out
      · exact ((Var.new _ _ _ rfl (by simp)).grown _).grown _
      · rintro (e | e | e) <;> omega
      · exact (((Var.new w _ _ rfl rfl).alloc _).grown _).grown _
      · rintro (e | e | e) <;> omega
    · refine Below.trans ?_ (HB.out.mono ?_)
      · exact (by repeat (first | exact Below.refl _ _ | assumption | refine below_grown ?_ (by first | omega | (simp [go_sem]; done) | (simp [go_sem] <;> omega)) _ | refine Below.alloc ?_ (by first | omega | (simp [go_sem]; done) | (simp [go_sem] <;> omega)) _ | refine below_bytesW ?_ (by first | omega | (simp [go_sem]; done) | (simp [go_sem] <;> omega)) _ | refine Below.drew ?_ | refine below_drewN ?_ _))
      · simp [go_sem]; omega
  case rest =>
  obtain ⟨bs, ba, bi, rfl, hsh, hbx, hbw, hl1, hl2, hl3⟩ := hcut
  obtain ⟨p0, q0, r0⟩ := hbx.at (b := w.heap.size) (c := a) (by simp)
  obtain ⟨p1, q1, r1⟩ := hbx.at (b := (w.heap.size + 1)) (c := b) (by simp)
  have HCT : Hid (Calls Try.prog 10 #[.pointer (some ⟨bs, 0, none⟩), .agg (cookieC a), .string ⟨#[120]⟩] wc fun e w' => e = .returned (.bool false) ∧ ShR w' bs ba bi [(apA a, [120])] 1 1 ∧ Keeps (ShO bs ba bi) wc w') := shPut_any [] List.Pairwise.nil (by simp) 0 0 bs ba bi (by omega) (by omega) a [120] (by decide) (fun k hk => (List.not_mem_nil hk).elim) wc hsh _ _ _ _ (ap_put1 a b HAB.out)
  have HSH := Lib.hid hsh
  have HBX := Lib.hid hbx
  have HBW := Lib.hid hbw
  clear hsh hbx hbw
  go_upto_region 6 with fail
  go_cut [] (fun wx => ShR wx bs ba bi [(apA a, [120])] 1 1 ∧ Boxes (ShO bs ba bi) wx [(w.heap.size, a), ((w.heap.size + 1), b)] ∧ Below w.heap.size w wx)
  case first =>
    go_wp2_with (go_at_call 10; (with_reducible refine HCT.out.mono ?_); rintro e w1 ⟨rfl, hsh, hk⟩; have HSH1 := Lib.hid hsh; have HK1 := Lib.hid hk; clear hsh hk)
    go_meet
    exact ⟨HSH1.out, HBX.out.keeps HK1.out, below_of_keeps HBW.out HBW.out.size HK1.out hl1 hl2 hl3⟩
  case rest =>
  obtain ⟨hsh, hbx, hbw⟩ := hcut
  clear HCT HSH HBX HBW p0 q0 r0 p1 q1 r1
  obtain ⟨p0, q0, r0⟩ := hbx.at (b := w.heap.size) (c := a) (by simp)
  obtain ⟨p1, q1, r1⟩ := hbx.at (b := (w.heap.size + 1)) (c := b) (by simp)
  have HCT : Hid (Calls Try.prog 10 #[.pointer (some ⟨bs, 0, none⟩), .agg (cookieC b), .string ⟨#[120]⟩] wc fun e w' => e = .returned (.bool false) ∧ ShR w' bs ba bi (apL2 a b) 2 2 ∧ Keeps (ShO bs ba bi) wc w') := shPut_any [(apA a, [120])] (ap_apart1 a b HAB.out) (by simp) 1 1 bs ba bi (by omega) (by omega) b [120] (by decide) (fun k hk => by rw [List.mem_singleton] at hk; subst hk; show ([120] : List UInt8).length ≤ maxLen; decide) wc hsh _ _ _ _ (ap_put2 a b HAB.out)
  have HSH := Lib.hid hsh
  have HBX := Lib.hid hbx
  have HBW := Lib.hid hbw
  clear hsh hbx hbw
  go_upto_region 7 with fail
  go_cut [] (fun wx => ShR wx bs ba bi (apL2 a b) 2 2 ∧ Boxes (ShO bs ba bi) wx [(w.heap.size, a), ((w.heap.size + 1), b)] ∧ Below w.heap.size w wx)
  case first =>
    go_wp2_with (go_at_call 10; (with_reducible refine HCT.out.mono ?_); rintro e w1 ⟨rfl, hsh, hk⟩; have HSH1 := Lib.hid hsh; have HK1 := Lib.hid hk; clear hsh hk)
    go_meet
    exact ⟨HSH1.out, HBX.out.keeps HK1.out, below_of_keeps HBW.out HBW.out.size HK1.out hl1 hl2 hl3⟩
  case rest =>
  obtain ⟨hsh, hbx, hbw⟩ := hcut
  clear HCT HSH HBX HBW p0 q0 r0 p1 q1 r1
  obtain ⟨p0, q0, r0⟩ := hbx.at (b := w.heap.size) (c := a) (by simp)
  obtain ⟨p1, q1, r1⟩ := hbx.at (b := (w.heap.size + 1)) (c := b) (by simp)
  have HCT : Hid (Calls Try.prog 11 #[.pointer (some ⟨bs, 0, none⟩), .agg (cookieC a)] wc fun e w' => e = .returned (.tuple #[.agg (cookieC (apA a)), .bool true]) ∧ Below wc.heap.size wc w') := by
    have := shGet_any _ _ _ bs ba bi a wc hsh
    rw [ap_get1 a b HAB.out] at this
    exact this
  have HSH := Lib.hid hsh
  have HBX := Lib.hid hbx
  have HBW := Lib.hid hbw
  have hls := hsh.1.lt
  have hla := hsh.2.1.lt
  have hli : bi < wc.heap.size := by obtain ⟨n, _, h4⟩ := hsh.2.2.1; exact h4.lt
  clear hsh hbx hbw
  go_upto_region 8 with fail
  go_cut [8, 9] (fun sa sb wx => ∃ bb, sa = .pointer (some ⟨bb, 0, none⟩) ∧ sb = .bool true ∧ ShR wx bs ba bi (apL2 a b) 2 2 ∧ Boxes (ShO bs ba bi) wx ((bb, (apA a)) :: [(w.heap.size, a), ((w.heap.size + 1), b)]) ∧ Below w.heap.size w wx ∧ w.heap.size ≤ bb)
  case first =>
    go_wp2_with (go_at_call 11; (with_reducible refine HCT.out.mono ?_); rintro e w1 ⟨rfl, hb⟩; have HB1 := Lib.hid hb; clear hb)
    go_meet
    have hz := HB1.out.size
    have hzw := HBW.out.size
    have hb2 : Below wc.heap.size wc (w1.alloc (Obj.cells (cookieC (apA a)) 31)) := HB1.out.alloc hz _
    refine ⟨w1.heap.size, rfl, rfl, HSH.out.below hb2, Boxes.cons (HBX.out.below hb2) (Var.new _ _ _ rfl rfl) ?_, HBW.out.trans (hb2.mono HBW.out.size), by omega⟩
    rintro (e | e | e) <;> omega
  case rest =>
  obtain ⟨b8, rfl, rfl, hsh, hbx, hbw, hb8⟩ := hcut
  clear HCT HSH HBX HBW hls hla hli p0 q0 r0 p1 q1 r1
  obtain ⟨p0, q0, r0⟩ := hbx.at (b := b8) (c := (apA a)) (by simp)
  obtain ⟨p1, q1, r1⟩ := hbx.at (b := w.heap.size) (c := a) (by simp)
  obtain ⟨p2, q2, r2⟩ := hbx.at (b := (w.heap.size + 1)) (c := b) (by simp)
  have HSH := Lib.hid hsh
  have HBX := Lib.hid hbx
  have HBW := Lib.hid hbw
  have hls := hsh.1.lt
  have hla := hsh.2.1.lt
  have hli : bi < wc.heap.size := by obtain ⟨n, _, h4⟩ := hsh.2.2.1; exact h4.lt
  clear hsh hbx hbw
  go_upto_region 9 with fail
  go_cut [10] (fun sa wx => ∃ bb, sa = .pointer (some ⟨bb, 0, none⟩) ∧ ShR wx bs ba bi (apL2 a b) 2 2 ∧ Boxes (ShO bs ba bi) wx ((bb, b) :: [(b8, (apA a)), (w.heap.size, a), ((w.heap.size + 1), b)]) ∧ Below w.heap.size w wx ∧ w.heap.size ≤ bb ∧ ∀ p ∈ [(b8, (apA a)), (w.heap.size, a), ((w.heap.size + 1), b)], p.1 ≠ bb)
  case first =>
    go_wp2_with fail
    go_meet
    have hzw := HBW.out.size
    have hb2 : Below wc.heap.size wc (wc.alloc (Obj.cells (cookieC b) 31)) := (Below.refl _ _).alloc (Nat.le_refl _) _
    refine ⟨wc.heap.size, rfl, HSH.out.below hb2, Boxes.cons (HBX.out.below hb2) (Var.new _ _ _ rfl rfl) ?_, HBW.out.trans (hb2.mono HBW.out.size), by omega, fun p hp e => ?_⟩
    · rintro (e | e | e) <;> omega
    · have := (HBX.out p hp).1.lt
      omega
  case rest =>
  obtain ⟨b10, rfl, hsh, hbx, hbw, hb10, hne10⟩ := hcut
  clear HSH HBX HBW hls hla hli p0 q0 r0 p1 q1 r1 p2 q2 r2
  have c1 : wc.cell? ⟨b10, 1, none⟩ = some (.string ⟨b.value.toArray⟩) := (hbx (b10, b) (by simp)).1.cellAt rfl
  have f1 := (hbx (b10, b) (by simp)).1.free 1
  have HSH := Lib.hid hsh
  have HBX := Lib.hid hbx
  have HBW := Lib.hid hbw
  have HNE := Lib.hid hne10
  have hls := hsh.1.lt
  have hla := hsh.2.1.lt
  have hn10 : ¬ ShO bs ba bi b10 := (hbx (b10, b) (by simp)).2
  have HN10 := Lib.hid hn10
  clear hsh hbx hbw hne10 hn10
  go_upto_region 10 with fail
  go_cut [] (fun wx => ShR wx bs ba bi (apL2 a b) 2 2 ∧ Boxes (ShO bs ba bi) wx ((b10, CB) :: [(b8, (apA a)), (w.heap.size, a), ((w.heap.size + 1), b)]) ∧ Below w.heap.size w wx)
  case first =>
    go_wp2_with fail
    go_meet
    have hk : Keeps (fun j => j = b10) wc (wc.setCell ⟨b10, 1, none⟩ (.string ⟨(b.value ++ [33]).toArray⟩)) := keeps_setCell (Q := fun j => j = b10) (Keeps.refl _ _) (.inr rfl) _
    have hkb : Below w.heap.size wc (wc.setCell ⟨b10, 1, none⟩ (.string ⟨(b.value ++ [33]).toArray⟩)) := hk.below (fun j hj => ⟨Nat.lt_of_lt_of_le hj HBW.out.size, by omega⟩)
    obtain ⟨q1, q2, ⟨n, q3, q4⟩, q5⟩ := HSH.out
    have hn := HN10.out
    have e1 : bs ≠ b10 := fun e => hn (.inl e.symm)
    have e2 : ba ≠ b10 := fun e => hn (.inr (.inl e.symm))
    have e3 : bi ≠ b10 := fun e => hn (.inr (.inr e.symm))
    have hR : ∀ X, X = wc.setCell ⟨b10, 1, none⟩ (.string ⟨(b.value ++ [33]).toArray⟩) → ShR X bs ba bi (apL2 a b) 2 2 ∧ Boxes (ShO bs ba bi) X ((b10, CB) :: [(b8, (apA a)), (w.heap.size, a), ((w.heap.size + 1), b)]) ∧ Below w.heap.size w X := by
      rintro X rfl
      refine ⟨⟨q1.keeps hk e1, q2.keeps hk e2, ⟨n, q3, q4.keeps hk e3⟩, q5⟩, Boxes.cons (fun p hp => ?_) ?_ hn, HBW.out.trans hkb⟩
      · have := HBX.out p (List.mem_cons_of_mem _ hp)
        exact ⟨this.1.keeps hk (HNE.out p hp), this.2⟩
      · rw [HCBE.out]
        exact (HBX.out (b10, b) (by simp)).1.setCell 1 _
    refine hR _ ?_
    first | rfl | (congr 1; simp) | trace_state
  case rest =>
  obtain ⟨hsh, hbx, hbw⟩ := hcut
  clear HSH HBX HBW HNE HN10 c1 f1 hls hla
  obtain ⟨p0, q0, r0⟩ := hbx.at (b := b10) (c := CB) (by simp)
  obtain ⟨p1, q1, r1⟩ := hbx.at (b := b8) (c := (apA a)) (by simp)
  obtain ⟨p2, q2, r2⟩ := hbx.at (b := w.heap.size) (c := a) (by simp)
  obtain ⟨p3, q3, r3⟩ := hbx.at (b := (w.heap.size + 1)) (c := b) (by simp)
  have HCT : Hid (Calls Try.prog 15 #[.pointer (some ⟨bs, 0, none⟩), .agg (cookieC b), .int .i64 now] wc fun e w' => e = .returned (.bool true) ∧ ShR w' bs ba bi [(apA a, [120]), (UB, [120])] 2 2 ∧ Keeps (ShO bs ba bi) wc w') := by
    show Calls _ _ _ _ _
    have := shUse_yes (apL2 a b) (ap_apart2 a b HAB.out (apB b) [120] (samePl_refl b)) (by simp [apL2]) 2 2 bs ba bi b now hnow wc hsh (apB b, [120]) (ap_findB a b HAB.out (apB b) [120] (samePl_refl b))
    rw [show replW (apL2 a b) b (useC (apB b, ([120] : List UInt8)).1 now hnow, (apB b, ([120] : List UInt8)).2) = [(apA a, [120]), (UB, [120])] by rw [HUSE.out]; exact ap_repl a b HAB.out (apB b) [120] _ (samePl_refl b)] at this
    exact this
  have HSH := Lib.hid hsh
  have HBX := Lib.hid hbx
  have HBW := Lib.hid hbw
  clear hsh hbx hbw
  go_upto_region 11 with fail
  go_cut [] (fun wx => ShR wx bs ba bi [(apA a, [120]), (UB, [120])] 2 2 ∧ Boxes (ShO bs ba bi) wx [(b10, CB), (b8, (apA a)), (w.heap.size, a), ((w.heap.size + 1), b)] ∧ Below w.heap.size w wx)
  case first =>
    go_wp2_with (go_at_call 15; (with_reducible refine HCT.out.mono ?_); rintro e w1 ⟨rfl, hsh, hk⟩; have HSH1 := Lib.hid hsh; have HK1 := Lib.hid hk; clear hsh hk)
    go_meet
    exact ⟨HSH1.out, HBX.out.keeps HK1.out, below_of_keeps HBW.out HBW.out.size HK1.out hl1 hl2 hl3⟩
  case rest =>
  obtain ⟨hsh, hbx, hbw⟩ := hcut
  clear HCT HSH HBX HBW p0 q0 r0 p1 q1 r1 p2 q2 r2 p3 q3 r3
  obtain ⟨p0, q0, r0⟩ := hbx.at (b := b10) (c := CB) (by simp)
  obtain ⟨p1, q1, r1⟩ := hbx.at (b := b8) (c := (apA a)) (by simp)
  obtain ⟨p2, q2, r2⟩ := hbx.at (b := w.heap.size) (c := a) (by simp)
  obtain ⟨p3, q3, r3⟩ := hbx.at (b := (w.heap.size + 1)) (c := b) (by simp)
  have HCT : Hid (Calls Try.prog 10 #[.pointer (some ⟨bs, 0, none⟩), .agg (cookieC CB), .string ⟨#[121]⟩] wc fun e w' => e = .returned (.bool true) ∧ ShR w' bs ba bi [(apA a, [120]), (PB, [121])] 2 3 ∧ Keeps (ShO bs ba bi) wc w') := shPut_any [(apA a, [120]), (UB, [120])] (ap_apart2 a b HAB.out UB [120] HUB.out) (by simp) 2 2 bs ba bi (by omega) (by omega) CB [121] (by decide) (fun k hk => by simp only [List.mem_cons, List.not_mem_nil, or_false] at hk; rcases hk with rfl | rfl <;> (show ([120] : List UInt8).length ≤ maxLen; decide)) wc hsh _ _ _ _ HPUT3.out
  have HSH := Lib.hid hsh
  have HBX := Lib.hid hbx
  have HBW := Lib.hid hbw
  clear hsh hbx hbw
  go_upto_region 12 with fail
  go_cut [] (fun wx => ShR wx bs ba bi [(apA a, [120]), (PB, [121])] 2 3 ∧ Boxes (ShO bs ba bi) wx [(b10, CB), (b8, (apA a)), (w.heap.size, a), ((w.heap.size + 1), b)] ∧ Below w.heap.size w wx)
  case first =>
    go_wp2_with (go_at_call 10; (with_reducible refine HCT.out.mono ?_); rintro e w1 ⟨rfl, hsh, hk⟩; have HSH1 := Lib.hid hsh; have HK1 := Lib.hid hk; clear hsh hk)
    go_meet
    exact ⟨HSH1.out, HBX.out.keeps HK1.out, below_of_keeps HBW.out HBW.out.size HK1.out hl1 hl2 hl3⟩
  case rest =>
  obtain ⟨hsh, hbx, hbw⟩ := hcut
  clear HCT HSH HBX HBW p0 q0 r0 p1 q1 r1 p2 q2 r2 p3 q3 r3
  obtain ⟨p0, q0, r0⟩ := hbx.at (b := b10) (c := CB) (by simp)
  obtain ⟨p1, q1, r1⟩ := hbx.at (b := b8) (c := (apA a)) (by simp)
  obtain ⟨p2, q2, r2⟩ := hbx.at (b := w.heap.size) (c := a) (by simp)
  obtain ⟨p3, q3, r3⟩ := hbx.at (b := (w.heap.size + 1)) (c := b) (by simp)
  have HCT : Hid (Calls Try.prog 9 #[.pointer (some ⟨bs, 0, none⟩), .agg (cookieC b)] wc fun e w' => e = .returned (.bool true) ∧ ShR w' bs ba bi [(apA a, [120])] 2 3 ∧ Keeps (ShO bs ba bi) wc w') := by
    show Calls _ _ _ _ _
    have := shDrop_yes [(apA a, [120]), (PB, [121])] (ap_apart2 a b HAB.out PB [121] HPBS.out) (by simp) 2 3 bs ba bi (by unfold maxLen; omega) b wc hsh (PB, [121]) (ap_findB a b HAB.out PB [121] HPBS.out) (by show ([120] : List UInt8).length ≤ maxLen; decide)
    rw [ap_drop a b HAB.out PB [121] HPBS.out] at this
    exact this
  have HSH := Lib.hid hsh
  have HBX := Lib.hid hbx
  have HBW := Lib.hid hbw
  clear hsh hbx hbw
  go_upto_region 13 with fail
  go_cut [] (fun wx => ShR wx bs ba bi [(apA a, [120])] 2 3 ∧ Boxes (ShO bs ba bi) wx [(b10, CB), (b8, (apA a)), (w.heap.size, a), ((w.heap.size + 1), b)] ∧ Below w.heap.size w wx)
  case first =>
    go_wp2_with (go_at_call 9; (with_reducible refine HCT.out.mono ?_); rintro e w1 ⟨rfl, hsh, hk⟩; have HSH1 := Lib.hid hsh; have HK1 := Lib.hid hk; clear hsh hk)
    go_meet
    exact ⟨HSH1.out, HBX.out.keeps HK1.out, below_of_keeps HBW.out HBW.out.size HK1.out hl1 hl2 hl3⟩
  case rest =>
  obtain ⟨hsh, hbx, hbw⟩ := hcut
  clear HCT HSH HBX HBW p0 q0 r0 p1 q1 r1 p2 q2 r2 p3 q3 r3
  obtain ⟨p0, q0, r0⟩ := hbx.at (b := b10) (c := CB) (by simp)
  obtain ⟨p1, q1, r1⟩ := hbx.at (b := b8) (c := (apA a)) (by simp)
  obtain ⟨p2, q2, r2⟩ := hbx.at (b := w.heap.size) (c := a) (by simp)
  obtain ⟨p3, q3, r3⟩ := hbx.at (b := (w.heap.size + 1)) (c := b) (by simp)
  have HCT : Hid (Calls Try.prog 11 #[.pointer (some ⟨bs, 0, none⟩), .agg (cookieC a)] wc fun e w' => e = .returned (.tuple #[.agg (cookieC (apA a)), .bool true]) ∧ Below wc.heap.size wc w') := by
    have := shGet_any _ _ _ bs ba bi a wc hsh
    rw [ap_get2 a b HAB.out] at this
    exact this
  have HSH := Lib.hid hsh
  have HBX := Lib.hid hbx
  have HBW := Lib.hid hbw
  have hls := hsh.1.lt
  have hla := hsh.2.1.lt
  have hli : bi < wc.heap.size := by obtain ⟨n, _, h4⟩ := hsh.2.2.1; exact h4.lt
  clear hsh hbx hbw
  go_upto_region 14 with fail
  go_cut [11, 12] (fun sa sb wx => ∃ bb, sa = .pointer (some ⟨bb, 0, none⟩) ∧ sb = .bool true ∧ ShR wx bs ba bi [(apA a, [120])] 2 3 ∧ Boxes (ShO bs ba bi) wx ((bb, (apA a)) :: [(b10, CB), (b8, (apA a)), (w.heap.size, a), ((w.heap.size + 1), b)]) ∧ Below w.heap.size w wx ∧ w.heap.size ≤ bb)
  case first =>
    go_wp2_with (go_at_call 11; (with_reducible refine HCT.out.mono ?_); rintro e w1 ⟨rfl, hb⟩; have HB1 := Lib.hid hb; clear hb)
    go_meet
    have hz := HB1.out.size
    have hzw := HBW.out.size
    have hb2 : Below wc.heap.size wc (w1.alloc (Obj.cells (cookieC (apA a)) 31)) := HB1.out.alloc hz _
    refine ⟨w1.heap.size, rfl, rfl, HSH.out.below hb2, Boxes.cons (HBX.out.below hb2) (Var.new _ _ _ rfl rfl) ?_, HBW.out.trans (hb2.mono HBW.out.size), by omega⟩
    rintro (e | e | e) <;> omega
  case rest =>
  obtain ⟨b11, rfl, rfl, hsh, hbx, hbw, hb11⟩ := hcut
  clear HCT HSH HBX HBW hls hla hli p0 q0 r0 p1 q1 r1 p2 q2 r2 p3 q3 r3
  obtain ⟨p0, q0, r0⟩ := hbx.at (b := b11) (c := (apA a)) (by simp)
  obtain ⟨p1, q1, r1⟩ := hbx.at (b := b10) (c := CB) (by simp)
  obtain ⟨p2, q2, r2⟩ := hbx.at (b := b8) (c := (apA a)) (by simp)
  obtain ⟨p3, q3, r3⟩ := hbx.at (b := w.heap.size) (c := a) (by simp)
  obtain ⟨p4, q4, r4⟩ := hbx.at (b := (w.heap.size + 1)) (c := b) (by simp)
  have HCT : Hid (Calls Try.prog 11 #[.pointer (some ⟨bs, 0, none⟩), .agg (cookieC b)] wc fun e w' => e = .returned (.tuple #[.agg (cookieC zeroCk), .bool false]) ∧ Below wc.heap.size wc w') := by
    have := shGet_any _ _ _ bs ba bi b wc hsh
    rw [ap_get3 a b HAB.out] at this
    exact this
  have HSH := Lib.hid hsh
  have HBX := Lib.hid hbx
  have HBW := Lib.hid hbw
  have hls := hsh.1.lt
  have hla := hsh.2.1.lt
  have hli : bi < wc.heap.size := by obtain ⟨n, _, h4⟩ := hsh.2.2.1; exact h4.lt
  clear hsh hbx hbw
  go_upto_region 15 with fail
  go_cut [13, 14] (fun sa sb wx => ∃ bb, sa = .pointer (some ⟨bb, 0, none⟩) ∧ sb = .bool false ∧ ShR wx bs ba bi [(apA a, [120])] 2 3 ∧ Boxes (ShO bs ba bi) wx ((bb, zeroCk) :: [(b11, (apA a)), (b10, CB), (b8, (apA a)), (w.heap.size, a), ((w.heap.size + 1), b)]) ∧ Below w.heap.size w wx ∧ w.heap.size ≤ bb)
  case first =>
    go_wp2_with (go_at_call 11; (with_reducible refine HCT.out.mono ?_); rintro e w1 ⟨rfl, hb⟩; have HB1 := Lib.hid hb; clear hb)
    go_meet
    have hz := HB1.out.size
    have hzw := HBW.out.size
    have hb2 : Below wc.heap.size wc (w1.alloc (Obj.cells (cookieC zeroCk) 31)) := HB1.out.alloc hz _
    refine ⟨w1.heap.size, rfl, rfl, HSH.out.below hb2, Boxes.cons (HBX.out.below hb2) (Var.new _ _ _ rfl rfl) ?_, HBW.out.trans (hb2.mono HBW.out.size), by omega⟩
    rintro (e | e | e) <;> omega
  case rest =>
  obtain ⟨b13, rfl, rfl, hsh, hbx, hbw, hb13⟩ := hcut
  clear HCT HSH HBX HBW hls hla hli p0 q0 r0 p1 q1 r1 p2 q2 r2 p3 q3 r3 p4 q4 r4
  obtain ⟨p0, q0, r0⟩ := hbx.at (b := b13) (c := zeroCk) (by simp)
  obtain ⟨p1, q1, r1⟩ := hbx.at (b := b11) (c := (apA a)) (by simp)
  obtain ⟨p2, q2, r2⟩ := hbx.at (b := b10) (c := CB) (by simp)
  obtain ⟨p3, q3, r3⟩ := hbx.at (b := b8) (c := (apA a)) (by simp)
  obtain ⟨p4, q4, r4⟩ := hbx.at (b := w.heap.size) (c := a) (by simp)
  obtain ⟨p5, q5, r5⟩ := hbx.at (b := (w.heap.size + 1)) (c := b) (by simp)
  have HC1 : Hid (∀ w', Below wc.heap.size wc w' → Calls Try.prog 16 #[.pointer (some ⟨bs, 0, none⟩), .string ⟨#[120]⟩] w' fun e w'' => e = .returned (.int .i64 1) ∧ Below w'.heap.size w' w'') := fun w' hb => shCount_any _ _ _ bs ba bi [120] (by decide) w' (hsh.below hb)
  have HC2 : Hid (∀ w', Below wc.heap.size wc w' → Calls Try.prog 16 #[.pointer (some ⟨bs, 0, none⟩), .string ⟨#[121]⟩] w' fun e w'' => e = .returned (.int .i64 0) ∧ Below w'.heap.size w' w'') := fun w' hb => shCount_any _ _ _ bs ba bi [121] (by decide) w' (hsh.below hb)
  have HC3 : Hid (∀ w', Below wc.heap.size wc w' → Calls Try.prog 14 #[.pointer (some ⟨bs, 0, none⟩)] w' fun e w'' => e = .returned (.int .i64 1) ∧ Below w'.heap.size w' w'') := fun w' hb => shLen_any _ _ _ bs ba bi w' (hsh.below hb)
  have HBW := Lib.hid hbw
  have he : ckEq (apA a) (apA a) = true := ckEq_refl _
  clear hsh hbx hbw
  go_wp2_with (first
    | (go_at_call 16; (with_reducible refine (HC1.out _ (by repeat (first | exact Below.refl _ _ | assumption | refine below_grown ?_ (by first | omega | (simp [go_sem]; done) | (simp [go_sem] <;> omega)) _ | refine Below.alloc ?_ (by first | omega | (simp [go_sem]; done) | (simp [go_sem] <;> omega)) _ | refine below_bytesW ?_ (by first | omega | (simp [go_sem]; done) | (simp [go_sem] <;> omega)) _ | refine Below.drew ?_ | refine below_drewN ?_ _))).mono ?_); rintro e w1 ⟨rfl, hb1⟩; obtain ⟨p1, rfl⟩ := grown_of hb1; clear hb1)
    | (go_at_call 16; (with_reducible refine (HC2.out _ (by repeat (first | exact Below.refl _ _ | assumption | refine below_grown ?_ (by first | omega | (simp [go_sem]; done) | (simp [go_sem] <;> omega)) _ | refine Below.alloc ?_ (by first | omega | (simp [go_sem]; done) | (simp [go_sem] <;> omega)) _ | refine below_bytesW ?_ (by first | omega | (simp [go_sem]; done) | (simp [go_sem] <;> omega)) _ | refine Below.drew ?_ | refine below_drewN ?_ _))).mono ?_); rintro e w1 ⟨rfl, hb1⟩; obtain ⟨p1, rfl⟩ := grown_of hb1; clear hb1)
    | (go_at_call 14; (with_reducible refine (HC3.out _ (by repeat (first | exact Below.refl _ _ | assumption | refine below_grown ?_ (by first | omega | (simp [go_sem]; done) | (simp [go_sem] <;> omega)) _ | refine Below.alloc ?_ (by first | omega | (simp [go_sem]; done) | (simp [go_sem] <;> omega)) _ | refine below_bytesW ?_ (by first | omega | (simp [go_sem]; done) | (simp [go_sem] <;> omega)) _ | refine Below.drew ?_ | refine below_drewN ?_ _))).mono ?_); rintro e w1 ⟨rfl, hb1⟩; obtain ⟨p1, rfl⟩ := grown_of hb1; clear hb1))
  go_ret
  have hbe := HBW.out
  have hze := hbe.size
  exact ⟨by first | rfl | exact ret_bool (by simp), Below.trans hbe (Below.mono (by repeat (first | exact Below.refl _ _ | assumption | refine below_grown ?_ (by first | omega | (simp [go_sem]; done) | (simp [go_sem] <;> omega)) _ | refine Below.alloc ?_ (by first | omega | (simp [go_sem]; done) | (simp [go_sem] <;> omega)) _ | refine below_bytesW ?_ (by first | omega | (simp [go_sem]; done) | (simp [go_sem] <;> omega)) _ | refine Below.drew ?_ | refine below_drewN ?_ _)) hze)⟩
theorem shelfApart_any (a b : GCookie) (hbv : b.value.length + 1 ≤ maxLen) (now : Int) (hnow : (Lit.int .i64 now).wf = true) (w : World) :
    Calls Try.prog 4 #[.agg (cookieC a), .agg (cookieC b), .int .i64 now] w fun e w' => e = .returned (.bool true) ∧ Below w.heap.size w w' := by
  cases hab : samePl a b
  · exact shelfApart_no a b hab hbv now hnow w
  · have HK : Hid (∀ w, Calls Try.prog 13 #[.agg (cookieC a), .agg (cookieC b)] w fun e w' => e = .returned (.bool true) ∧ Below w.heap.size w w') := fun w => by have := refKey_any a b w; rw [hab] at this; exact this
    clear hab hbv
    go_enter Try.func4, Try.ntmps4
    go_wp2_with (first
      | (go_at_call 7; refine (shAlive_any _).mono ?_; rintro e w1 ⟨rfl, hb1⟩; obtain ⟨p1, rfl⟩ := grown_of hb1; clear hb1)
      | (go_at_call 13; (with_reducible refine (HK.out _).mono ?_); rintro e w1 ⟨rfl, hb1⟩; obtain ⟨p1, rfl⟩ := grown_of hb1; clear hb1))
    go_ret
    exact ⟨rfl, (by repeat (first | exact Below.refl _ _ | assumption | refine below_grown ?_ (by first | omega | (simp [go_sem]; done) | (simp [go_sem] <;> omega)) _ | refine Below.alloc ?_ (by first | omega | (simp [go_sem]; done) | (simp [go_sem] <;> omega)) _ | refine below_bytesW ?_ (by first | omega | (simp [go_sem]; done) | (simp [go_sem] <;> omega)) _ | refine Below.drew ?_ | refine below_drewN ?_ _))⟩
end Go.Proofs.Ytaondmaebgicgaa
