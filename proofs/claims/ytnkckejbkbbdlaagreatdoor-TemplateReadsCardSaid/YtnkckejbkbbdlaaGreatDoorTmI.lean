/- Merged: TplRe, TplFp, TplCt, TplFl. -/
import Derived.Test.YtnkckejbkbbdlaaGreatDoorTmC2
import Derived.Test.YtnkckejbkbbdlaaGreatDoorTmF
import Derived.Test.YtnkckejbkbbdlaaGreatDoorTmH
import Derived.Recover
import Derived.Defers
import Derived.Test.YtnkckejbkbbdlaaGreatDoorTmD
namespace Go.Proofs.YtnkckejbkbbdlaaGreatDoor
section
open Go Go.RowKit
set_option maxRecDepth 20000
set_option linter.unusedSimpArgs false
set_option linter.unusedVariables false

theorem split_sum (c : UInt8) : ∀ l : List UInt8, ((splitL c l).map (fun w => w.length + 1)).sum = l.length + 1
  | [] => by simp [splitL]
  | x :: l => by
    have ih := split_sum c l
    by_cases h : x = c
    · rw [splitL, if_pos h, List.map_cons, List.sum_cons, ih]
      simp; omega
    · obtain ⟨p, ps, h1, h2⟩ := splitL_cons c x l h
      rw [h1, List.map_cons, List.sum_cons] at ih
      rw [h2, List.map_cons, List.sum_cons]
      simp only [List.length_cons]
      omega
theorem ValsOk.keeps {w w' : World} {B : Nat} {R : List RCh} {Q : Nat → Prop} (h : ValsOk w B R) (hk : Keeps Q w w') (hq : ∀ k, B ≤ k → k < w.heap.size → ¬ Q k) : ValsOk w' B R := fun r hr => by
  rcases h r hr with h | ⟨g, o, cur, fz, e1, e2, e3⟩
  · exact .inl h
  · have hg : g < w.heap.size := (Array.getElem?_eq_some_iff.1 e3).1
    exact .inr ⟨g, o, cur, fz, e1, e2, (hk.block g hg (hq g e2 hg)).trans e3⟩
/-- The reader's lists stay where no block of theirs is written. -/
theorem RdS.move {w w' : World} {B b : Nat} {T : List GTpl} {C : List GCh} {line line' : Int} {vW vW' : Value} {Q : Nat → Prop} (h : RdS w B b T C line vW) (hk : Keeps Q w w') (hq : ∀ k, B ≤ k → k < w.heap.size → ¬ Q k)
    (hv : ∀ vT vC, Var w b [vT, vC, .int .i64 line, vW] → Var w' b [vT, vC, .int .i64 line', vW']) : RdS w' B b T C line' vW' := by
  obtain ⟨vT, vC, R, h1, h2, h3, h4, h5⟩ := h
  exact ⟨vT, vC, R, hv _ _ h1, h2.keeps hk (fun g hg hl => hq g (from_le hg) hl), h3.keeps hk (fun g hg hl => hq g (from_le hg) hl), h4.keeps hk hq, h5.keeps hk hq⟩
theorem RdS.below {w w' : World} {B b : Nat} {T : List GTpl} {C : List GCh} {line : Int} {vW : Value} (h : RdS w B b T C line vW) (hb : Below w.heap.size w w') : RdS w' B b T C line vW :=
  h.move (Q := fun _ => False) (Keeps.of_below hb) (fun _ _ _ h => h) (fun _ _ hv => hv.below hb)
theorem RdS.words {w : World} {B b : Nat} {T : List GTpl} {C : List GCh} {line : Int} {vW : Value} (h : RdS w B b T C line vW) (hb : b < B) (v : Value) : RdS (w.setCell ⟨b, 3, none⟩ v) B b T C line v :=
  h.move (Q := fun k => k = b) (keeps_setCell (Q := fun k => k = b) (Keeps.refl _ _) (.inr rfl) _) (fun k h1 _ h2 => by omega) (fun _ _ hv => hv.setCell 3 v)
theorem RdS.lineTo {w : World} {B b : Nat} {T : List GTpl} {C : List GCh} {line : Int} {vW : Value} (h : RdS w B b T C line vW) (hb : b < B) (z : Int) : RdS (w.setCell ⟨b, 2, none⟩ (.int .i64 z)) B b T C z vW :=
  h.move (Q := fun k => k = b) (keeps_setCell (Q := fun k => k = b) (Keeps.refl _ _) (.inr rfl) _) (fun k h1 _ h2 => by omega) (fun _ _ hv => hv.setCell 2 _)
theorem colW_nil (W : List (List UInt8)) : colW W 0 = 1 := by simp [colW]
set_option maxHeartbeats 2000000 in
/-- A fault at the first word, whatever the words are. -/
theorem fail_zero (b : Nat) (v0 v1 : Value) (line : Int) (aw : Option Addr) (n cw : Nat) (hn : n ≤ cw) (code : Int) (w : World) (hv : Var w b [v0, v1, .int .i64 line, .slice aw n cw]) :
    Calls Tryz.prog 36 #[.pointer (some ⟨b, 0, none⟩), .int .i64 code, .int .i64 0] w fun e w' => e = faultP code line 1 ∧ w = w' := by
  have c3 : w.cell? ⟨b, 3, none⟩ = some (.slice aw n cw) := hv.cell 3 (by simp)
  have c2 : w.cell? ⟨b, 2, none⟩ = some (.int .i64 line) := hv.cell 2 (by simp)
  have hk2 : (0 : Int) ≤ (cw : Int) := by omega
  have hk3 : (0 : Int) ≤ (n : Int) := by omega
  clear hv
  unfold faultP
  go_enter Tryz.func36, Tryz.ntmps36
  go_wp2
  go_loop [6, 8, 16] (fun c _ i => i = .int .i64 0 ∧ c = .int .i64 1) (fun _ _ i => 0)
  case atStart => exact ⟨rfl, rfl⟩
  case round =>
    obtain ⟨rfl, rfl⟩ := hrel
    go_wp2
    exact ⟨rfl, rfl, rfl⟩
def ReadPost (B b : Nat) (T : List GTpl) (C : List GCh) (i : Nat) (x : List UInt8) (w : World) (e : Ending) (w' : World) : Prop :=
  Keeps (Also b B) w w' ∧ (((lineT x i T C).1 = 0 ∧ e = .returned (.tuple #[]) ∧ ∃ aw n cw, n ≤ cw ∧ RdS w' B b (lineT x i T C).2.2.1 (lineT x i T C).2.2.2 ((i : Int) + 1) (.slice aw n cw)) ∨ ((lineT x i T C).1 ≠ 0 ∧ e = faultP (lineT x i T C).1 ((i : Int) + 1) (colW (splitL 32 x) (lineT x i T C).2.1)))
theorem isCh_no {x : List UInt8} (h : wordsOk x = false) : isCh x = false ∧ isCk x = false := by simp [isCh, isCk, h]
set_option maxRecDepth 100000 in
set_option maxHeartbeats 4000000 in
theorem read_none (B b : Nat) (T : List GTpl) (C : List GCh) (i : Nat) (x : List UInt8) (hxl : x.length ≤ 100000) (hnc : isCh x = false) (hnk : isCk x = false) (aw : Option Addr) (n cw : Nat) (hn : n ≤ cw) (m : Int) (w : World) (hm : HasMax m w) (hb : b < B) (hB : B ≤ w.heap.size) (hS : RdS w B b T C ((i : Int) + 1) (.slice aw n cw)) :
    Calls Tryz.prog 17 #[.pointer (some ⟨b, 0, none⟩), .string ⟨x.toArray⟩] w (ReadPost B b T C i x w) := by
  obtain ⟨POST, hpost⟩ : ∃ POST : Ending → World → Prop, ReadPost B b T C i x w = POST := ⟨_, rfl⟩
  rw [hpost]
  have HPOST := Lib.hid hpost
  have HLT : Hid (lineT x i T C = (131, 0, T, C)) := by
    show _ = _
    unfold lineT
    rw [hnc, hnk]; rfl
  have HKP : Hid (∀ w', Below w.heap.size w w' → Keeps (Also b B) w w') := fun w' h => Keeps.of_below h
  have HFIN : Hid (∀ w', Below w.heap.size w w' → POST (.panicked [{ v := .iface 24 (.agg (faultV 131 ((i : Int) + 1) 1)), recovered := false }]) w') := fun w' h => by
    rw [← HPOST.out]
    exact ⟨HKP.out _ h, .inr ⟨by rw [HLT.out]; show (131 : Int) ≠ 0; decide, by rw [HLT.out]; show _ = faultP 131 ((i : Int) + 1) (colW (splitL 32 x) 0); rw [colW_nil]; rfl⟩⟩
  obtain ⟨vT, vC, R, hV, _⟩ := hS
  have HF : Hid (∀ w', Below w.heap.size w w' → Calls Tryz.prog 36 #[.pointer (some ⟨b, 0, none⟩), .int .i64 131, .int .i64 0] w' fun e w'' => e = .panicked [{ v := .iface 24 (.agg (faultV 131 ((i : Int) + 1) 1)), recovered := false }] ∧ w' = w'') := fun w' h => fail_zero b vT vC _ aw n cw hn 131 w' (hV.below h)
  have HWD : Hid (∀ w, HasMax m w → Calls Tryz.prog 33 #[.string ⟨x.toArray⟩] w (Gives2 strCod (wordsL x) (wordsOk x) w)) := fun w h => words_gives x (by omega) m w h
  have hwl : wordsL x = if wordsOk x = true then splitL 32 x else [] := rfl
  have hb0 : b < w.heap.size := by omega
  clear hpost hV HKP HLT HPOST
  cases hok : wordsOk x
  · rw [hok, if_neg (by decide)] at hwl
    rw [hwl, hok] at HWD
    clear hwl hok hnc hnk
    go_enter Tryz.func17, Tryz.ntmps17
    go_wp2_with (first
      | (go_at_call 33; (with_reducible refine (HWD.out _ ?_).mono ?_); (exact hm); intro e w1 hg; obtain ⟨a1, c1, rfl, hc1, hb1, hl1⟩ := hg; obtain ⟨p1, rfl⟩ := grown_of hb1; clear hb1)
      | (go_at_call 36; (with_reducible refine (HF.out _ (by repeat (first | exact Below.refl _ _ | assumption | refine below_grown ?_ (by first | omega | (simp [go_sem]; done) | (simp [go_sem] <;> omega)) _ | refine Below.alloc ?_ (by first | omega | (simp [go_sem]; done) | (simp [go_sem] <;> omega)) _ | refine below_bytesW ?_ (by first | omega | (simp [go_sem]; done) | (simp [go_sem] <;> omega)) _ | refine Below.drew ?_ | refine below_drewN ?_ _))).mono ?_); rintro e w2 ⟨rfl, rfl⟩))
    exact ⟨rfl, HFIN.out _ (by repeat (first | exact Below.refl _ _ | assumption | refine below_grown ?_ (by first | omega | (simp [go_sem]; done) | (simp [go_sem] <;> omega)) _ | refine Below.alloc ?_ (by first | omega | (simp [go_sem]; done) | (simp [go_sem] <;> omega)) _ | refine below_bytesW ?_ (by first | omega | (simp [go_sem]; done) | (simp [go_sem] <;> omega)) _ | refine Below.drew ?_ | refine below_drewN ?_ _))⟩
  · rw [hok, if_pos rfl] at hwl
    rw [hwl, hok] at HWD
    have h1 : (nth (splitL 32 x) 0 == choiceWd && decide (2 < (splitL 32 x).length)) = false := by
      unfold isCh at hnc; rw [hok, Bool.true_and] at hnc; exact hnc
    have h2 : (nth (splitL 32 x) 0 == cookieWd && decide ((splitL 32 x).length = 4)) = false := by
      unfold isCk at hnk; rw [hok, Bool.true_and] at hnk; exact hnk
    have hp := splitL_pos 32 x
    clear hwl hok hnc hnk
    generalize splitL 32 x = W at *
    have hn0 : nth W 0 = W[0]'hp := by unfold nth; rw [List.getD_eq_getElem?_getD, List.getElem?_eq_getElem hp]; rfl
    rw [hn0] at h1 h2
    clear hn0
    have hp0 : (0 : Int) < (W.length : Int) := by omega
    have HP := Lib.hid hp
    by_cases hc : W[0]'hp = choiceWd
    · have hl2 : ¬ (2 : Int) < (W.length : Int) := by
        rw [hc] at h1
        simp only [beq_self_eq_true, Bool.true_and, decide_eq_false_iff_not] at h1
        omega
      have HC := Lib.hid hc
      clear h1 h2 hc
      go_enter Tryz.func17, Tryz.ntmps17
      go_wp2_with (first
        | (go_at_call 33; (with_reducible refine (HWD.out _ ?_).mono ?_); (exact hm); intro e w1 hg; obtain ⟨a1, c1, rfl, hc1, hb1, hl1⟩ := hg; obtain ⟨g, o, rfl, _, hgw, hat⟩ := hl1.resolve_left (fun h => by rw [h] at hp; exact absurd hp (Nat.lt_irrefl _)); have hc0 := strAt hat 0 hp; rw [HC.out, Nat.add_zero] at hc0; unfold choiceWd at hc0; have HB1 := Lib.hid hb1; clear hb1 hl1 hat)
        | (go_at_call 36; (with_reducible refine (HF.out _ HB1.out).mono ?_); rintro e w2 ⟨rfl, rfl⟩))
      exact ⟨rfl, HFIN.out _ HB1.out⟩
    · have hc1' : (W[0]'hp == [99, 104, 111, 105, 99, 101]) = false := beq_eq_false_iff_ne.2 hc
      by_cases hk : W[0]'hp = cookieWd
      · have hl2 : ((W.length : Int) == 4) = false := by
          rw [hk] at h2
          simp only [beq_self_eq_true, Bool.true_and, decide_eq_false_iff_not] at h2
          rw [beq_eq_false_iff_ne]; omega
        have HC := Lib.hid hk
        clear h1 h2 hc hk hc1'
        go_enter Tryz.func17, Tryz.ntmps17
        go_wp2_with (first
          | (go_at_call 33; (with_reducible refine (HWD.out _ ?_).mono ?_); (exact hm); intro e w1 hg; obtain ⟨a1, c1, rfl, hc1, hb1, hl1⟩ := hg; obtain ⟨g, o, rfl, _, hgw, hat⟩ := hl1.resolve_left (fun h => by rw [h] at hp; exact absurd hp (Nat.lt_irrefl _)); have hc0 := strAt hat 0 hp; rw [HC.out, Nat.add_zero] at hc0; unfold cookieWd at hc0; have HB1 := Lib.hid hb1; clear hb1 hl1 hat)
          | (go_at_call 36; (with_reducible refine (HF.out _ HB1.out).mono ?_); rintro e w2 ⟨rfl, rfl⟩))
        exact ⟨rfl, HFIN.out _ HB1.out⟩
      · have hk1' : (W[0]'hp == [99, 111, 111, 107, 105, 101]) = false := beq_eq_false_iff_ne.2 hk
        have HAT : Hid (∀ (w' : World) (g o : Nat), ListAt strCod w' g o W → w'.cell? ⟨g, o + 0, none⟩ = some (.string ⟨(W[0]'hp).toArray⟩)) := fun w' g o h => strAt h 0 hp
        clear h1 h2 hc hk
        generalize W[0]'hp = y at *
        go_enter Tryz.func17, Tryz.ntmps17
        go_wp2_with (first
          | (go_at_call 33; (with_reducible refine (HWD.out _ ?_).mono ?_); (exact hm); intro e w1 hg; obtain ⟨a1, c1, rfl, hc1, hb1, hl1⟩ := hg; obtain ⟨g, o, rfl, _, hgw, hat⟩ := hl1.resolve_left (fun h => by rw [h] at hp; exact absurd hp (Nat.lt_irrefl _)); have hc0 := HAT.out _ _ _ hat; rw [Nat.add_zero] at hc0; have HB1 := Lib.hid hb1; clear hb1 hl1 hat)
          | (go_at_call 36; (with_reducible refine (HF.out _ HB1.out).mono ?_); rintro e w2 ⟨rfl, rfl⟩))
        exact ⟨rfl, HFIN.out _ HB1.out⟩
set_option maxRecDepth 100000 in
set_option maxHeartbeats 4000000 in
theorem read_ch (B b : Nat) (T : List GTpl) (C : List GCh) (hCl : C.length ≤ 6) (i : Nat) (x : List UInt8) (hxl : x.length ≤ 100000) (hch : isCh x = true) (aw : Option Addr) (n cw : Nat) (m : Int) (w : World) (hm : HasMax m w) (hb : b < B) (hB : B ≤ w.heap.size) (hS : RdS w B b T C ((i : Int) + 1) (.slice aw n cw)) :
    Calls Tryz.prog 17 #[.pointer (some ⟨b, 0, none⟩), .string ⟨x.toArray⟩] w (ReadPost B b T C i x w) := by
  obtain ⟨POST, hpost⟩ : ∃ POST : Ending → World → Prop, ReadPost B b T C i x w = POST := ⟨_, rfl⟩
  rw [hpost]
  have HPOST := Lib.hid hpost
  have HLT : Hid (lineT x i T C = ((chLine (splitL 32 x) C).1, (chLine (splitL 32 x) C).2.1, T, C ++ [(chLine (splitL 32 x) C).2.2])) := by
    show _ = _
    unfold lineT
    rw [if_pos hch]
  have HWD : Hid (∀ w, HasMax m w → Calls Tryz.prog 33 #[.string ⟨x.toArray⟩] w (Gives2 strCod (wordsL x) (wordsOk x) w)) := fun w h => words_gives x (by omega) m w h
  have hok : wordsOk x = true := by unfold isCh at hch; simp only [Bool.and_eq_true] at hch; exact hch.1
  have hwl : wordsL x = splitL 32 x := by unfold wordsL; rw [if_pos hok]
  rw [hwl, hok] at HWD
  have hp := splitL_pos 32 x
  have hn0 : nth (splitL 32 x) 0 = (splitL 32 x)[0]'hp := by unfold nth; rw [List.getD_eq_getElem?_getD, List.getElem?_eq_getElem hp]; rfl
  have hc : (splitL 32 x)[0]'hp = choiceWd ∧ 2 < (splitL 32 x).length := by
    unfold isCh at hch
    rw [hok, hn0] at hch
    simpa using hch
  have hsum := split_sum 32 x
  have hpl := splitL_piece_le 32 x
  have hll := splitL_length_le 32 x
  have HPL : Hid (∀ y ∈ splitL 32 x, y.length ≤ 1000000) := fun y hy => by have := hpl y hy; omega
  have hsum2 : ((splitL 32 x).map (fun w => w.length + 1)).sum ≤ 1000000 := by omega
  have HSUM := Lib.hid hsum2
  have HBR : Hid (∀ w', Below w.heap.size w w' → RdS w' B b T C ((i : Int) + 1) (.slice aw n cw)) := fun w' h => hS.below h
  obtain ⟨vT, vC, R, hV, _⟩ := hS
  have HV := Lib.hid hV
  clear hpost hwl hok hn0 hsum hpl hsum2 hch hV
  generalize hW : splitL 32 x = W at *
  have HW := Lib.hid hW
  clear hW
  have hl2 : (2 : Int) < (W.length : Int) := by omega
  have hl3 := hc.2
  have hp0 : (0 : Int) < (W.length : Int) := by omega
  have HC := Lib.hid hc.1
  have hbw : b < w.heap.size := by omega
  clear hc
  have HCH : Hid (∀ (a1 : Option Addr) (c1 : Nat) (w' : World), W.length ≤ c1 → w.heap.size ≤ w'.heap.size → RdS w' B b T C ((i : Int) + 1) (.slice a1 W.length c1) → ListIn strCod w' a1 W 0 → Calls Tryz.prog 34 #[.pointer (some ⟨b, 0, none⟩)] w' (ChoicePost B b T C ((i : Int) + 1) (.slice a1 W.length c1) W w')) := fun a1 c1 w' h1 h2 h3 h4 => choice_any B b T C hCl _ a1 c1 W h1 (by omega) HSUM.out hl3 HPL.out w' hb (by omega) h3 h4
  by_cases he : (chLine W C).1 = 0
  · have HCH2 : Hid (∀ (a1 : Option Addr) (c1 : Nat) (w' : World), W.length ≤ c1 → w.heap.size ≤ w'.heap.size → RdS w' B b T C ((i : Int) + 1) (.slice a1 W.length c1) → ListIn strCod w' a1 W 0 → Calls Tryz.prog 34 #[.pointer (some ⟨b, 0, none⟩)] w' fun e w'' => e = .returned (.tuple #[]) ∧ Keeps (Also b B) w' w'' ∧ RdS w'' B b T (C ++ [(chLine W C).2.2]) ((i : Int) + 1) (.slice a1 W.length c1)) := fun a1 c1 w' h1 h2 h3 h4 => (HCH.out a1 c1 w' h1 h2 h3 h4).mono fun e w'' h => by
      obtain ⟨hk, ⟨_, h5, h6⟩ | ⟨h5, _⟩⟩ := h
      · exact ⟨h5, hk, h6⟩
      · exact absurd he h5
    have HFIN : Hid (∀ a1 c1 w', W.length ≤ c1 → Keeps (Also b B) w w' → RdS w' B b T (C ++ [(chLine W C).2.2]) ((i : Int) + 1) (.slice a1 W.length c1) → POST (.returned (.tuple #[])) w') := fun a1 c1 w' h1 h2 h3 => by
      rw [← HPOST.out]
      exact ⟨h2, .inl ⟨by rw [HLT.out]; exact he, rfl, a1, _, c1, h1, by rw [HLT.out]; exact h3⟩⟩
    clear HCH he
    generalize C ++ [(chLine W C).2.2] = C' at *
    go_enter Tryz.func17, Tryz.ntmps17
    go_upto_region 3 with (go_at_call 33; (with_reducible refine (HWD.out _ ?_).mono ?_); (exact hm); intro e w1 hg; obtain ⟨a1, c1, rfl, hc1, hb1, hl1⟩ := hg; obtain ⟨g, o, rfl, _, hgw, hat⟩ := hl1.resolve_left (fun h => by rw [h] at hp; exact absurd hp (Nat.lt_irrefl _)); have hc0 := strAt hat 0 hp; rw [HC.out, Nat.add_zero] at hc0; unfold choiceWd at hc0; have HB1 := Lib.hid hb1; have HAT := Lib.hid hat; clear hb1 hl1 hat)
    have hs1 := HB1.out.size
    have g1 : w1.frozen? ⟨b, 3, none⟩ = false := (HV.out.below HB1.out).free 3
    have g2 : w1.cell? ⟨b, 3, none⟩ = some (.slice aw n cw) := (HV.out.below HB1.out).cell 3 (by simp)
    have HR2 := Lib.hid ((HBR.out _ HB1.out).words hb (.slice (some ⟨g, o, none⟩) W.length c1))
    have HL2 : Hid (ListIn strCod (w1.setCell ⟨b, 3, none⟩ (.slice (some ⟨g, o, none⟩) W.length c1)) (some ⟨g, o, none⟩) W 0) := .inr ⟨g, o, rfl, Nat.zero_le _, by simp [World.setCell]; omega, fun j u hj => by rw [World.cell?_of_block (a := ⟨g, _, none⟩) (setCell_other' _ _ _ _ (by show g ≠ b; omega))]; exact HAT.out j u hj⟩
    have HK2 : Hid (Keeps (Also b B) w (w1.setCell ⟨b, 3, none⟩ (.slice (some ⟨g, o, none⟩) W.length c1))) := keeps_setCell (Keeps.of_below HB1.out) (.inr (.inl rfl)) _
    have hs2 : w.heap.size ≤ (w1.setCell ⟨b, 3, none⟩ (.slice (some ⟨g, o, none⟩) W.length c1)).heap.size := by simp [World.setCell]; omega
    go_wp2_with (go_at_call 34; (with_reducible refine (HCH2.out _ _ _ hc1 hs2 HR2.out HL2.out).mono ?_); rintro e w3 ⟨rfl, h3, h4⟩; have HK3 := Lib.hid h3; have HR3 := Lib.hid h4; clear h3 h4)
    go_end0
    exact HFIN.out _ _ _ hc1 (HK2.out.trans HK3.out) HR3.out
  · have HCH2 : Hid (∀ (a1 : Option Addr) (c1 : Nat) (w' : World), W.length ≤ c1 → w.heap.size ≤ w'.heap.size → RdS w' B b T C ((i : Int) + 1) (.slice a1 W.length c1) → ListIn strCod w' a1 W 0 → Calls Tryz.prog 34 #[.pointer (some ⟨b, 0, none⟩)] w' fun e w'' => e = .panicked [{ v := .iface 24 (.agg (faultV (chLine W C).1 ((i : Int) + 1) (colW W (chLine W C).2.1))), recovered := false }] ∧ Keeps (Also b B) w' w'') := fun a1 c1 w' h1 h2 h3 h4 => (HCH.out a1 c1 w' h1 h2 h3 h4).mono fun e w'' h => by
      obtain ⟨hk, ⟨h5, _⟩ | ⟨_, h5⟩⟩ := h
      · exact absurd h5 he
      · exact ⟨h5, hk⟩
    have HFIN : Hid (∀ w', Keeps (Also b B) w w' → POST (.panicked [{ v := .iface 24 (.agg (faultV (chLine W C).1 ((i : Int) + 1) (colW W (chLine W C).2.1))), recovered := false }]) w') := fun w' h2 => by
      rw [← HPOST.out]
      exact ⟨h2, .inr ⟨by rw [HLT.out]; exact he, by rw [HLT.out, HW.out]; rfl⟩⟩
    clear HCH he
    generalize (chLine W C).1 = er at *
    generalize colW W (chLine W C).2.1 = col at *
    go_enter Tryz.func17, Tryz.ntmps17
    go_upto_region 3 with (go_at_call 33; (with_reducible refine (HWD.out _ ?_).mono ?_); (exact hm); intro e w1 hg; obtain ⟨a1, c1, rfl, hc1, hb1, hl1⟩ := hg; obtain ⟨g, o, rfl, _, hgw, hat⟩ := hl1.resolve_left (fun h => by rw [h] at hp; exact absurd hp (Nat.lt_irrefl _)); have hc0 := strAt hat 0 hp; rw [HC.out, Nat.add_zero] at hc0; unfold choiceWd at hc0; have HB1 := Lib.hid hb1; have HAT := Lib.hid hat; clear hb1 hl1 hat)
    have hs1 := HB1.out.size
    have g1 : w1.frozen? ⟨b, 3, none⟩ = false := (HV.out.below HB1.out).free 3
    have g2 : w1.cell? ⟨b, 3, none⟩ = some (.slice aw n cw) := (HV.out.below HB1.out).cell 3 (by simp)
    have HR2 := Lib.hid ((HBR.out _ HB1.out).words hb (.slice (some ⟨g, o, none⟩) W.length c1))
    have HL2 : Hid (ListIn strCod (w1.setCell ⟨b, 3, none⟩ (.slice (some ⟨g, o, none⟩) W.length c1)) (some ⟨g, o, none⟩) W 0) := .inr ⟨g, o, rfl, Nat.zero_le _, by simp [World.setCell]; omega, fun j u hj => by rw [World.cell?_of_block (a := ⟨g, _, none⟩) (setCell_other' _ _ _ _ (by show g ≠ b; omega))]; exact HAT.out j u hj⟩
    have HK2 : Hid (Keeps (Also b B) w (w1.setCell ⟨b, 3, none⟩ (.slice (some ⟨g, o, none⟩) W.length c1))) := keeps_setCell (Keeps.of_below HB1.out) (.inr (.inl rfl)) _
    have hs2 : w.heap.size ≤ (w1.setCell ⟨b, 3, none⟩ (.slice (some ⟨g, o, none⟩) W.length c1)).heap.size := by simp [World.setCell]; omega
    go_wp2_with (go_at_call 34; (with_reducible refine (HCH2.out _ _ _ hc1 hs2 HR2.out HL2.out).mono ?_); rintro e w3 ⟨rfl, h3⟩; have HK3 := Lib.hid h3; clear h3)
    exact ⟨rfl, HFIN.out _ (HK2.out.trans HK3.out)⟩
end

section
open Go Go.RowKit
set_option maxRecDepth 20000
set_option linter.unusedSimpArgs false
set_option linter.unusedVariables false

theorem linesL_pieceV (s x : List UInt8) (h : x ∈ linesL s) : x.length ≤ s.length := by
  unfold linesL at h
  obtain ⟨y, hy, rfl⟩ := List.mem_map.1 h
  have h1 : (cutCR y).length ≤ y.length := by
    unfold cutCR Lib.trimSuffix
    split
    · simp
    · exact Nat.le_refl _
  have h2 : y ∈ splitL 10 s := by
    unfold dropEmpty at hy
    split at hy
    · exact List.dropLast_subset _ hy
    · exact hy
  have := splitL_piece_le 10 s y h2
  omega
theorem tplStep_at (L : List (List UInt8)) (k : Nat) (h : k < L.length) (T : List GTpl) (C : List GCh) : tplStep (L.drop k) k T C =
    if L[k]'h = [] ∨ Lib.hasPrefix (L[k]'h) [35] = true then tplStep (L.drop (k + 1)) (k + 1) T C
    else if (lineT (L[k]'h) k T C).1 ≠ 0 then ([], [], (lineT (L[k]'h) k T C).1, (k : Int) + 1, colW (splitL 32 (L[k]'h)) (lineT (L[k]'h) k T C).2.1)
    else tplStep (L.drop (k + 1)) (k + 1) (lineT (L[k]'h) k T C).2.2.1 (lineT (L[k]'h) k T C).2.2.2 := by
  rw [List.drop_eq_getElem_cons h]; rfl
theorem tplStep_end (L : List (List UInt8)) (T : List GTpl) (C : List GCh) : tplStep (L.drop L.length) L.length T C = (T, C, 0, 0, 0) := by
  rw [List.drop_length]; rfl
/-- What may stand in a reader. -/
def RdOk (N : Nat) (T : List GTpl) (C : List GCh) : Prop := T.length ≤ 8 ∧ C.length ≤ 6 ∧ (∀ t ∈ T, t.text.length ≤ N) ∧ ∀ c ∈ C, c.vals.length ≤ 6 ∧ ∀ x ∈ c.vals, x.length ≤ N
theorem RdOk.nil (N : Nat) : RdOk N [] [] := ⟨by decide, by decide, by simp, by simp⟩
theorem nth_le {x : List UInt8} (i : Nat) : (nth (splitL 32 x) i).length ≤ x.length := by
  unfold nth
  rw [List.getD_eq_getElem?_getD]
  by_cases h : i < (splitL 32 x).length
  · rw [List.getElem?_eq_getElem h]
    exact splitL_piece_le 32 x _ (List.getElem_mem h)
  · rw [List.getElem?_eq_none (by omega)]
    exact Nat.zero_le _
theorem chVals_ok (N : Nat) : ∀ (L : List (List UInt8)) (i : Nat) (V : List (List UInt8)), (∀ x ∈ L, x.length ≤ N) → V.length ≤ 6 → (∀ x ∈ V, x.length ≤ N) → (chVals L i V).2.2.length ≤ 6 ∧ ∀ x ∈ (chVals L i V).2.2, x.length ≤ N
  | [], _, V, _, h1, h2 => ⟨h1, h2⟩
  | x :: L, i, V, h, h1, h2 => by
    rw [chVals]
    split
    · exact ⟨h1, h2⟩
    split
    · exact ⟨h1, h2⟩
    split
    · exact ⟨h1, h2⟩
    · rename_i h6
      refine chVals_ok N L (i + 1) _ (fun y hy => h y (List.mem_cons_of_mem _ hy)) (by simp; omega) (fun y hy => ?_)
      rcases List.mem_append.1 hy with hy | hy
      · exact h2 y hy
      · rw [List.mem_singleton] at hy
        subst hy
        exact Nat.le_trans (unwL_len x) (h x (List.mem_cons_self ..))
theorem chLine_ok {N : Nat} (x : List UInt8) (hx : x.length ≤ N) (C : List GCh) (h0 : (chLine (splitL 32 x) C).1 = 0) : C.length ≠ 6 ∧ (chLine (splitL 32 x) C).2.2.vals.length ≤ 6 ∧ ∀ y ∈ (chLine (splitL 32 x) C).2.2.vals, y.length ≤ N := by
  have hv := chVals_ok N ((splitL 32 x).drop 2) 2 [] (fun y hy => Nat.le_trans (splitL_piece_le 32 x y (List.mem_of_mem_drop hy)) hx) (by decide) (by simp)
  unfold chLine at h0 ⊢
  split
  · rename_i h; rw [if_pos h] at h0; exact absurd h0 (by decide)
  rename_i h1
  rw [if_neg h1] at h0
  split
  · rename_i h; rw [if_pos h] at h0; exact absurd h0 (by decide)
  rename_i h2
  rw [if_neg h2] at h0
  split
  · rename_i h; rw [if_pos h] at h0; exact absurd h0 h
  rename_i h3
  rw [if_neg h3] at h0
  split
  · rename_i h; rw [if_pos h] at h0; exact absurd h0 (by decide)
  · rename_i h4
    exact ⟨h4, hv⟩
theorem ckLine_ok {N : Nat} (x : List UInt8) (hx : x.length ≤ N) (T : List GTpl) (C : List GCh) (line : Int) (h0 : (ckLine (splitL 32 x) T C line).1 = 0) : T.length ≠ 8 ∧ (ckLine (splitL 32 x) T C line).2.2.text.length ≤ N := by
  unfold ckLine at h0 ⊢
  split
  · rename_i h; rw [if_pos h] at h0; exact absurd h0 (by decide)
  rename_i h1
  rw [if_neg h1] at h0
  split
  · rename_i h; rw [if_pos h] at h0; exact absurd h0 (by decide)
  rename_i h2
  rw [if_neg h2] at h0
  split
  · rename_i h; rw [if_pos h] at h0; exact absurd h0 h
  rename_i h3
  rw [if_neg h3] at h0
  split
  · rename_i h; rw [if_pos h] at h0; exact absurd h0 (by decide)
  rename_i h4
  rw [if_neg h4] at h0
  split
  · rename_i h; rw [if_pos h] at h0; exact absurd h0 h
  rename_i h5
  rw [if_neg h5] at h0
  split
  · rename_i h; rw [if_pos h] at h0; exact absurd h0 (by decide)
  · rename_i h6
    exact ⟨h6, Nat.le_trans (unwL_len _) (Nat.le_trans (nth_le 3) hx)⟩
theorem lineT_ok {N : Nat} {x : List UInt8} {i : Nat} {T : List GTpl} {C : List GCh} (h : RdOk N T C) (hx : x.length ≤ N) (h0 : (lineT x i T C).1 = 0) : RdOk N (lineT x i T C).2.2.1 (lineT x i T C).2.2.2 := by
  obtain ⟨h1, h2, h3, h4⟩ := h
  unfold lineT at h0 ⊢
  split
  · rename_i hc
    rw [if_pos hc] at h0
    obtain ⟨g1, g2, g3⟩ := chLine_ok x hx C h0
    refine ⟨h1, ?_, h3, fun c hc => ?_⟩
    · show (C ++ [_]).length ≤ 6
      rw [List.length_append, List.length_singleton]; omega
    · rcases List.mem_append.1 hc with hc | hc
      · exact h4 c hc
      · rw [List.mem_singleton] at hc
        subst hc
        exact ⟨g2, g3⟩
  rename_i hc
  rw [if_neg hc] at h0
  split
  · rename_i hk
    rw [if_pos hk] at h0
    obtain ⟨g1, g2⟩ := ckLine_ok x hx T C _ h0
    refine ⟨?_, h2, fun t ht => ?_, h4⟩
    · show (T ++ [_]).length ≤ 8
      rw [List.length_append, List.length_singleton]; omega
    · rcases List.mem_append.1 ht with ht | ht
      · exact h3 t ht
      · rw [List.mem_singleton] at ht
        subst ht
        exact g2
  · rename_i hk
    rw [if_neg hk] at h0
    exact absurd h0 (show ¬ ((131 : Int) = 0) by decide)
end

section
open Go Go.RowKit
set_option maxRecDepth 20000
set_option linter.unusedSimpArgs false
set_option linter.unusedVariables false

@[go_sem] theorem hasRow_setCell_o (w : World) (a : Addr) (v : Value) (b o n : Nat) (h : b ≠ a.block) : hasRow (w.setCell a v) ⟨b, o, none⟩ n = hasRow w ⟨b, o, none⟩ n :=
  has_congr fun j _ => by rw [add_mk]; exact World.cell?_of_block (a := ⟨b, o + j, none⟩) (setCell_other' w a v b h)
@[go_sem] theorem rowAt_setCell_o (w : World) (a : Addr) (v : Value) (b o n : Nat) (h : b ≠ a.block) : rowAt (w.setCell a v) ⟨b, o, none⟩ n = rowAt w ⟨b, o, none⟩ n :=
  row_congr fun j _ => by rw [add_mk]; exact World.cell?_of_block (a := ⟨b, o + j, none⟩) (setCell_other' w a v b h)
theorem list3_eq {α : Type} (l : List α) (h : l.length = 3) : ∃ a b c, l = [a, b, c] := by
  match l, h with
  | [a, b, c], _ => exact ⟨a, b, c, rfl⟩
/-- Behind the closure: no templates, no choices, the fault. -/
def Caught (p2 p3 p4 : Nat) (c l k : Int) (w w' : World) : Prop := Var w' p2 [.slice none 0 0] ∧ Var w' p3 [.slice none 0 0] ∧ Var w' p4 (faultR c l k) ∧ Keeps (fun g => g = p2 ∨ g = p3 ∨ g = p4) w w'
theorem catch_idle (p2 p3 p4 : Nat) (w : World) :
    CallsD Tryz.prog 14 #[.pointer (some ⟨p2, 0, none⟩), .pointer (some ⟨p3, 0, none⟩), .pointer (some ⟨p4, 0, none⟩)] .returning w fun e u' w' => e = .returned (.tuple #[]) ∧ u' = .returning ∧ w' = w := by
  refine callsD_of_wpS Tryz.func14 rfl fun c₀ cs hu => ?_
  apply wpS_seq
  apply wpS_region
  simp [wpOpsS, go_sem, recoverD, hu, Tryz.ntmps14, Exit.thenS]
  refine wpS_of_wp ?_
  simp only [Tryz.ntmps14, List.size_toArray, List.length_cons, List.length_nil, Nat.reduceAdd, Nat.reduceSub, Array.replicate_succ, Array.replicate_zero, List.push_toArray, List.append_toArray, List.nil_append, List.cons_append]
  go_wp2
  cases c₀
  simp_all [bodyPostS, results, Tryz.results14]
theorem hasVar_var {w : World} {b n : Nat} (h : hasVar w b n = true) : ∃ cs, cs.length = n ∧ Var w b cs := by
  obtain ⟨c, t, h1, h2⟩ := hasVar_iff.1 h
  exact ⟨c.toList, by simpa using h2, t, by simpa using h1⟩
theorem catch_fault (p2 p3 p4 : Nat) (c l k : Int) (older : List PanicEntry) (w : World) (h23 : p2 ≠ p3) (h24 : p2 ≠ p4) (h34 : p3 ≠ p4) (hv2 : hasVar w p2 1 = true) (hv3 : hasVar w p3 1 = true) (hv4 : hasVar w p4 3 = true) :
    CallsD Tryz.prog 14 #[.pointer (some ⟨p2, 0, none⟩), .pointer (some ⟨p3, 0, none⟩), .pointer (some ⟨p4, 0, none⟩)] (.panicking ({ v := .iface 24 (.agg (faultV c l k)), recovered := false } :: older)) w fun e u' w' => e = .returned (.tuple #[]) ∧ u' = .panicking ({ v := .iface 24 (.agg (faultV c l k)), recovered := true } :: older) ∧ Caught p2 p3 p4 c l k w w' := by
  refine callsD_of_wpS Tryz.func14 rfl fun c₀ cs hu => ?_
  apply wpS_seq
  apply wpS_region
  simp [wpOpsS, go_sem, recoverD, hu, Tryz.ntmps14, Exit.thenS]
  refine wpS_of_wp ?_
  simp only [Tryz.ntmps14, List.size_toArray, List.length_cons, List.length_nil, Nat.reduceAdd, Nat.reduceSub, Array.replicate_succ, Array.replicate_zero, List.push_toArray, List.append_toArray, List.nil_append, List.cons_append]
  have hta : ∀ w, (Instr.typeAssert (.iface 24 (.agg (faultV c l k))) 20 24 true).run Tryz.prog w = .ok (.tuple #[.agg (faultV c l k), .bool true]) w := fun w => by kernel_rfl
  obtain ⟨c2, e2, h2⟩ := hasVar_var hv2
  obtain ⟨c3, e3, h3⟩ := hasVar_var hv3
  obtain ⟨x2, rfl⟩ := List.length_eq_one_iff.1 e2
  obtain ⟨x3, rfl⟩ := List.length_eq_one_iff.1 e3
  have i2 : isOld p2 w = true := isOld_iff.2 h2.lt
  have i3 : isOld p3 w = true := isOld_iff.2 h3.lt
  obtain ⟨c4, e4, h4⟩ := hasVar_var hv4
  obtain ⟨y0, y1, y2, rfl⟩ := list3_eq c4 e4
  have i4 : isOld p4 w = true := isOld_iff.2 h4.lt
  have a40 : w.cell? ⟨p4, 0, none⟩ = some y0 := h4.cell 0 (by simp)
  have a41 : w.cell? ⟨p4, 1, none⟩ = some y1 := h4.cell 1 (by simp)
  have a42 : w.cell? ⟨p4, 2, none⟩ = some y2 := h4.cell 2 (by simp)
  have f40 : w.frozen? ⟨p4, 0, none⟩ = false := h4.free 0
  have f41 : w.frozen? ⟨p4, 1, none⟩ = false := h4.free 1
  have f42 : w.frozen? ⟨p4, 2, none⟩ = false := h4.free 2
  have l2 := h2.lt
  have l3 := h3.lt
  have l4 := h4.lt
  have n2 : ¬ w.heap.size = p2 := by omega
  have n3 : ¬ w.heap.size = p3 := by omega
  have n4 : ¬ w.heap.size = p4 := by omega
  have n23 : ¬ p3 = p2 := fun e => h23 e.symm
  have n24 : ¬ p4 = p2 := fun e => h24 e.symm
  have n34 : ¬ p4 = p3 := fun e => h34 e.symm
  have a2 : w.cell? ⟨p2, 0, none⟩ = some x2 := h2.cell 0 (by simp)
  have a3 : w.cell? ⟨p3, 0, none⟩ = some x3 := h3.cell 0 (by simp)
  have f2 : w.frozen? ⟨p2, 0, none⟩ = false := h2.free 0
  have f3 : w.frozen? ⟨p3, 0, none⟩ = false := h3.free 0
  go_upto_region 7 with fail
  go_region
  have hfin : Caught p2 p3 p4 c l k w ((((w.setCell ⟨p2, 0, none⟩ (.slice none 0 0)).setCell ⟨p3, 0, none⟩ (.slice none 0 0)).alloc (Obj.cells (faultV c l k) 24)).drew.setRow p4 (faultV c l k)) := by
    have b2 := (h2.setCell 0 (.slice none 0 0)).setCell_other ⟨p3, 0, none⟩ (.slice none 0 0) h23
    have b3 := (h3.setCell_other ⟨p2, 0, none⟩ (.slice none 0 0) (fun e => h23 e.symm)).setCell 0 (.slice none 0 0)
    have b4 := (h4.setCell_other ⟨p2, 0, none⟩ (.slice none 0 0) (fun e => h24 e.symm)).setCell_other ⟨p3, 0, none⟩ (.slice none 0 0) (fun e => h34 e.symm)
    refine ⟨((b2.alloc _).drew).setRow_other _ _ h24, ((b3.alloc _).drew).setRow_other _ _ h34, ((b4.alloc _).drew).setRow_same _ rfl, ?_⟩
    exact keeps_setRow (((keeps_setCell (keeps_setCell (Keeps.refl _ _) (.inr (.inl rfl)) _) (.inr (.inr (.inl rfl))) _).alloc _).drew) (.inr (.inr (.inr rfl))) _
  have HFN := Lib.hid hfin
  go_wp2
  cases c₀
  simp_all [bodyPostS, results, Tryz.results14]
end

section
open Go Go.RowKit
set_option maxRecDepth 20000
set_option linter.unusedSimpArgs false
set_option linter.unusedVariables false

theorem run_build_rd0 (w : World) : (Instr.build 50 #[]).run Tryz.prog w = .ok (.agg #[.slice none 0 0, .slice none 0 0, .int .i64 0, .slice none 0 0]) w := by kernel_rfl
/-- What File hands back. -/
def FileGives (out : List GTpl × List GCh × GFaul) (w : World) (e : Ending) (w' : World) : Prop :=
  ∃ aT cT aC cC R, e = .returned (.tuple #[.slice aT out.1.length cT, .slice aC out.2.1.length cC, .agg (faultV out.2.2.1 out.2.2.2.1 out.2.2.2.2)]) ∧ out.1.length ≤ cT ∧ out.2.1.length ≤ cC ∧ Below w.heap.size w w' ∧ ListIn tpCod w' aT out.1 w.heap.size ∧ ListIn chCod w' aC R w.heap.size ∧ ChsOk w' w.heap.size R out.2.1
/-- What File hands back, each list in a block of its own. -/
def FileOwn (out : List GTpl × List GCh × GFaul) (w : World) (e : Ending) (w' : World) : Prop :=
  ∃ vT vC R, e = .returned (.tuple #[vT, vC, .agg (faultV out.2.2.1 out.2.2.2.1 out.2.2.2.2)]) ∧ Below w.heap.size w w' ∧ Own tpCod (From w.heap.size) w' vT out.1 ∧ Own chCod (From w.heap.size) w' vC R ∧ ChsOk w' w.heap.size R out.2.1 ∧ ValsOk w' w.heap.size R
theorem FileOwn.gives {out : List GTpl × List GCh × GFaul} {w w' : World} {e : Ending} (h : FileOwn out w e w') : FileGives out w e w' := by
  obtain ⟨vT, vC, R, rfl, hb, hT, hC, hCs, hV⟩ := h
  obtain ⟨aT, cT, rfl, hcT, hlT⟩ := hT.slice (B := w.heap.size) (fun _ h => from_le h)
  obtain ⟨aC, cC, rfl, hcC, hlC⟩ := hC.slice (B := w.heap.size) (fun _ h => from_le h)
  exact ⟨aT, cT, aC, cC, R, by rw [hCs.1], hcT, by rw [← hCs.1]; exact hcC, hb, hlT, hlC, hCs⟩
theorem ValsOk.mono {w : World} {B B' : Nat} {R : List RCh} (h : ValsOk w B R) (hB : B' ≤ B) : ValsOk w B' R := fun r hr => by
  rcases h r hr with h | ⟨g, o, cur, fz, e1, e2, e3⟩
  · exact .inl h
  · exact .inr ⟨g, o, cur, fz, e1, by omega, e3⟩
theorem results3 {P : Program} {fn : Func} {p q r : Tmp} {t1 t2 t3 : TypeId} (h : fn.results = #[.cell p t1, .cell q t2, .cell r t3]) (tmps : Array Value) (w : World) (g1 g2 g3 : Nat) (v1 v2 : Value) (cs : Array Value)
    (h1 : tmps.getD p undef = .pointer (some ⟨g1, 0, none⟩)) (h2 : tmps.getD q undef = .pointer (some ⟨g2, 0, none⟩)) (h3 : tmps.getD r undef = .pointer (some ⟨g3, 0, none⟩))
    (l1 : (loadVar t1 ⟨g1, 0, none⟩).run P w = .ok v1 w) (l2 : (loadVar t2 ⟨g2, 0, none⟩).run P w = .ok v2 w) (hagg : isAggT P t3 = true) (hr : hasRow w ⟨g3, 0, none⟩ (P.cellsOf t3) = true) (hc : rowAt w ⟨g3, 0, none⟩ (P.cellsOf t3) = cs) :
    (results fn tmps).run P w = .ok (.tuple #[v1, v2, .agg cs]) w := by
  have h1' : tmps[p]?.getD undef = .pointer (some ⟨g1, 0, none⟩) := by simpa using h1
  have h2' : tmps[q]?.getD undef = .pointer (some ⟨g2, 0, none⟩) := by simpa using h2
  have h3' : tmps[r]?.getD undef = .pointer (some ⟨g3, 0, none⟩) := by simpa using h3
  have := run_loadVar_agg (P := P) hagg ⟨g3, 0, none⟩ w hr
  rw [hc] at this
  simp [results, h, h1', h2', h3', asAddr, this, l1, l2]
theorem loadVar_slT (g : Nat) (v : Value) (w : World) (h : w.cell? ⟨g, 0, none⟩ = some v) : (loadVar 27 ⟨g, 0, none⟩).run Tryz.prog w = .ok v w := by
  simp [loadVar, go_sem, h]
theorem loadVar_slC (g : Nat) (v : Value) (w : World) (h : w.cell? ⟨g, 0, none⟩ = some v) : (loadVar 28 ⟨g, 0, none⟩).run Tryz.prog w = .ok v w := by
  simp [loadVar, go_sem, h]
set_option maxRecDepth 100000 in
set_option maxHeartbeats 4000000 in
theorem tplFile_long (s : List UInt8) (hlong : (20000 : Int) < s.length) (w : World) :
    Calls Tryz.prog 8 #[.string ⟨s.toArray⟩] w (FileOwn (tplFile s) w) := by
  have e : tplFile s = ([], [], 54, 1, 1) := by unfold tplFile; rw [if_pos (by omega)]
  rw [e]
  obtain ⟨POST, hpost⟩ : ∃ POST : Ending → World → Prop, FileOwn ([], [], 54, 1, 1) w = POST := ⟨_, rfl⟩
  rw [hpost]
  have HPOST := Lib.hid hpost
  clear hpost e
  go_enter_defers Tryz.func8, Tryz.ntmps8
  go_wp2
  refine ⟨_, results3 rfl _ _ w.heap.size (w.heap.size + 1) (w.heap.size + 1 + 1) (.slice none 0 0) (.slice none 0 0) (faultV 54 1 1) rfl rfl rfl (loadVar_slT _ _ _ (by simp [go_sem])) (loadVar_slC _ _ _ (by simp [go_sem])) agg_fault (by simp [go_sem]) (by simp [go_sem]), ?_⟩
  rw [← HPOST.out]
  exact ⟨_, _, [], rfl, (by repeat (first | exact Below.refl _ _ | assumption | refine below_grown ?_ (by first | omega | (simp [go_sem]; done) | (simp [go_sem] <;> omega)) _ | refine Below.alloc ?_ (by first | omega | (simp [go_sem]; done) | (simp [go_sem] <;> omega)) _ | refine below_bytesW ?_ (by first | omega | (simp [go_sem]; done) | (simp [go_sem] <;> omega)) _ | refine Below.drew ?_ | refine below_drewN ?_ _)), Own.nil _ _, Own.nil _ _, ChsOk.nil _ _, fun r hr => absurd hr (List.not_mem_nil)⟩
/-- What a line of the file does, as the loop meets it. -/
def ReadHolds (N : Nat) (m : Int) : Prop := ∀ (B b : Nat) (T : List GTpl) (C : List GCh) (i : Nat) (x : List UInt8) (aw : Option Addr) (n cw : Nat) (w : World), RdOk N T C → x.length ≤ N → n ≤ cw → HasMax m w → 0 < b → b < B → B ≤ w.heap.size → RdS w B b T C ((i : Int) + 1) (.slice aw n cw) → Calls Tryz.prog 17 #[.pointer (some ⟨b, 0, none⟩), .string ⟨x.toArray⟩] w (ReadPost B b T C i x w)
set_option maxRecDepth 100000 in
set_option maxHeartbeats 8000000 in
theorem tplFile_short (m : Int) (HRD : ReadHolds 20000 m) (s : List UInt8) (hs : s.length ≤ 20000) (w : World) (hm : HasMax m w) :
    Calls Tryz.prog 8 #[.string ⟨s.toArray⟩] w (FileOwn (tplFile s) w) := by
  have e : tplFile s = tplStep (linesL s) 0 [] [] := by unfold tplFile; rw [if_neg (by omega)]
  rw [e]
  have hlong : ¬ (20000 : Int) < s.length := by omega
  have HLN : Hid (∀ w, HasMax m w → Calls Tryz.prog 15 #[.string ⟨s.toArray⟩] w (Gives strCod (linesL s) w)) := fun w h => lines_any s (by omega) m w h
  have HPL : Hid (∀ x ∈ linesL s, x.length ≤ 20000) := fun x hx => Nat.le_trans (linesL_pieceV s x hx) hs
  have hLl := linesL_le s
  generalize linesL s = L at *
  clear e
  obtain ⟨RES, hres⟩ : ∃ RES, tplStep L 0 [] [] = RES := ⟨_, rfl⟩
  rw [hres]
  have HRES := Lib.hid hres
  clear hres
  obtain ⟨POST, hpost⟩ : ∃ POST : Ending → World → Prop, FileOwn RES w = POST := ⟨_, rfl⟩
  rw [hpost]
  have HPOST := Lib.hid hpost
  clear hpost
  have hmf : ∀ (fn : Fn) (first cap : Array Value) (w : World), (Instr.makeFunc fn first cap).run Tryz.prog w = .ok (.func fn first cap) w := fun _ _ _ _ => rfl
  have hbd := run_build_rd0
  have HRD2 := Lib.hid HRD
  clear HRD
  go_enter_defers Tryz.func8, Tryz.ntmps8
  go_upto_region 5 with fail
  have hd0 : hasVar (w.alloc (Obj.cells #[Value.slice none 0 0] 27)) w.heap.size 1 = true := by simp [go_sem]
  have HB4 : Hid (Below w.heap.size w ((((w.alloc (Obj.cells #[Value.slice none 0 0] 27)).alloc (Obj.cells #[Value.slice none 0 0] 28)).alloc (Obj.cells #[Value.int IntKind.i64 0, Value.int IntKind.i64 0, Value.int IntKind.i64 0] 24)).alloc (Obj.cells #[Value.slice none 0 0, Value.slice none 0 0, Value.int IntKind.i64 0, Value.slice none 0 0] 50))) := (by repeat (first | exact Below.refl _ _ | assumption | refine below_grown ?_ (by first | omega | (simp [go_sem]; done) | (simp [go_sem] <;> omega)) _ | refine Below.alloc ?_ (by first | omega | (simp [go_sem]; done) | (simp [go_sem] <;> omega)) _ | refine below_bytesW ?_ (by first | omega | (simp [go_sem]; done) | (simp [go_sem] <;> omega)) _ | refine Below.drew ?_ | refine below_drewN ?_ _))
  have HVR4 : Hid (Var ((((w.alloc (Obj.cells #[Value.slice none 0 0] 27)).alloc (Obj.cells #[Value.slice none 0 0] 28)).alloc (Obj.cells #[Value.int IntKind.i64 0, Value.int IntKind.i64 0, Value.int IntKind.i64 0] 24)).alloc (Obj.cells #[Value.slice none 0 0, Value.slice none 0 0, Value.int IntKind.i64 0, Value.slice none 0 0] 50)) (w.heap.size + 1 + 1 + 1) [.slice none 0 0, .slice none 0 0, .int .i64 0, .slice none 0 0]) := Var.new _ _ _ rfl (by simp)
  have HV44 : Hid (Var ((((w.alloc (Obj.cells #[Value.slice none 0 0] 27)).alloc (Obj.cells #[Value.slice none 0 0] 28)).alloc (Obj.cells #[Value.int IntKind.i64 0, Value.int IntKind.i64 0, Value.int IntKind.i64 0] 24)).alloc (Obj.cells #[Value.slice none 0 0, Value.slice none 0 0, Value.int IntKind.i64 0, Value.slice none 0 0] 50)) (w.heap.size + 1 + 1) [.int .i64 0, .int .i64 0, .int .i64 0]) := (Var.new _ _ _ rfl (by simp)).alloc _
  have HV34 : Hid (Var ((((w.alloc (Obj.cells #[Value.slice none 0 0] 27)).alloc (Obj.cells #[Value.slice none 0 0] 28)).alloc (Obj.cells #[Value.int IntKind.i64 0, Value.int IntKind.i64 0, Value.int IntKind.i64 0] 24)).alloc (Obj.cells #[Value.slice none 0 0, Value.slice none 0 0, Value.int IntKind.i64 0, Value.slice none 0 0] 50)) (w.heap.size + 1) [.slice none 0 0]) := ((Var.new _ _ _ rfl (by simp)).alloc _).alloc _
  have HV24 : Hid (Var ((((w.alloc (Obj.cells #[Value.slice none 0 0] 27)).alloc (Obj.cells #[Value.slice none 0 0] 28)).alloc (Obj.cells #[Value.int IntKind.i64 0, Value.int IntKind.i64 0, Value.int IntKind.i64 0] 24)).alloc (Obj.cells #[Value.slice none 0 0, Value.slice none 0 0, Value.int IntKind.i64 0, Value.slice none 0 0] 50)) w.heap.size [.slice none 0 0]) := (((Var.new _ _ _ rfl rfl).alloc _).alloc _).alloc _
  clear hd0
  generalize ((((w.alloc (Obj.cells #[Value.slice none 0 0] 27)).alloc (Obj.cells #[Value.slice none 0 0] 28)).alloc (Obj.cells #[Value.int IntKind.i64 0, Value.int IntKind.i64 0, Value.int IntKind.i64 0] 24)).alloc (Obj.cells #[Value.slice none 0 0, Value.slice none 0 0, Value.int IntKind.i64 0, Value.slice none 0 0] 50)) = w4 at *
  obtain ⟨p2, hp2⟩ : ∃ p2, w.heap.size = p2 := ⟨_, rfl⟩
  obtain ⟨p3, hp3⟩ : ∃ p3, p2 + 1 = p3 := ⟨_, rfl⟩
  obtain ⟨p4, hp4⟩ : ∃ p4, p3 + 1 = p4 := ⟨_, rfl⟩
  obtain ⟨b, hpb⟩ : ∃ b, p4 + 1 = b := ⟨_, rfl⟩
  rw [hp2] at HB4 HVR4 HV44 HV34 HV24
  rw [hp3] at HVR4 HV44 HV34
  rw [hp4] at HVR4 HV44
  rw [hpb] at HVR4
  simp only [hp2, hp3, hp4, hpb]
  have h23 : p2 < p3 := by omega
  have h34 : p3 < p4 := by omega
  have h4b : p4 < b := by omega
  have HP2 := Lib.hid hp2
  clear hp2 hp3 hp4 hpb
  have hb4 := HVR4.out.lt
  go_wp2_with (go_at_call 15; (with_reducible refine (HLN.out _ (hm.below (by rw [HP2.out]; exact HB4.out))).mono ?_); intro e w1 hg; obtain ⟨a1, c1, rfl, hc1, hb1, hl1⟩ := hg; have HB1 := Lib.hid hb1; have HIN := Lib.hid hl1; clear hb1 hl1)
  have hs1 := HB1.out.size
  have HBW1 : Hid (Below p2 w w1) := HB4.out.trans (HB1.out.mono (by omega))
  have HVR1 := Lib.hid (HVR4.out.below HB1.out)
  have HV41 := Lib.hid (HV44.out.below HB1.out)
  have HV31 := Lib.hid (HV34.out.below HB1.out)
  have HV21 := Lib.hid (HV24.out.below HB1.out)
  have hb1 := HVR1.out.lt
  clear HVR4 HV44 HV34 HV24 HB4 HLN
  obtain ⟨B, hB⟩ : ∃ B, w1.heap.size = B := ⟨_, rfl⟩
  have hBB : B ≤ w1.heap.size := by omega
  have hBB2 : w1.heap.size ≤ B := by omega
  have hbB : b < B := by omega
  clear hB hb1
  go_loopw [18] (fun i wr => ∃ (k : Nat) (T : List GTpl) (C : List GCh) (aw : Option Addr) (n cw : Nat) (z : Int), k ≤ L.length ∧ i = .int .i64 k ∧ n ≤ cw ∧ Keeps (Also b B) w1 wr ∧ RdS wr B b T C z (.slice aw n cw) ∧ RdOk 20000 T C ∧ Hid (tplStep (L.drop k) k T C = RES)) (fun i _ => L.length - (intOf i).toNat)
  case atStart => exact ⟨0, [], [], none, 0, 0, 0, Nat.zero_le _, rfl, Nat.le_refl _, Keeps.refl _ _, ⟨_, _, [], HVR1.out, Own.nil _ _, Own.nil _ _, ChsOk.nil _ _, fun r hr => absurd hr (List.not_mem_nil)⟩, RdOk.nil _, by rw [List.drop_zero]; exact HRES.out⟩
  case round =>
    obtain ⟨k, T, C, aw, n, cw, z, hk, rfl, hn, hkp, hrd, hok, hinv⟩ := hrel
    have hsr := hkp.size
    have HKP := Lib.hid hkp
    have HRS := Lib.hid hrd
    have HBE : Hid (Below p2 w wr) := HBW1.out.trans (hkp.below fun q hq => ⟨by omega, fun h => by rcases h with h | h <;> omega⟩)
    have HV4r := Lib.hid (HV41.out.keeps hkp (fun h => by rcases h with h | h <;> omega))
    have HV3r := Lib.hid (HV31.out.keeps hkp (fun h => by rcases h with h | h <;> omega))
    have HV2r := Lib.hid (HV21.out.keeps hkp (fun h => by rcases h with h | h <;> omega))
    clear hkp hrd
    by_cases hlt : k < L.length
    · obtain ⟨g1, o1, rfl, hlo1, hhi1, hat1⟩ := HIN.out.resolve_left (fun h => by subst h; exact absurd hlt (Nat.not_lt_zero _))
      have hcell := strAt (hat1.keeps HKP.out hhi1 (fun h => by rcases h with h | h <;> omega)) k hlt
      have hx := HPL.out _ (List.getElem_mem hlt)
      have hst := tplStep_at L k hlt T C
      rw [hinv.out] at hst
      have HHP : Hid (∀ w, Calls Tryz.prog 16 #[.string ⟨(L[k]'hlt).toArray⟩, .string ⟨[35].toArray⟩] w fun e w' => e = .returned (.bool (Lib.hasPrefix (L[k]'hlt) [35])) ∧ w = w') := fun w => (Tryz.strings_HasPrefix ⟨(L[k]'hlt).toArray⟩ ⟨[35].toArray⟩ w).mono fun e w' ⟨h1, h2⟩ => ⟨by simpa using h1, h2.symm⟩
      clear hinv hat1
      generalize L[k]'hlt = x at *
      have HST := Lib.hid hst
      clear hst
      have hwk : IntKind.i64.wrap ((k : Int) + 1) = (k : Int) + 1 := IntWalk.i64_in _ (by omega)
      have hok2 := Lib.hid hok
      clear hok
      by_cases hx0 : x = []
      · subst hx0
        have HS2 : Hid (tplStep (L.drop (k + 1)) (k + 1) T C = RES) := by
          have := HST.out
          rw [if_pos (.inl rfl)] at this
          exact this.symm
        clear HST
        go_wp2
        go_roundw
        case rel => exact ⟨k + 1, T, C, aw, n, cw, z, by omega, by go_num, hn, HKP.out, HRS.out, hok2.out, HS2.out⟩
        case measure => simp [intOf]; omega
      · have hem : x.isEmpty = false := by rw [List.isEmpty_eq_false_iff]; exact hx0
        have hem2 : (x == []) = false := by rw [beq_eq_false_iff_ne]; exact hx0
        cases hp : Lib.hasPrefix x [35]
        · rw [hp] at HHP
          have HST2 : Hid (RES = if (lineT x k T C).1 ≠ 0 then ([], [], (lineT x k T C).1, (k : Int) + 1, colW (splitL 32 x) (lineT x k T C).2.1) else tplStep (L.drop (k + 1)) (k + 1) (lineT x k T C).2.2.1 (lineT x k T C).2.2.2) := by
            show _ = _
            rw [HST.out, if_neg (by rw [hp]; simp [hx0])]
          clear HST hp hx0
          have hbr : b < wr.heap.size := by omega
          have r1 : wr.frozen? ⟨b, 2, none⟩ = false ∧ wr.cell? ⟨b, 2, none⟩ = some (.int .i64 z) := by
            obtain ⟨vT, vC, R, h1, _⟩ := HRS.out
            exact ⟨h1.free 2, h1.cell 2 (by simp)⟩
          have r2 := r1.1
          have r3 := r1.2
          have ib : isOld b wr = true := isOld_iff.2 hbr
          have HRS2 := Lib.hid (HRS.out.lineTo hbB ((k : Int) + 1))
          have HK2 : Hid (Keeps (Also b B) w1 (wr.setCell ⟨b, 2, none⟩ (.int .i64 ((k : Int) + 1)))) := keeps_setCell HKP.out (.inr (.inl rfl)) _
          have HB2 : Hid (Below p2 w (wr.setCell ⟨b, 2, none⟩ (.int .i64 ((k : Int) + 1)))) := HBE.out.setCell (by show p2 ≤ b; omega) _
          have HRX : Hid (Calls Tryz.prog 17 #[.pointer (some ⟨b, 0, none⟩), .string ⟨x.toArray⟩] (wr.setCell ⟨b, 2, none⟩ (.int .i64 ((k : Int) + 1))) (ReadPost B b T C k x (wr.setCell ⟨b, 2, none⟩ (.int .i64 ((k : Int) + 1))))) := HRD2.out B b T C k x aw n cw _ hok2.out hx hn (hm.below (by rw [HP2.out]; exact HB2.out)) (by have := hm.lt; have := HP2.out; omega) hbB (by simp [World.setCell]; omega) HRS2.out
          clear r1
          by_cases he : (lineT x k T C).1 = 0
          · have HS3 : Hid (tplStep (L.drop (k + 1)) (k + 1) (lineT x k T C).2.2.1 (lineT x k T C).2.2.2 = RES) := by
              show _ = _
              rw [HST2.out, if_neg (fun h => h he)]
            have HOK3 := Lib.hid (lineT_ok hok2.out hx he)
            have HRY : Hid (Calls Tryz.prog 17 #[.pointer (some ⟨b, 0, none⟩), .string ⟨x.toArray⟩] (wr.setCell ⟨b, 2, none⟩ (.int .i64 ((k : Int) + 1))) fun e w'' => e = .returned (.tuple #[]) ∧ Keeps (Also b B) (wr.setCell ⟨b, 2, none⟩ (.int .i64 ((k : Int) + 1))) w'' ∧ ∃ aw n cw, n ≤ cw ∧ RdS w'' B b (lineT x k T C).2.2.1 (lineT x k T C).2.2.2 ((k : Int) + 1) (.slice aw n cw)) := HRX.out.mono fun e w'' h => by
              obtain ⟨hk', ⟨_, h5, h6⟩ | ⟨h5, _⟩⟩ := h
              · exact ⟨h5, hk', h6⟩
              · exact absurd he h5
            clear HRX he HST2
            generalize (lineT x k T C).2.2.1 = T' at *
            generalize (lineT x k T C).2.2.2 = C' at *
            go_wp2_with (first
              | (go_at_call 16; (with_reducible refine (HHP.out _).mono ?_); intro e w' h; obtain ⟨rfl, h2⟩ := h; subst w')
              | (go_at_call 17; (with_reducible refine HRY.out.mono ?_); rintro e w5 ⟨rfl, hk5, aw', n', cw', hn', hrd'⟩; have HK5 := Lib.hid hk5; have HR5 := Lib.hid hrd'; clear hk5 hrd'))
            go_roundw
            case rel => exact ⟨k + 1, T', C', aw', n', cw', _, by omega, by go_num, hn', HK2.out.trans HK5.out, HR5.out, HOK3.out, HS3.out⟩
            case measure => simp [intOf]; omega
          · have HS3 : Hid (RES = ([], [], (lineT x k T C).1, (k : Int) + 1, colW (splitL 32 x) (lineT x k T C).2.1)) := by
              show _ = _
              rw [HST2.out, if_pos he]
            have HRY : Hid (Calls Tryz.prog 17 #[.pointer (some ⟨b, 0, none⟩), .string ⟨x.toArray⟩] (wr.setCell ⟨b, 2, none⟩ (.int .i64 ((k : Int) + 1))) fun e w'' => e = .panicked [{ v := .iface 24 (.agg (faultV (lineT x k T C).1 ((k : Int) + 1) (colW (splitL 32 x) (lineT x k T C).2.1))), recovered := false }] ∧ Keeps (Also b B) (wr.setCell ⟨b, 2, none⟩ (.int .i64 ((k : Int) + 1))) w'') := HRX.out.mono fun e w'' h => by
              obtain ⟨hk', ⟨h5, _⟩ | ⟨_, h5⟩⟩ := h
              · exact absurd h5 he
              · exact ⟨h5, hk'⟩
            clear HRX he HST2
            generalize (lineT x k T C).1 = er at *
            generalize colW (splitL 32 x) (lineT x k T C).2.1 = col at *
            go_wp2_with (first
              | (go_at_call 16; (with_reducible refine (HHP.out _).mono ?_); intro e w' h; obtain ⟨rfl, h2⟩ := h; subst w')
              | (go_at_call 17; (with_reducible refine HRY.out.mono ?_); rintro e w5 ⟨rfl, hk5⟩; have HK5 := Lib.hid hk5; clear hk5))
            have HK6 : Hid (Keeps (Also b B) w1 w5) := HK2.out.trans HK5.out
            have HB6 : Hid (Below p2 w w5) := HBW1.out.trans (HK6.out.below fun q hq => ⟨by omega, fun h => by rcases h with h | h <;> omega⟩)
            have g4 : hasVar w5 p4 3 = true := (HV41.out.keeps HK6.out (fun h => by rcases h with h | h <;> omega)).has rfl
            have g3 : hasVar w5 p3 1 = true := (HV31.out.keeps HK6.out (fun h => by rcases h with h | h <;> omega)).has rfl
            have g2 : hasVar w5 p2 1 = true := (HV21.out.keeps HK6.out (fun h => by rcases h with h | h <;> omega)).has rfl
            refine leaves_cons (f := 14) (args := #[.pointer (some ⟨p2, 0, none⟩), .pointer (some ⟨p3, 0, none⟩), .pointer (some ⟨p4, 0, none⟩)]) (by simp) (by simp [go_sem]) ?_
            refine (catch_fault p2 p3 p4 er ((k : Int) + 1) col [] w5 (by omega) (by omega) (by omega) g2 g3 g4).mono ?_
            rintro e u' w6 ⟨rfl, rfl, c2, c3, c4, ck⟩
            refine ⟨_, results3 rfl _ _ p2 p3 p4 (.slice none 0 0) (.slice none 0 0) (faultV er ((k : Int) + 1) col) rfl rfl rfl (loadVar_slT _ _ _ (c2.cell 0 (by simp))) (loadVar_slC _ _ _ (c3.cell 0 (by simp))) agg_fault (c4.hasRow rfl) (c4.rowAt rfl), ?_⟩
            rw [← HPOST.out, HS3.out]
            refine ⟨_, _, [], rfl, ?_, Own.nil _ _, Own.nil _ _, ChsOk.nil _ _, fun r hr => absurd hr (List.not_mem_nil)⟩
            rw [HP2.out]
            exact HB6.out.trans (ck.below fun q hq => ⟨by have := HK6.out.size; omega, fun h => by omega⟩)
        · rw [hp] at HHP
          have HS2 : Hid (tplStep (L.drop (k + 1)) (k + 1) T C = RES) := by
            have := HST.out
            rw [if_pos (.inr hp)] at this
            exact this.symm
          clear HST hp hx0
          go_wp2_with (go_at_call 16; (with_reducible refine (HHP.out _).mono ?_); intro e w' h; obtain ⟨rfl, h2⟩ := h; subst w')
          go_roundw
          case rel => exact ⟨k + 1, T, C, aw, n, cw, z, by omega, by go_num, hn, HKP.out, HRS.out, hok2.out, HS2.out⟩
          case measure => simp [intOf]; omega
    · obtain rfl : k = L.length := by omega
      have hfin := hinv.out
      rw [tplStep_end] at hfin
      subst hfin
      clear hinv
      obtain ⟨vT, vC, R, hV, hoT, hoC, hCs, hVs⟩ := HRS.out
      obtain ⟨aT, cT, rfl, hcT, hlT⟩ := hoT.slice (B := B) (fun _ h => from_le h)
      obtain ⟨aC, cC, rfl, hcC, hlC⟩ := hoC.slice (B := B) (fun _ h => from_le h)
      have HVb := Lib.hid hV
      have n1 : wr.cell? ⟨b, 0, none⟩ = some (.slice aT T.length cT) := hV.cell 0 (by simp)
      have n2 : wr.cell? ⟨b, 1, none⟩ = some (.slice aC R.length cC) := hV.cell 1 (by simp)
      have n3 : wr.frozen? ⟨p2, 0, none⟩ = false := HV2r.out.free 0
      have n4 : wr.frozen? ⟨p3, 0, none⟩ = false := HV3r.out.free 0
      have n5 : hasVar wr p4 3 = true := HV4r.out.has rfl
      have n6 : wr.cell? ⟨p2, 0, none⟩ = some (.slice none 0 0) := HV2r.out.cell 0 (by simp)
      have n7 : wr.cell? ⟨p3, 0, none⟩ = some (.slice none 0 0) := HV3r.out.cell 0 (by simp)
      have i1 : isOld b wr = true := isOld_iff.2 hV.lt
      have i2 : isOld p2 wr = true := isOld_iff.2 HV2r.out.lt
      have i3 : isOld p3 wr = true := isOld_iff.2 HV3r.out.lt
      have i4 : isOld p4 wr = true := isOld_iff.2 HV4r.out.lt
      have m1 : ¬ p3 = p2 := by omega
      have m2 : ¬ p4 = p2 := by omega
      have m3 : ¬ p4 = p3 := by omega
      have m4 : ¬ p2 = p3 := by omega
      have m5 : ¬ b = p2 := by omega
      have m6 : ¬ b = p3 := by omega
      have m7 : ¬ b = p4 := by omega
      have m8 : ¬ p2 = p4 := by omega
      have m9 : ¬ p3 = p4 := by omega
      have HCSr := Lib.hid hCs
      have HVSr := Lib.hid hVs
      have HOTr := Lib.hid hoT
      have HOCr := Lib.hid hoC
      clear hV hoT hoC hCs hVs hlT hlC
      go_upto_region 12 with fail
      go_region
      all_goals
        go_wp2_with fail
        have v2 := (((HV2r.out.setCell 0 (.slice aT T.length cT)).setCell_other ⟨p3, 0, none⟩ (.slice aC R.length cC) (by show p2 ≠ p3; omega)).drew).setRow_other p4 (faultV 0 0 0) (by omega)
        have v3 := (((HV3r.out.setCell_other ⟨p2, 0, none⟩ (.slice aT T.length cT) (by show p3 ≠ p2; omega)).setCell 0 (.slice aC R.length cC)).drew).setRow_other p4 (faultV 0 0 0) (by omega)
        have v4 := (((HV4r.out.setCell_other ⟨p2, 0, none⟩ (.slice aT T.length cT) (by show p4 ≠ p2; omega)).setCell_other ⟨p3, 0, none⟩ (.slice aC R.length cC) (by show p4 ≠ p3; omega)).drew).setRow_same (faultV 0 0 0) (cs' := faultR 0 0 0) rfl
        have kk : Keeps (fun g => g = p2 ∨ g = p3 ∨ g = p4) wr (((wr.setCell ⟨p2, 0, none⟩ (.slice aT T.length cT)).setCell ⟨p3, 0, none⟩ (.slice aC R.length cC)).drew.setRow p4 (faultV 0 0 0)) := keeps_setRow ((keeps_setCell (keeps_setCell (Keeps.refl _ _) (.inr (.inl rfl)) _) (.inr (.inr (.inl rfl))) _).drew) (.inr (.inr (.inr rfl))) _
        generalize (((wr.setCell ⟨p2, 0, none⟩ (.slice aT T.length cT)).setCell ⟨p3, 0, none⟩ (.slice aC R.length cC)).drew.setRow p4 (faultV 0 0 0)) = w6 at *
        refine leaves_cons (f := 14) (args := #[.pointer (some ⟨p2, 0, none⟩), .pointer (some ⟨p3, 0, none⟩), .pointer (some ⟨p4, 0, none⟩)]) (by simp) (by simp [go_sem]) ?_
        refine (catch_idle p2 p3 p4 _).mono ?_
        rintro e u' w7 ⟨rfl, rfl, rfl⟩
        refine ⟨_, results3 rfl _ _ p2 p3 p4 (.slice aT T.length cT) (.slice aC R.length cC) (faultV 0 0 0) rfl rfl rfl (loadVar_slT _ _ _ (v2.cell 0 (by simp))) (loadVar_slC _ _ _ (v3.cell 0 (by simp))) agg_fault (v4.hasRow rfl) (v4.rowAt rfl), ?_⟩
        rw [← HPOST.out]
        refine ⟨_, _, R, rfl, ?_, ?_, ?_, ?_, ?_⟩
        · rw [HP2.out]
          exact HBE.out.trans (kk.below fun q hq => ⟨by omega, fun h => by omega⟩)
        · exact (HOTr.out.keeps kk (fun q h1 _ h2 => by have := from_le h1; omega)).sub (fun q h => by have := from_le h; show w.heap.size ≤ q; rw [HP2.out]; omega)
        · exact (HOCr.out.keeps kk (fun q h1 _ h2 => by have := from_le h1; omega)).sub (fun q h => by have := from_le h; show w.heap.size ≤ q; rw [HP2.out]; omega)
        · exact (HCSr.out.keeps kk (fun q h1 _ h2 => by omega)).mono (by rw [HP2.out]; omega)
        · exact (HVSr.out.keeps kk (fun q h1 _ h2 => by omega)).mono (by rw [HP2.out]; omega)
end
end Go.Proofs.YtnkckejbkbbdlaaGreatDoor
