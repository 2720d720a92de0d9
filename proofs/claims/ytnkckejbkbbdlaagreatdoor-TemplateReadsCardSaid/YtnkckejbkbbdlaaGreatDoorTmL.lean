/- Merged: TplKc, TplRf, TplEx, TplAl, TplKp. -/
import Derived.Test.YtnkckejbkbbdlaaGreatDoorTmKa
import Derived.Test.YtnkckejbkbbdlaaGreatDoorTmKb
import Derived.Test.YtnkckejbkbbdlaaGreatDoorTmI
import Derived.Test.YtnkckejbkbbdlaaGreatDoorTmF
import Derived.Test.YtnkckejbkbbdlaaGreatDoorTmInst
namespace Go.Proofs.YtnkckejbkbbdlaaGreatDoor
section
open Go Go.RowKit
set_option maxRecDepth 20000
set_option linter.unusedSimpArgs false
set_option linter.unusedVariables false

theorem cookie_any (B b : Nat) (T : List GTpl) (C : List GCh) (hTl : T.length ≤ 8) (hCl : C.length ≤ 6) (hCv : ∀ c ∈ C, c.vals.length ≤ 6 ∧ ∀ x ∈ c.vals, x.length ≤ 100000) (line : Int) (aw : Option Addr) (cw : Nat) (W : List (List UInt8)) (hWc : W.length ≤ cw) (hsum : ((W.map (fun w => w.length + 1)).sum : Nat) ≤ 1000000) (hk : W.length = 4) (hx : ∀ x ∈ W, x.length ≤ 100000) (m : Int) (w : World) (hm : HasMax m w) (hb : b < B) (hB : B ≤ w.heap.size) (hS : RdS w B b T C line (.slice aw W.length cw)) (hw : ListIn strCod w aw W 0) :
    Calls Tryz.prog 35 #[.pointer (some ⟨b, 0, none⟩)] w (CookiePost B b T C line (.slice aw W.length cw) W w) := by
  cases hn : nameT (W[1]'(by omega))
  · exact cookie_bad B b T C hTl hCl hCv line aw cw W hWc hsum hk hx m w hm hb hB hS hw hn
  · cases hA : T.any (fun r => r.name == (W[1]'(by omega)))
    · exact cookie_fine B b T C hTl hCl hCv line aw cw W hWc hsum hk hx m w hm hb hB hS hw hn hA
    · exact cookie_taken B b T C hTl hCl hCv line aw cw W hWc hsum hk hx m w hm hb hB hS hw hn hA
end

section
open Go Go.RowKit
set_option maxRecDepth 20000
set_option linter.unusedSimpArgs false
set_option linter.unusedVariables false

set_option maxRecDepth 100000 in
set_option maxHeartbeats 4000000 in
theorem read_ck (B b : Nat) (T : List GTpl) (C : List GCh) (hO : RdOk 20000 T C) (i : Nat) (x : List UInt8) (hxl : x.length ≤ 100000) (hch0 : isCh x = false) (hch : isCk x = true) (aw : Option Addr) (n cw : Nat) (m : Int) (w : World) (hm : HasMax m w) (hgb : 0 < b) (hb : b < B) (hB : B ≤ w.heap.size) (hS : RdS w B b T C ((i : Int) + 1) (.slice aw n cw)) :
    Calls Tryz.prog 17 #[.pointer (some ⟨b, 0, none⟩), .string ⟨x.toArray⟩] w (ReadPost B b T C i x w) := by
  obtain ⟨POST, hpost⟩ : ∃ POST : Ending → World → Prop, ReadPost B b T C i x w = POST := ⟨_, rfl⟩
  rw [hpost]
  have HPOST := Lib.hid hpost
  have HLT : Hid (lineT x i T C = ((ckLine (splitL 32 x) T C ((i : Int) + 1)).1, (ckLine (splitL 32 x) T C ((i : Int) + 1)).2.1, T ++ [(ckLine (splitL 32 x) T C ((i : Int) + 1)).2.2], C)) := by
    show _ = _
    unfold lineT
    rw [if_neg (by rw [hch0]; decide), if_pos hch]
  have HWD : Hid (∀ w, HasMax m w → Calls Tryz.prog 33 #[.string ⟨x.toArray⟩] w (Gives2 strCod (wordsL x) (wordsOk x) w)) := fun w h => words_gives x (by omega) m w h
  have hok : wordsOk x = true := by unfold isCk at hch; simp only [Bool.and_eq_true] at hch; exact hch.1
  have hwl : wordsL x = splitL 32 x := by unfold wordsL; rw [if_pos hok]
  rw [hwl, hok] at HWD
  have hp := splitL_pos 32 x
  have hn0 : nth (splitL 32 x) 0 = (splitL 32 x)[0]'hp := by unfold nth; rw [List.getD_eq_getElem?_getD, List.getElem?_eq_getElem hp]; rfl
  have hc : (splitL 32 x)[0]'hp = cookieWd ∧ (splitL 32 x).length = 4 := by
    unfold isCk at hch
    rw [hok, hn0] at hch
    simpa using hch
  have hsum := split_sum 32 x
  have hpl := splitL_piece_le 32 x
  have hll := splitL_length_le 32 x
  have HPL : Hid (∀ y ∈ splitL 32 x, y.length ≤ 100000) := fun y hy => by have := hpl y hy; omega
  have hsum2 : ((splitL 32 x).map (fun w => w.length + 1)).sum ≤ 1000000 := by omega
  have HSUM := Lib.hid hsum2
  have HBR : Hid (∀ w', Below w.heap.size w w' → RdS w' B b T C ((i : Int) + 1) (.slice aw n cw)) := fun w' h => hS.below h
  obtain ⟨vT, vC, R, hV, _⟩ := hS
  have HV := Lib.hid hV
  clear hpost hwl hok hn0 hsum hpl hsum2 hch hV
  generalize hW : splitL 32 x = W at *
  have HW := Lib.hid hW
  clear hW
  have hl2 : ((W.length : Int) == 4) = true := by rw [beq_iff_eq]; omega
  have HL4 := Lib.hid hc.2
  have hp0 : (0 : Int) < (W.length : Int) := by omega
  have HC := Lib.hid hc.1
  have hbw : b < w.heap.size := by omega
  clear hc
  have HCH : Hid (∀ (a1 : Option Addr) (c1 : Nat) (w' : World), W.length ≤ c1 → w.heap.size ≤ w'.heap.size → HasMax m w' → RdS w' B b T C ((i : Int) + 1) (.slice a1 W.length c1) → ListIn strCod w' a1 W 0 → Calls Tryz.prog 35 #[.pointer (some ⟨b, 0, none⟩)] w' (CookiePost B b T C ((i : Int) + 1) (.slice a1 W.length c1) W w')) := fun a1 c1 w' h1 h2 hm' h3 h4 => cookie_any B b T C hO.1 hO.2.1 (fun c hc => ⟨(hO.2.2.2 c hc).1, fun y hy => by have := (hO.2.2.2 c hc).2 y hy; omega⟩) _ a1 c1 W h1 HSUM.out HL4.out HPL.out m w' hm' hb (by omega) h3 h4
  by_cases he : (ckLine W T C ((i : Int) + 1)).1 = 0
  · have HCH2 : Hid (∀ (a1 : Option Addr) (c1 : Nat) (w' : World), W.length ≤ c1 → w.heap.size ≤ w'.heap.size → HasMax m w' → RdS w' B b T C ((i : Int) + 1) (.slice a1 W.length c1) → ListIn strCod w' a1 W 0 → Calls Tryz.prog 35 #[.pointer (some ⟨b, 0, none⟩)] w' fun e w'' => e = .returned (.tuple #[]) ∧ Keeps (Also b B) w' w'' ∧ RdS w'' B b (T ++ [(ckLine W T C ((i : Int) + 1)).2.2]) C ((i : Int) + 1) (.slice a1 W.length c1)) := fun a1 c1 w' h1 h2 hm' h3 h4 => (HCH.out a1 c1 w' h1 h2 hm' h3 h4).mono fun e w'' h => by
      obtain ⟨hk, ⟨_, h5, h6⟩ | ⟨h5, _⟩⟩ := h
      · exact ⟨h5, hk, h6⟩
      · exact absurd he h5
    have HFIN : Hid (∀ a1 c1 w', W.length ≤ c1 → Keeps (Also b B) w w' → RdS w' B b (T ++ [(ckLine W T C ((i : Int) + 1)).2.2]) C ((i : Int) + 1) (.slice a1 W.length c1) → POST (.returned (.tuple #[])) w') := fun a1 c1 w' h1 h2 h3 => by
      rw [← HPOST.out]
      exact ⟨h2, .inl ⟨by rw [HLT.out]; exact he, rfl, a1, _, c1, h1, by rw [HLT.out]; exact h3⟩⟩
    clear HCH he
    generalize T ++ [(ckLine W T C ((i : Int) + 1)).2.2] = T' at *
    go_enter Tryz.func17, Tryz.ntmps17
    go_upto_region 6 with (go_at_call 33; (with_reducible refine (HWD.out _ ?_).mono ?_); (exact hm); intro e w1 hg; obtain ⟨a1, c1, rfl, hc1, hb1, hl1⟩ := hg; obtain ⟨g, o, rfl, _, hgw, hat⟩ := hl1.resolve_left (fun h => by rw [h] at hp; exact absurd hp (Nat.lt_irrefl _)); have hc0 := strAt hat 0 hp; rw [HC.out, Nat.add_zero] at hc0; unfold cookieWd at hc0; have HB1 := Lib.hid hb1; have HAT := Lib.hid hat; clear hb1 hl1 hat)
    have hs1 := HB1.out.size
    have g1 : w1.frozen? ⟨b, 3, none⟩ = false := (HV.out.below HB1.out).free 3
    have g2 : w1.cell? ⟨b, 3, none⟩ = some (.slice aw n cw) := (HV.out.below HB1.out).cell 3 (by simp)
    have HR2 := Lib.hid ((HBR.out _ HB1.out).words hb (.slice (some ⟨g, o, none⟩) W.length c1))
    have HL2 : Hid (ListIn strCod (w1.setCell ⟨b, 3, none⟩ (.slice (some ⟨g, o, none⟩) W.length c1)) (some ⟨g, o, none⟩) W 0) := .inr ⟨g, o, rfl, Nat.zero_le _, by simp [World.setCell]; omega, fun j u hj => by rw [World.cell?_of_block (a := ⟨g, _, none⟩) (setCell_other' _ _ _ _ (by show g ≠ b; omega))]; exact HAT.out j u hj⟩
    have HK2 : Hid (Keeps (Also b B) w (w1.setCell ⟨b, 3, none⟩ (.slice (some ⟨g, o, none⟩) W.length c1))) := keeps_setCell (Keeps.of_below HB1.out) (.inr (.inl rfl)) _
    have hm2 : HasMax m (w1.setCell ⟨b, 3, none⟩ (.slice (some ⟨g, o, none⟩) W.length c1)) := (World.cell?_of_block (a := ⟨0, 0, none⟩) (setCell_other' _ _ _ _ (by show 0 ≠ b; omega))).trans (hm.below HB1.out)
    have hs2 : w.heap.size ≤ (w1.setCell ⟨b, 3, none⟩ (.slice (some ⟨g, o, none⟩) W.length c1)).heap.size := by simp [World.setCell]; omega
    go_wp2_with (go_at_call 35; (with_reducible refine (HCH2.out _ _ _ hc1 hs2 hm2 HR2.out HL2.out).mono ?_); rintro e w3 ⟨rfl, h3, h4⟩; have HK3 := Lib.hid h3; have HR3 := Lib.hid h4; clear h3 h4)
    go_end0
    exact HFIN.out _ _ _ hc1 (HK2.out.trans HK3.out) HR3.out
  · have HCH2 : Hid (∀ (a1 : Option Addr) (c1 : Nat) (w' : World), W.length ≤ c1 → w.heap.size ≤ w'.heap.size → HasMax m w' → RdS w' B b T C ((i : Int) + 1) (.slice a1 W.length c1) → ListIn strCod w' a1 W 0 → Calls Tryz.prog 35 #[.pointer (some ⟨b, 0, none⟩)] w' fun e w'' => e = .panicked [{ v := .iface 24 (.agg (faultV (ckLine W T C ((i : Int) + 1)).1 ((i : Int) + 1) (colW W (ckLine W T C ((i : Int) + 1)).2.1))), recovered := false }] ∧ Keeps (Also b B) w' w'') := fun a1 c1 w' h1 h2 hm' h3 h4 => (HCH.out a1 c1 w' h1 h2 hm' h3 h4).mono fun e w'' h => by
      obtain ⟨hk, ⟨h5, _⟩ | ⟨_, h5⟩⟩ := h
      · exact absurd h5 he
      · exact ⟨h5, hk⟩
    have HFIN : Hid (∀ w', Keeps (Also b B) w w' → POST (.panicked [{ v := .iface 24 (.agg (faultV (ckLine W T C ((i : Int) + 1)).1 ((i : Int) + 1) (colW W (ckLine W T C ((i : Int) + 1)).2.1))), recovered := false }]) w') := fun w' h2 => by
      rw [← HPOST.out]
      exact ⟨h2, .inr ⟨by rw [HLT.out]; exact he, by rw [HLT.out, HW.out]; rfl⟩⟩
    clear HCH he
    generalize (ckLine W T C ((i : Int) + 1)).1 = er at *
    generalize colW W (ckLine W T C ((i : Int) + 1)).2.1 = col at *
    go_enter Tryz.func17, Tryz.ntmps17
    go_upto_region 6 with (go_at_call 33; (with_reducible refine (HWD.out _ ?_).mono ?_); (exact hm); intro e w1 hg; obtain ⟨a1, c1, rfl, hc1, hb1, hl1⟩ := hg; obtain ⟨g, o, rfl, _, hgw, hat⟩ := hl1.resolve_left (fun h => by rw [h] at hp; exact absurd hp (Nat.lt_irrefl _)); have hc0 := strAt hat 0 hp; rw [HC.out, Nat.add_zero] at hc0; unfold cookieWd at hc0; have HB1 := Lib.hid hb1; have HAT := Lib.hid hat; clear hb1 hl1 hat)
    have hs1 := HB1.out.size
    have g1 : w1.frozen? ⟨b, 3, none⟩ = false := (HV.out.below HB1.out).free 3
    have g2 : w1.cell? ⟨b, 3, none⟩ = some (.slice aw n cw) := (HV.out.below HB1.out).cell 3 (by simp)
    have HR2 := Lib.hid ((HBR.out _ HB1.out).words hb (.slice (some ⟨g, o, none⟩) W.length c1))
    have HL2 : Hid (ListIn strCod (w1.setCell ⟨b, 3, none⟩ (.slice (some ⟨g, o, none⟩) W.length c1)) (some ⟨g, o, none⟩) W 0) := .inr ⟨g, o, rfl, Nat.zero_le _, by simp [World.setCell]; omega, fun j u hj => by rw [World.cell?_of_block (a := ⟨g, _, none⟩) (setCell_other' _ _ _ _ (by show g ≠ b; omega))]; exact HAT.out j u hj⟩
    have HK2 : Hid (Keeps (Also b B) w (w1.setCell ⟨b, 3, none⟩ (.slice (some ⟨g, o, none⟩) W.length c1))) := keeps_setCell (Keeps.of_below HB1.out) (.inr (.inl rfl)) _
    have hm2 : HasMax m (w1.setCell ⟨b, 3, none⟩ (.slice (some ⟨g, o, none⟩) W.length c1)) := (World.cell?_of_block (a := ⟨0, 0, none⟩) (setCell_other' _ _ _ _ (by show 0 ≠ b; omega))).trans (hm.below HB1.out)
    have hs2 : w.heap.size ≤ (w1.setCell ⟨b, 3, none⟩ (.slice (some ⟨g, o, none⟩) W.length c1)).heap.size := by simp [World.setCell]; omega
    go_wp2_with (go_at_call 35; (with_reducible refine (HCH2.out _ _ _ hc1 hs2 hm2 HR2.out HL2.out).mono ?_); rintro e w3 ⟨rfl, h3⟩; have HK3 := Lib.hid h3; clear h3)
    exact ⟨rfl, HFIN.out _ (HK2.out.trans HK3.out)⟩
theorem read_any (m : Int) : ReadHolds 20000 m := fun B b T C i x aw n cw w hO hx hn hm hgb hb hB hS => by
  cases hch : isCh x
  · cases hck : isCk x
    · exact read_none B b T C i x (by omega) hch hck aw n cw hn m w hm hb hB hS
    · exact read_ck B b T C hO i x (by omega) hch hck aw n cw m w hm hgb hb hB hS
  · exact read_ch B b T C hO.2.1 i x (by omega) hch aw n cw m w hm hb hB hS
/-- The program's File of templates. -/
theorem tplFile_own (s : List UInt8) (m : Int) (w : World) (hm : HasMax m w) : Calls Tryz.prog 8 #[.string ⟨s.toArray⟩] w (FileOwn (tplFile s) w) := by
  by_cases h : (20000 : Int) < s.length
  · exact tplFile_long s h w
  · exact tplFile_short m (read_any m) s (by omega) w hm
theorem tplFile_any (s : List UInt8) (m : Int) (w : World) (hm : HasMax m w) : Calls Tryz.prog 8 #[.string ⟨s.toArray⟩] w (FileGives (tplFile s) w) :=
  (tplFile_own s m w hm).mono fun _ _ h => h.gives
end

section
open Go Go.RowKit
set_option maxRecDepth 20000
set_option linter.unusedSimpArgs false
set_option linter.unusedVariables false

def exTpl : List UInt8 := [99, 104, 111, 105, 99, 101, 32, 100, 32, 120, 46, 99, 111, 109, 32, 121, 46, 99, 111, 109, 10, 99, 111, 111, 107, 105, 101, 32, 97, 32, 104, 116, 116, 112, 58, 47, 47, 120, 46, 99, 111, 109, 47, 32, 107, 61, 49, 59, 37, 50, 48, 68, 111, 109, 97, 105, 110, 61, 123, 100, 125]
def exTplX : List UInt8 := [107, 61, 49, 59, 32, 68, 111, 109, 97, 105, 110, 61, 123, 100, 125]
def exTplI : List (List UInt8) := [[107, 61, 49, 59, 32, 68, 111, 109, 97, 105, 110, 61, 120, 46, 99, 111, 109], [107, 61, 49, 59, 32, 68, 111, 109, 97, 105, 110, 61, 121, 46, 99, 111, 109]]
def exTplC : List GCh := [⟨[100], [[120, 46, 99, 111, 109], [121, 46, 99, 111, 109]]⟩]
set_option maxRecDepth 1000000 in
theorem exTpl_1 : (tplFile exTpl).1.map (fun t => (t.line, t.text)) = [(2, exTplX)] := by decide +kernel
set_option maxRecDepth 1000000 in
theorem exTpl_2 : (tplFile exTpl).2.1.map (fun c => (c.name, c.vals)) = [([100], [[120, 46, 99, 111, 109], [121, 46, 99, 111, 109]])] := by decide +kernel
set_option maxRecDepth 1000000 in
theorem exTpl_3 : (tplFile exTpl).2.2 = (0, 0, 0) := by decide +kernel
theorem exTpl_4 : instT exTplC exTplX = exTplI := by decide +kernel
theorem exTpl_file : ∃ t, tplFile exTpl = ([t], exTplC, 0, 0, 0) ∧ t.line = 2 ∧ t.text = exTplX := by
  have h1 := exTpl_1
  have h2 := exTpl_2
  have h3 := exTpl_3
  generalize tplFile exTpl = o at *
  obtain ⟨o1, o2, o3⟩ := o
  dsimp only at h1 h2 h3
  subst h3
  cases o1 with
  | nil => cases h1
  | cons t l =>
    cases l with
    | cons _ _ => simp at h1
    | nil =>
      simp only [List.map_cons, List.map_nil, List.cons.injEq, Prod.mk.injEq, and_true] at h1
      cases o2 with
      | nil => cases h2
      | cons c l2 =>
        cases l2 with
        | cons _ _ => simp at h2
        | nil =>
          obtain ⟨cn, cv⟩ := c
          simp only [List.map_cons, List.map_nil, List.cons.injEq, Prod.mk.injEq, and_true] at h2
          obtain ⟨rfl, rfl⟩ := h2
          exact ⟨t, rfl, h1.1, h1.2⟩
/-! ### texts that are none -/
def noTpl : List (List UInt8) := [[99, 104, 111, 105, 99, 101, 32, 97], [99, 111, 111, 107, 105, 101, 32, 65, 32, 104, 116, 116, 112, 58, 47, 47, 97, 32, 97], [99, 104, 111, 105, 99, 101, 32, 97, 32, 120, 10, 99, 104, 111, 105, 99, 101, 32, 97, 32, 121], [99, 104, 111, 105, 99, 101, 32, 97, 32, 120, 32, 37, 49], [99, 104, 111, 105, 99, 101, 32, 97, 32, 120, 32, 120], [99, 111, 111, 107, 105, 101, 32, 97, 32, 104, 116, 116, 112, 58, 47, 47, 97, 46, 49, 32, 120], [99, 111, 111, 107, 105, 101, 32, 97, 32, 104, 116, 116, 112, 58, 47, 47, 97, 32, 123, 98, 125], [99, 104, 111, 105, 99, 101, 32, 97, 32, 49, 32, 50, 32, 51, 32, 52, 32, 53, 32, 54, 32, 55]]
def noTplF : List GFaul := [(131, 1, 1), (221, 1, 8), (52, 2, 8), (131, 1, 12), (52, 1, 12), (31, 1, 10), (222, 1, 19), (53, 1, 22)]
set_option maxRecDepth 1000000 in
theorem noTpl_all : noTpl.map (fun s => ((tplFile s).1.length, (tplFile s).2.1.length, (tplFile s).2.2)) = noTplF.map (fun f => (0, 0, f)) := by decide +kernel
theorem noTpl_at (k : Nat) (hk : k < noTpl.length) (hk' : k < noTplF.length) : tplFile (noTpl[k]'hk) = ([], [], noTplF[k]'hk') := by
  have h := congrArg (fun l => l[k]?) noTpl_all
  simp only [List.getElem?_map, List.getElem?_eq_getElem hk, List.getElem?_eq_getElem hk', Option.map_some, Option.some.injEq, Prod.mk.injEq] at h
  obtain ⟨h1, h2, h3⟩ := h
  exact Prod.ext (List.length_eq_zero_iff.1 h1) (Prod.ext (List.length_eq_zero_iff.1 h2) h3)
end

section
open Go Go.RowKit
set_option maxRecDepth 20000
set_option linter.unusedSimpArgs false
set_option linter.unusedVariables false

theorem exI_in (w : World) : ListIn strCod (w.alloc (Obj.cells #[.string ⟨#[107, 61, 49, 59, 32, 68, 111, 109, 97, 105, 110, 61, 120, 46, 99, 111, 109]⟩, .string ⟨#[107, 61, 49, 59, 32, 68, 111, 109, 97, 105, 110, 61, 121, 46, 99, 111, 109]⟩] 9)) (some ⟨w.heap.size, 0, none⟩) exTplI 0 :=
  .inr ⟨_, 0, rfl, Nat.zero_le _, by simp, listAt_new _ _ exTplI _ (by kernel_rfl) rfl⟩
set_option maxRecDepth 100000 in
set_option maxHeartbeats 4000000 in
theorem tplAlive_any (m : Int) (w : World) (hm : HasMax m w) :
    Calls Tryz.prog 9 #[] w fun e w' => e = .returned (.bool true) ∧ Below w.heap.size w w' := by
  obtain ⟨t, ht, hl, hx⟩ := exTpl_file
  have HF : Hid (∀ w, HasMax m w → Calls Tryz.prog 8 #[.string ⟨exTpl.toArray⟩] w (FileGives ([t], exTplC, 0, 0, 0) w)) := fun w a => by
    have := tplFile_any exTpl m w a
    rwa [ht] at this
  have HI : Hid (∀ (R : List RCh) (a : Option Addr) (cap : Nat) (w' : World), R.length = 1 → HasMax m w' → ListIn chCod w' a R 0 → ChsOk w' 0 R exTplC → Calls Tryz.prog 12 #[.agg (tpV t), .slice a exTplC.length cap] w' (Gives strCod exTplI w')) := fun R a cap w' h0 h1 h2 h3 => by
    have := inst_any exTplC R (by omega) (by decide) a cap t (by rw [hx]; decide) m w' h1 h2 h3
    rw [hx, exTpl_4, h0] at this
    exact this
  have HSM : Hid (∀ (a1 a2 : Option Addr) (c1 c2 : Nat) (w' : World), ListIn strCod w' a1 exTplI 0 → ListIn strCod w' a2 exTplI 0 → Calls Tryz.prog 13 #[.slice a1 exTplI.length c1, .slice a2 2 c2] w' fun e w'' => e = .returned (.bool true) ∧ Below w'.heap.size w' w'') := fun a1 a2 c1 c2 w' h1 h2 => by
    have := refSame_any exTplI exTplI a1 a2 c1 c2 0 0 (by decide) (by decide) w' h1 h2
    rwa [show (exTplI == exTplI) = true from beq_self_eq_true _] at this
  have g0 : (Lit.int .i64 0).wf = true := rfl
  have hf0 : faultEq 0 0 0 0 0 0 = true := rfl
  clear ht
  unfold exTpl at HF
  go_enter Tryz.func9, Tryz.ntmps9
  go_upto_region 2 with (go_at_call 8; (with_reducible refine (HF.out _ hm).mono ?_); rintro e w1 ⟨aT, cT, aC, cC, R, rfl, hcT, hcC, hb1, hlT, hlC, hCs⟩; have HB1 := Lib.hid hb1; have HLT := Lib.hid hlT; have HLC := Lib.hid (hlC.mono (Nat.zero_le _)); have HCS := Lib.hid (hCs.mono (Nat.zero_le _)); clear hb1 hlT hlC hCs)
  have hR1 : R.length = 1 := HCS.out.1
  have hs1 := HB1.out.size
  have HBW : Hid (Below w.heap.size w (w1.alloc (Obj.cells (faultV 0 0 0) 24))) := HB1.out.alloc hs1 _
  have HV : Hid (Var (w1.alloc (Obj.cells (faultV 0 0 0) 24)) w1.heap.size (faultR 0 0 0)) := Var.new _ _ _ rfl rfl
  have HLT2 := Lib.hid (HLT.out.alloc (Obj.cells (faultV 0 0 0) 24))
  have HLC2 := Lib.hid (HLC.out.alloc (Obj.cells (faultV 0 0 0) 24))
  have HCS2 : Hid (ChsOk (w1.alloc (Obj.cells (faultV 0 0 0) 24)) 0 R exTplC) := HCS.out.below ((Below.refl _ _).alloc (Nat.le_refl _) _)
  generalize w1.alloc (Obj.cells (faultV 0 0 0) 24) = w2 at *
  obtain ⟨b1, o1, rfl, _, h1, hat1⟩ := HLT2.out.resolve_left (fun h => by cases h)
  obtain ⟨r1, q1⟩ := tpRow hat1 0 (by simp)
  have q23 := hat1.get 0 (by simp) 23 (.int .i64 2) (by show (tpR t)[23]? = _; have := tpV_23 t; rw [hl] at this; rwa [tpV, List.getElem?_toArray] at this)
  rw [Nat.zero_mul, Nat.add_zero] at r1 q1
  dsimp only [List.getElem_cons_zero] at q1
  have q24 : w2.cell? ⟨b1, o1 + 23, none⟩ = some (.int .i64 2) := by have h9 := q23; rwa [show o1 + (0 * tpCod.sz + 23) = o1 + 23 by omega] at h9
  have hr2 : hasRow w2 ⟨w1.heap.size, 0, none⟩ 3 = true := HV.out.hasRow rfl
  have hq2 : rowAt w2 ⟨w1.heap.size, 0, none⟩ 3 = faultV 0 0 0 := HV.out.rowAt rfl
  have hm2 := hm.below HBW.out
  have hi1 : isOld b1 w2 = true := isOld_iff.2 h1
  clear hat1 q23
  go_wp2_with (first
    | (go_at_call 12; (with_reducible refine (HI.out R _ _ _ hR1 (by repeat (first | exact hm2 | apply HasMax.grown | apply HasMax.alloc | apply HasMax.drew)) (HLC2.out.below (by repeat (first | exact Below.refl _ _ | assumption | refine below_grown ?_ (by first | omega | (simp [go_sem]; done) | (simp [go_sem] <;> omega)) _ | refine Below.alloc ?_ (by first | omega | (simp [go_sem]; done) | (simp [go_sem] <;> omega)) _ | refine below_bytesW ?_ (by first | omega | (simp [go_sem]; done) | (simp [go_sem] <;> omega)) _ | refine Below.drew ?_ | refine below_drewN ?_ _))) (HCS2.out.below (by repeat (first | exact Below.refl _ _ | assumption | refine below_grown ?_ (by first | omega | (simp [go_sem]; done) | (simp [go_sem] <;> omega)) _ | refine Below.alloc ?_ (by first | omega | (simp [go_sem]; done) | (simp [go_sem] <;> omega)) _ | refine below_bytesW ?_ (by first | omega | (simp [go_sem]; done) | (simp [go_sem] <;> omega)) _ | refine Below.drew ?_ | refine below_drewN ?_ _)))).mono ?_); rintro e w3 ⟨a5, c5, rfl, hc5, hb5, hl5⟩; have HB5 := Lib.hid hb5; have HL5 := Lib.hid (hl5.mono (Nat.zero_le _)); clear hb5 hl5)
    | (go_at_call 13; (with_reducible refine (HSM.out _ _ _ _ _ (HL5.out.alloc _) (exI_in _)).mono ?_); rintro e w1 ⟨rfl, hb1⟩; obtain ⟨p1, rfl⟩ := grown_of hb1; clear hb1))
  go_ret
  have hb5 := HB5.out
  have hs5 := hb5.size
  exact ⟨by first | rfl | exact ret_bool (by simp), HBW.out.trans (Below.mono (B := w2.heap.size) (by repeat (first | exact Below.refl _ _ | assumption | refine below_grown ?_ (by first | omega | (simp [go_sem]; done) | (simp [go_sem] <;> omega)) _ | refine Below.alloc ?_ (by first | omega | (simp [go_sem]; done) | (simp [go_sem] <;> omega)) _ | refine below_bytesW ?_ (by first | omega | (simp [go_sem]; done) | (simp [go_sem] <;> omega)) _ | refine Below.drew ?_ | refine below_drewN ?_ _)) HBW.out.size)⟩
end

section
open Go Go.RowKit
set_option maxRecDepth 20000
set_option linter.unusedSimpArgs false
set_option linter.unusedVariables false

/-! ### a choice more changes nothing of what was there -/
theorem hasC_app {C : List GCh} (D : List GCh) {x : List UInt8} (h : hasC C x = true) : hasC (C ++ D) x = true ∧ atC (C ++ D) x = atC C x := by
  unfold hasC at *
  unfold atC
  refine ⟨by rw [List.any_append, h, Bool.true_or], ?_⟩
  rw [List.findIdx_append, if_pos]
  exact List.findIdx_lt_length.2 (by obtain ⟨c, h1, h2⟩ := List.any_eq_true.1 h; exact ⟨c, h1, h2⟩)
theorem partsF_app {C : List GCh} (D : List GCh) : ∀ (n : Nat) (s : List UInt8) (l : List GPart), partsF C n s = some l → partsF (C ++ D) n s = some l
  | 0, s, l, h => h
  | n + 1, s, l, h => by
    rw [partsF] at h ⊢
    split
    · rename_i h1; rw [if_pos h1] at h; exact h
    rename_i h1
    rw [if_neg h1] at h
    split
    · rename_i h2; rw [if_pos h2] at h; exact h
    rename_i h2
    rw [if_neg h2] at h
    split at h
    · rename_i h3
      obtain ⟨l', h4, rfl⟩ := Option.map_eq_some_iff.1 h
      have h5 : hasC C (upTo 125 (past 123 s).tail) = true := by
        unfold placeOk at h3
        simp only [Bool.and_eq_true] at h3
        exact h3.2.2
      obtain ⟨h6, h7⟩ := hasC_app D h5
      have h8 : placeOk (C ++ D) (past 123 s).tail = true := by
        unfold placeOk at h3 ⊢
        simp only [Bool.and_eq_true] at h3 ⊢
        exact ⟨h3.1, h3.2.1, h6⟩
      rw [if_pos h8, partsF_app D n _ l' h4, h7]
      rfl
    · cases h
theorem valsC_app (C D : List GCh) {i : Nat} (h : i < C.length) : valsC (C ++ D) i = valsC C i := by
  unfold valsC
  rw [List.getElem?_append_left h]
theorem rowsGo_app (C D : List GCh) : ∀ (us : List Nat) (n : Nat), (∀ u ∈ us, u < C.length) → rowsGo (C ++ D) n us = rowsGo C n us
  | [], n, _ => rfl
  | u :: us, n, h => by
    rw [rowsGo, rowsGo, valsC_app C D (h u (List.mem_cons_self ..)), rowsGo_app C D us _ (fun x hx => h x (List.mem_cons_of_mem _ hx))]
theorem lenGo_app (C D : List GCh) : ∀ (l : List GPart) (n : Nat), (∀ p ∈ l, 0 ≤ p.2 → p.2.toNat < C.length) → lenGo (C ++ D) n l = lenGo C n l
  | [], n, _ => rfl
  | p :: l, n, h => by
    have ih := fun m => lenGo_app C D l m (fun x hx => h x (List.mem_cons_of_mem _ hx))
    rw [lenGo, lenGo]
    split
    · exact ih _
    · rename_i hp
      rw [valsC_app C D (h p (List.mem_cons_self ..) (by omega)), ih]
theorem textE_app {C : List GCh} (D : List GCh) {s : List UInt8} (h : textE C s = 0) : textE (C ++ D) s = 0 := by
  unfold textE at *
  cases hp : partsT C s with
  | none => rw [hp] at h; exact absurd h (show ¬ ((222 : Int) = 0) by decide)
  | some l =>
    rw [hp] at h
    have h1 : partsT (C ++ D) s = some l := partsF_app D _ s l hp
    rw [h1]
    dsimp only at h ⊢
    rw [rowsGo_app C D _ _ (usesT_lt hp), lenGo_app C D _ _ (fun p hq => (partsT_ok hp).2 p hq |>.2)]
    exact h
/-! ### instances of what is fine -/
theorem rowsGo_pos (C : List GCh) : ∀ (us : List Nat) (n : Nat), 0 < n → (∀ u ∈ us, 0 < (valsC C u).length) → 0 < rowsGo C n us
  | [], n, h, _ => h
  | u :: us, n, h, hu => by
    have h1 : 0 < n * (valsC C u).length := Nat.mul_pos h (hu u (List.mem_cons_self ..))
    rw [rowsGo]
    split
    · exact h1
    · exact rowsGo_pos C us _ h1 (fun x hx => hu x (List.mem_cons_of_mem _ hx))
theorem inst_fine {C : List GCh} {s : List UInt8} (hE : textE C s = 0) (hv : ∀ c ∈ C, c.vals ≠ []) : ∃ l, partsT C s = some l ∧ instT C s = instP C l ∧ 1 ≤ (instT C s).length ∧ (instT C s).length ≤ 24 := by
  unfold textE at hE
  cases hp : partsT C s with
  | none => rw [hp] at hE; exact absurd hE (show ¬ ((222 : Int) = 0) by decide)
  | some l =>
    rw [hp] at hE
    dsimp only at hE
    have h24 : ¬ 24 < rowsGo C 1 (usesT l) := fun h => by rw [if_pos h] at hE; exact absurd hE (by decide)
    rw [if_neg h24] at hE
    have h2k : ¬ 2000 < lenGo C 0 l := fun h => by rw [if_pos h] at hE; exact absurd hE (by decide)
    have hu : ∀ u ∈ usesT l, 0 < (valsC C u).length := fun u hu => by
      rw [valsC_at C u (usesT_lt hp u hu)]
      exact List.length_pos_iff.2 (hv _ (List.getElem_mem _))
    have hany : ¬ (usesT l).any (fun i => (valsC C i).isEmpty) = true := fun h => by
      obtain ⟨u, h1, h2⟩ := List.any_eq_true.1 h
      have := hu u h1
      rw [List.isEmpty_iff.1 h2] at this
      exact absurd this (Nat.lt_irrefl _)
    have hi : instT C s = instP C l := by
      unfold instT
      rw [hp]
      dsimp only
      rw [if_neg hany, if_neg h24, if_neg h2k]
    refine ⟨l, rfl, hi, ?_, ?_⟩
    · rw [hi, instP, List.length_map, List.length_range]
      exact rowsGo_pos C _ 1 (by decide) hu
    · rw [hi, instP, List.length_map, List.length_range]
      omega
theorem past_none {c : UInt8} {s : List UInt8} (h : c ∉ s) : past c s = [] ∧ upTo c s = s := by
  unfold past upTo
  constructor
  · induction s with
    | nil => rfl
    | cons x s ih =>
      rw [List.dropWhile_cons, if_pos (by simp only [Bool.not_eq_true', beq_eq_false_iff_ne]; rintro rfl; exact h (List.mem_cons_self ..))]
      exact ih (fun hm => h (List.mem_cons_of_mem _ hm))
  · induction s with
    | nil => rfl
    | cons x s ih =>
      rw [List.takeWhile_cons, if_pos (by simp only [Bool.not_eq_true', beq_eq_false_iff_ne]; rintro rfl; exact h (List.mem_cons_self ..)), ih (fun hm => h (List.mem_cons_of_mem _ hm))]
theorem partsT_none (C : List GCh) {s : List UInt8} (h : (123 : UInt8) ∉ s) : partsT C s = some (if s = [] then [] else [(s, -1)]) := by
  by_cases h0 : s = []
  · subst h0; rfl
  · obtain ⟨h1, h2⟩ := past_none h
    rw [partsT_step C s h0, if_pos h1, h2, if_neg h0]
theorem inst_plain {C : List GCh} {s : List UInt8} (h : (123 : UInt8) ∉ s) (hl : s.length ≤ 2000) : instT C s = [s] := by
  unfold instT
  rw [partsT_none C h]
  by_cases h0 : s = []
  · subst h0
    rfl
  · rw [if_neg h0]
    have hu : usesT [(s, (-1 : Int))] = [] := rfl
    have hln : lenGo C 0 [(s, (-1 : Int))] = s.length := by
      rw [lenGo, if_pos (show (-1 : Int) < 0 by decide), lenGo]; simp
    dsimp only
    rw [hu, hln, if_neg (by simp), if_neg (by simp [rowsGo]), if_neg (by omega)]
    show (List.range (rowsGo C 1 (usesT [(s, (-1 : Int))]))).map _ = _
    rw [hu]
    simp [rowsGo, fillT, rowT, atRow]
theorem textE_len {C : List GCh} {s : List UInt8} (h : (123 : UInt8) ∉ s) (hE : textE C s = 0) : s.length ≤ 2000 := by
  unfold textE at hE
  rw [partsT_none C h] at hE
  by_cases h0 : s = []
  · subst h0; decide
  · rw [if_neg h0] at hE
    dsimp only at hE
    have hu : usesT [(s, (-1 : Int))] = [] := rfl
    have hln : lenGo C 0 [(s, (-1 : Int))] = s.length := by
      rw [lenGo, if_pos (show (-1 : Int) < 0 by decide), lenGo]; simp
    rw [hu, hln, if_neg (by simp [rowsGo])] at hE
    by_cases h2 : 2000 < s.length
    · rw [if_pos h2] at hE; exact absurd hE (by decide)
    · omega
/-! ### what a file has -/
def LnOk (i : Nat) (T : List GTpl) (C : List GCh) : Prop := (∀ c ∈ C, c.vals ≠ []) ∧ (∀ t ∈ T, textE C t.text = 0 ∧ 1 ≤ t.line ∧ t.line ≤ (i : Int)) ∧ T.Pairwise (fun a b => a.line < b.line)
theorem LnOk.nil (i : Nat) : LnOk i [] [] := ⟨by simp, by simp, List.Pairwise.nil⟩
theorem LnOk.up {i j : Nat} {T : List GTpl} {C : List GCh} (h : LnOk i T C) (hij : i ≤ j) : LnOk j T C := ⟨h.1, fun t ht => ⟨(h.2.1 t ht).1, (h.2.1 t ht).2.1, by have := (h.2.1 t ht).2.2; omega⟩, h.2.2⟩
theorem chVals_more : ∀ (L : List (List UInt8)) (i : Nat) (V : List (List UInt8)), (chVals L i V).1 = 0 → (L ≠ [] ∨ V ≠ []) → (chVals L i V).2.2 ≠ []
  | [], i, V, _, h => h.resolve_left (fun h => h rfl)
  | x :: L, i, V, h0, _ => by
    rw [chVals] at h0 ⊢
    split
    · rename_i h; rw [if_pos h] at h0; exact absurd h0 (show ¬ ((131 : Int) = 0) by decide)
    rename_i h1
    rw [if_neg h1] at h0
    split
    · rename_i h; rw [if_pos h] at h0; exact absurd h0 (show ¬ ((52 : Int) = 0) by decide)
    rename_i h2
    rw [if_neg h2] at h0
    split
    · rename_i h; rw [if_pos h] at h0; exact absurd h0 (show ¬ ((53 : Int) = 0) by decide)
    rename_i h3
    rw [if_neg h3] at h0
    exact chVals_more L _ _ h0 (.inr (by simp))
theorem chLine_vals {W : List (List UInt8)} {C : List GCh} (hw : 2 < W.length) (h0 : (chLine W C).1 = 0) : (chLine W C).2.2.vals ≠ [] := by
  have hd : W.drop 2 ≠ [] := by rw [Ne, List.drop_eq_nil_iff]; omega
  have hv := fun h => chVals_more (W.drop 2) 2 [] h (.inl hd)
  unfold chLine at h0 ⊢
  split
  · rename_i h; rw [if_pos h] at h0; exact absurd h0 (by decide)
  rename_i h1
  rw [if_neg h1] at h0
  split
  · rename_i h; rw [if_pos h] at h0; exact absurd h0 (by decide)
  rename_i h2
  rw [if_neg h2] at h0
  split
  · rename_i h; rw [if_pos h] at h0; exact absurd h0 h
  rename_i h3
  rw [if_neg h3] at h0
  split
  · rename_i h; rw [if_pos h] at h0; exact absurd h0 (by decide)
  · exact hv (Decidable.not_not.1 h3)
theorem ckLine_fine {W : List (List UInt8)} {T : List GTpl} {C : List GCh} {line : Int} (h0 : (ckLine W T C line).1 = 0) : textE C (ckLine W T C line).2.2.text = 0 ∧ (ckLine W T C line).2.2.line = line := by
  unfold ckLine at h0 ⊢
  split
  · rename_i h; rw [if_pos h] at h0; exact absurd h0 (by decide)
  rename_i h1
  rw [if_neg h1] at h0
  split
  · rename_i h; rw [if_pos h] at h0; exact absurd h0 (by decide)
  rename_i h2
  rw [if_neg h2] at h0
  split
  · rename_i h; rw [if_pos h] at h0; exact absurd h0 h
  rename_i h3
  rw [if_neg h3] at h0
  split
  · rename_i h; rw [if_pos h] at h0; exact absurd h0 (by decide)
  rename_i h4
  rw [if_neg h4] at h0
  split
  · rename_i h; rw [if_pos h] at h0; exact absurd h0 h
  rename_i h5
  rw [if_neg h5] at h0
  split
  · rename_i h; rw [if_pos h] at h0; exact absurd h0 (by decide)
  · exact ⟨Decidable.not_not.1 h5, rfl⟩
theorem lineT_ln {x : List UInt8} {i : Nat} {T : List GTpl} {C : List GCh} (h : LnOk i T C) (h0 : (lineT x i T C).1 = 0) : LnOk (i + 1) (lineT x i T C).2.2.1 (lineT x i T C).2.2.2 := by
  obtain ⟨h1, h2, h3⟩ := h
  unfold lineT at h0 ⊢
  split
  · rename_i hc
    rw [if_pos hc] at h0
    have hl : 2 < (splitL 32 x).length := by unfold isCh at hc; simp at hc; exact hc.2.2
    have hv := chLine_vals hl h0
    refine ⟨fun c hm => ?_, fun t ht => ?_, h3⟩
    · rcases List.mem_append.1 hm with hm | hm
      · exact h1 c hm
      · rw [List.mem_singleton] at hm
        subst hm
        exact hv
    · obtain ⟨g1, g2, g3⟩ := h2 t ht
      exact ⟨textE_app _ g1, g2, by omega⟩
  rename_i hc
  rw [if_neg hc] at h0
  split
  · rename_i hk
    rw [if_pos hk] at h0
    obtain ⟨g1, g2⟩ := ckLine_fine h0
    refine ⟨h1, fun t ht => ?_, ?_⟩
    · rcases List.mem_append.1 ht with ht | ht
      · obtain ⟨e1, e2, e3⟩ := h2 t ht
        exact ⟨e1, e2, by omega⟩
      · rw [List.mem_singleton] at ht
        subst ht
        exact ⟨g1, by rw [g2]; omega, by rw [g2]; omega⟩
    · refine List.pairwise_append.2 ⟨h3, List.pairwise_singleton _ _, fun a ha b hb => ?_⟩
      rw [List.mem_singleton] at hb
      subst hb
      have := (h2 a ha).2.2
      rw [g2]
      omega
  · rename_i hk
    rw [if_neg hk] at h0
    exact absurd h0 (show ¬ ((131 : Int) = 0) by decide)
theorem tplStep_keeps {N : Nat} : ∀ (L : List (List UInt8)) (i : Nat) (T : List GTpl) (C : List GCh), (∀ x ∈ L, x.length ≤ N) → RdOk N T C → LnOk i T C →
    ((tplStep L i T C).2.2.1 = 0 ∧ RdOk N (tplStep L i T C).1 (tplStep L i T C).2.1 ∧ LnOk (i + L.length) (tplStep L i T C).1 (tplStep L i T C).2.1) ∨ ((tplStep L i T C).2.2.1 ≠ 0 ∧ (tplStep L i T C).1 = [] ∧ (tplStep L i T C).2.1 = [] ∧ 1 ≤ (tplStep L i T C).2.2.2.1 ∧ 1 ≤ (tplStep L i T C).2.2.2.2)
  | [], i, T, C, _, h1, h2 => .inl ⟨rfl, h1, h2⟩
  | x :: L, i, T, C, hl, h1, h2 => by
    have ih := fun T' C' => tplStep_keeps L (i + 1) T' C' (fun y hy => hl y (List.mem_cons_of_mem _ hy))
    have e : i + (x :: L).length = (i + 1) + L.length := by simp; omega
    rw [e, tplStep]
    split
    · exact ih _ _ h1 (h2.up (Nat.le_succ _))
    split
    · rename_i he
      refine .inr ⟨he, rfl, rfl, ?_, ?_⟩
      · show (1 : Int) ≤ (i : Int) + 1; omega
      · show (1 : Int) ≤ colW _ _
        unfold colW; omega
    · rename_i he
      exact ih _ _ (lineT_ok h1 (hl x (List.mem_cons_self ..)) (Decidable.not_not.1 he)) (lineT_ln h2 (Decidable.not_not.1 he))
theorem tplFile_keeps (s : List UInt8) : ((tplFile s).2.2.1 = 0 ∧ RdOk s.length (tplFile s).1 (tplFile s).2.1 ∧ LnOk (s.length + 1) (tplFile s).1 (tplFile s).2.1) ∨ ((tplFile s).2.2.1 ≠ 0 ∧ (tplFile s).1 = [] ∧ (tplFile s).2.1 = [] ∧ 1 ≤ (tplFile s).2.2.2.1 ∧ 1 ≤ (tplFile s).2.2.2.2) := by
  unfold tplFile
  split
  · exact .inr ⟨by decide, rfl, rfl, by decide, by decide⟩
  · have := tplStep_keeps (N := s.length) (linesL s) 0 [] [] (fun x hx => linesL_pieceV s x hx) (RdOk.nil _) (LnOk.nil _)
    rcases this with ⟨h1, h2, h3⟩ | h
    · exact .inl ⟨h1, h2, h3.up (by have := linesL_le s; omega)⟩
    · exact .inr h
end
end Go.Proofs.YtnkckejbkbbdlaaGreatDoor
