/- Merged: PatP, TopoP, PathW, TopoLine, TopoCol, Fault, TopoFileP, BuildS. -/
import Derived.Test.YthklfbakffaioaaDoorPat
import Derived.Test.YthklfbakffaioaaDoorUrlPn
import Derived.Test.YthklfbakffaioaaDoorSameR
import Derived.Test.YthklfbakffaioaaDoorHostRefn
import Derived.Deep.DeepCutAuto
import Derived.Test.YthklfbakffaioaaDoorSplitG
import Derived.Test.YthklfbakffaioaaDoorHost
import Derived.Test.YthklfbakffaioaaDoorVar
import Derived.Test.YthklfbakffaioaaDoorLines
import Derived.Test.YthklfbakffaioaaDoorAgg
namespace Go.Proofs.YthklfbakffaioaaDoor
section
open Go Go.RowKit
set_option maxRecDepth 20000
set_option linter.unusedSimpArgs false
set_option linter.unusedVariables false

def patRight (wi : Bool) (h : GHost) (pl se : Bool) (pa : List UInt8) : Bool := rightB h && ((!wi || h.kind == 1) && ((pl || se) && pathOk pa))
def schemeL (pl se : Bool) : List UInt8 := match pl, se with
  | false, false => []
  | true, false => [104, 116, 116, 112]
  | false, true => [104, 116, 116, 112, 115]
  | true, true => [98, 111, 116, 104]
def verbL : List UInt8 := [104, 111, 115, 116]
def nameL (wi : Bool) (h : GHost) : List UInt8 := if wi = true then [42, 46] ++ textH h else textH h
def patLine (wi : Bool) (h : GHost) (pl se : Bool) (pa : List UInt8) : List UInt8 := verbL ++ 32 :: (nameL wi h ++ 32 :: (schemeL pl se ++ 32 :: pa))
def patText (wi : Bool) (h : GHost) (pl se : Bool) (pa : List UInt8) : List UInt8 := if patRight wi h pl se pa = true then patLine wi h pl se pa else []
theorem patLine_join (wi : Bool) (h : GHost) (pl se : Bool) (pa : List UInt8) : joinL 32 [verbL, nameL wi h, schemeL pl se, pa] = patLine wi h pl se pa := by
  unfold patLine
  simp [joinL]
end

section
open Go Go.RowKit
set_option maxRecDepth 20000
set_option linter.unusedSimpArgs false
set_option linter.unusedVariables false

abbrev GPt := Bool × GHost × Bool × Bool × List UInt8
def ptV (p : GPt) : Array Value := patV p.1 p.2.1 p.2.2.1 p.2.2.2.1 p.2.2.2.2
def zeroPt : GPt := (false, zeroH, false, false, [])
def httpW : List UInt8 := [104, 116, 116, 112]
def httpsW : List UInt8 := [104, 116, 116, 112, 115]
def bothW : List UInt8 := [98, 111, 116, 104]
/-- The number of a scheme's word; -1: it is none. -/
def schemeN (x : List UInt8) : Int := if x = [] then 0 else if x = httpW then 1 else if x = httpsW then 2 else if x = bothW then 3 else -1
def plainN (x : List UInt8) : Bool := x == httpW || x == bothW
def secureN (x : List UInt8) : Bool := x == httpsW || x == bothW
/-- The pattern, the error, the word at which it is. -/
def topoLine (s : List UInt8) : GPt × Int × Int :=
  match splitL 32 s with
  | [x0, x1, x2, x3] =>
    if x0 ≠ verbL ∨ x1 = [] ∨ x2 = [] ∨ x3 = [] then (zeroPt, 131, 0)
    else if parseOk (Lib.trimPrefix x1 [42, 46]) = false ∨ (Lib.hasPrefix x1 [42, 46] = true ∧ (parseH (Lib.trimPrefix x1 [42, 46])).kind ≠ 1) then (zeroPt, 31, 1)
    else if schemeN x2 < 1 then (zeroPt, 211, 2)
    else if pathOk x3 = false then (zeroPt, 43, 3)
    else ((Lib.hasPrefix x1 [42, 46], parseH (Lib.trimPrefix x1 [42, 46]), plainN x2, secureN x2, x3), 0, 0)
  | _ => (zeroPt, 131, 0)
theorem schemeN_cases (x : List UInt8) : (x = [] ∧ schemeN x = 0) ∨ (x = httpW ∧ schemeN x = 1) ∨ (x = httpsW ∧ schemeN x = 2) ∨ (x = bothW ∧ schemeN x = 3) ∨ (x ≠ [] ∧ x ≠ httpW ∧ x ≠ httpsW ∧ x ≠ bothW ∧ schemeN x = -1) := by
  by_cases h0 : x = []
  · exact .inl ⟨h0, by unfold schemeN; rw [if_pos h0]⟩
  · by_cases h1 : x = httpW
    · exact .inr (.inl ⟨h1, by unfold schemeN; rw [if_neg h0, if_pos h1]⟩)
    · by_cases h2 : x = httpsW
      · exact .inr (.inr (.inl ⟨h2, by unfold schemeN; rw [if_neg h0, if_neg h1, if_pos h2]⟩))
      · by_cases h3 : x = bothW
        · exact .inr (.inr (.inr (.inl ⟨h3, by unfold schemeN; rw [if_neg h0, if_neg h1, if_neg h2, if_pos h3]⟩)))
        · exact .inr (.inr (.inr (.inr ⟨h0, h1, h2, h3, by unfold schemeN; rw [if_neg h0, if_neg h1, if_neg h2, if_neg h3]⟩)))
/-- The ways through a line. -/
theorem topo_ways (s : List UInt8) :
    (wordsOk s = false ∧ topoLine s = (zeroPt, 131, 0)) ∨
    (wordsOk s = true ∧ (splitL 32 s).length ≠ 4 ∧ topoLine s = (zeroPt, 131, 0)) ∨
    (wordsOk s = true ∧ ∃ x0 x1 x2 x3, splitL 32 s = [x0, x1, x2, x3] ∧ x1 ≠ [] ∧ x2 ≠ [] ∧ x3 ≠ [] ∧
      ((x0 ≠ verbL ∧ topoLine s = (zeroPt, 131, 0)) ∨
       (x0 = verbL ∧ parseOk (Lib.trimPrefix x1 [42, 46]) = false ∧ topoLine s = (zeroPt, 31, 1)) ∨
       (x0 = verbL ∧ parseOk (Lib.trimPrefix x1 [42, 46]) = true ∧ Lib.hasPrefix x1 [42, 46] = true ∧ (parseH (Lib.trimPrefix x1 [42, 46])).kind ≠ 1 ∧ topoLine s = (zeroPt, 31, 1)) ∨
       (x0 = verbL ∧ parseOk (Lib.trimPrefix x1 [42, 46]) = true ∧ (Lib.hasPrefix x1 [42, 46] = true → (parseH (Lib.trimPrefix x1 [42, 46])).kind = 1) ∧
         ((schemeN x2 < 1 ∧ topoLine s = (zeroPt, 211, 2)) ∨
          (¬ schemeN x2 < 1 ∧ pathOk x3 = false ∧ topoLine s = (zeroPt, 43, 3)) ∨
          (¬ schemeN x2 < 1 ∧ pathOk x3 = true ∧ topoLine s = ((Lib.hasPrefix x1 [42, 46], parseH (Lib.trimPrefix x1 [42, 46]), plainN x2, secureN x2, x3), 0, 0)))))) := by
  have hw : wordsOk s = !(splitL 32 s).any (·.isEmpty) := rfl
  rw [hw]
  unfold topoLine
  rcases hL : splitL 32 s with _ | ⟨x0, _ | ⟨x1, _ | ⟨x2, _ | ⟨x3, _ | ⟨x4, M⟩⟩⟩⟩⟩
  · exact .inr (.inl ⟨rfl, by simp, rfl⟩)
  · cases h : (!([x0] : List (List UInt8)).any (·.isEmpty))
    · exact .inl ⟨rfl, rfl⟩
    · exact .inr (.inl ⟨rfl, by simp, rfl⟩)
  · cases h : (!([x0, x1] : List (List UInt8)).any (·.isEmpty))
    · exact .inl ⟨rfl, rfl⟩
    · exact .inr (.inl ⟨rfl, by simp, rfl⟩)
  · cases h : (!([x0, x1, x2] : List (List UInt8)).any (·.isEmpty))
    · exact .inl ⟨rfl, rfl⟩
    · exact .inr (.inl ⟨rfl, by simp, rfl⟩)
  · dsimp only
    cases h : (!([x0, x1, x2, x3] : List (List UInt8)).any (·.isEmpty))
    · refine .inl ⟨rfl, ?_⟩
      simp at h
      rw [if_pos]
      by_cases hx : x0 = verbL
      · right
        by_cases a1 : x1 = []
        · exact .inl a1
        · by_cases a2 : x2 = []
          · exact .inr (.inl a2)
          · exact .inr (.inr (h (by rw [hx]; decide) a1 a2))
      · exact .inl hx
    · refine .inr (.inr ⟨rfl, x0, x1, x2, x3, rfl, ?_⟩)
      simp at h
      obtain ⟨h0, h1, h2, h3⟩ := h
      refine ⟨h1, h2, h3, ?_⟩
      by_cases hx : x0 = verbL
      · rw [if_neg (by simp [hx, h1, h2, h3])]
        generalize Lib.trimPrefix x1 [42, 46] = nm
        generalize Lib.hasPrefix x1 [42, 46] = so
        cases ho : parseOk nm
        · exact .inr (.inl ⟨hx, rfl, by rw [if_pos (.inl rfl)]⟩)
        · by_cases hk : so = true ∧ (parseH nm).kind ≠ 1
          · exact .inr (.inr (.inl ⟨hx, rfl, hk.1, hk.2, by rw [if_pos (.inr hk)]⟩))
          · rw [if_neg (by simp only [not_or]; exact ⟨by decide, hk⟩)]
            refine .inr (.inr (.inr ⟨hx, rfl, (fun h => Decidable.byContradiction fun h' => hk ⟨h, h'⟩), ?_⟩))
            by_cases hs : schemeN x2 < 1
            · exact .inl ⟨hs, by rw [if_pos hs]⟩
            · cases hp : pathOk x3
              · exact .inr (.inl ⟨hs, rfl, by rw [if_neg hs, if_pos rfl]⟩)
              · exact .inr (.inr ⟨hs, rfl, by rw [if_neg hs, if_neg (by decide)]⟩)
      · exact .inl ⟨hx, by rw [if_pos (.inl hx)]⟩
  · cases h : (!(x0 :: x1 :: x2 :: x3 :: x4 :: M : List (List UInt8)).any (·.isEmpty))
    · exact .inl ⟨rfl, rfl⟩
    · exact .inr (.inl ⟨rfl, by simp, rfl⟩)
end

section
open Go Go.RowKit
set_option maxRecDepth 20000
set_option linter.unusedSimpArgs false
set_option linter.unusedVariables false

theorem pathOk_bad {s : List UInt8} (k : Nat) (h : k < s.length) (hc : pathC (s[k]'h) = false) : pathOk s = false := by
  have : s.all pathC = false := List.all_eq_false.2 ⟨_, List.getElem_mem h, by rw [hc]; decide⟩
  unfold pathOk
  rw [this]; simp
theorem pathOk_first {s : List UInt8} (h : 0 < s.length) (hc : s[0]'h ≠ 47) : pathOk s = false := by
  have : (s.headD 0 == 47) = false := by
    cases s with
    | nil => cases h
    | cons c t => rw [List.headD_cons, beq_eq_false_iff_ne]; exact hc
  unfold pathOk
  rw [this]; simp
theorem pathOk_long {s : List UInt8} (h : 2048 < s.length) : pathOk s = false := by
  unfold pathOk
  rw [decide_eq_false (by omega : ¬ s.length ≤ 2048)]; simp
theorem pathOk_good {s : List UInt8} (h : 0 < s.length) (hc : s[0]'h = 47) (hl : s.length ≤ 2048) (ha : s.all pathC = true) : pathOk s = true := by
  have : (s.headD 0 == 47) = true := by
    cases s with
    | nil => cases h
    | cons c t => rw [List.headD_cons, beq_iff_eq]; exact hc
  unfold pathOk
  rw [this, ha, decide_eq_true hl, decide_eq_true (by omega : 1 ≤ s.length)]; rfl
theorem all_take_path (l : List UInt8) (k : Nat) (h : k < l.length) : (l.take (k + 1)).all pathC = ((l.take k).all pathC && pathC (l[k]'h)) := by
  rw [List.take_succ_eq_append_getElem h, List.all_append]; simp
set_option maxHeartbeats 1000000 in
theorem urlPath_any (s : List UInt8) (hs : s.length ≤ maxLen) (w : World) :
    Calls Tryd.prog 25 #[.string ⟨s.toArray⟩] w fun e w' => e = .returned (.bool (pathOk s)) ∧ Below w.heap.size w w' := by
  unfold maxLen at hs
  rcases Nat.eq_zero_or_pos s.length with h0 | h0
  · obtain rfl := List.length_eq_zero_iff.1 h0
    go_enter Tryd.func25, Tryd.ntmps25
    go_wp2
    go_ret
    exact ⟨rfl, (by repeat (first | exact Below.refl _ _ | assumption | refine below_grown ?_ (by first | omega | (simp [go_sem]; done) | (simp [go_sem] <;> omega)) _ | refine Below.alloc ?_ (by first | omega | (simp [go_sem]; done) | (simp [go_sem] <;> omega)) _ | refine below_bytesW ?_ (by first | omega | (simp [go_sem]; done) | (simp [go_sem] <;> omega)) _ | refine Below.drew ?_ | refine below_drewN ?_ _))⟩
  · have hem : s.isEmpty = false := by rw [List.isEmpty_eq_false_iff]; exact List.length_pos_iff.1 h0
    have hem2 : (s == []) = false := by rw [beq_eq_false_iff_ne]; exact List.length_pos_iff.1 h0
    by_cases h1 : (2048 : Int) < s.length
    · rw [pathOk_long (by omega)]
      go_enter Tryd.func25, Tryd.ntmps25
      go_wp2
      go_ret
      exact ⟨rfl, (by repeat (first | exact Below.refl _ _ | assumption | refine below_grown ?_ (by first | omega | (simp [go_sem]; done) | (simp [go_sem] <;> omega)) _ | refine Below.alloc ?_ (by first | omega | (simp [go_sem]; done) | (simp [go_sem] <;> omega)) _ | refine below_bytesW ?_ (by first | omega | (simp [go_sem]; done) | (simp [go_sem] <;> omega)) _ | refine Below.drew ?_ | refine below_drewN ?_ _))⟩
    · by_cases h2 : s[0]'h0 = 47
      · have h2' : ∀ h, (((s[0]'h).toNat : Int) != 47) = false := fun h => by rw [h2]; rfl
        have HBAD : Hid (∀ k (h : k < s.length), pathC (s[k]'h) = false → pathOk s = false) := fun k h hc => pathOk_bad k h hc
        have HALL : Hid ((s.take s.length).all pathC = true → pathOk s = true) := fun h => pathOk_good h0 h2 (by omega) (by rwa [List.take_length] at h)
        generalize pathOk s = ok at *
        clear h2
        go_enter Tryd.func25, Tryd.ntmps25
        go_wp2
        go_loopw [20, 4] (fun i _ wr => ∃ k : Nat, k ≤ s.length ∧ i = .int .i64 k ∧ Below (bytesW w s).heap.size (bytesW w s) wr ∧ Hid ((s.take k).all pathC = true)) (fun i _ _ => s.length - (intOf i).toNat)
        case atStart => exact ⟨0, Nat.zero_le _, rfl, Below.refl _ _, rfl⟩
        case round =>
          obtain ⟨k, hk, rfl, hb, hinv⟩ := hrel
          have HB := Lib.hid (Below.trans (below_bytesW (Below.refl w.heap.size w) (Nat.le_refl _) s) (hb.mono (by simp [go_sem])))
          by_cases hlt : k < s.length
          · have hcell := bytesW_cell_after hb (b := w.heap.size) rfl k hlt
            have HS := Lib.hid (all_take_path s k hlt)
            have HBK := Lib.hid (HBAD.out k hlt)
            generalize s[k]'hlt = c at *
            rcases pathC_cases c with ⟨c1, hc⟩ | ⟨c1, hc⟩ | ⟨c1, c2, c3, c4, hc⟩ | ⟨c1, c2, c3, c4, hc⟩ | ⟨c1, c2, c3, c4, hc⟩
            · obtain rfl := HBK.out hc
              go_wp2
              go_ret
              exact ⟨rfl, HB.out⟩
            · obtain rfl := HBK.out hc
              have c1' : ¬ (c.toNat : Int) < 33 := by omega
              go_wp2
              go_ret
              exact ⟨rfl, HB.out⟩
            · obtain rfl := HBK.out hc
              have c1' : ¬ (c.toNat : Int) < 33 := by omega
              have c2' : ¬ (126 : Int) < (c.toNat : Int) := by omega
              go_wp2
              go_ret
              exact ⟨rfl, HB.out⟩
            · obtain rfl := HBK.out hc
              have c1' : ¬ (c.toNat : Int) < 33 := by omega
              have c2' : ¬ (126 : Int) < (c.toNat : Int) := by omega
              go_wp2
              go_ret
              exact ⟨rfl, HB.out⟩
            · have c1' : ¬ (c.toNat : Int) < 33 := by omega
              have c2' : ¬ (126 : Int) < (c.toNat : Int) := by omega
              go_wp2
              go_roundw
              case rel => exact ⟨k + 1, by omega, by go_num, hb, show _ = true by rw [HS.out, hinv.out, hc]; rfl⟩
              case measure => simp [intOf]; omega
          · obtain rfl : k = s.length := by omega
            obtain rfl := HALL.out hinv.out
            clear hinv HALL
            go_wp2
            go_ret
            exact ⟨rfl, HB.out⟩
      · rw [pathOk_first h0 h2]
        have h2' : ∀ h, (((s[0]'h).toNat : Int) != 47) = true := fun h => by rw [u8_lit_ne _ 47 47 rfl]; simpa using h2
        clear h2
        go_enter Tryd.func25, Tryd.ntmps25
        go_wp2
        go_ret
        exact ⟨rfl, (by repeat (first | exact Below.refl _ _ | assumption | refine below_grown ?_ (by first | omega | (simp [go_sem]; done) | (simp [go_sem] <;> omega)) _ | refine Below.alloc ?_ (by first | omega | (simp [go_sem]; done) | (simp [go_sem] <;> omega)) _ | refine below_bytesW ?_ (by first | omega | (simp [go_sem]; done) | (simp [go_sem] <;> omega)) _ | refine Below.drew ?_ | refine below_drewN ?_ _))⟩
theorem pathOk_end {s : List UInt8} (ha : s.all pathC = true) : pathOk s = (decide ((1 : Int) ≤ s.length) && (decide ((s.length : Int) ≤ 2048) && (s.headD 0 == 47))) := by
  unfold pathOk
  rw [ha, Bool.and_true]
  congr 1
  · rw [decide_eq_decide]; omega
  · congr 1
    rw [decide_eq_decide]; omega
set_option maxHeartbeats 1000000 in
theorem refUPath_any (s : List UInt8) (hs : s.length ≤ maxLen) (w : World) :
    Calls Tryd.prog 30 #[.string ⟨s.toArray⟩] w fun e w' => e = .returned (.bool (pathOk s)) ∧ w = w' := by
  unfold maxLen at hs
  have HBAD : Hid (∀ k (h : k < s.length), pathC (s[k]'h) = false → pathOk s = false) := fun k h hc => pathOk_bad k h hc
  have HALL : Hid ((s.take s.length).all pathC = true → pathOk s = (decide ((1 : Int) ≤ s.length) && (decide ((s.length : Int) ≤ 2048) && (s.headD 0 == 47)))) := fun h => pathOk_end (by rwa [List.take_length] at h)
  generalize pathOk s = ok at *
  go_enter Tryd.func30, Tryd.ntmps30
  go_wp2
  go_loop [3] (fun i => ∃ k : Nat, k ≤ s.length ∧ i = .int .i64 k ∧ Hid ((s.take k).all pathC = true)) (fun i => s.length - (intOf i).toNat)
  case atStart => exact ⟨0, Nat.zero_le _, rfl, rfl⟩
  case round =>
    obtain ⟨k, hk, rfl, hinv⟩ := hrel
    by_cases hlt : k < s.length
    · have HS := Lib.hid (all_take_path s k hlt)
      have HBK := Lib.hid (HBAD.out k hlt)
      obtain ⟨c, hcc⟩ : ∃ c, ∀ h, s[k]'h = c := ⟨s[k]'hlt, fun _ => rfl⟩
      rw [hcc] at HS HBK
      rcases pathC_cases c with ⟨c1, hc⟩ | ⟨c1, hc⟩ | ⟨c1, c2, c3, c4, hc⟩ | ⟨c1, c2, c3, c4, hc⟩ | ⟨c1, c2, c3, c4, hc⟩
      · obtain rfl := HBK.out hc
        go_wp2
        go_ret
        exact ⟨rfl, rfl⟩
      · obtain rfl := HBK.out hc
        have c1' : ¬ (c.toNat : Int) < 33 := by omega
        go_wp2
        go_ret
        exact ⟨rfl, rfl⟩
      · obtain rfl := HBK.out hc
        have c1' : ¬ (c.toNat : Int) < 33 := by omega
        have c2' : ¬ (126 : Int) < (c.toNat : Int) := by omega
        go_wp2
        go_ret
        exact ⟨rfl, rfl⟩
      · obtain rfl := HBK.out hc
        have c1' : ¬ (c.toNat : Int) < 33 := by omega
        have c2' : ¬ (126 : Int) < (c.toNat : Int) := by omega
        go_wp2
        go_ret
        exact ⟨rfl, rfl⟩
      · have c1' : ¬ (c.toNat : Int) < 33 := by omega
        have c2' : ¬ (126 : Int) < (c.toNat : Int) := by omega
        go_wp2
        go_round
        case rel => exact ⟨k + 1, by omega, by go_num, show _ = true by rw [HS.out, hinv.out, hc]; rfl⟩
        case measure => simp [intOf]; omega
    · obtain rfl : k = s.length := by omega
      obtain rfl := HALL.out hinv.out
      clear HALL hinv HBAD
      by_cases h1 : (1 : Int) ≤ s.length
      · have h1n : 0 < s.length := by omega
        have hh : ∀ h, (((s[0]'h).toNat : Int) == 47) = (s.headD 0 == 47) := fun h => by
          rw [u8_lit _ 47 47 rfl]
          cases s with
          | nil => cases h
          | cons c t => rfl
        generalize hb : (s.headD 0 == 47) = b at *
        have HBQ := Lib.hid hb
        clear hb
        by_cases h2 : (s.length : Int) ≤ 2048
        · go_wp2
          go_ret
          refine ⟨?_, rfl⟩
          apply ret_bool
          rw [← HBQ.out]
          simp
        · go_wp2
          go_ret
          refine ⟨?_, rfl⟩
          first | rfl | (apply ret_bool; simp; intros; omega)
      · go_wp2
        go_ret
        refine ⟨?_, rfl⟩
        first | rfl | (apply ret_bool; simp; intros; omega)
end

section
open Go Go.RowKit
set_option maxRecDepth 20000
set_option linter.unusedSimpArgs false
set_option linter.unusedVariables false

theorem ret_cell_pat {P : Program} {fn : Func} {p u x : Tmp} {ty : TypeId} {R : Ending → World → Prop} {a : Act} {w : World} (g : Nat) (cs : Array Value) (v v2 : Value) (h : fn.results = #[.cell p ty, .tmp u, .tmp x]) (hp : a.tmps.getD p undef = .pointer (some ⟨g, 0, none⟩)) (hv : a.tmps.getD u undef = v) (hx : a.tmps.getD x undef = v2) (hagg : isAggT P ty = true)
    (hr : hasRow w ⟨g, 0, none⟩ (P.cellsOf ty) = true) (hc : rowAt w ⟨g, 0, none⟩ (P.cellsOf ty) = cs) (hd : a.defers = []) (hR : R (.returned (.tuple #[.agg cs, v, v2])) w) : bodyPost P fn R .ret a w := by
  refine bodyPost_ret (v := .tuple #[.agg cs, v, v2]) ?_ hd hR
  have hp' : a.tmps[p]?.getD undef = .pointer (some ⟨g, 0, none⟩) := by simpa using hp
  have hv' : a.tmps[u]?.getD undef = v := by simpa using hv
  have hx' : a.tmps[x]?.getD undef = v2 := by simpa using hx
  have := run_loadVar_agg (P := P) hagg ⟨g, 0, none⟩ w hr
  rw [hc] at this
  simp [results, h, hp', hv', hx', asAddr, this]
def schemesL : List (List UInt8) := [[], httpW, httpsW, bothW]
theorem schemes_any (w : World) : Calls Tryd.prog 24 #[] w (Gives strCod schemesL w) := by
  go_enter Tryd.func24, Tryd.ntmps24
  go_wp2
  go_ret
  exact ⟨some ⟨w.heap.size, 0, none⟩, 4, rfl, Nat.le_refl _, (by repeat (first | exact Below.refl _ _ | assumption | refine below_grown ?_ (by first | omega | (simp [go_sem]; done) | (simp [go_sem] <;> omega)) _ | refine Below.alloc ?_ (by first | omega | (simp [go_sem]; done) | (simp [go_sem] <;> omega)) _ | refine below_bytesW ?_ (by first | omega | (simp [go_sem]; done) | (simp [go_sem] <;> omega)) _ | refine Below.drew ?_ | refine below_drewN ?_ _)), .inr ⟨w.heap.size, 0, rfl, Nat.le_refl _, by simp, listAt_new _ _ schemesL _ rfl rfl⟩⟩
theorem idx_scheme (x : List UInt8) : Lib.idxOfS ((schemesL.map fun l => ByteArray.mk l.toArray).take 4) ⟨x.toArray⟩ = schemeN x := by
  have hba : ∀ a b : List UInt8, ((ByteArray.mk a.toArray) = ⟨b.toArray⟩) ↔ a = b := fun a b => by
    constructor
    · intro h
      have := congrArg (fun z => z.data.toList) h
      simpa using this
    · rintro rfl; rfl
  rcases schemeN_cases x with ⟨rfl, e⟩ | ⟨rfl, e⟩ | ⟨rfl, e⟩ | ⟨rfl, e⟩ | ⟨h0, h1, h2, h3, e⟩
  · rw [e]; rfl
  · rw [e]; rfl
  · rw [e]; rfl
  · rw [e]; rfl
  · rw [e]
    have g0 : ¬ (ByteArray.mk ([] : List UInt8).toArray) = ⟨x.toArray⟩ := fun h => h0 ((hba _ _).1 h).symm
    have g1 : ¬ (ByteArray.mk httpW.toArray) = ⟨x.toArray⟩ := fun h => h1 ((hba _ _).1 h).symm
    have g2 : ¬ (ByteArray.mk httpsW.toArray) = ⟨x.toArray⟩ := fun h => h2 ((hba _ _).1 h).symm
    have g3 : ¬ (ByteArray.mk bothW.toArray) = ⟨x.toArray⟩ := fun h => h3 ((hba _ _).1 h).symm
    simp only [schemesL, List.map_cons, List.map_nil, List.take_succ_cons, List.take_zero, List.take_nil, Lib.idxOfS, Lib.idxFromS, if_neg g0, if_neg g1, if_neg g2, if_neg g3]
theorem index_scheme (a : Option Addr) (c lo : Nat) (x : List UInt8) (w : World) (h : ListIn strCod w a schemesL lo) :
    Calls Tryd.prog 23 #[.slice a 4 c, .string ⟨x.toArray⟩] w fun e w' => e = .returned (.int .i64 (schemeN x)) ∧ w = w' := by
  obtain ⟨b, o, rfl, _, _, hat⟩ := h.resolve_left (by decide)
  refine (Tryd.slices_Index_string b o 4 c (schemesL.map fun l => ByteArray.mk l.toArray) ⟨x.toArray⟩ w (by decide) (by decide) (fun j hj => ?_)).mono fun e w' ⟨h1, h2⟩ => ⟨by rw [h1, idx_scheme], h2.symm⟩
  have hj4 : j < schemesL.length := by simpa using hj
  rw [strAt hat j hj4]
  simp [List.getD_eq_getElem?_getD, hj4]
set_option maxRecDepth 100000 in
set_option maxHeartbeats 6000000 in
theorem topoLine_any (s : List UInt8) (hs : s.length ≤ 1000000000) (m : Int) (w : World) (hm : HasMax m w) :
    Calls Tryd.prog 11 #[.string ⟨s.toArray⟩] w fun e w' => e = .returned (.tuple #[.agg (ptV (topoLine s).1), .int .i64 (topoLine s).2.1, .int .i64 (topoLine s).2.2]) ∧ Below w.heap.size w w' := by
  have HWD : Hid (∀ w, HasMax m w → Calls Tryd.prog 20 #[.string ⟨s.toArray⟩] w (Gives2 strCod (wordsL s) (wordsOk s) w)) := fun w h => words_gives s (by omega) m w h
  have hv2 : True := trivial
  have hi2 : True := trivial
  rcases topo_ways s with ⟨h1, hO⟩ | ⟨h1, h2, hO⟩ | ⟨h1, x0, x1, x2, x3, hL, n1, n2, n3, hW⟩
  · have e : wordsL s = [] := by unfold wordsL; rw [if_neg (by rw [h1]; decide)]
    rw [e, h1] at HWD
    have HO := Lib.hid hO
    clear hO h1 e
    generalize topoLine s = out at *
    go_enter Tryd.func11, Tryd.ntmps11
    go_wp2_with (go_at_call 20; (with_reducible refine (HWD.out _ ?_).mono ?_); (exact (by repeat (first | exact hm | apply HasMax.grown | apply HasMax.alloc | apply HasMax.drew))); intro e w1 hg; obtain ⟨a1, c1, rfl, hc1, hb1, hl1⟩ := hg; obtain ⟨p1, rfl⟩ := grown_of hb1; clear hb1)
    exact ret_cell_pat w.heap.size (patV false zeroH false false []) (.int .i64 131) (.int .i64 0) rfl rfl rfl rfl agg_pat (by simp [go_sem, hv2, hi2]) (by simp [go_sem, hv2, hi2]) rfl ⟨by rw [HO.out]; rfl, below_setRow (by repeat (first | exact Below.refl _ _ | assumption | refine below_grown ?_ (by first | omega | (simp [go_sem]; done) | (simp [go_sem] <;> omega)) _ | refine Below.alloc ?_ (by first | omega | (simp [go_sem]; done) | (simp [go_sem] <;> omega)) _ | refine below_bytesW ?_ (by first | omega | (simp [go_sem]; done) | (simp [go_sem] <;> omega)) _ | refine Below.drew ?_ | refine below_drewN ?_ _)) (Nat.le_refl _) _⟩
  · have e : wordsL s = splitL 32 s := by unfold wordsL; rw [if_pos h1]
    rw [e, h1] at HWD
    have HO := Lib.hid hO
    clear hO h1 e
    generalize topoLine s = out at *
    generalize splitL 32 s = L at *
    have h4 : ((L.length : Int) != 4) = true := by rw [bne_iff_ne]; omega
    clear h2
    go_enter Tryd.func11, Tryd.ntmps11
    go_wp2_with (go_at_call 20; (with_reducible refine (HWD.out _ ?_).mono ?_); (exact (by repeat (first | exact hm | apply HasMax.grown | apply HasMax.alloc | apply HasMax.drew))); intro e w1 hg; obtain ⟨a1, c1, rfl, hc1, hb1, hl1⟩ := hg; obtain ⟨p1, rfl⟩ := grown_of hb1; clear hb1)
    exact ret_cell_pat w.heap.size (patV false zeroH false false []) (.int .i64 131) (.int .i64 0) rfl rfl rfl rfl agg_pat (by simp [go_sem, hv2, hi2]) (by simp [go_sem, hv2, hi2]) rfl ⟨by rw [HO.out]; rfl, below_setRow (by repeat (first | exact Below.refl _ _ | assumption | refine below_grown ?_ (by first | omega | (simp [go_sem]; done) | (simp [go_sem] <;> omega)) _ | refine Below.alloc ?_ (by first | omega | (simp [go_sem]; done) | (simp [go_sem] <;> omega)) _ | refine below_bytesW ?_ (by first | omega | (simp [go_sem]; done) | (simp [go_sem] <;> omega)) _ | refine Below.drew ?_ | refine below_drewN ?_ _)) (Nat.le_refl _) _⟩
  · have e : wordsL s = [x0, x1, x2, x3] := by unfold wordsL; rw [if_pos h1, hL]
    rw [e, h1] at HWD
    have hpl : ∀ p ∈ splitL 32 s, p.length ≤ s.length := splitL_piece_le 32 s
    rw [hL] at hpl
    have l1 : x1.length ≤ 1000000000 := Nat.le_trans (hpl x1 (by simp)) hs
    have l3 : x3.length ≤ 1000000000 := Nat.le_trans (hpl x3 (by simp)) hs
    clear hL e h1 hpl n1 n2 n3
    generalize topoLine s = out at *
    have HCP : Hid (∀ w, Calls Tryd.prog 21 #[.string ⟨x1.toArray⟩, .string ⟨[42, 46].toArray⟩] w fun e w' => e = .returned (.tuple #[.string ⟨(Lib.trimPrefix x1 [42, 46]).toArray⟩, .bool (Lib.hasPrefix x1 [42, 46])]) ∧ w = w') := fun w => cutPre_any x1 [42, 46] w
    have ltp : (Lib.trimPrefix x1 [42, 46]).length ≤ x1.length := by
      unfold Lib.trimPrefix
      split
      · simp
      · exact Nat.le_refl _
    generalize Lib.trimPrefix x1 [42, 46] = nm at *
    generalize Lib.hasPrefix x1 [42, 46] = so at *
    have HPA : Hid (∀ w, HasMax m w → Calls Tryd.prog 22 #[.string ⟨nm.toArray⟩] w fun e w' => e = .returned (.tuple #[.agg (hostC (parseH nm)), .int .i64 (parseE nm)]) ∧ Below w.heap.size w w') := fun w h => parse_any nm (by omega) m w h
    have hE : (parseOk nm = true ∧ parseE nm = 0) ∨ (parseOk nm = false ∧ parseE nm = 31) := by
      unfold parseE
      cases parseOk nm
      · exact .inr ⟨rfl, rfl⟩
      · exact .inl ⟨rfl, rfl⟩
    generalize parseH nm = H at *
    generalize parseE nm = eH at *
    generalize parseOk nm = ok at *
    have HPK : Hid (∀ w, Calls Tryd.prog 25 #[.string ⟨x3.toArray⟩] w fun e w' => e = .returned (.bool (pathOk x3)) ∧ Below w.heap.size w w') := fun w => urlPath_any x3 (by unfold maxLen; omega) w
    generalize pathOk x3 = pk at *
    have HW := Lib.hid hW
    clear hW
    go_enter Tryd.func11, Tryd.ntmps11
    go_upto_region 2 with (go_at_call 20; (with_reducible refine (HWD.out _ ?_).mono ?_); (exact (by repeat (first | exact hm | apply HasMax.grown | apply HasMax.alloc | apply HasMax.drew))); intro e w1 hg; obtain ⟨a1, c1, rfl, hc1, hb1, hl1⟩ := hg; have HB1 := Lib.hid hb1; have HL1 := Lib.hid hl1; clear hb1 hl1)
    have hs1 := HB1.out.size
    simp at hs1
    obtain ⟨b1, o1, rfl, hlo1, hhi1, hat1⟩ := HL1.out.resolve_left (by simp)
    have hc0 := strAt hat1 0 (by simp)
    have hc1' := strAt hat1 1 (by simp)
    have hc2 := strAt hat1 2 (by simp)
    have hc3 := strAt hat1 3 (by simp)
    simp at hc0 hc1' hc2 hc3
    have hv2 : hasVar w1 w.heap.size 22 = true := (hasVar_congr (HB1.out.block _ (by simp))).trans (by simp [go_sem])
    have hi2 : isOld w.heap.size w1 = true := isOld_iff.2 (by omega)
    have hi1 : isOld b1 w1 = true := isOld_iff.2 hhi1
    have HBW : Hid (Below w.heap.size w w1) := ((Below.refl _ _).alloc (Nat.le_refl _) _).trans (HB1.out.mono (by simp))
    have hm1 := hm.below HBW.out
    have HAT1 := Lib.hid hat1
    clear hat1
    by_cases hx : x0 = verbL
    · subst hx
      unfold verbL at *
      go_upto_region 6 with (first
        | (go_at_call 21; (with_reducible refine (HCP.out _).mono ?_); intro e w' h; obtain ⟨rfl, h2⟩ := h; subst w')
        | (go_at_call 22; (with_reducible refine (HPA.out _ hm1).mono ?_); intro e w2 he; obtain ⟨rfl, hb2⟩ := he; have HB2 := Lib.hid hb2; clear hb2))
      have hs2 := HB2.out.size
      have HV3 : Hid (hasVar (w2.alloc (Obj.cells (hostC H) 39)) w.heap.size 22 = true) := by
        have h1 : hasVar w2 w.heap.size 22 = true := (hasVar_congr (HB2.out.block _ (by omega))).trans hv2
        have h2 : isOld w.heap.size w2 = true := isOld_iff.2 (by omega)
        show _ = _; simp [go_sem, h1, h2]
      have HBW3 : Hid (Below w.heap.size w (w2.alloc (Obj.cells (hostC H) 39))) := (HBW.out.trans (HB2.out.mono (by omega))).alloc (by omega) _
      have HVH : Hid (Var (w2.alloc (Obj.cells (hostC H) 39)) w2.heap.size (hostL H)) := Var.new _ _ _ rfl rfl
      have HAT3 : Hid (ListAt strCod (w2.alloc (Obj.cells (hostC H) 39)) b1 o1 [[104, 111, 115, 116], x1, x2, x3]) := (HAT1.out.below HB2.out).below ((Below.refl _ _).alloc (Nat.le_refl _) _)
      have hs3 : w2.heap.size + 1 = (w2.alloc (Obj.cells (hostC H) 39)).heap.size := by simp
      generalize w2.alloc (Obj.cells (hostC H) 39) = w3 at *
      clear hv2 hi2 hi1 hc0 hc1' hc2 hc3
      have hc2 := strAt HAT3.out 2 (by simp)
      have hi1 : isOld b1 w3 = true := isOld_iff.2 (by omega)
      simp at hc2
      go_cut [11] (fun s11 wx => s11 = .int .i64 (schemeN x2) ∧ Below w3.heap.size w3 wx)
      case first =>
        go_region_with (first
          | (go_at_call 24; (with_reducible refine (schemes_any _).mono ?_); intro e w4 hg; obtain ⟨a2, c2, rfl, hcc2, hb2, hl2⟩ := hg; obtain ⟨p2, rfl⟩ := grown_of hb2; clear hb2)
          | (go_at_call 23; refine (index_scheme _ _ _ x2 _ hl2).mono ?_; intro e w' h; obtain ⟨rfl, h2⟩ := h; subst w'))
        all_goals
          go_wp2_with fail
          go_meet
          exact ⟨rfl, (by repeat (first | exact Below.refl _ _ | assumption | refine below_grown ?_ (by first | omega | (simp [go_sem]; done) | (simp [go_sem] <;> omega)) _ | refine Below.alloc ?_ (by first | omega | (simp [go_sem]; done) | (simp [go_sem] <;> omega)) _ | refine below_bytesW ?_ (by first | omega | (simp [go_sem]; done) | (simp [go_sem] <;> omega)) _ | refine Below.drew ?_ | refine below_drewN ?_ _))⟩
      case rest =>
        obtain ⟨rfl, hb4⟩ := hcut
        have hs4 := hb4.size
        have hv2 : hasVar wc w.heap.size 22 = true := (hasVar_congr (hb4.block _ (by omega))).trans HV3.out
        have hi2 : isOld w.heap.size wc = true := isOld_iff.2 (by omega)
        have hvh := HVH.out.below hb4
        have hrH : hasRow wc ⟨w2.heap.size, 0, none⟩ 18 = true := hvh.hasRow (hostL_length H)
        have hqH : rowAt wc ⟨w2.heap.size, 0, none⟩ 18 = hostC H := hvh.rowAt (hostL_length H)
        have hcH : wc.cell? ⟨w2.heap.size, 0, none⟩ = some (.int .i64 H.kind) := hvh.cell 0 (by rw [hostL_length]; decide)
        have hiH : isOld w2.heap.size wc = true := isOld_iff.2 hvh.lt
        have hc3 := strAt (HAT3.out.below hb4) 3 (by simp)
        simp at hc3
        have hi1 : isOld b1 wc = true := isOld_iff.2 (by omega)
        have HBW4 : Hid (Below w.heap.size w wc) := HBW3.out.trans (hb4.mono (by omega))
        clear hb4 hvh hc2 HWD HCP HPA HB1 HL1 HAT1 HAT3 HV3 HBW3 HVH HB2
        rcases HW.out with ⟨k1, _⟩ | ⟨_, k1, hO⟩ | ⟨_, k1, k2, k3, hO⟩ | ⟨_, k1, k2, hrest⟩
        · exact absurd rfl k1
        · have HO := Lib.hid hO
          have e31 : eH = 31 := by
            rcases hE with ⟨h, h'⟩ | ⟨h, h'⟩
            · rw [k1] at h; cases h
            · exact h'
          subst e31
          clear hO hE HW k1
          go_wp2
          exact ret_cell_pat w.heap.size (patV false zeroH false false []) (.int .i64 31) (.int .i64 1) rfl rfl rfl rfl agg_pat (by simp [go_sem, hv2, hi2]) (by simp [go_sem, hv2, hi2]) rfl ⟨by rw [HO.out]; rfl, below_setRow HBW4.out (Nat.le_refl _) _⟩
        · have HO := Lib.hid hO
          have e0 : eH = 0 := by
            rcases hE with ⟨h, h'⟩ | ⟨h, h'⟩
            · exact h'
            · rw [k1] at h; cases h
          subst e0
          subst k2
          have hk1 : (H.kind != 1) = true := by rw [bne_iff_ne]; exact k3
          clear hO hE HW k1 k3
          go_wp2
          exact ret_cell_pat w.heap.size (patV false zeroH false false []) (.int .i64 31) (.int .i64 1) rfl rfl rfl rfl agg_pat (by simp [go_sem, hv2, hi2]) (by simp [go_sem, hv2, hi2]) rfl ⟨by rw [HO.out]; rfl, below_setRow HBW4.out (Nat.le_refl _) _⟩
        · have e0 : eH = 0 := by
            rcases hE with ⟨h, h'⟩ | ⟨h, h'⟩
            · exact h'
            · rw [k1] at h; cases h
          subst e0
          have hk1 : so = false ∨ (so = true ∧ (H.kind != 1) = false) := by
            cases so
            · exact .inl rfl
            · exact .inr ⟨rfl, by rw [k2 rfl]; rfl⟩
          clear hE HW k1 k2
          rcases hrest with ⟨q1, hO⟩ | ⟨q1, rfl, hO⟩ | ⟨q1, rfl, hO⟩
          · have HO := Lib.hid hO
            clear hO
            generalize schemeN x2 = n at *
            rcases hk1 with rfl | ⟨rfl, hk1⟩
            all_goals
              go_wp2
              exact ret_cell_pat w.heap.size (patV false zeroH false false []) (.int .i64 211) (.int .i64 2) rfl rfl rfl rfl agg_pat (by simp [go_sem, hv2, hi2]) (by simp [go_sem, hv2, hi2]) rfl ⟨by rw [HO.out]; rfl, below_setRow HBW4.out (Nat.le_refl _) _⟩
          · have HO := Lib.hid hO
            clear hO
            generalize schemeN x2 = n at *
            rcases hk1 with rfl | ⟨rfl, hk1⟩
            all_goals
              go_wp2_with (go_at_call 25; (with_reducible refine (HPK.out _).mono ?_); rintro e w1 ⟨rfl, hb1⟩; obtain ⟨p1, rfl⟩ := grown_of hb1; clear hb1)
              exact ret_cell_pat w.heap.size (patV false zeroH false false []) (.int .i64 43) (.int .i64 3) rfl rfl rfl rfl agg_pat (by simp [go_sem, hv2, hi2]) (by simp [go_sem, hv2, hi2]) rfl ⟨by rw [HO.out]; rfl, below_setRow (below_grown HBW4.out (by omega) _) (Nat.le_refl _) _⟩
          · have HO := Lib.hid hO
            clear hO
            rcases schemeN_cases x2 with ⟨hx, e⟩ | ⟨hx, e⟩ | ⟨hx, e⟩ | ⟨hx, e⟩ | ⟨_, _, _, _, e⟩
            · exfalso; rw [e] at q1; omega
            · subst hx
              rw [e]
              clear e q1
              have hbA : bits BinOp.and IntKind.i64 1 1 = 1 := rfl
              have hbB : bits BinOp.and IntKind.i64 1 2 = 0 := rfl
              rcases hk1 with rfl | ⟨rfl, hk1⟩
              all_goals
                go_upto_region 13 with (go_at_call 25; (with_reducible refine (HPK.out _).mono ?_); rintro e w1 ⟨rfl, hb1⟩; obtain ⟨p1, rfl⟩ := grown_of hb1; clear hb1)
                go_region
                go_wp2
                first
                  | exact ret_cell_pat w.heap.size (patV false H true false x3) (.int .i64 0) (.int .i64 0) rfl rfl rfl rfl agg_pat (by simp [go_sem, hv2, hi2]) (by simp [go_sem, hv2, hi2]) rfl ⟨by rw [HO.out]; rfl, below_setRow (below_drew (below_grown HBW4.out (by omega) _)) (Nat.le_refl _) _⟩
                  | exact ret_cell_pat w.heap.size (patV true H true false x3) (.int .i64 0) (.int .i64 0) rfl rfl rfl rfl agg_pat (by simp [go_sem, hv2, hi2]) (by simp [go_sem, hv2, hi2]) rfl ⟨by rw [HO.out]; rfl, below_setRow (below_drew (below_grown HBW4.out (by omega) _)) (Nat.le_refl _) _⟩
            · subst hx
              rw [e]
              clear e q1
              have hbA : bits BinOp.and IntKind.i64 2 1 = 0 := rfl
              have hbB : bits BinOp.and IntKind.i64 2 2 = 2 := rfl
              rcases hk1 with rfl | ⟨rfl, hk1⟩
              all_goals
                go_upto_region 13 with (go_at_call 25; (with_reducible refine (HPK.out _).mono ?_); rintro e w1 ⟨rfl, hb1⟩; obtain ⟨p1, rfl⟩ := grown_of hb1; clear hb1)
                go_region
                go_wp2
                first
                  | exact ret_cell_pat w.heap.size (patV false H false true x3) (.int .i64 0) (.int .i64 0) rfl rfl rfl rfl agg_pat (by simp [go_sem, hv2, hi2]) (by simp [go_sem, hv2, hi2]) rfl ⟨by rw [HO.out]; rfl, below_setRow (below_drew (below_grown HBW4.out (by omega) _)) (Nat.le_refl _) _⟩
                  | exact ret_cell_pat w.heap.size (patV true H false true x3) (.int .i64 0) (.int .i64 0) rfl rfl rfl rfl agg_pat (by simp [go_sem, hv2, hi2]) (by simp [go_sem, hv2, hi2]) rfl ⟨by rw [HO.out]; rfl, below_setRow (below_drew (below_grown HBW4.out (by omega) _)) (Nat.le_refl _) _⟩
            · subst hx
              rw [e]
              clear e q1
              have hbA : bits BinOp.and IntKind.i64 3 1 = 1 := rfl
              have hbB : bits BinOp.and IntKind.i64 3 2 = 2 := rfl
              rcases hk1 with rfl | ⟨rfl, hk1⟩
              all_goals
                go_upto_region 13 with (go_at_call 25; (with_reducible refine (HPK.out _).mono ?_); rintro e w1 ⟨rfl, hb1⟩; obtain ⟨p1, rfl⟩ := grown_of hb1; clear hb1)
                go_region
                go_wp2
                first
                  | exact ret_cell_pat w.heap.size (patV false H true true x3) (.int .i64 0) (.int .i64 0) rfl rfl rfl rfl agg_pat (by simp [go_sem, hv2, hi2]) (by simp [go_sem, hv2, hi2]) rfl ⟨by rw [HO.out]; rfl, below_setRow (below_drew (below_grown HBW4.out (by omega) _)) (Nat.le_refl _) _⟩
                  | exact ret_cell_pat w.heap.size (patV true H true true x3) (.int .i64 0) (.int .i64 0) rfl rfl rfl rfl agg_pat (by simp [go_sem, hv2, hi2]) (by simp [go_sem, hv2, hi2]) rfl ⟨by rw [HO.out]; rfl, below_setRow (below_drew (below_grown HBW4.out (by omega) _)) (Nat.le_refl _) _⟩
            · exfalso; rw [e] at q1; omega
    · have hx1 : (x0 != [104, 111, 115, 116]) = true := by rw [bne_iff_ne]; exact hx
      have hx2 : (x0 == [104, 111, 115, 116]) = false := by rw [beq_eq_false_iff_ne]; exact hx
      have hO : out = (zeroPt, 131, 0) := by
        rcases HW.out with ⟨_, h⟩ | ⟨h, _⟩ | ⟨h, _⟩ | ⟨h, _⟩
        · exact h
        · exact absurd h hx
        · exact absurd h hx
        · exact absurd h hx
      have HO := Lib.hid hO
      clear hO HW hx
      go_wp2
      exact ret_cell_pat w.heap.size (patV false zeroH false false []) (.int .i64 131) (.int .i64 0) rfl rfl rfl rfl agg_pat (by simp [go_sem, hv2, hi2]) (by simp [go_sem, hv2, hi2]) rfl ⟨by rw [HO.out]; rfl, below_setRow HBW.out (Nat.le_refl _) _⟩
end

section
open Go Go.RowKit
set_option maxRecDepth 20000
set_option linter.unusedSimpArgs false
set_option linter.unusedVariables false

def sumW (L : List (List UInt8)) : Nat := (L.map fun x => x.length + 1).sum
def colT (s : List UInt8) (k : Nat) : Int := ((1 + sumW ((splitL 32 s).take k) : Nat) : Int)
theorem sumW_succ (L : List (List UInt8)) (n : Nat) (h : n < L.length) : sumW (L.take (n + 1)) = sumW (L.take n) + ((L[n]'h).length + 1) := by
  unfold sumW
  rw [List.take_succ_eq_append_getElem h, List.map_append, List.sum_append]
  simp only [List.map_cons, List.map_nil, List.sum_cons, List.sum_nil, Nat.add_zero]
theorem sumW_le (L : List (List UInt8)) (n : Nat) (N : Nat) (h : ∀ x ∈ L, x.length ≤ N) (hn : n ≤ L.length) : sumW (L.take n) ≤ n * (N + 1) := by
  induction n with
  | zero => simp [sumW]
  | succ n ih =>
    have := ih (by omega)
    rw [sumW_succ L n (by omega)]
    have hx := h _ (List.getElem_mem (show n < L.length by omega))
    rw [Nat.succ_mul]; omega
set_option maxHeartbeats 2000000 in
theorem topoCol_any (s : List UInt8) (k : Nat) (hk : k ≤ 3) (hkl : k ≤ (splitL 32 s).length) (hs : s.length ≤ 1000000000) (m : Int) (w : World) (hm : HasMax m w) :
    Calls Tryd.prog 13 #[.string ⟨s.toArray⟩, .int .i64 (k : Int)] w fun e w' => e = .returned (.int .i64 (colT s k)) ∧ Below w.heap.size w w' := by
  have h32 : ((32 : UInt8).toNat : Int) = 32 := rfl
  have hcall : ∀ w, HasMax m w → Calls Tryd.prog 16 #[.string ⟨s.toArray⟩, .int .u8 32] w (Gives strCod (splitL 32 s) w) := fun w h => by
    have := split_gives s 32 (by omega) m w h
    rwa [h32] at this
  have HC := Lib.hid hcall
  have hpl := Lib.hid (splitL_piece_le 32 s)
  have HCT : Hid (colT s k = ((1 + sumW ((splitL 32 s).take k) : Nat) : Int)) := rfl
  clear hcall h32
  generalize splitL 32 s = L at *
  generalize colT s k = col at *
  go_enter Tryd.func13, Tryd.ntmps13
  go_upto_region 2 with fail
  have hkc : (k : Int) ≤ (L.length : Int) := by omega
  go_wp2_with (go_at_call 16; (with_reducible refine (HC.out _ ?_).mono ?_); (exact (by repeat (first | exact hm | apply HasMax.grown | apply HasMax.alloc | apply HasMax.drew))); intro e w1 hg; obtain ⟨a1, c1, rfl, hc1, hb1, hl1⟩ := hg; have HB1 := Lib.hid hb1; have HL1 := Lib.hid hl1; clear hb1 hl1; have hkc1 : (k : Int) ≤ (c1 : Int) := by omega)
  have hbw : Below w.heap.size w w1 := HB1.out
  go_loop [5, 13] (fun nn j => ∃ i : Nat, i ≤ k ∧ j = .int .i64 i ∧ nn = .int .i64 ((1 + sumW (L.take i) : Nat) : Int)) (fun _ j => k - (intOf j).toNat)
  case atStart => exact ⟨0, Nat.zero_le _, rfl, rfl⟩
  case round =>
    obtain ⟨i, hi, rfl, rfl⟩ := hrel
    by_cases hlt : i < k
    · obtain ⟨b1, o1, rfl, _, _, hat1⟩ := HL1.out.resolve_left (fun h => by subst h; simp at hkl; omega)
      have hcell := strAt hat1 i (by omega)
      have hx := hpl.out _ (List.getElem_mem (show i < L.length by omega))
      have HS := Lib.hid (sumW_succ L i (by omega))
      have hle := sumW_le L i s.length hpl.out (by omega)
      have hle2 : sumW (L.take i) ≤ 4 * 1000000001 := by
        have : i * (s.length + 1) ≤ 4 * 1000000001 := Nat.mul_le_mul (by omega) (by omega)
        omega
      clear hat1 hle
      generalize L[i]'(by omega) = x at *
      generalize sumW (L.take i) = S at *
      have e1 : IntKind.i64.wrap ((x.length : Int) + 1) = (x.length : Int) + 1 := IntWalk.i64_in _ (by omega)
      have e2 : IntKind.i64.wrap (((1 + S : Nat) : Int) + ((x.length : Int) + 1)) = ((1 + S : Nat) : Int) + ((x.length : Int) + 1) := IntWalk.i64_in _ (by omega)
      go_wp2
      go_round
      case rel => exact ⟨i + 1, by omega, by go_num, by rw [HS.out]; exact congrArg (Value.int .i64) (by omega)⟩
      case measure => simp [intOf]; omega
    · obtain rfl : i = k := by omega
      go_wp2
      go_ret
      refine ⟨?_, hbw⟩
      rw [HCT.out]
      show Ending.returned (Value.int .i64 (1 + ((sumW (L.take i) : Nat) : Int))) = _
      exact congrArg (fun z => Ending.returned (Value.int .i64 z)) (by omega)
end

section
open Go Go.RowKit
set_option maxRecDepth 20000
set_option linter.unusedSimpArgs false
set_option linter.unusedVariables false

structure GFault where
  code : Int
  line : Int
  col : Int
def faultR (c l k : Int) : List Value := [.int .i64 c, .int .i64 l, .int .i64 k]
def faultV (c l k : Int) : Array Value := (faultR c l k).toArray
@[go_sem] theorem faultV_size (c l k : Int) : (faultV c l k).size = 3 := by simp [faultV, faultR]
theorem fault_one (c l k : Int) : ∀ v ∈ faultR c l k, v.oneCell' = true := by
  intro v hv
  simp only [faultR, List.mem_cons, List.not_mem_nil, or_false] at hv
  rcases hv with rfl | rfl | rfl <;> rfl
@[go_sem] theorem faultV_one (c l k : Int) : allOne (faultV c l k) = true := allOne_of (fault_one c l k)
@[go_sem ↓ high] theorem faultV_0 (c l k : Int) : (faultV c l k)[0]? = some (.int .i64 c) := by simp [faultV, faultR]
@[go_sem ↓ high] theorem faultV_1 (c l k : Int) : (faultV c l k)[1]? = some (.int .i64 l) := by simp [faultV, faultR]
@[go_sem ↓ high] theorem faultV_2 (c l k : Int) : (faultV c l k)[2]? = some (.int .i64 k) := by simp [faultV, faultR]
@[go_sem] theorem faultV_all (c l k : Int) : (faultV c l k).extract 0 3 = faultV c l k := by
  rw [← faultV_size c l k]; simp
@[go_sem] theorem agg_fault : isAggT Tryd.prog 24 = true := by kernel_rfl
@[go_sem] theorem cellsOf_fault : Tryd.prog.cellsOf 24 = 3 := by kernel_rfl
def faultEq (c l k c' l' k' : Int) : Bool := c == c' && (l == l' && k == k')
theorem faultEq_iff {c l k c' l' k' : Int} : faultEq c l k c' l' k' = true ↔ c = c' ∧ l = l' ∧ k = k' := by
  simp [faultEq]
theorem cellsOf_errno : Tryd.prog.cellsOf 22 = 1 := by kernel_rfl
theorem keyLits_errno (D : Nat) (n : Int) (h : (Lit.int .i64 n).wf = true) : Tryd.prog.keyLits (D + 1) 22 [.int .i64 n] = some [.int .i64 n] := by
  simp [Program.keyLits, Tryd.underlying22, h]
theorem keyLits_fault (D : Nat) (c l k : Int) (h1 : (Lit.int .i64 c).wf = true) (h2 : (Lit.int .i64 l).wf = true) (h3 : (Lit.int .i64 k).wf = true) : Tryd.prog.keyLits (D + 3) 24 (faultR c l k) = some [.int .i64 c, .int .i64 l, .int .i64 k] := by
  unfold Program.keyLits
  rw [Tryd.underlying24]
  simp [cellsOf_fault, faultR, cellsOf_int, cellsOf_errno, keyLits_errno, keyLits_i64, h1, h2, h3]
theorem fault_rows (c l k c' l' k' : Int) (h1 : (Lit.int .i64 c).wf = true) (h2 : (Lit.int .i64 l).wf = true) (h3 : (Lit.int .i64 k).wf = true) (h1' : (Lit.int .i64 c').wf = true) (h2' : (Lit.int .i64 l').wf = true) (h3' : (Lit.int .i64 k').wf = true) (x y : Operand) (w : World) :
    eqRow Tryd.prog w 24 x y (.agg (faultV c l k)) (.agg (faultV c' l' k')) = .ok (.value (.bool (faultEq c l k c' l' k'))) w ∧
    neRow Tryd.prog w 24 x y (.agg (faultV c l k)) (.agg (faultV c' l' k')) = .ok (.value (.bool (!faultEq c l k c' l' k'))) w :=
  eq_rows (m := 10) (by kernel_rfl) (by decide) (by kernel_rfl) (keyLits_fault 0 c l k h1 h2 h3) (keyLits_fault 0 c' l' k' h1' h2' h3') (by simp [Value.formed, Tryd.underlying24, cellsOf_fault, faultR]) (by simp [Value.formed, Tryd.underlying24, cellsOf_fault, faultR])
    (by rw [faultEq_iff]; simp) x y w
@[go_sem] theorem eqRow_fault (c l k c' l' k' : Int) (h1 : (Lit.int .i64 c).wf = true) (h2 : (Lit.int .i64 l).wf = true) (h3 : (Lit.int .i64 k).wf = true) (h1' : (Lit.int .i64 c').wf = true) (h2' : (Lit.int .i64 l').wf = true) (h3' : (Lit.int .i64 k').wf = true) (x y : Operand) (w : World) :
    eqRow Tryd.prog w 24 x y (.agg (faultV c l k)) (.agg (faultV c' l' k')) = .ok (.value (.bool (faultEq c l k c' l' k'))) w := (fault_rows c l k c' l' k' h1 h2 h3 h1' h2' h3' x y w).1
@[go_sem] theorem neRow_fault (c l k c' l' k' : Int) (h1 : (Lit.int .i64 c).wf = true) (h2 : (Lit.int .i64 l).wf = true) (h3 : (Lit.int .i64 k).wf = true) (h1' : (Lit.int .i64 c').wf = true) (h2' : (Lit.int .i64 l').wf = true) (h3' : (Lit.int .i64 k').wf = true) (x y : Operand) (w : World) :
    neRow Tryd.prog w 24 x y (.agg (faultV c l k)) (.agg (faultV c' l' k')) = .ok (.value (.bool (!faultEq c l k c' l' k'))) w := (fault_rows c l k c' l' k' h1 h2 h3 h1' h2' h3' x y w).2
/-! ### built -/
theorem run_build_fault0 (w : World) : (Instr.build 24 #[]).run Tryd.prog w = .ok (.agg (faultV 0 0 0)) w := by kernel_rfl
theorem run_build_fault (c l k : Int) (w : World) : (Instr.build 24 #[(0, .int .i64 c), (1, .int .i64 l), (2, .int .i64 k)]).run Tryd.prog w = .ok (.agg (faultV c l k)) w := by kernel_rfl
@[go_sem ↓ high] theorem run_op_build_fault0 (ev : Operand → Value) (dst : Option Tmp) (ty : TypeId) (pos : String) (af : Array Edge) (g : Option (Nat × Bool)) (w : World) :
    Sem.run Tryd.prog (execOp ev { dst := dst, op := .build 24 #[], type := ty, pos := pos, after := af, guard := g }) w = .ok (.value (.agg (faultV 0 0 0))) w := by
  rw [run_op_build, buildRow, Sem.run_bind]
  simp [run_build_fault0]
@[go_sem ↓ high] theorem run_op_build_fault (ev : Operand → Value) (dst : Option Tmp) (x0 x1 x2 : Operand) (ty : TypeId) (pos : String) (af : Array Edge) (g : Option (Nat × Bool)) (w : World) :
    Sem.run Tryd.prog (execOp ev { dst := dst, op := .build 24 #[(0, x0), (1, x1), (2, x2)], type := ty, pos := pos, after := af, guard := g }) w = buildRow Tryd.prog w 24 #[(0, ev x0), (1, ev x1), (2, ev x2)] := by
  rw [run_op_build]
  simp
@[go_sem] theorem buildFault_at (c l k : Int) (w : World) : buildRow Tryd.prog w 24 #[(0, .int .i64 c), (1, .int .i64 l), (2, .int .i64 k)] = .ok (.value (.agg (faultV c l k))) w := by
  rw [buildRow, Sem.run_bind, run_build_fault]
  rfl
theorem ret_tmp_cell {P : Program} {fn : Func} {p u : Tmp} {ty : TypeId} {R : Ending → World → Prop} {a : Act} {w : World} (g : Nat) (cs : Array Value) (v : Value) (h : fn.results = #[.tmp u, .cell p ty]) (hp : a.tmps.getD p undef = .pointer (some ⟨g, 0, none⟩)) (hv : a.tmps.getD u undef = v) (hagg : isAggT P ty = true)
    (hr : hasRow w ⟨g, 0, none⟩ (P.cellsOf ty) = true) (hc : rowAt w ⟨g, 0, none⟩ (P.cellsOf ty) = cs) (hd : a.defers = []) (hR : R (.returned (.tuple #[v, .agg cs])) w) : bodyPost P fn R .ret a w := by
  refine bodyPost_ret (v := .tuple #[v, .agg cs]) ?_ hd hR
  have hp' : a.tmps[p]?.getD undef = .pointer (some ⟨g, 0, none⟩) := by simpa using hp
  have hv' : a.tmps[u]?.getD undef = v := by simpa using hv
  have := run_loadVar_agg (P := P) hagg ⟨g, 0, none⟩ w hr
  rw [hc] at this
  simp [results, h, hp', hv', asAddr, this]
/-! ### a slice and a fault -/
/-- A call hands back a slice of these values, in memory of its own, and a fault. -/
def GivesF {α : Type} (c : Cod α) (xs : List α) (f : Int × Int × Int) (w : World) (e : Ending) (w' : World) : Prop :=
  ∃ a cap, e = .returned (.tuple #[.slice a xs.length cap, .agg (faultV f.1 f.2.1 f.2.2)]) ∧ xs.length ≤ cap ∧ Below w.heap.size w w' ∧ ListIn c w' a xs w.heap.size
end

section
open Go Go.RowKit
set_option maxRecDepth 20000
set_option linter.unusedSimpArgs false
set_option linter.unusedVariables false

theorem codRow {α : Type} {c : Cod α} {w : World} {b o : Nat} {xs : List α} (h : ListAt c w b o xs) (j : Nat) (hj : j < xs.length) :
    hasRow w ⟨b, o + j * c.sz, none⟩ c.sz = true ∧ rowAt w ⟨b, o + j * c.sz, none⟩ c.sz = (c.enc (xs[j]'hj)).toArray := by
  have hc : ∀ i, (hi : i < c.sz) → w.cell? ⟨b, o + j * c.sz + i, none⟩ = some ((c.enc (xs[j]'hj))[i]'(by rw [c.len]; exact hi)) := fun i hi => by
    have e := c.encs_get xs j hj i hi
    have e2 : (c.enc (xs[j]'hj))[i]? = some ((c.enc (xs[j]'hj))[i]'(by rw [c.len]; exact hi)) := List.getElem?_eq_getElem _
    rw [e2] at e
    rw [Nat.add_assoc]
    exact h _ _ e
  refine ⟨?_, ?_⟩
  · rw [hasRow_iff]
    intro i hi
    rw [add_mk, hc i hi]; rfl
  · apply Array.ext_getElem?
    intro i
    simp only [rowAt, List.getElem?_toArray, List.getElem?_map, add_mk]
    by_cases hi : i < c.sz
    · have e : (List.range c.sz)[i]? = some i := by simp [hi]
      rw [e, Option.map_some, hc i hi, List.getElem?_eq_getElem (by rw [c.len]; exact hi)]; rfl
    · have e : (List.range c.sz)[i]? = none := by simp; omega
      rw [e, List.getElem?_eq_none (by rw [c.len]; omega)]; rfl
def patCod : Cod GPt where
  E := 41
  S := 27
  sz := 22
  bys := 72
  z := .agg (patV false zeroH false false [])
  enc := fun p => patR p.1 p.2.1 p.2.2.1 p.2.2.2.1 p.2.2.2.2
  und := by kernel_rfl
  info := by kernel_rfl
  zsz := patV_size _ _ _ _ _
  pos := by decide
  len := fun _ => patR_length _ _ _ _ _
  one := fun p => pat_one p.1 p.2.1 p.2.2.1 p.2.2.2.1 p.2.2.2.2
theorem patRow {w : World} {b o : Nat} {xs : List GPt} (h : ListAt patCod w b o xs) (j : Nat) (hj : j < xs.length) :
    hasRow w ⟨b, o + j * 22, none⟩ 22 = true ∧ rowAt w ⟨b, o + j * 22, none⟩ 22 = ptV (xs[j]'hj) := codRow h j hj
def ptB (p q : GPt) : Bool := patEq p.1 p.2.1 p.2.2.1 p.2.2.2.1 p.2.2.2.2 q.1 q.2.1 q.2.2.1 q.2.2.2.1 q.2.2.2.2
theorem ptB_iff {p q : GPt} : ptB p q = true ↔ p = q := by
  obtain ⟨a, b, c, d, e⟩ := p
  obtain ⟨a', b', c', d', e'⟩ := q
  unfold ptB patEq
  simp [hostEq_iff]
def okP (p : GPt) : Prop := p.2.2.2.2.length ≤ 2048
def hasPt (P : List GPt) (p : GPt) : Bool := P.any (ptB p)
abbrev GFl := Int × Int × Int
/-- From a line on, with these patterns so far: the patterns and the fault. -/
def topoStep : List (List UInt8) → Nat → List GPt → List GPt × GFl
  | [], _, out => (out, 0, 0, 0)
  | x :: L, i, out =>
    if x = [] ∨ Lib.hasPrefix x [35] = true then topoStep L (i + 1) out
    else if (topoLine x).2.1 ≠ 0 then ([], (topoLine x).2.1, (i : Int) + 1, colT x (topoLine x).2.2.toNat)
    else if hasPt out (topoLine x).1 = true then ([], 52, (i : Int) + 1, 1)
    else if 12 ≤ out.length then ([], 53, (i : Int) + 1, 1)
    else topoStep L (i + 1) (out ++ [(topoLine x).1])
def topoFile (s : List UInt8) : List GPt × GFl := if 20000 < s.length then ([], 54, 1, 1) else topoStep (linesL s) 0 []
theorem topoStep_at (L : List (List UInt8)) (k : Nat) (h : k < L.length) (out : List GPt) : topoStep (L.drop k) k out =
    if L[k]'h = [] ∨ Lib.hasPrefix (L[k]'h) [35] = true then topoStep (L.drop (k + 1)) (k + 1) out
    else if (topoLine (L[k]'h)).2.1 ≠ 0 then ([], (topoLine (L[k]'h)).2.1, (k : Int) + 1, colT (L[k]'h) (topoLine (L[k]'h)).2.2.toNat)
    else if hasPt out (topoLine (L[k]'h)).1 = true then ([], 52, (k : Int) + 1, 1)
    else if 12 ≤ out.length then ([], 53, (k : Int) + 1, 1)
    else topoStep (L.drop (k + 1)) (k + 1) (out ++ [(topoLine (L[k]'h)).1]) := by
  rw [List.drop_eq_getElem_cons h]; rfl
theorem topoStep_end (L : List (List UInt8)) (out : List GPt) : topoStep (L.drop L.length) L.length out = (out, 0, 0, 0) := by
  rw [List.drop_length]; rfl
theorem colT_zero (s : List UInt8) : colT s 0 = 1 := by simp [colT, sumW]
/-- What a line gives. -/
theorem topoLine_bd (s : List UInt8) : okP (topoLine s).1 ∧ (((topoLine s).2.1 = 0 ∧ (topoLine s).2.2 = 0) ∨ ((topoLine s).2.1 ≠ 0 ∧ 0 ≤ (topoLine s).2.1 ∧ (topoLine s).2.1 ≤ 211 ∧ ∃ k : Nat, k ≤ 3 ∧ k ≤ (splitL 32 s).length ∧ (topoLine s).2.2 = k)) := by
  have z : okP zeroPt := Nat.zero_le _
  rcases topo_ways s with ⟨_, e⟩ | ⟨_, _, e⟩ | ⟨_, x0, x1, x2, x3, hL, _, _, _, h⟩
  · rw [e]; exact ⟨z, .inr ⟨by decide, by decide, by decide, 0, by omega, Nat.zero_le _, rfl⟩⟩
  · rw [e]; exact ⟨z, .inr ⟨by decide, by decide, by decide, 0, by omega, Nat.zero_le _, rfl⟩⟩
  · rcases h with ⟨_, e⟩ | ⟨_, _, e⟩ | ⟨_, _, _, _, e⟩ | ⟨_, _, _, ⟨_, e⟩ | ⟨_, _, e⟩ | ⟨_, hp, e⟩⟩
    · rw [e]; exact ⟨z, .inr ⟨by decide, by decide, by decide, 0, by omega, Nat.zero_le _, rfl⟩⟩
    · rw [e]; exact ⟨z, .inr ⟨by decide, by decide, by decide, 1, by omega, by rw [hL]; simp, rfl⟩⟩
    · rw [e]; exact ⟨z, .inr ⟨by decide, by decide, by decide, 1, by omega, by rw [hL]; simp, rfl⟩⟩
    · rw [e]; exact ⟨z, .inr ⟨by decide, by decide, by decide, 2, by omega, by rw [hL]; simp, rfl⟩⟩
    · rw [e]; exact ⟨z, .inr ⟨by decide, by decide, by decide, 3, by omega, by rw [hL]; simp, rfl⟩⟩
    · rw [e]; exact ⟨(path_byte hp).2.1, .inl ⟨rfl, rfl⟩⟩
theorem any_take_pt (P : List GPt) (p : GPt) (n : Nat) (h : n < P.length) : (P.take (n + 1)).any (ptB p) = ((P.take n).any (ptB p) || ptB p (P[n]'h)) := by
  rw [List.take_succ_eq_append_getElem h, List.any_append]; simp
theorem any_at_pt (P : List GPt) (p : GPt) (n : Nat) (h : n < P.length) (e : ptB p (P[n]'h) = true) : hasPt P p = true :=
  List.any_eq_true.2 ⟨_, List.getElem_mem h, e⟩
set_option maxHeartbeats 2000000 in
theorem indexPt_any (P : List GPt) (p : GPt) (a : Option Addr) (c lo : Nat) (hP : P.length ≤ 1000) (hok : ∀ q ∈ P, okP q) (hp : okP p) (w : World) (h : ListIn patCod w a P lo) :
    Calls Tryd.prog 26 #[.slice a P.length c, .agg (ptV p)] w fun e w' => (∃ i : Int, e = .returned (.int .i64 i) ∧ decide (0 ≤ i) = hasPt P p) ∧ Below w.heap.size w w' := by
  have HA := Lib.hid h
  have HOK := Lib.hid hok
  have HAT := Lib.hid (any_at_pt P p)
  have HTK := Lib.hid (any_take_pt P p)
  clear h hok
  obtain ⟨pw, ph, pp, ps, pa⟩ := p
  have h2 : pa.length ≤ maxLen := by have : pa.length ≤ 2048 := hp; unfold maxLen; omega
  clear hp
  go_enter Tryd.func26, Tryd.ntmps26
  unfold ptV
  dsimp only
  go_wp2
  have HV : Hid (Var (w.alloc (Obj.cells (patV pw ph pp ps pa) 41)) w.heap.size (patR pw ph pp ps pa)) := Var.new _ _ _ rfl rfl
  have HB0 : Hid (Below w.heap.size w (w.alloc (Obj.cells (patV pw ph pp ps pa) 41))) := (Below.refl _ _).alloc (Nat.le_refl _) _
  have hs0 : w.heap.size + 1 = (w.alloc (Obj.cells (patV pw ph pp ps pa) 41)).heap.size := by simp
  generalize w.alloc (Obj.cells (patV pw ph pp ps pa) 41) = w0 at *
  go_loopw [5, 8] (fun _ i wr => ∃ k : Nat, k ≤ P.length ∧ i = .int .i64 k ∧ Below w0.heap.size w0 wr ∧ Hid ((P.take k).any (ptB (pw, ph, pp, ps, pa)) = false)) (fun _ i _ => P.length - (intOf i).toNat)
  case atStart => exact ⟨0, Nat.zero_le _, rfl, Below.refl _ _, rfl⟩
  case round =>
    obtain ⟨k, hk, rfl, hb, hno⟩ := hrel
    have hsz := hb.size
    have hv := HV.out.below hb
    have hbw : Below w.heap.size w wr := HB0.out.trans (hb.mono (by omega))
    by_cases hlt : k < P.length
    · obtain ⟨b1, o1, rfl, _, hlt1, hat1⟩ := HA.out.resolve_left (fun h => by subst h; exact absurd hlt (Nat.not_lt_zero _))
      obtain ⟨r1, q1⟩ := patRow (hat1.below hbw) k hlt
      have hr := HOK.out _ (List.getElem_mem hlt)
      have HT := Lib.hid (HTK.out k hlt)
      have HAA := Lib.hid (HAT.out k hlt)
      have hr3 : hasRow wr ⟨w.heap.size, 0, none⟩ 22 = true := hv.hasRow (patR_length _ _ _ _ _)
      have hq3 : rowAt wr ⟨w.heap.size, 0, none⟩ 22 = patV pw ph pp ps pa := hv.rowAt (patR_length _ _ _ _ _)
      have hi1 : (k : Int) < (P.length : Int) := by omega
      have ho1 : isOld b1 wr = true := isOld_iff.2 (by have := hbw.size; omega)
      have ho3 : isOld w.heap.size wr = true := isOld_iff.2 hv.lt
      clear hat1 hv
      obtain ⟨⟨qw, qh, qp, qs, qa⟩, hq⟩ : ∃ r, P[k]'hlt = r := ⟨_, rfl⟩
      rw [hq] at q1 hr HT HAA
      clear hq
      unfold ptV at q1
      dsimp only at q1
      have h3 : qa.length ≤ maxLen := by have : qa.length ≤ 2048 := hr; unfold maxLen; omega
      clear hr
      cases he : patEq pw ph pp ps pa qw qh qp qs qa
      · have HF : Hid ((P.take (k + 1)).any (ptB (pw, ph, pp, ps, pa)) = false) := by
          show _ = _
          rw [HT.out, hno.out, Bool.false_or]
          exact he
        go_wp2
        refine wp_region_quiet_grown (by kernel_rfl) (by kernel_rfl) ?_
        repeat (quiet_step (fail))
        refine wpQuiet_nil ?_; intro _ hw'; obtain ⟨pq, hw''⟩ := hw'; subst hw''
        go_wp2
        go_roundw
        case rel => exact ⟨k + 1, by omega, by go_num, (by repeat (first | exact Below.refl _ _ | assumption | refine below_grown ?_ (by first | omega | (simp [go_sem]; done) | (simp [go_sem] <;> omega)) _ | refine Below.alloc ?_ (by first | omega | (simp [go_sem]; done) | (simp [go_sem] <;> omega)) _ | refine below_bytesW ?_ (by first | omega | (simp [go_sem]; done) | (simp [go_sem] <;> omega)) _ | refine Below.drew ?_ | refine below_drewN ?_ _)), HF.out⟩
        case measure => simp [intOf]; omega
      · have HF := Lib.hid (HAA.out he)
        go_wp2
        refine wp_region_quiet_grown (by kernel_rfl) (by kernel_rfl) ?_
        repeat (quiet_step (fail))
        refine wpQuiet_nil ?_; intro _ hw'; obtain ⟨pq, hw''⟩ := hw'; subst hw''
        go_wp2
        go_ret
        exact ⟨⟨_, rfl, by rw [HF.out]; exact decide_eq_true (by omega)⟩, (by repeat (first | exact Below.refl _ _ | assumption | refine below_grown ?_ (by first | omega | (simp [go_sem]; done) | (simp [go_sem] <;> omega)) _ | refine Below.alloc ?_ (by first | omega | (simp [go_sem]; done) | (simp [go_sem] <;> omega)) _ | refine below_bytesW ?_ (by first | omega | (simp [go_sem]; done) | (simp [go_sem] <;> omega)) _ | refine Below.drew ?_ | refine below_drewN ?_ _))⟩
    · obtain rfl : k = P.length := by omega
      have hfin := hno.out
      rw [List.take_length] at hfin
      have HF : Hid (hasPt P (pw, ph, pp, ps, pa) = false) := hfin
      clear hfin hno
      go_wp2
      go_ret
      exact ⟨⟨_, rfl, by rw [HF.out]; rfl⟩, (by repeat (first | exact Below.refl _ _ | assumption | refine below_grown ?_ (by first | omega | (simp [go_sem]; done) | (simp [go_sem] <;> omega)) _ | refine Below.alloc ?_ (by first | omega | (simp [go_sem]; done) | (simp [go_sem] <;> omega)) _ | refine below_bytesW ?_ (by first | omega | (simp [go_sem]; done) | (simp [go_sem] <;> omega)) _ | refine Below.drew ?_ | refine below_drewN ?_ _))⟩
theorem containsPt_any (P : List GPt) (p : GPt) (a : Option Addr) (c lo : Nat) (hP : P.length ≤ 1000) (hok : ∀ q ∈ P, okP q) (hp : okP p) (w : World) (h : ListIn patCod w a P lo) :
    Calls Tryd.prog 12 #[.slice a P.length c, .agg (ptV p)] w fun e w' => e = .returned (.bool (hasPt P p)) ∧ Below w.heap.size w w' := by
  have HI := Lib.hid (fun w h => indexPt_any P p a c lo hP hok hp w h)
  have HL := Lib.hid h
  generalize hasPt P p = hb at *
  obtain ⟨pw, ph, pp, ps, pa⟩ := p
  unfold ptV at *
  dsimp only at *
  go_enter Tryd.func12, Tryd.ntmps12
  go_wp2_with (go_at_call 26; (with_reducible refine (HI.out _ ?_).mono ?_); (exact HL.out.alloc _); intro e w1 he; obtain ⟨⟨i, rfl, hd⟩, hb1⟩ := he; obtain ⟨p1, rfl⟩ := grown_of hb1; clear hb1)
  all_goals
    go_ret
    exact ⟨by first | rfl | exact ret_bool (by simp_all), (by repeat (first | exact Below.refl _ _ | assumption | refine below_grown ?_ (by first | omega | (simp [go_sem]; done) | (simp [go_sem] <;> omega)) _ | refine Below.alloc ?_ (by first | omega | (simp [go_sem]; done) | (simp [go_sem] <;> omega)) _ | refine below_bytesW ?_ (by first | omega | (simp [go_sem]; done) | (simp [go_sem] <;> omega)) _ | refine Below.drew ?_ | refine below_drewN ?_ _))⟩
end

section
open Go Go.RowKit
set_option linter.unusedSimpArgs false
set_option linter.unusedVariables false

theorem foldl_sets : ∀ (l : List Value) (s : Nat) (z : Array Value), s + l.length = z.size → (l.zipIdx s).foldl (fun (cs : Array Value) (x : Value × Nat) => cs.setIfInBounds x.snd x.fst) z = (z.toList.take s ++ l).toArray
  | [], s, z, h => by
    have : z.toList.take s = z.toList := List.take_of_length_le (by simp at h; simp [h])
    simp [this]
  | v :: l, s, z, h => by
    have hs : s < z.size := by simp at h; omega
    have ih := foldl_sets l (s + 1) (z.setIfInBounds s v) (by simp at h ⊢; omega)
    rw [List.zipIdx_cons, List.foldl_cons, ih]
    have e : (z.setIfInBounds s v).toList.take (s + 1) = z.toList.take s ++ [v] := by
      rw [Array.toList_setIfInBounds, List.take_add_one, List.take_set_of_le (Nat.le_refl _)]
      simp [hs]
    rw [e, List.append_assoc]
    rfl
@[go_sem] theorem foldl_set (z c : Array Value) (k : Nat) (hz : z.size = c.size) (hk : k = c.size) : Array.foldl (fun (cs : Array Value) (x : Value × Nat) => cs.setIfInBounds x.snd x.fst) z c.zipIdx 0 k = c := by
  have h := foldl_sets c.toList 0 z (by simp [hz])
  subst hk
  have e : c.size = c.zipIdx.size := by simp
  rw [e, ← Array.foldl_toList, Array.toList_zipIdx, h]
  simp
end
end Go.Proofs.YthklfbakffaioaaDoor
