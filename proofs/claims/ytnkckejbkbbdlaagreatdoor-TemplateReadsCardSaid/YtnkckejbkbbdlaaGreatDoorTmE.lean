/- Merged: HostP, HostQ, UrlPn. -/
import Derived.Test.YtnkckejbkbbdlaaGreatDoorTmA
import Derived.Test.YtnkckejbkbbdlaaGreatDoorTmC
import Derived.Test.YtnkckejbkbbdlaaGreatDoorTmD
import Derived.Test.YtnkckejbkbbdlaaGreatDoorTmB
import Derived.Lib.IndexAny
import Derived.Lib.ItoaNum
namespace Go.Proofs.YtnkckejbkbbdlaaGreatDoor
section
open Go Go.RowKit
set_option linter.unusedSimpArgs false
set_option linter.unusedVariables false

/-! ### labels -/
def labC (c : UInt8) : Bool := (decide ((97 : Int) ≤ c.toNat) && decide ((c.toNat : Int) ≤ 122)) || ((decide ((48 : Int) ≤ c.toNat) && decide ((c.toNat : Int) ≤ 57)) || (c == 45 || c == 95))
def labOk (x : List UInt8) : Bool := !x.isEmpty && (decide (x.length ≤ 63) && x.all labC)
theorem labOk_ne {x : List UInt8} (h : labOk x = true) : x ≠ [] := by rintro rfl; cases h
/-! ### hosts -/
def zeroH : GHost := ⟨0, [], zeroA, rfl, Nat.zero_le _⟩
def v4H (a : GAddr) : GHost := ⟨2, [], a, rfl, Nat.zero_le _⟩
def v6H (a : GAddr) : GHost := ⟨3, [], a, rfl, Nat.zero_le _⟩
def nameH (n : List UInt8) : GHost := if h : n.length ≤ 253 then ⟨1, n, zeroA, rfl, Nat.le_trans h (by decide)⟩ else zeroH
theorem nameH_eq {n : List UInt8} (h : n.length ≤ 253) : nameH n = ⟨1, n, zeroA, rfl, Nat.le_trans h (by decide)⟩ := dif_pos h
theorem nameH_name {n : List UInt8} (h : n.length ≤ 253) : (nameH n).kind = 1 ∧ (nameH n).name = n ∧ (nameH n).addr = zeroA := by rw [nameH_eq h]; exact ⟨rfl, rfl, rfl⟩
/-! ### what a text is read as -/
def six (s : List UInt8) : Bool := Lib.hasPrefix s [91]
def in1 (s : List UInt8) : List UInt8 := Lib.trimPrefix s [91]
def closedB (s : List UInt8) : Bool := Lib.hasSuffix (in1 s) [93]
def in6 (s : List UInt8) : List UInt8 := Lib.trimSuffix (in1 s) [93]
def labsL (s : List UInt8) : List (List UInt8) := splitL 46 (lowerL s)
def lastL (s : List UInt8) : List UInt8 := (labsL s).getLastD []
def lastD (s : List UInt8) : Bool := digitsB (lastL s)
def nameB (s : List UInt8) : Bool := decide (s.length ≤ 253) && (labsL s).all labOk
def parseOk (s : List UInt8) : Bool := if six s = true then v6Ok (in6 s) && closedB s else if lastD s = true then v4Ok s else nameB s
def parseH (s : List UInt8) : GHost := if parseOk s = true then (if six s = true then v6H (v6A (in6 s)) else if lastD s = true then v4H (v4A s) else nameH (lowerL s)) else zeroH
def parseE (s : List UInt8) : Int := if parseOk s = true then 0 else 31
def addrOk (k : Int) (a : GAddr) (ok : Bool) : GHost := if ok = true then (if k = 2 then v4H a else v6H a) else zeroH
def errOf (ok : Bool) : Int := if ok = true then 0 else 31
theorem parseOk_six {s : List UInt8} (h : six s = true) : parseOk s = (v6Ok (in6 s) && closedB s) := if_pos h
theorem parseOk_four {s : List UInt8} (h : six s = false) (h2 : lastD s = true) : parseOk s = v4Ok s := by
  unfold parseOk; simp [h, h2]
theorem parseOk_name {s : List UInt8} (h : six s = false) (h2 : lastD s = false) : parseOk s = nameB s := by
  unfold parseOk; simp [h, h2]
theorem parse_six {s : List UInt8} (h : six s = true) : parseH s = addrOk 3 (v6A (in6 s)) (v6Ok (in6 s) && closedB s) ∧ parseE s = errOf (v6Ok (in6 s) && closedB s) := by
  unfold parseH parseE
  rw [parseOk_six h, h]
  exact ⟨rfl, rfl⟩
theorem parse_four {s : List UInt8} (h : six s = false) (h2 : lastD s = true) : parseH s = addrOk 2 (v4A s) (v4Ok s) ∧ parseE s = errOf (v4Ok s) := by
  unfold parseH parseE
  rw [parseOk_four h h2, h, h2]
  exact ⟨rfl, rfl⟩
theorem parse_name {s : List UInt8} (h : six s = false) (h2 : lastD s = false) (h3 : nameB s = true) : parseH s = nameH (lowerL s) ∧ parseE s = 0 := by
  unfold parseH parseE
  rw [parseOk_name h h2, h3, h, h2]
  exact ⟨rfl, rfl⟩
theorem parse_none {s : List UInt8} (h : six s = false) (h2 : lastD s = false) (h3 : nameB s = false) : parseH s = zeroH ∧ parseE s = 31 := by
  unfold parseH parseE
  rw [parseOk_name h h2, h3]
  exact ⟨rfl, rfl⟩
theorem nameB_cases (s : List UInt8) : (253 < s.length ∧ nameB s = false) ∨ (s.length ≤ 253 ∧ (labsL s).any (fun x => !labOk x) = true ∧ nameB s = false) ∨ (s.length ≤ 253 ∧ (labsL s).any (fun x => !labOk x) = false ∧ nameB s = true) := by
  by_cases h : s.length ≤ 253
  · have e : (labsL s).all labOk = !(labsL s).any (fun x => !labOk x) := by
      rw [List.all_eq_not_any_not]
    cases ha : (labsL s).any (fun x => !labOk x)
    · exact .inr (.inr ⟨h, rfl, by rw [nameB, e, ha]; simp [h]⟩)
    · exact .inr (.inl ⟨h, rfl, by rw [nameB, e, ha]; simp⟩)
  · exact .inl ⟨by omega, by simp [nameB, h]⟩
theorem labs_join (s : List UInt8) : joinL 46 (labsL s) = lowerL s := join_split 46 _
theorem labs_ne (s : List UInt8) : labsL s ≠ [] := splitL_ne 46 _
theorem lastL_eq (s : List UInt8) (h : (labsL s).length - 1 < (labsL s).length) : (labsL s)[(labsL s).length - 1]'h = lastL s := by
  unfold lastL
  rw [List.getLastD_eq_getLast?, List.getLast?_eq_getElem?, List.getElem?_eq_getElem h]
  rfl
/-! ### texts -/
def textH (h : GHost) : List UInt8 := if h.kind = 1 then h.name else if h.kind = 2 then text4L h.addr.b else if h.kind = 3 then [91] ++ text6L h.addr.b ++ [93] else []
def rightB (h : GHost) : Bool := parseOk (textH h) && hostEq (parseH (textH h)) h
def nameOk (h : GHost) : Bool := h.kind == 1 && rightB h
def labelsL (h : GHost) : List (List UInt8) := if nameOk h = true then splitL 46 h.name else []
def tailOk (h : GHost) (n : Int) : Bool := decide (1 ≤ n) && decide (n ≤ (labelsL h).length)
def tailN (h : GHost) (n : Int) : List UInt8 := joinL 46 ((labelsL h).drop ((labelsL h).length - n.toNat))
def tailH (h : GHost) (n : Int) : GHost := if tailOk h n = true then nameH (tailN h n) else zeroH
def underB (h d : GHost) : Bool := if (labelsL d).length = 0 ∨ (labelsL h).length ≤ (labelsL d).length then false else hostEq (tailH h (labelsL d).length) d
end

section
open Go Go.RowKit
set_option linter.unusedSimpArgs false
set_option linter.unusedVariables false

theorem lowC_lab (c : UInt8) (h : labC c = true) : lowC c = c := by
  have key : ∀ i : Fin 256, labC (UInt8.ofNat i.val) = true → lowC (UInt8.ofNat i.val) = UInt8.ofNat i.val := by decide +kernel
  have := key ⟨c.toNat, c.toNat_lt⟩
  simp only [UInt8.ofNat_toNat] at this
  exact this h
theorem labOk_all {x : List UInt8} (h : labOk x = true) : x.all labC = true := by
  unfold labOk at h
  simp only [Bool.and_eq_true] at h
  exact h.2.2
theorem lowerL_lab {x : List UInt8} (h : labOk x = true) : lowerL x = x := by
  have ha := labOk_all h
  unfold lowerL
  rw [List.all_eq_true] at ha
  conv => rhs; rw [← List.map_id x]
  exact List.map_congr_left fun c hc => lowC_lab c (ha c hc)
theorem join_append (c : UInt8) : ∀ A B : List (List UInt8), A ≠ [] → B ≠ [] → joinL c (A ++ B) = joinL c A ++ c :: joinL c B
  | [], _, h, _ => absurd rfl h
  | [x], [], _, h => absurd rfl h
  | [x], y :: B, _, _ => by simp [joinL]
  | x :: y :: A, B, _, hB => by
    have ih := join_append c (y :: A) B (by simp) hB
    have e : x :: y :: A ++ B = x :: y :: (A ++ B) := rfl
    rw [e]
    have e2 : y :: A ++ B = y :: (A ++ B) := rfl
    rw [e2] at ih
    simp [joinL, ih]
theorem lowerL_append (a b : List UInt8) : lowerL (a ++ b) = lowerL a ++ lowerL b := by simp [lowerL]
theorem lowerL_join : ∀ L : List (List UInt8), lowerL (joinL 46 L) = joinL 46 (L.map lowerL)
  | [] => rfl
  | [x] => rfl
  | x :: y :: L => by
    have ih := lowerL_join (y :: L)
    have e : joinL 46 (x :: y :: L) = x ++ 46 :: joinL 46 (y :: L) := by
      rfl
    have e2 : joinL 46 ((x :: y :: L).map lowerL) = lowerL x ++ 46 :: joinL 46 ((y :: L).map lowerL) := by
      rfl
    rw [e, e2, ← ih, lowerL_append]
    rfl
theorem map_lower_lab {L : List (List UInt8)} (h : L.all labOk = true) : L.map lowerL = L := by
  rw [List.all_eq_true] at h
  conv => rhs; rw [← List.map_id L]
  exact List.map_congr_left fun x hx => lowerL_lab (h x hx)
theorem lower_name {n : List UInt8} (h : (splitL 46 n).all labOk = true) : lowerL n = n := by
  conv => lhs; rw [← join_split 46 n]
  rw [lowerL_join, map_lower_lab h, join_split]
theorem six_name {n : List UInt8} (h : (splitL 46 n).all labOk = true) : six n = false := by
  cases n with
  | nil => rfl
  | cons c t =>
    by_cases hc : c = 91
    · subst hc
      obtain ⟨p, ps, h1, h2⟩ := splitL_cons 46 91 t (by decide)
      rw [h2, List.all_cons, Bool.and_eq_true] at h
      have := labOk_all h.1
      rw [List.all_cons, Bool.and_eq_true] at this
      exact absurd this.1 (by decide)
    · show ((91 : UInt8) == c && List.isPrefixOf [] t) = false
      rw [beq_eq_false_iff_ne.2 (Ne.symm hc)]; rfl
theorem name_good {n : List UInt8} (h1 : n.length ≤ 253) (h2 : (splitL 46 n).all labOk = true) (h3 : digitsB ((splitL 46 n).getLastD []) = false) : parseOk n = true ∧ parseH n = nameH n := by
  have hl := lower_name h2
  have h6 := six_name h2
  have hL : labsL n = splitL 46 n := by unfold labsL; rw [hl]
  have hD : lastD n = false := by unfold lastD lastL; rw [hL]; exact h3
  have hB : nameB n = true := by unfold nameB; rw [hL, h2]; simp [h1]
  refine ⟨by rw [parseOk_name h6 hD, hB], ?_⟩
  rw [(parse_name h6 hD hB).1, hl]
theorem name_right {n : List UInt8} (h1 : n.length ≤ 253) (h2 : (splitL 46 n).all labOk = true) (h3 : digitsB ((splitL 46 n).getLastD []) = false) : nameOk (nameH n) = true ∧ labelsL (nameH n) = splitL 46 n := by
  obtain ⟨e1, e2⟩ := name_good h1 h2 h3
  obtain ⟨k1, k2, k3⟩ := nameH_name h1
  have hk : nameOk (nameH n) = true := by
    unfold nameOk rightB textH
    rw [if_pos k1, k1, k2, e1, e2]
    simp [(hostEq_iff _ _).2 rfl]
  exact ⟨hk, by rw [labelsL, if_pos hk, k2]⟩
theorem addrOk_kind (k : Int) (a : GAddr) (ok : Bool) : (addrOk k a ok).kind ≠ 1 := by
  unfold addrOk
  split
  · split
    · show (2 : Int) ≠ 1; decide
    · show (3 : Int) ≠ 1; decide
  · show (0 : Int) ≠ 1; decide
theorem nameOk_facts {h : GHost} (hk : nameOk h = true) : h = nameH h.name ∧ h.name.length ≤ 253 ∧ (splitL 46 h.name).all labOk = true ∧ digitsB ((splitL 46 h.name).getLastD []) = false := by
  unfold nameOk rightB at hk
  simp only [Bool.and_eq_true, beq_iff_eq, hostEq_iff] at hk
  obtain ⟨k1, k2, k3⟩ := hk
  have ht : textH h = h.name := if_pos k1
  rw [ht] at k2 k3
  cases h6 : six h.name
  · cases hD : lastD h.name
    · rw [parseOk_name h6 hD] at k2
      have hp := (parse_name h6 hD k2).1
      unfold nameB at k2
      simp only [Bool.and_eq_true, decide_eq_true_eq] at k2
      obtain ⟨hl, ha⟩ := k2
      have hll : (lowerL h.name).length ≤ 253 := by simpa [lowerL] using hl
      have he : h.name = lowerL h.name := by
        have := congrArg GHost.name (k3.symm.trans hp)
        rwa [(nameH_name hll).2.1] at this
      have hL : labsL h.name = splitL 46 h.name := by unfold labsL; rw [← he]
      refine ⟨by conv => lhs; rw [← k3, hp, ← he], hl, by rw [← hL]; exact ha, ?_⟩
      unfold lastD lastL at hD
      rwa [hL] at hD
    · exact absurd (by rw [← (parse_four h6 hD).1, k3]; exact k1) (addrOk_kind 2 (v4A h.name) (v4Ok h.name))
  · exact absurd (by rw [← (parse_six h6).1, k3]; exact k1) (addrOk_kind 3 (v6A (in6 h.name)) (v6Ok (in6 h.name) && closedB h.name))
theorem labels_ok {h : GHost} (hk : nameOk h = true) : labelsL h = splitL 46 h.name := if_pos hk
theorem labels_ne {h : GHost} (hl : labelsL h ≠ []) : nameOk h = true := by
  cases hk : nameOk h
  · exact absurd (by unfold labelsL; rw [hk]; rfl) hl
  · rfl
theorem join_drop_len (c : UInt8) : ∀ (k : Nat) (L : List (List UInt8)), (joinL c (L.drop k)).length ≤ (joinL c L).length
  | 0, L => by simp
  | k + 1, [] => by simp
  | k + 1, [x] => by simp [joinL]
  | k + 1, x :: y :: L => by
    have ih := join_drop_len c k (y :: L)
    have e := join_append c [x] (y :: L) (by simp) (by simp)
    rw [List.singleton_append] at e
    rw [e, List.length_append, List.length_cons]
    show (joinL c ((y :: L).drop k)).length ≤ _
    omega
theorem getLastD_drop {α : Type} (L : List α) (k : Nat) (d : α) (h : k < L.length) : (L.drop k).getLastD d = L.getLastD d := by
  rw [List.getLastD_eq_getLast?, List.getLastD_eq_getLast?, List.getLast?_drop, if_neg (by omega)]
theorem tail_facts {h : GHost} {n : Int} (ht : tailOk h n = true) : 1 ≤ n ∧ n ≤ (labelsL h).length ∧ tailH h n = nameH (tailN h n) ∧ (tailN h n).length ≤ 253 ∧ nameOk (tailH h n) = true ∧ labelsL (tailH h n) = (labelsL h).drop ((labelsL h).length - n.toNat) := by
  have htt := ht
  unfold tailOk at ht
  simp only [Bool.and_eq_true, decide_eq_true_eq] at ht
  obtain ⟨h1, h2⟩ := ht
  have hne : labelsL h ≠ [] := by
    intro e
    rw [e] at h2
    simp at h2
    omega
  have hk := labels_ne hne
  have hL := labels_ok hk
  obtain ⟨f1, f2, f3, f4⟩ := nameOk_facts hk
  rw [← hL] at f3 f4
  have hj : joinL 46 (labelsL h) = h.name := by rw [hL, join_split]
  have hdne : (labelsL h).drop ((labelsL h).length - n.toNat) ≠ [] := by
    intro e
    have := congrArg List.length e
    simp at this
    omega
  have hno : ∀ p ∈ (labelsL h).drop ((labelsL h).length - n.toNat), (46 : UInt8) ∉ p := fun p hp => splitL_no 46 h.name p (by rw [← hL]; exact List.mem_of_mem_drop hp)
  have hsp : splitL 46 (tailN h n) = (labelsL h).drop ((labelsL h).length - n.toNat) := split_join 46 _ hdne hno
  have hlen : (tailN h n).length ≤ 253 := by
    have := join_drop_len 46 ((labelsL h).length - n.toNat) (labelsL h)
    rw [hj] at this
    exact Nat.le_trans this f2
  have hT : tailH h n = nameH (tailN h n) := if_pos htt
  have ha : (splitL 46 (tailN h n)).all labOk = true := by
    rw [hsp, List.all_eq_true]
    rw [List.all_eq_true] at f3
    exact fun p hp => f3 p (List.mem_of_mem_drop hp)
  have hd : digitsB ((splitL 46 (tailN h n)).getLastD []) = false := by
    rw [hsp, getLastD_drop _ _ _ (by omega)]; exact f4
  obtain ⟨r1, r2⟩ := name_right hlen ha hd
  exact ⟨h1, h2, hT, hlen, by rw [hT]; exact r1, by rw [hT, r2, hsp]⟩
theorem tail_no {h : GHost} {n : Int} (ht : tailOk h n = false) : tailH h n = zeroH := if_neg (by rw [ht]; decide)
theorem under_self (h : GHost) : underB h h = false := if_pos (by omega)
theorem tail_eq {h : GHost} (hk : nameOk h = true) : tailH h (labelsL h).length = h := by
  have hL := labels_ok hk
  obtain ⟨f1, f2, f3, f4⟩ := nameOk_facts hk
  have hpos : 0 < (labelsL h).length := by rw [hL]; exact splitL_pos 46 _
  have ht : tailOk h (labelsL h).length = true := by unfold tailOk; simp; omega
  rw [tailH, if_pos ht, tailN]
  simp only [Int.toNat_natCast, Nat.sub_self, List.drop_zero]
  rw [hL, join_split]
  exact f1.symm
theorem orders_plain {h : GHost} {a b : Int} (ha : tailOk h a = true) (hb : tailOk h b = true) : underB h (tailH h a) = decide (a < (labelsL h).length) ∧ underB (tailH h a) (tailH h b) = decide (b < a) ∧ hostEq (tailH h b) (tailH h a) = (a == b) ∧ ((labelsL (tailH h a)).length : Int) = a := by
  obtain ⟨a1, a2, a3, a4, a5, a6⟩ := tail_facts ha
  obtain ⟨b1, b2, b3, b4, b5, b6⟩ := tail_facts hb
  have la : (labelsL (tailH h a)).length = a.toNat := by rw [a6, List.length_drop]; omega
  have lb : (labelsL (tailH h b)).length = b.toNat := by rw [b6, List.length_drop]; omega
  have ea : ((a.toNat : Nat) : Int) = a := by omega
  have eb : ((b.toNat : Nat) : Int) = b := by omega
  refine ⟨?_, ?_, ?_, by rw [la, ea]⟩
  · unfold underB
    rw [la, ea]
    by_cases hlt : a < (labelsL h).length
    · rw [if_neg (by omega), (hostEq_iff _ _).2 rfl]; simp [hlt]
    · rw [if_pos (by omega)]; simp [hlt]
  · unfold underB
    rw [la, lb, eb]
    by_cases hlt : b < a
    · rw [if_neg (by omega)]
      have ht : tailOk (tailH h a) b = true := by unfold tailOk; rw [la]; simp; omega
      have : tailH (tailH h a) b = tailH h b := by
        rw [(tail_facts ht).2.2.1, b3]
        congr 1
        unfold tailN
        rw [la, a6, List.drop_drop]
        congr 2
        omega
      rw [this, (hostEq_iff _ _).2 rfl]; simp [hlt]
    · rw [if_pos (by omega)]; simp [hlt]
  · rw [Bool.eq_iff_iff, hostEq_iff, beq_iff_eq]
    constructor
    · intro e
      have := congrArg (fun g => (labelsL g).length) e
      simp only [la, lb] at this
      omega
    · rintro rfl; rfl
/-! ### the document's way -/
def refUnderB (h d : GHost) : Bool := !(labelsL h).isEmpty && (!(labelsL d).isEmpty && (decide (d.name.length + 1 < h.name.length) && (h.name.drop (h.name.length - (d.name.length + 1)) == 46 :: d.name)))
theorem under_ref (h d : GHost) : underB h d = refUnderB h d := by
  by_cases hl : labelsL h = []
  · unfold underB refUnderB
    rw [hl]
    simp
  by_cases hm : labelsL d = []
  · unfold underB refUnderB
    rw [hm]
    simp
  have kh := labels_ne hl
  have kd := labels_ne hm
  have hL := labels_ok kh
  have hM := labels_ok kd
  obtain ⟨f1, f2, f3, f4⟩ := nameOk_facts kh
  obtain ⟨g1, g2, g3, g4⟩ := nameOk_facts kd
  have hl0 : (labelsL h).isEmpty = false := by rw [List.isEmpty_eq_false_iff]; exact hl
  have hm0 : (labelsL d).isEmpty = false := by rw [List.isEmpty_eq_false_iff]; exact hm
  have hmpos : 0 < (labelsL d).length := List.length_pos_iff.2 hm
  have hjh : joinL 46 (labelsL h) = h.name := by rw [hL, join_split]
  have hjd : joinL 46 (labelsL d) = d.name := by rw [hM, join_split]
  unfold underB refUnderB
  rw [hl0, hm0, Bool.eq_iff_iff]
  simp only [Bool.not_false, Bool.true_and, Bool.and_eq_true, decide_eq_true_eq, beq_iff_eq]
  constructor
  · intro hu
    split at hu
    · cases hu
    · rename_i hc
      have hlt : (labelsL d).length < (labelsL h).length := by omega
      have ht : tailOk h (labelsL d).length = true := by unfold tailOk; simp; omega
      rw [hostEq_iff, (tail_facts ht).2.2.1] at hu
      have hn : tailN h (labelsL d).length = d.name := by
        have := congrArg GHost.name hu
        rwa [(nameH_name (tail_facts ht).2.2.2.1).2.1] at this
      unfold tailN at hn
      simp only [Int.toNat_natCast] at hn
      have hsplit : h.name = joinL 46 ((labelsL h).take ((labelsL h).length - (labelsL d).length)) ++ 46 :: d.name := by
        rw [← hjh, ← hn]
        conv => lhs; rw [← List.take_append_drop ((labelsL h).length - (labelsL d).length) (labelsL h)]
        rw [join_append]
        · intro e; have := congrArg List.length e; simp at this; omega
        · intro e; have := congrArg List.length e; simp at this; omega
      have hX : joinL 46 ((labelsL h).take ((labelsL h).length - (labelsL d).length)) ≠ [] := by
        apply joinL_ne
        · intro e; have := congrArg List.length e; simp at this; omega
        · intro p hp
          rw [← hL, List.all_eq_true] at f3
          exact labOk_ne (f3 p (List.mem_of_mem_take hp))
      generalize joinL 46 ((labelsL h).take ((labelsL h).length - (labelsL d).length)) = X at *
      have hXl : 0 < X.length := List.length_pos_iff.2 hX
      rw [hsplit]
      refine ⟨by simp; omega, ?_⟩
      have : (X ++ 46 :: d.name).length - (d.name.length + 1) = X.length := by simp
      rw [this, List.drop_left]
  · rintro ⟨h1, h2⟩
    obtain ⟨X, hX⟩ : ∃ X, X = h.name.take (h.name.length - (d.name.length + 1)) := ⟨_, rfl⟩
    have hsplit : h.name = X ++ 46 :: d.name := by rw [hX, ← h2, List.take_append_drop]
    have hLs : labelsL h = splitL 46 X ++ labelsL d := by rw [hL, hM, hsplit, splitL_app]
    have hXp := splitL_pos 46 X
    have hlen : (labelsL h).length = (splitL 46 X).length + (labelsL d).length := by rw [hLs, List.length_append]
    rw [if_neg (by omega), hostEq_iff]
    have ht : tailOk h (labelsL d).length = true := by unfold tailOk; simp; omega
    rw [(tail_facts ht).2.2.1]
    have : tailN h (labelsL d).length = d.name := by
      unfold tailN
      simp only [Int.toNat_natCast]
      rw [hlen, Nat.add_sub_cancel, hLs, List.drop_left, hjd]
    rw [this]
    exact g1.symm
end

section
open Go Go.RowKit
set_option linter.unusedSimpArgs false
set_option linter.unusedVariables false

def pathC (c : UInt8) : Bool := (decide ((33 : Int) ≤ c.toNat) && decide ((c.toNat : Int) ≤ 126)) && (!(c == 63) && !(c == 35))
def pathOk (s : List UInt8) : Bool := decide (1 ≤ s.length) && (decide (s.length ≤ 2048) && ((s.headD 0 == 47) && s.all pathC))
def rightU (h : GHost) (po : Int) (pa : List UInt8) : Bool := rightB h && (decide (1 ≤ po) && (decide (po ≤ 65535) && pathOk pa))
def httpT : List UInt8 := [104, 116, 116, 112, 58, 47, 47]
def httpsT : List UInt8 := [104, 116, 116, 112, 115, 58, 47, 47]
def usualT (safe : Bool) : List UInt8 := if safe = true then httpsT else httpT
def usualP (safe : Bool) : Int := if safe = true then 443 else 80
/-- A text of a URL that can be. -/
def goodT (safe : Bool) (h : GHost) (po : Int) (pa : List UInt8) : List UInt8 := usualT safe ++ textH h ++ (if po = usualP safe then [] else [58] ++ Lib.decDigits po.toNat) ++ pa
def textU (safe : Bool) (h : GHost) (po : Int) (pa : List UInt8) : List UInt8 := if rightU h po pa = true then goodT safe h po pa else []
theorem path_byte {s : List UInt8} (h : pathOk s = true) : 1 ≤ s.length ∧ s.length ≤ 2048 ∧ s.headD 0 = 47 ∧ s.all pathC = true := by
  unfold pathOk at h
  simp only [Bool.and_eq_true, decide_eq_true_eq, beq_iff_eq] at h
  exact ⟨h.1, h.2.1, h.2.2.1, h.2.2.2⟩
theorem pathC_cases (c : UInt8) : ((c.toNat : Int) < 33 ∧ pathC c = false) ∨ ((126 : Int) < c.toNat ∧ pathC c = false) ∨ ((33 : Int) ≤ c.toNat ∧ (c.toNat : Int) ≤ 126 ∧ (((c.toNat : Int) == 63) = true) ∧ (((c.toNat : Int) == 35) = false) ∧ pathC c = false) ∨
    ((33 : Int) ≤ c.toNat ∧ (c.toNat : Int) ≤ 126 ∧ (((c.toNat : Int) == 63) = false) ∧ (((c.toNat : Int) == 35) = true) ∧ pathC c = false) ∨ ((33 : Int) ≤ c.toNat ∧ (c.toNat : Int) ≤ 126 ∧ (((c.toNat : Int) == 63) = false) ∧ (((c.toNat : Int) == 35) = false) ∧ pathC c = true) := by
  have key : ∀ i : Fin 256, ((i.val : Int) < 33 ∧ pathC (UInt8.ofNat i.val) = false) ∨ ((126 : Int) < i.val ∧ pathC (UInt8.ofNat i.val) = false) ∨ ((33 : Int) ≤ i.val ∧ (i.val : Int) ≤ 126 ∧ (((i.val : Int) == 63) = true) ∧ (((i.val : Int) == 35) = false) ∧ pathC (UInt8.ofNat i.val) = false) ∨
    ((33 : Int) ≤ i.val ∧ (i.val : Int) ≤ 126 ∧ (((i.val : Int) == 63) = false) ∧ (((i.val : Int) == 35) = true) ∧ pathC (UInt8.ofNat i.val) = false) ∨ ((33 : Int) ≤ i.val ∧ (i.val : Int) ≤ 126 ∧ (((i.val : Int) == 63) = false) ∧ (((i.val : Int) == 35) = false) ∧ pathC (UInt8.ofNat i.val) = true) := by decide +kernel
  have := key ⟨c.toNat, c.toNat_lt⟩
  simpa using this
/-! ### what a text is read as -/
def afterB (s f : List UInt8) : Bool := decide (f.length ≤ s.length) && sameB (s.take f.length) f
/-- The text of a host, and what stands behind it. -/
def cutHP (s : List UInt8) : List UInt8 × List UInt8 :=
  if Lib.hasPrefix s [91] = true then (if 0 ≤ Lib.indexByte s 93 then (s.take ((Lib.indexByte s 93).toNat + 1), s.drop ((Lib.indexByte s 93).toNat + 1)) else (s, []))
  else if 0 ≤ Lib.indexByte s 58 then (s.take (Lib.indexByte s 58).toNat, s.drop (Lib.indexByte s 58).toNat) else (s, [])
/-- The error, the host, the port. -/
def placeL (s : List UInt8) (port : Int) : Int × GHost × Int :=
  let n := (cutHP s).1
  let b := (cutHP s).2
  if parseOk n = false ∨ (b ≠ [] ∧ b.headD 0 ≠ 58) then (31, zeroH, 0)
  else if b = [] then (0, parseH n, port)
  else if numOk b.tail = false ∨ numV b.tail < 1 ∨ 65535 < numV b.tail then (42, zeroH, 0)
  else (0, parseH n, numV b.tail)
def cutAny (s cs : List UInt8) : Nat := if 0 ≤ Lib.indexAny s cs then (Lib.indexAny s cs).toNat else s.length
def pathOf (s : List UInt8) : List UInt8 := if s.take (cutAny s [63, 35]) = [] then [47] else s.take (cutAny s [63, 35])
/-- The error, the host, the port, the path of what stands behind the scheme. -/
def restL (safe : Bool) (r : List UInt8) : Int × GHost × Int × List UInt8 :=
  let at' := cutAny r [47, 63, 35]
  let p := placeL (r.take at') (usualP safe)
  if p.1 ≠ 0 then (p.1, zeroH, 0, [])
  else if pathOk (pathOf (r.drop at')) = false then (43, zeroH, 0, [])
  else (0, p.2.1, p.2.2, pathOf (r.drop at'))
/-- The error, and what a text is read as. -/
def outOf (safe : Bool) (x : Int × GHost × Int × List UInt8) : Int × (Bool × GHost × Int × List UInt8) := if x.1 = 0 then (0, safe, x.2) else (x.1, false, zeroH, 0, [])
def urlOut (s : List UInt8) : Int × (Bool × GHost × Int × List UInt8) :=
  if afterB s httpsT = true then outOf true (restL true (s.drop 8)) else if afterB s httpT = true then outOf false (restL false (s.drop 7)) else (41, false, zeroH, 0, [])
def asc (c : UInt8) : Bool := decide (c.toNat < 128)
end
end Go.Proofs.YtnkckejbkbbdlaaGreatDoor
