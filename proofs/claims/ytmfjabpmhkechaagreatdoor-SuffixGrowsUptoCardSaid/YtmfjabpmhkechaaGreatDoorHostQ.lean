/- Plain laws on hosts: names that can be, their tails, and what is below what. -/
import Derived.Test.YtmfjabpmhkechaaGreatDoorHostP
import Derived.Test.YtmfjabpmhkechaaGreatDoorAddrT
namespace Go.Proofs.YtmfjabpmhkechaaGreatDoor
open Go Go.RowKit
set_option linter.unusedSimpArgs false
set_option linter.unusedVariables false

theorem lowC_lab (c : UInt8) (h : labC c = true) : lowC c = c := by
  have key : ∀ i : Fin 256, labC (UInt8.ofNat i.val) = true → lowC (UInt8.ofNat i.val) = UInt8.ofNat i.val := by decide +kernel
  have := key ⟨c.toNat, c.toNat_lt⟩
  simp only [UInt8.ofNat_toNat] at this
  exact this h
theorem labOk_all {x : List UInt8} (h : labOk x = true) : x.all labC = true := by
  unfold labOk at h
  simp only [Bool.and_eq_true] at h
  exact h.2.2
theorem lowerL_lab {x : List UInt8} (h : labOk x = true) : lowerL x = x := by
  have ha := labOk_all h
  unfold lowerL
  rw [List.all_eq_true] at ha
  conv => rhs; rw [← List.map_id x]
  exact List.map_congr_left fun c hc => lowC_lab c (ha c hc)
theorem join_append (c : UInt8) : ∀ A B : List (List UInt8), A ≠ [] → B ≠ [] → joinL c (A ++ B) = joinL c A ++ c :: joinL c B
  | [], _, h, _ => absurd rfl h
  | [x], [], _, h => absurd rfl h
  | [x], y :: B, _, _ => by simp [joinL]
  | x :: y :: A, B, _, hB => by
    have ih := join_append c (y :: A) B (by simp) hB
    have e : x :: y :: A ++ B = x :: y :: (A ++ B) := rfl
    rw [e]
    have e2 : y :: A ++ B = y :: (A ++ B) := rfl
    rw [e2] at ih
    simp [joinL, ih]
theorem lowerL_append (a b : List UInt8) : lowerL (a ++ b) = lowerL a ++ lowerL b := by simp [lowerL]
theorem lowerL_join : ∀ L : List (List UInt8), lowerL (joinL 46 L) = joinL 46 (L.map lowerL)
  | [] => rfl
  | [x] => rfl
  | x :: y :: L => by
    have ih := lowerL_join (y :: L)
    have e : joinL 46 (x :: y :: L) = x ++ 46 :: joinL 46 (y :: L) := by
      rfl
    have e2 : joinL 46 ((x :: y :: L).map lowerL) = lowerL x ++ 46 :: joinL 46 ((y :: L).map lowerL) := by
      rfl
    rw [e, e2, ← ih, lowerL_append]
    rfl
theorem map_lower_lab {L : List (List UInt8)} (h : L.all labOk = true) : L.map lowerL = L := by
  rw [List.all_eq_true] at h
  conv => rhs; rw [← List.map_id L]
  exact List.map_congr_left fun x hx => lowerL_lab (h x hx)
theorem lower_name {n : List UInt8} (h : (splitL 46 n).all labOk = true) : lowerL n = n := by
  conv => lhs; rw [← join_split 46 n]
  rw [lowerL_join, map_lower_lab h, join_split]
theorem six_name {n : List UInt8} (h : (splitL 46 n).all labOk = true) : six n = false := by
  cases n with
  | nil => rfl
  | cons c t =>
    by_cases hc : c = 91
    · subst hc
      obtain ⟨p, ps, h1, h2⟩ := splitL_cons 46 91 t (by decide)
      rw [h2, List.all_cons, Bool.and_eq_true] at h
      have := labOk_all h.1
      rw [List.all_cons, Bool.and_eq_true] at this
      exact absurd this.1 (by decide)
    · show ((91 : UInt8) == c && List.isPrefixOf [] t) = false
      rw [beq_eq_false_iff_ne.2 (Ne.symm hc)]; rfl
theorem name_good {n : List UInt8} (h1 : n.length ≤ 253) (h2 : (splitL 46 n).all labOk = true) (h3 : digitsB ((splitL 46 n).getLastD []) = false) : parseOk n = true ∧ parseH n = nameH n := by
  have hl := lower_name h2
  have h6 := six_name h2
  have hL : labsL n = splitL 46 n := by unfold labsL; rw [hl]
  have hD : lastD n = false := by unfold lastD lastL; rw [hL]; exact h3
  have hB : nameB n = true := by unfold nameB; rw [hL, h2]; simp [h1]
  refine ⟨by rw [parseOk_name h6 hD, hB], ?_⟩
  rw [(parse_name h6 hD hB).1, hl]
theorem name_right {n : List UInt8} (h1 : n.length ≤ 253) (h2 : (splitL 46 n).all labOk = true) (h3 : digitsB ((splitL 46 n).getLastD []) = false) : nameOk (nameH n) = true ∧ labelsL (nameH n) = splitL 46 n := by
  obtain ⟨e1, e2⟩ := name_good h1 h2 h3
  obtain ⟨k1, k2, k3⟩ := nameH_name h1
  have hk : nameOk (nameH n) = true := by
    unfold nameOk rightB textH
    rw [if_pos k1, k1, k2, e1, e2]
    simp [(hostEq_iff _ _).2 rfl]
  exact ⟨hk, by rw [labelsL, if_pos hk, k2]⟩
theorem addrOk_kind (k : Int) (a : GAddr) (ok : Bool) : (addrOk k a ok).kind ≠ 1 := by
  unfold addrOk
  split
  · split
    · show (2 : Int) ≠ 1; decide
    · show (3 : Int) ≠ 1; decide
  · show (0 : Int) ≠ 1; decide
theorem nameOk_facts {h : GHost} (hk : nameOk h = true) : h = nameH h.name ∧ h.name.length ≤ 253 ∧ (splitL 46 h.name).all labOk = true ∧ digitsB ((splitL 46 h.name).getLastD []) = false := by
  unfold nameOk rightB at hk
  simp only [Bool.and_eq_true, beq_iff_eq, hostEq_iff] at hk
  obtain ⟨k1, k2, k3⟩ := hk
  have ht : textH h = h.name := if_pos k1
  rw [ht] at k2 k3
  cases h6 : six h.name
  · cases hD : lastD h.name
    · rw [parseOk_name h6 hD] at k2
      have hp := (parse_name h6 hD k2).1
      unfold nameB at k2
      simp only [Bool.and_eq_true, decide_eq_true_eq] at k2
      obtain ⟨hl, ha⟩ := k2
      have hll : (lowerL h.name).length ≤ 253 := by simpa [lowerL] using hl
      have he : h.name = lowerL h.name := by
        have := congrArg GHost.name (k3.symm.trans hp)
        rwa [(nameH_name hll).2.1] at this
      have hL : labsL h.name = splitL 46 h.name := by unfold labsL; rw [← he]
      refine ⟨by conv => lhs; rw [← k3, hp, ← he], hl, by rw [← hL]; exact ha, ?_⟩
      unfold lastD lastL at hD
      rwa [hL] at hD
    · exact absurd (by rw [← (parse_four h6 hD).1, k3]; exact k1) (addrOk_kind 2 (v4A h.name) (v4Ok h.name))
  · exact absurd (by rw [← (parse_six h6).1, k3]; exact k1) (addrOk_kind 3 (v6A (in6 h.name)) (v6Ok (in6 h.name) && closedB h.name))
theorem labels_ok {h : GHost} (hk : nameOk h = true) : labelsL h = splitL 46 h.name := if_pos hk
theorem labels_ne {h : GHost} (hl : labelsL h ≠ []) : nameOk h = true := by
  cases hk : nameOk h
  · exact absurd (by unfold labelsL; rw [hk]; rfl) hl
  · rfl
theorem join_drop_len (c : UInt8) : ∀ (k : Nat) (L : List (List UInt8)), (joinL c (L.drop k)).length ≤ (joinL c L).length
  | 0, L => by simp
  | k + 1, [] => by simp
  | k + 1, [x] => by simp [joinL]
  | k + 1, x :: y :: L => by
    have ih := join_drop_len c k (y :: L)
    have e := join_append c [x] (y :: L) (by simp) (by simp)
    rw [List.singleton_append] at e
    rw [e, List.length_append, List.length_cons]
    show (joinL c ((y :: L).drop k)).length ≤ _
    omega
theorem getLastD_drop {α : Type} (L : List α) (k : Nat) (d : α) (h : k < L.length) : (L.drop k).getLastD d = L.getLastD d := by
  rw [List.getLastD_eq_getLast?, List.getLastD_eq_getLast?, List.getLast?_drop, if_neg (by omega)]
theorem tail_facts {h : GHost} {n : Int} (ht : tailOk h n = true) : 1 ≤ n ∧ n ≤ (labelsL h).length ∧ tailH h n = nameH (tailN h n) ∧ (tailN h n).length ≤ 253 ∧ nameOk (tailH h n) = true ∧ labelsL (tailH h n) = (labelsL h).drop ((labelsL h).length - n.toNat) := by
  have htt := ht
  unfold tailOk at ht
  simp only [Bool.and_eq_true, decide_eq_true_eq] at ht
  obtain ⟨h1, h2⟩ := ht
  have hne : labelsL h ≠ [] := by
    intro e
    rw [e] at h2
    simp at h2
    omega
  have hk := labels_ne hne
  have hL := labels_ok hk
  obtain ⟨f1, f2, f3, f4⟩ := nameOk_facts hk
  rw [← hL] at f3 f4
  have hj : joinL 46 (labelsL h) = h.name := by rw [hL, join_split]
  have hdne : (labelsL h).drop ((labelsL h).length - n.toNat) ≠ [] := by
    intro e
    have := congrArg List.length e
    simp at this
    omega
  have hno : ∀ p ∈ (labelsL h).drop ((labelsL h).length - n.toNat), (46 : UInt8) ∉ p := fun p hp => splitL_no 46 h.name p (by rw [← hL]; exact List.mem_of_mem_drop hp)
  have hsp : splitL 46 (tailN h n) = (labelsL h).drop ((labelsL h).length - n.toNat) := split_join 46 _ hdne hno
  have hlen : (tailN h n).length ≤ 253 := by
    have := join_drop_len 46 ((labelsL h).length - n.toNat) (labelsL h)
    rw [hj] at this
    exact Nat.le_trans this f2
  have hT : tailH h n = nameH (tailN h n) := if_pos htt
  have ha : (splitL 46 (tailN h n)).all labOk = true := by
    rw [hsp, List.all_eq_true]
    rw [List.all_eq_true] at f3
    exact fun p hp => f3 p (List.mem_of_mem_drop hp)
  have hd : digitsB ((splitL 46 (tailN h n)).getLastD []) = false := by
    rw [hsp, getLastD_drop _ _ _ (by omega)]; exact f4
  obtain ⟨r1, r2⟩ := name_right hlen ha hd
  exact ⟨h1, h2, hT, hlen, by rw [hT]; exact r1, by rw [hT, r2, hsp]⟩
theorem tail_no {h : GHost} {n : Int} (ht : tailOk h n = false) : tailH h n = zeroH := if_neg (by rw [ht]; decide)
theorem under_self (h : GHost) : underB h h = false := if_pos (by omega)
theorem tail_eq {h : GHost} (hk : nameOk h = true) : tailH h (labelsL h).length = h := by
  have hL := labels_ok hk
  obtain ⟨f1, f2, f3, f4⟩ := nameOk_facts hk
  have hpos : 0 < (labelsL h).length := by rw [hL]; exact splitL_pos 46 _
  have ht : tailOk h (labelsL h).length = true := by unfold tailOk; simp; omega
  rw [tailH, if_pos ht, tailN]
  simp only [Int.toNat_natCast, Nat.sub_self, List.drop_zero]
  rw [hL, join_split]
  exact f1.symm
theorem orders_plain {h : GHost} {a b : Int} (ha : tailOk h a = true) (hb : tailOk h b = true) : underB h (tailH h a) = decide (a < (labelsL h).length) ∧ underB (tailH h a) (tailH h b) = decide (b < a) ∧ hostEq (tailH h b) (tailH h a) = (a == b) ∧ ((labelsL (tailH h a)).length : Int) = a := by
  obtain ⟨a1, a2, a3, a4, a5, a6⟩ := tail_facts ha
  obtain ⟨b1, b2, b3, b4, b5, b6⟩ := tail_facts hb
  have la : (labelsL (tailH h a)).length = a.toNat := by rw [a6, List.length_drop]; omega
  have lb : (labelsL (tailH h b)).length = b.toNat := by rw [b6, List.length_drop]; omega
  have ea : ((a.toNat : Nat) : Int) = a := by omega
  have eb : ((b.toNat : Nat) : Int) = b := by omega
  refine ⟨?_, ?_, ?_, by rw [la, ea]⟩
  · unfold underB
    rw [la, ea]
    by_cases hlt : a < (labelsL h).length
    · rw [if_neg (by omega), (hostEq_iff _ _).2 rfl]; simp [hlt]
    · rw [if_pos (by omega)]; simp [hlt]
  · unfold underB
    rw [la, lb, eb]
    by_cases hlt : b < a
    · rw [if_neg (by omega)]
      have ht : tailOk (tailH h a) b = true := by unfold tailOk; rw [la]; simp; omega
      have : tailH (tailH h a) b = tailH h b := by
        rw [(tail_facts ht).2.2.1, b3]
        congr 1
        unfold tailN
        rw [la, a6, List.drop_drop]
        congr 2
        omega
      rw [this, (hostEq_iff _ _).2 rfl]; simp [hlt]
    · rw [if_pos (by omega)]; simp [hlt]
  · rw [Bool.eq_iff_iff, hostEq_iff, beq_iff_eq]
    constructor
    · intro e
      have := congrArg (fun g => (labelsL g).length) e
      simp only [la, lb] at this
      omega
    · rintro rfl; rfl
/-! ### the document's way -/
def refUnderB (h d : GHost) : Bool := !(labelsL h).isEmpty && (!(labelsL d).isEmpty && (decide (d.name.length + 1 < h.name.length) && (h.name.drop (h.name.length - (d.name.length + 1)) == 46 :: d.name)))
theorem under_ref (h d : GHost) : underB h d = refUnderB h d := by
  by_cases hl : labelsL h = []
  · unfold underB refUnderB
    rw [hl]
    simp
  by_cases hm : labelsL d = []
  · unfold underB refUnderB
    rw [hm]
    simp
  have kh := labels_ne hl
  have kd := labels_ne hm
  have hL := labels_ok kh
  have hM := labels_ok kd
  obtain ⟨f1, f2, f3, f4⟩ := nameOk_facts kh
  obtain ⟨g1, g2, g3, g4⟩ := nameOk_facts kd
  have hl0 : (labelsL h).isEmpty = false := by rw [List.isEmpty_eq_false_iff]; exact hl
  have hm0 : (labelsL d).isEmpty = false := by rw [List.isEmpty_eq_false_iff]; exact hm
  have hmpos : 0 < (labelsL d).length := List.length_pos_iff.2 hm
  have hjh : joinL 46 (labelsL h) = h.name := by rw [hL, join_split]
  have hjd : joinL 46 (labelsL d) = d.name := by rw [hM, join_split]
  unfold underB refUnderB
  rw [hl0, hm0, Bool.eq_iff_iff]
  simp only [Bool.not_false, Bool.true_and, Bool.and_eq_true, decide_eq_true_eq, beq_iff_eq]
  constructor
  · intro hu
    split at hu
    · cases hu
    · rename_i hc
      have hlt : (labelsL d).length < (labelsL h).length := by omega
      have ht : tailOk h (labelsL d).length = true := by unfold tailOk; simp; omega
      rw [hostEq_iff, (tail_facts ht).2.2.1] at hu
      have hn : tailN h (labelsL d).length = d.name := by
        have := congrArg GHost.name hu
        rwa [(nameH_name (tail_facts ht).2.2.2.1).2.1] at this
      unfold tailN at hn
      simp only [Int.toNat_natCast] at hn
      have hsplit : h.name = joinL 46 ((labelsL h).take ((labelsL h).length - (labelsL d).length)) ++ 46 :: d.name := by
        rw [← hjh, ← hn]
        conv => lhs; rw [← List.take_append_drop ((labelsL h).length - (labelsL d).length) (labelsL h)]
        rw [join_append]
        · intro e; have := congrArg List.length e; simp at this; omega
        · intro e; have := congrArg List.length e; simp at this; omega
      have hX : joinL 46 ((labelsL h).take ((labelsL h).length - (labelsL d).length)) ≠ [] := by
        apply joinL_ne
        · intro e; have := congrArg List.length e; simp at this; omega
        · intro p hp
          rw [← hL, List.all_eq_true] at f3
          exact labOk_ne (f3 p (List.mem_of_mem_take hp))
      generalize joinL 46 ((labelsL h).take ((labelsL h).length - (labelsL d).length)) = X at *
      have hXl : 0 < X.length := List.length_pos_iff.2 hX
      rw [hsplit]
      refine ⟨by simp; omega, ?_⟩
      have : (X ++ 46 :: d.name).length - (d.name.length + 1) = X.length := by simp
      rw [this, List.drop_left]
  · rintro ⟨h1, h2⟩
    obtain ⟨X, hX⟩ : ∃ X, X = h.name.take (h.name.length - (d.name.length + 1)) := ⟨_, rfl⟩
    have hsplit : h.name = X ++ 46 :: d.name := by rw [hX, ← h2, List.take_append_drop]
    have hLs : labelsL h = splitL 46 X ++ labelsL d := by rw [hL, hM, hsplit, splitL_app]
    have hXp := splitL_pos 46 X
    have hlen : (labelsL h).length = (splitL 46 X).length + (labelsL d).length := by rw [hLs, List.length_append]
    rw [if_neg (by omega), hostEq_iff]
    have ht : tailOk h (labelsL d).length = true := by unfold tailOk; simp; omega
    rw [(tail_facts ht).2.2.1]
    have : tailN h (labelsL d).length = d.name := by
      unfold tailN
      simp only [Int.toNat_natCast]
      rw [hlen, Nat.add_sub_cancel, hLs, List.drop_left, hjd]
    rw [this]
    exact g1.symm
end Go.Proofs.YtmfjabpmhkechaaGreatDoor
