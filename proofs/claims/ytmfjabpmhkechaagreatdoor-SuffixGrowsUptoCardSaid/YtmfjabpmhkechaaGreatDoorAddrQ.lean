/- Plain words for four numbers, and for the document's way with addresses: digits, tries. -/
import Derived.Test.YtmfjabpmhkechaaGreatDoorAddrV6
import Derived.Test.YtmfjabpmhkechaaGreatDoorNumber
namespace Go.Proofs.YtmfjabpmhkechaaGreatDoor
open Go Go.RowKit
set_option linter.unusedSimpArgs false
set_option linter.unusedVariables false

/-! ### four numbers -/
theorem numV_pos {l : List UInt8} (h : numOk l = true) : 0 ≤ numV l := by
  rw [num_yes h]
  have hd : digitsB l = true := by
    unfold numOk at h
    simp only [Bool.and_eq_true] at h
    exact h.1
  have := (dec_bd l l.length (Nat.le_refl _) (digits_all hd).2).1
  rwa [List.take_length] at this
def octB (x : List UInt8) : UInt8 := UInt8.ofNat (numV x).toNat
theorem octB_int {x : List UInt8} (h0 : 0 ≤ numV x) (h1 : numV x ≤ 255) : ((octB x).toNat : Int) = numV x := by
  have : (octB x).toNat = (numV x).toNat := by
    unfold octB
    rw [UInt8.toNat_ofNat']; omega
  rw [this]; omega
def octOk (x : List UInt8) : Bool := numOk x && decide (numV x ≤ 255)
theorem octOk_iff (x : List UInt8) : (numOk x = false ∧ octOk x = false) ∨ (numOk x = true ∧ 255 < numV x ∧ octOk x = false) ∨ (numOk x = true ∧ 0 ≤ numV x ∧ numV x ≤ 255 ∧ octOk x = true) := by
  cases h : numOk x
  · exact .inl ⟨rfl, by simp [octOk, h]⟩
  · by_cases h2 : numV x ≤ 255
    · exact .inr (.inr ⟨rfl, numV_pos h, h2, by simp [octOk, h, h2]⟩)
    · exact .inr (.inl ⟨rfl, by omega, by simp [octOk, h]; omega⟩)
theorem v4Ok_eq (s : List UInt8) : v4Ok s = ((splitL 46 s).length == 4 && (splitL 46 s).all octOk) := rfl
theorem v4B_length {s : List UInt8} (h : v4Ok s = true) : (v4B s).length = 16 := by
  rw [v4Ok_eq, Bool.and_eq_true, beq_iff_eq] at h
  simp [v4B, h.1]
def v4A (s : List UInt8) : GAddr := if h : v4Ok s = true then ⟨v4B s, v4B_length h⟩ else zeroA
theorem v4_no {s : List UInt8} (h : v4Ok s = false) : v4A s = zeroA := dif_neg (by rw [h]; decide)
theorem v4_yes {s : List UInt8} (h : v4Ok s = true) : (v4A s).b = v4B s := by rw [v4A, dif_pos h]
def v4To (L : List (List UInt8)) (k : Nat) : List UInt8 := List.replicate 12 0 ++ ((L.take k).map octB ++ List.replicate (4 - k) 0)
theorem v4To_zero (L : List (List UInt8)) : v4To L 0 = List.replicate 16 0 := rfl
theorem v4To_length {L : List (List UInt8)} (h : L.length = 4) {k : Nat} (hk : k ≤ 4) : (v4To L k).length = 16 := by
  simp [v4To]; omega
theorem v4To_succ {L : List (List UInt8)} (h : L.length = 4) {k : Nat} (hk : k < L.length) : v4To L (k + 1) = (v4To L k).set (12 + k) (octB (L[k]'hk)) := by
  match L, h with
  | [a, b, c, d], _ =>
    match k, hk with
    | 0, _ => rfl
    | 1, _ => rfl
    | 2, _ => rfl
    | 3, _ => rfl
theorem v4To_all {s : List UInt8} (h : (splitL 46 s).length = 4) : v4To (splitL 46 s) 4 = v4B s := by
  rw [v4To, v4B, ← h, List.take_length, h]
  simp
  intro a _; rfl
theorem all_take_oct (L : List (List UInt8)) (k : Nat) (h : k < L.length) : (L.take (k + 1)).all octOk = ((L.take k).all octOk && octOk (L[k]'h)) := by
  rw [List.take_succ_eq_append_getElem h, List.all_append]; simp
theorem v4_four {s : List UInt8} (h4 : (splitL 46 s).length ≠ 4) : v4Ok s = false := by
  rw [v4Ok_eq]; simp [h4]
theorem v4_bad {s : List UInt8} (p : List UInt8) (hp : p ∈ splitL 46 s) (h : octOk p = false) : v4Ok s = false := by
  rw [v4Ok_eq, Bool.and_eq_false_iff]
  right
  rw [List.all_eq_false]
  exact ⟨p, hp, by rw [h]; decide⟩
theorem v4_good {s : List UInt8} (h4 : (splitL 46 s).length = 4) (h : (splitL 46 s).all octOk = true) : v4Ok s = true := by
  rw [v4Ok_eq, h4, h]; rfl

/-! ### digits -/
theorem hexD_is (c : UInt8) : hexD c = if 48 ≤ c.toNat ∧ c.toNat ≤ 57 then (c.toNat : Int) - 48 else if 97 ≤ c.toNat ∧ c.toNat ≤ 102 then (c.toNat : Int) - 87 else if 65 ≤ c.toNat ∧ c.toNat ≤ 70 then (c.toNat : Int) - 55 else -1 := by
  have key : ∀ i : Fin 256, hexD (UInt8.ofNat i.val) = if 48 ≤ i.val ∧ i.val ≤ 57 then (i.val : Int) - 48 else if 97 ≤ i.val ∧ i.val ≤ 102 then (i.val : Int) - 87 else if 65 ≤ i.val ∧ i.val ≤ 70 then (i.val : Int) - 55 else -1 := by decide +kernel
  have := key ⟨c.toNat, c.toNat_lt⟩
  simpa using this
theorem hexD_cases (c : UInt8) : ((c.toNat : Int) < 48 ∧ hexD c = -1) ∨ ((48 : Int) ≤ c.toNat ∧ (c.toNat : Int) ≤ 57 ∧ hexD c = (c.toNat : Int) - 48) ∨ ((57 : Int) < c.toNat ∧ (c.toNat : Int) < 65 ∧ hexD c = -1) ∨
    ((65 : Int) ≤ c.toNat ∧ (c.toNat : Int) ≤ 70 ∧ hexD c = (c.toNat : Int) - 55) ∨ ((70 : Int) < c.toNat ∧ (c.toNat : Int) < 97 ∧ hexD c = -1) ∨ ((97 : Int) ≤ c.toNat ∧ (c.toNat : Int) ≤ 102 ∧ hexD c = (c.toNat : Int) - 87) ∨ ((102 : Int) < c.toNat ∧ hexD c = -1) := by
  have h := hexD_is c
  by_cases h1 : c.toNat < 48
  · rw [if_neg (by omega), if_neg (by omega), if_neg (by omega)] at h; exact .inl ⟨by omega, h⟩
  by_cases h2 : c.toNat ≤ 57
  · rw [if_pos (by omega)] at h; exact .inr (.inl ⟨by omega, by omega, h⟩)
  by_cases h3 : c.toNat < 65
  · rw [if_neg (by omega), if_neg (by omega), if_neg (by omega)] at h; exact .inr (.inr (.inl ⟨by omega, by omega, h⟩))
  by_cases h4 : c.toNat ≤ 70
  · rw [if_neg (by omega), if_neg (by omega), if_pos (by omega)] at h; exact .inr (.inr (.inr (.inl ⟨by omega, by omega, h⟩)))
  by_cases h5 : c.toNat < 97
  · rw [if_neg (by omega), if_neg (by omega), if_neg (by omega)] at h; exact .inr (.inr (.inr (.inr (.inl ⟨by omega, by omega, h⟩))))
  by_cases h6 : c.toNat ≤ 102
  · rw [if_neg (by omega), if_pos (by omega)] at h; exact .inr (.inr (.inr (.inr (.inr (.inl ⟨by omega, by omega, h⟩)))))
  · rw [if_neg (by omega), if_neg (by omega), if_neg (by omega)] at h; exact .inr (.inr (.inr (.inr (.inr (.inr ⟨by omega, h⟩)))))

/-! ### eight groups that all stand there -/
def eightOk (s : List UInt8) : Bool := (eightL s).isSome
def grpsOf (o : Option (List UInt16)) : GGroups := if h : (o.getD []).length = 8 then ⟨o.getD [], h⟩ else zeroG
def eightA (s : List UInt8) : GAddr := if eightOk s = true then fromG (grpsOf (eightL s)) else zeroA
theorem eight_no {s : List UInt8} (h : eightL s = none) : eightOk s = false ∧ eightA s = zeroA := by
  simp [eightOk, eightA, h]
theorem eight_len {s : List UInt8} {g : List UInt16} (h : eightL s = some g) : g.length = 8 := by
  unfold eightL at h
  split at h
  · rename_i h1
    cases h
    rw [List.length_map]; exact h1.1
  · cases h
theorem eight_yes {s : List UInt8} {g : List UInt16} (h : eightL s = some g) (hg : g.length = 8) : eightOk s = true ∧ eightA s = fromG ⟨g, hg⟩ := by
  have e : grpsOf (eightL s) = ⟨g, hg⟩ := by
    rw [grpsOf, h]
    exact dif_pos hg
  simp [eightOk, eightA, h, e] 
  rw [← h, e]
theorem eight_v6A {s t : List UInt8} (h1 : eightOk s = true) (h2 : v6L t = eightL s) : v6Ok t = true ∧ v6A t = eightA s := by
  obtain ⟨g, hg⟩ := Option.isSome_iff_exists.1 h1
  have hl := eight_len hg
  obtain ⟨a1, a2⟩ := eight_yes hg hl
  obtain ⟨b1, b2⟩ := v6_yes (h2.trans hg) hl
  exact ⟨b1, b2.trans a2.symm⟩
theorem eight_not8 {s : List UInt8} (h : (splitL 58 s).length ≠ 8) : eightL s = none := if_neg fun h' => h h'.1
theorem eight_badP {s : List UInt8} (p : List UInt8) (hp : p ∈ splitL 58 s) (h : grpOk p = false) : eightL s = none := if_neg fun h' => by
  rw [List.all_eq_true.1 h'.2 p hp] at h; cases h
theorem eight_good {s : List UInt8} (h8 : (splitL 58 s).length = 8) (h : (splitL 58 s).all grpOk = true) : eightL s = some ((splitL 58 s).map grpR) := by
  have e : (splitL 58 s).map grpR = (splitL 58 s).map grpV := List.map_congr_left fun x hx => grp_yes (List.all_eq_true.1 h x hx)
  rw [eightL, if_pos ⟨h8, h⟩, e]
/-! ### tries -/
theorem try_some {s : List UInt8} {i k : Nat} {g : List UInt16} (hc : ccAt s i) (h : eightL (frontT (s.take i) ++ zerosT k ++ backT (s.drop (i + 2))) = some g) : v6L s = some g := by
  apply v6_of_gap hc
  rw [tries] at h
  rw [v6At]
  split at h
  · rename_i a b ha hb
    split at h
    · rename_i h8
      cases h
      rw [if_pos (by omega), show 8 - a.length - b.length = k + 1 by omega]
    · cases h
  · cases h
theorem try_none {s : List UInt8} {i : Nat} (h : ∀ k, k < 8 → eightL (frontT (s.take i) ++ zerosT k ++ backT (s.drop (i + 2))) = none) : v6At s i = none := by
  rw [v6At]
  split
  · rename_i a b ha hb
    split
    · rename_i h7
      have := h (7 - a.length - b.length) (by omega)
      rw [tries, ha, hb] at this
      simp only [] at this
      rw [if_pos (by omega)] at this
      cases this
    · rfl
  · rfl
theorem cc_len {s : List UInt8} {i : Nat} (h : ccAt s i) : i + 2 ≤ s.length := by
  obtain ⟨y, hy⟩ := h
  have := congrArg List.length hy
  simp at this
  omega
theorem cc_at {s : List UInt8} {i : Nat} (h : i + 2 ≤ s.length) : ccAt s i ↔ s[i]'(by omega) = 58 ∧ s[i + 1]'(by omega) = 58 := by
  have e : s.drop i = s[i]'(by omega) :: s[i + 1]'(by omega) :: s.drop (i + 1 + 1) := by
    rw [List.drop_eq_getElem_cons (by omega), List.drop_eq_getElem_cons (by omega)]
  unfold ccAt
  rw [e]
  constructor
  · rintro ⟨y, hy⟩
    simp only [List.cons.injEq] at hy
    exact ⟨hy.1, hy.2.1⟩
  · rintro ⟨h1, h2⟩
    exact ⟨s.drop (i + 1 + 1), by rw [h1, h2]⟩
def NoTry (s : List UInt8) (k : Nat) : Prop := eightL s = none ∧ ∀ j, j < k → ccAt s j → v6At s j = none
theorem NoTry.skip {s : List UInt8} {k : Nat} (h : NoTry s k) (hc : ¬ ccAt s k) : NoTry s (k + 1) := ⟨h.1, fun j hj hcc => by
  by_cases e : j = k
  · subst e; exact absurd hcc hc
  · exact h.2 j (by omega) hcc⟩
theorem NoTry.next {s : List UInt8} {k : Nat} (h : NoTry s k) (hc : v6At s k = none) : NoTry s (k + 1) := ⟨h.1, fun j hj hcc => by
  by_cases e : j = k
  · subst e; exact hc
  · exact h.2 j (by omega) hcc⟩
theorem NoTry.done {s : List UInt8} {k : Nat} (h : NoTry s k) (hk : s.length < k + 2) : v6L s = none :=
  v6_none_of (fun hg => eight_none h.1 hg) fun j hj => h.2 j (by have := cc_len hj; omega) hj
end Go.Proofs.YtmfjabpmhkechaaGreatDoor
