/- Addresses and groups in plain words: bytes and groups, texts of groups, and back. -/
import Derived.Test.YtmfjabpmhkechaaGreatDoorPieces
import Derived.Test.YtmfjabpmhkechaaGreatDoorLower
import Derived.Test.YtmfjabpmhkechaaGreatDoorNumber
namespace Go.Proofs.YtmfjabpmhkechaaGreatDoor
open Go
set_option linter.unusedSimpArgs false
set_option linter.unusedVariables false

/-! ### bytes and groups -/
def hiB (x : UInt16) : UInt8 := UInt8.ofNat (x.toNat / 256)
def loB (x : UInt16) : UInt8 := UInt8.ofNat (x.toNat % 256)
def w16 (a b : UInt8) : UInt16 := UInt16.ofNat (a.toNat * 256 + b.toNat)
theorem hiB_nat (x : UInt16) : (hiB x).toNat = x.toNat / 256 := by
  have := x.toNat_lt
  rw [hiB, UInt8.toNat_ofNat']; omega
theorem loB_nat (x : UInt16) : (loB x).toNat = x.toNat % 256 := by
  rw [loB, UInt8.toNat_ofNat']; omega
theorem w16_nat (a b : UInt8) : (w16 a b).toNat = a.toNat * 256 + b.toNat := by
  have := a.toNat_lt
  have := b.toNat_lt
  rw [w16, UInt16.toNat_ofNat']; omega
theorem w16_hi_lo (x : UInt16) : w16 (hiB x) (loB x) = x := by
  rw [← UInt16.toNat_inj, w16_nat, hiB_nat, loB_nat]; omega
theorem hi_w16 (a b : UInt8) : hiB (w16 a b) = a := by
  have := b.toNat_lt
  rw [← UInt8.toNat_inj, hiB_nat, w16_nat]; omega
theorem lo_w16 (a b : UInt8) : loB (w16 a b) = b := by
  have := b.toNat_lt
  rw [← UInt8.toNat_inj, loB_nat, w16_nat]; omega
def fromL : List UInt16 → List UInt8
  | [] => []
  | x :: l => hiB x :: loB x :: fromL l
def grpL : List UInt8 → List UInt16
  | a :: b :: l => w16 a b :: grpL l
  | _ => []
theorem fromL_length : ∀ l, (fromL l).length = 2 * l.length
  | [] => rfl
  | x :: l => by have := fromL_length l; simp [fromL, this]; omega
theorem grpL_length : ∀ l : List UInt8, (grpL l).length = l.length / 2
  | [] => rfl
  | [x] => by simp [grpL]
  | a :: b :: l => by have := grpL_length l; simp [grpL, this]; omega
theorem grp_from : ∀ l, grpL (fromL l) = l
  | [] => rfl
  | x :: l => by rw [fromL, grpL, w16_hi_lo, grp_from l]
theorem from_grp : ∀ l : List UInt8, l.length % 2 = 0 → fromL (grpL l) = l
  | [], _ => rfl
  | [_], h => by simp at h
  | a :: b :: l, h => by rw [grpL, fromL, hi_w16, lo_w16, from_grp l (by simp at h; omega)]
theorem fromL_append : ∀ l m, fromL (l ++ m) = fromL l ++ fromL m
  | [], m => rfl
  | x :: l, m => by rw [List.cons_append, fromL, fromL_append l m]; rfl
def fromTo (g : List UInt16) (k : Nat) : List UInt8 := fromL (g.take k) ++ List.replicate (16 - 2 * k) 0
theorem set_at (A R : List UInt8) (n : Nat) (h : A.length = n) (x y a b : UInt8) : ((A ++ x :: y :: R).set n a).set (n + 1) b = A ++ a :: b :: R := by
  subst h
  simp
theorem fromTo_succ (g : List UInt16) (hg : g.length = 8) (k : Nat) (hk : k < g.length) : fromTo g (k + 1) = ((fromTo g k).set (2 * k) (hiB (g[k]'hk))).set (2 * k + 1) (loB (g[k]'hk)) := by
  have h1 : (fromL (g.take k)).length = 2 * k := by rw [fromL_length, List.length_take]; omega
  have e : List.replicate (16 - 2 * k) (0 : UInt8) = 0 :: 0 :: List.replicate (16 - 2 * (k + 1)) 0 := by
    rw [show 16 - 2 * k = (16 - 2 * (k + 1)) + 1 + 1 by omega, List.replicate_succ, List.replicate_succ]
  rw [fromTo, fromTo, e, set_at _ _ _ h1, List.take_succ_eq_append_getElem hk, fromL_append, List.append_assoc]
  rfl
theorem fromTo_zero (g : List UInt16) : fromTo g 0 = List.replicate 16 0 := by simp [fromTo, fromL]
theorem fromTo_all (g : List UInt16) (hg : g.length = 8) : fromTo g 8 = fromL g := by
  rw [fromTo, List.take_of_length_le (by omega)]; simp
theorem fromTo_length (g : List UInt16) (hg : g.length = 8) (k : Nat) (hk : k ≤ 8) : (fromTo g k).length = 16 := by
  rw [fromTo, List.length_append, fromL_length, List.length_take, List.length_replicate]; omega
theorem grpL_get : ∀ (l : List UInt8) (k : Nat) (h : k < (grpL l).length) (h1 : 2 * k < l.length) (h2 : 2 * k + 1 < l.length), (grpL l)[k]'h = w16 (l[2 * k]'h1) (l[2 * k + 1]'h2)
  | [], k, h, _, _ => by simp [grpL] at h
  | [_], k, h, _, _ => by simp [grpL] at h
  | a :: b :: l, 0, _, _, _ => rfl
  | a :: b :: l, k + 1, h, h1, h2 => by
    have := grpL_get l k (by simpa [grpL] using h) (by simp at h1; omega) (by simp at h2; omega)
    simp only [grpL, List.getElem_cons_succ, this]
    congr 1
def grpTo (a : List UInt8) (k : Nat) : List UInt16 := (grpL a).take k ++ List.replicate (8 - k) 0
theorem set_mid (A R : List UInt16) (n : Nat) (h : A.length = n) (x a : UInt16) : (A ++ x :: R).set n a = A ++ a :: R := by
  subst h
  simp
theorem grpTo_succ (a : List UInt8) (ha : a.length = 16) (k : Nat) (hk : k < 8) : grpTo a (k + 1) = (grpTo a k).set k (w16 (a[2 * k]'(by omega)) (a[2 * k + 1]'(by omega))) := by
  have hl : (grpL a).length = 8 := by rw [grpL_length, ha]
  have e : List.replicate (8 - k) (0 : UInt16) = 0 :: List.replicate (8 - (k + 1)) 0 := by
    rw [show 8 - k = (8 - (k + 1)) + 1 by omega, List.replicate_succ]
  rw [grpTo, grpTo, e, set_mid _ _ _ (by rw [List.length_take]; omega), List.take_succ_eq_append_getElem (by omega), grpL_get a k (by omega) (by omega) (by omega), List.append_assoc]
  rfl
theorem grpTo_zero (a : List UInt8) : grpTo a 0 = List.replicate 8 0 := by simp [grpTo]
theorem grpTo_all (a : List UInt8) (ha : a.length = 16) : grpTo a 8 = grpL a := by
  rw [grpTo, List.take_of_length_le (by rw [grpL_length]; omega)]; simp
theorem grpTo_length (a : List UInt8) (ha : a.length = 16) (k : Nat) (hk : k ≤ 8) : (grpTo a k).length = 8 := by
  rw [grpTo, List.length_append, List.length_take, List.length_replicate, grpL_length]; omega

/-! ### digits of sixteen -/
def hexV (c : UInt8) : Int := Lib.indexByte [48, 49, 50, 51, 52, 53, 54, 55, 56, 57, 97, 98, 99, 100, 101, 102] c
/-- A digit's value, great letters too. -/
def hexD (c : UInt8) : Int := hexV (lowC c)
def hexAll (l : List UInt8) : Bool := l.all fun c => decide (0 ≤ hexD c)
def grpOk (l : List UInt8) : Bool := decide (1 ≤ l.length) && (decide (l.length ≤ 4) && hexAll l)
def hexN (l : List UInt8) : Nat := l.foldl (fun n c => 16 * n + (hexD c).toNat) 0
def grpV (l : List UInt8) : UInt16 := UInt16.ofNat (hexN l)
theorem hexD_lt (c : UInt8) : hexD c < 16 ∧ -1 ≤ hexD c := by
  have key : ∀ i : Fin 256, hexD (UInt8.ofNat i.val) < 16 ∧ -1 ≤ hexD (UInt8.ofNat i.val) := by decide +kernel
  have := key ⟨c.toNat, c.toNat_lt⟩
  simpa using this
theorem hexN_take (l : List UInt8) (k : Nat) (h : k < l.length) : hexN (l.take (k + 1)) = 16 * hexN (l.take k) + (hexD (l[k]'h)).toNat := by
  rw [hexN, List.take_succ_eq_append_getElem h, List.foldl_append]; rfl
theorem hexN_lt (l : List UInt8) : ∀ k, k ≤ l.length → hexN (l.take k) < 16 ^ k := by
  intro k
  induction k with
  | zero => intro _; simp [hexN]
  | succ k ih =>
    intro h
    have h1 := ih (by omega)
    have h2 := hexD_lt (l[k]'(by omega))
    rw [hexN_take l k (by omega), Nat.pow_succ]
    generalize 16 ^ k = z at *
    omega
theorem hexN_lt' (l : List UInt8) (h : l.length ≤ 4) : hexN l < 65536 := by
  have h1 := hexN_lt l l.length (Nat.le_refl _)
  rw [List.take_length] at h1
  have h2 : 16 ^ l.length ≤ 16 ^ 4 := Nat.pow_le_pow_right (by decide) h
  have h3 : (16 : Nat) ^ 4 = 65536 := by decide
  omega
theorem grpV_nat (l : List UInt8) (h : l.length ≤ 4) : (grpV l).toNat = hexN l := by
  rw [grpV, UInt16.toNat_ofNat']
  have := hexN_lt' l h
  omega

/-! ### rows of groups -/
/-- The groups of a text with colons between, if they are all that. -/
def rowL (s : List UInt8) : Option (List UInt16) :=
  if s = [] then some [] else if (splitL 58 s).all grpOk = true then some ((splitL 58 s).map grpV) else none
/-- The text ahead of two colons, and the one behind. -/
def gapAt (s : List UInt8) : Int := Lib.index s [58, 58]
def v6L (s : List UInt8) : Option (List UInt16) :=
  if gapAt s = -1 then (match rowL s with | some a => if a.length = 8 then some a else none | none => none)
  else match rowL (s.take (gapAt s).toNat), rowL (s.drop ((gapAt s).toNat + 2)) with
    | some a, some b => if a.length + b.length ≤ 7 then some (a ++ List.replicate (8 - a.length - b.length) 0 ++ b) else none
    | _, _ => none
theorem v6L_length (s : List UInt8) (g : List UInt16) (h : v6L s = some g) : g.length = 8 := by
  unfold v6L at h
  split at h
  · split at h
    · split at h
      · cases h; assumption
      · cases h
    · cases h
  · split at h
    · split at h
      · cases h
        simp; omega
      · cases h
    · cases h
def v4Ok (s : List UInt8) : Bool := (splitL 46 s).length == 4 && (splitL 46 s).all fun x => numOk x && decide (numV x ≤ 255)
def v4B (s : List UInt8) : List UInt8 := List.replicate 12 0 ++ (splitL 46 s).map fun x => UInt8.ofNat (numV x).toNat
theorem splitL_app (c : UInt8) : ∀ a b : List UInt8, splitL c (a ++ c :: b) = splitL c a ++ splitL c b
  | [], b => by simp [splitL]
  | x :: a, b => by
    have ih := splitL_app c a b
    by_cases hx : x = c
    · subst hx
      rw [List.cons_append, splitL, if_pos rfl, ih, splitL, if_pos rfl]; rfl
    · obtain ⟨p, ps, h1, h2⟩ := splitL_cons c x a hx
      rw [List.cons_append, splitL, if_neg hx, ih, h1, h2]; rfl

/-! ### where two colons stand -/
/-- No two colons in a row, nor one at the end. -/
def noCC : List UInt8 → Bool
  | [] => true
  | c :: x => !(c == 58 && x.headD 58 == 58) && noCC x
theorem gap_cons (c : UInt8) (l : List UInt8) : gapAt (c :: l) = if (c == 58 && l.head? == some 58) = true then 0 else if gapAt l = -1 then -1 else gapAt l + 1 := by
  unfold gapAt
  rw [Lib.index]
  have e : ([58, 58] : List UInt8).isPrefixOf (c :: l) = (c == 58 && l.head? == some 58) := by
    cases l with
    | nil => simp [List.isPrefixOf]
    | cons d l =>
      have : ((58 : UInt8) == c) = (c == 58) := by rw [Bool.eq_iff_iff, beq_iff_eq, beq_iff_eq]; exact eq_comm
      have h2 : ((58 : UInt8) == d) = (d == 58) := by rw [Bool.eq_iff_iff, beq_iff_eq, beq_iff_eq]; exact eq_comm
      simp [List.isPrefixOf, this, h2]
  rw [e]
  split
  · rfl
  · by_cases h : Lib.index l [58, 58] = -1
    · simp [h]
    · have : (Lib.index l [58, 58] == -1) = false := by simpa using h
      simp [h, this]
theorem gap_nil : gapAt [] = -1 := by simp [gapAt, Lib.index]
theorem gap_ge (l : List UInt8) : -1 ≤ gapAt l := Lib.index_ge l [58, 58]
theorem gap_app : ∀ x y : List UInt8, noCC x = true → gapAt (x ++ 58 :: 58 :: y) = x.length
  | [], y, _ => by rw [List.nil_append, gap_cons]; rfl
  | c :: x, y, h => by
    simp only [noCC, Bool.and_eq_true, Bool.not_eq_true'] at h
    have ih := gap_app x y h.2
    have e : (c == 58 && (x ++ 58 :: 58 :: y).head? == some 58) = false := by
      cases x with
      | nil => simpa using h.1
      | cons d x => simpa using h.1
    rw [List.cons_append, gap_cons, e, ih]
    simp
theorem gap_none : ∀ x : List UInt8, noCC x = true → gapAt x = -1
  | [], _ => gap_nil
  | c :: x, h => by
    simp only [noCC, Bool.and_eq_true, Bool.not_eq_true'] at h
    have e : (c == 58 && x.head? == some 58) = false := by
      cases x with
      | nil => simp
      | cons d x => simpa using h.1
    rw [gap_cons, e, gap_none x h.2]
    simp
theorem noCC_of : ∀ x : List UInt8, (∀ p ∈ (splitL 58 x).tail, p ≠ []) → noCC x = true
  | [], _ => rfl
  | c :: x, h => by
    by_cases hc : c = 58
    · subst hc
      rw [splitL, if_pos rfl, List.tail_cons] at h
      have ih := noCC_of x (fun p hp => h p (List.mem_of_mem_tail hp))
      rw [noCC, ih, Bool.and_true]
      cases x with
      | nil => exact absurd rfl (h [] (by simp [splitL]))
      | cons d x =>
        by_cases hd : d = 58
        · subst hd
          exact absurd rfl (h [] (by simp [splitL]))
        · simpa using hd
    · obtain ⟨p, ps, h1, h2⟩ := splitL_cons 58 c x hc
      have ih := noCC_of x (by rw [h1]; rw [h2] at h; exact h)
      rw [noCC, ih]
      simp [hc]
theorem grpOk_ne {p : List UInt8} (h : grpOk p = true) : p ≠ [] := by
  rintro rfl
  revert h; decide
theorem rowL_noCC {x : List UInt8} {a : List UInt16} (h : rowL x = some a) : noCC x = true := by
  unfold rowL at h
  split at h
  · rename_i h0; rw [h0]; rfl
  · split at h
    · rename_i hall
      exact noCC_of x fun p hp => grpOk_ne (List.all_eq_true.1 hall p (List.mem_of_mem_tail hp))
    · cases h
/-- Do two colons stand at a place? -/
def ccAt (s : List UInt8) (i : Nat) : Prop := ∃ y, s.drop i = 58 :: 58 :: y
theorem gap_first : ∀ (s : List UInt8) (i : Nat), gapAt s = i → ccAt s i ∧ ∀ j, j < i → ¬ ccAt s j
  | [], i, h => by rw [gap_nil] at h; omega
  | c :: l, i, h => by
    rw [gap_cons] at h
    split at h
    · rename_i hc
      obtain rfl : i = 0 := by omega
      simp only [Bool.and_eq_true, beq_iff_eq] at hc
      obtain ⟨rfl, h2⟩ := hc
      cases l with
      | nil => cases h2
      | cons d l => simp only [List.head?_cons, Option.some.injEq] at h2; subst h2; exact ⟨⟨l, rfl⟩, fun j hj => by omega⟩
    · rename_i hc
      split at h
      · omega
      · rename_i hn
        have := gap_ge l
        obtain ⟨k, rfl⟩ : ∃ k, i = k + 1 := ⟨i - 1, by omega⟩
        obtain ⟨⟨y, h1⟩, h2⟩ := gap_first l k (by omega)
        refine ⟨⟨y, by simpa using h1⟩, fun j hj => ?_⟩
        cases j with
        | zero =>
          rintro ⟨y', h'⟩
          simp only [List.drop_zero, List.cons.injEq] at h'
          obtain ⟨rfl, rfl⟩ := h'
          exact hc (by simp)
        | succ j =>
          rintro ⟨y', h'⟩
          exact h2 j (by omega) ⟨y', by simpa using h'⟩
theorem gap_no : ∀ (s : List UInt8), gapAt s = -1 → ∀ j, ¬ ccAt s j
  | [], h, j => by rintro ⟨y, h'⟩; simp at h'
  | c :: l, h, j => by
    rw [gap_cons] at h
    split at h
    · cases h
    · rename_i hc
      split at h
      · rename_i hn
        cases j with
        | zero =>
          rintro ⟨y', h'⟩
          simp only [List.drop_zero, List.cons.injEq] at h'
          obtain ⟨rfl, rfl⟩ := h'
          exact hc (by simp)
        | succ j =>
          rintro ⟨y', h'⟩
          exact gap_no l hn j ⟨y', by simpa using h'⟩
      · have := gap_ge l
        omega
/-- What stands about two colons at a place. -/
def v6At (s : List UInt8) (i : Nat) : Option (List UInt16) :=
  match rowL (s.take i), rowL (s.drop (i + 2)) with
  | some a, some b => if a.length + b.length ≤ 7 then some (a ++ List.replicate (8 - a.length - b.length) 0 ++ b) else none
  | _, _ => none
theorem rowL_empty {x : List UInt8} (h0 : x ≠ []) (h : [] ∈ splitL 58 x) : rowL x = none := by
  rw [rowL, if_neg h0, if_neg]
  intro hall
  exact grpOk_ne (List.all_eq_true.1 hall _ h) rfl
/-- Behind an elder pair of colons there is no row ahead. -/
theorem later_none {s : List UInt8} {p k : Nat} (hp : ccAt s p) (hk : p < k) : rowL (s.take k) = none := by
  obtain ⟨y, hy⟩ := hp
  have hpl : p < s.length := by
    rcases Nat.lt_or_ge p s.length with h | h
    · exact h
    · rw [List.drop_of_length_le h] at hy; cases hy
  have e : s = s.take p ++ 58 :: 58 :: y := by rw [← hy, List.take_append_drop]
  have e2 : s.take k = s.take p ++ (58 :: 58 :: y).take (k - p) := by
    conv => lhs; rw [e]
    rw [List.take_append, List.length_take, Nat.min_eq_left (by omega), List.take_of_length_le (by rw [List.length_take]; omega)]
  obtain ⟨j, hj⟩ : ∃ j, k - p = j + 1 := ⟨k - p - 1, by omega⟩
  rw [e2, hj, List.take_succ_cons]
  refine rowL_empty (by simp) ?_
  rw [splitL_app, List.mem_append]
  right
  cases j with
  | zero => simp [splitL]
  | succ j => rw [List.take_succ_cons, splitL, if_pos rfl]; simp
theorem v6_of_gap {s : List UInt8} {k : Nat} (hk : ccAt s k) {g : List UInt16} (h : v6At s k = some g) : v6L s = some g := by
  have hg : gapAt s ≠ -1 := fun e => gap_no s e k hk
  have hge := gap_ge s
  obtain ⟨i, hi⟩ : ∃ i : Nat, gapAt s = i := ⟨(gapAt s).toNat, by unfold gapAt at *; omega⟩
  obtain ⟨h1, h2⟩ := gap_first s i hi
  have : i = k := by
    rcases Nat.lt_trichotomy i k with h' | h' | h'
    · rw [v6At, later_none h1 h'] at h; cases h
    · exact h'
    · exact absurd hk (h2 k h')
  subst this
  rw [v6L, if_neg hg, hi, Int.toNat_natCast]
  exact h
theorem v6_none_of {s : List UInt8} (h8 : gapAt s = -1 → v6L s = none) (h : ∀ k, ccAt s k → v6At s k = none) : v6L s = none := by
  by_cases hg : gapAt s = -1
  · exact h8 hg
  · have hge := gap_ge s
    obtain ⟨i, hi⟩ : ∃ i : Nat, gapAt s = i := ⟨(gapAt s).toNat, by unfold gapAt at *; omega⟩
    have := h i (gap_first s i hi).1
    rw [v6L, if_neg hg, hi, Int.toNat_natCast]
    exact this
/-- Eight groups that all stand there. -/
def eightL (s : List UInt8) : Option (List UInt16) := if (splitL 58 s).length = 8 ∧ (splitL 58 s).all grpOk = true then some ((splitL 58 s).map grpV) else none
theorem rowL_some {s : List UInt8} (h0 : s ≠ []) (h : (splitL 58 s).all grpOk = true) : rowL s = some ((splitL 58 s).map grpV) := by
  rw [rowL, if_neg h0, if_pos h]
theorem eight_v6 {s : List UInt8} {g : List UInt16} (h : eightL s = some g) : v6L s = some g := by
  unfold eightL at h
  split at h
  · rename_i hh
    obtain ⟨h1, h2⟩ := hh
    have h0 : s ≠ [] := by rintro rfl; simp [splitL] at h1
    have hr := rowL_some h0 h2
    rw [v6L, if_pos (gap_none s (rowL_noCC hr)), hr]
    cases h
    simp [h1]
  · cases h
theorem eight_none {s : List UInt8} (h : eightL s = none) (hg : gapAt s = -1) : v6L s = none := by
  rw [v6L, if_pos hg]
  by_cases h0 : s = []
  · subst h0; rfl
  · unfold rowL
    rw [if_neg h0]
    by_cases h2 : (splitL 58 s).all grpOk = true
    · rw [if_pos h2]
      unfold eightL at h
      have h1 : ¬ (splitL 58 s).length = 8 := fun h1 => by rw [if_pos ⟨h1, h2⟩] at h; cases h
      simp [h1]
    · rw [if_neg h2]
/-- Noughts with colons between. -/
def zerosT : Nat → List UInt8
  | 0 => [48]
  | k + 1 => zerosT k ++ [58, 48]
def frontT (x : List UInt8) : List UInt8 := if x = [] then [] else x ++ [58]
def backT (x : List UInt8) : List UInt8 := if x = [] then [] else 58 :: x
theorem zerosT_split : ∀ k, splitL 58 (zerosT k) = List.replicate (k + 1) [48]
  | 0 => by decide
  | k + 1 => by
    have : zerosT (k + 1) = zerosT k ++ 58 :: [48] := by simp [zerosT]
    rw [this, splitL_app, zerosT_split k]
    have h2 : splitL 58 ([48] : List UInt8) = [[48]] := by decide
    rw [h2, List.replicate_succ' (n := k + 1)]
def partsL (x : List UInt8) : List (List UInt8) := if x = [] then [] else splitL 58 x
theorem tries_split (x y : List UInt8) (k : Nat) : splitL 58 (frontT x ++ zerosT k ++ backT y) = partsL x ++ List.replicate (k + 1) [48] ++ partsL y := by
  unfold frontT backT partsL
  by_cases hx : x = [] <;> by_cases hy : y = []
  · simp [hx, hy, zerosT_split]
  · rw [if_pos hx, if_neg hy, if_pos hx, if_neg hy, List.nil_append, List.nil_append, splitL_app, zerosT_split]
  · rw [if_neg hx, if_pos hy, if_neg hx, if_pos hy, List.append_nil, List.append_nil, List.append_assoc, List.singleton_append, splitL_app, zerosT_split]
  · rw [if_neg hx, if_neg hy, if_neg hx, if_neg hy, splitL_app, List.append_assoc x, List.singleton_append, splitL_app, zerosT_split]
theorem rowL_parts (x : List UInt8) : rowL x = if (partsL x).all grpOk = true then some ((partsL x).map grpV) else none := by
  unfold rowL partsL
  by_cases hx : x = []
  · simp [hx]
  · rw [if_neg hx, if_neg hx]
theorem tries (x y : List UInt8) (k : Nat) : eightL (frontT x ++ zerosT k ++ backT y) = match rowL x, rowL y with
    | some a, some b => if a.length + b.length + (k + 1) = 8 then some (a ++ List.replicate (k + 1) 0 ++ b) else none
    | _, _ => none := by
  unfold eightL
  rw [tries_split, rowL_parts, rowL_parts]
  have h48 : grpOk [48] = true := by decide
  have hv : grpV [48] = 0 := by decide
  have hr : (List.replicate (k + 1) ([48] : List UInt8)).all grpOk = true := by
    rw [List.all_eq_true]; intro z hz; rw [List.eq_of_mem_replicate hz]; exact h48
  rw [List.all_append, List.all_append, hr]
  by_cases hx : (partsL x).all grpOk = true <;> by_cases hy : (partsL y).all grpOk = true
  · simp only [hx, hy, if_true, Bool.and_self, and_true, List.length_append, List.length_replicate, List.length_map, List.map_append, List.map_replicate, hv]
    by_cases hl : (partsL x).length + (k + 1) + (partsL y).length = 8
    · rw [if_pos hl, if_pos (by omega)]
    · rw [if_neg hl, if_neg (by omega)]
  · simp [hx, hy]
  · simp [hx, hy]
  · simp [hx, hy]
end Go.Proofs.YtmfjabpmhkechaaGreatDoor
