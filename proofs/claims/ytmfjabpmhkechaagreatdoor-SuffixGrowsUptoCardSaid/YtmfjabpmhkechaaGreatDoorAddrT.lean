/- The texts of addresses in plain words: digits, rows of noughts; and that they are read back. -/
import Derived.Test.YtmfjabpmhkechaaGreatDoorAddrP
namespace Go.Proofs.YtmfjabpmhkechaaGreatDoor
open Go
set_option linter.unusedSimpArgs false
set_option linter.unusedVariables false

/-! ### digits -/
def hexd (i : Nat) : UInt8 := ([48, 49, 50, 51, 52, 53, 54, 55, 56, 57, 97, 98, 99, 100, 101, 102] : List UInt8).getD i 0
def hexL (n : Nat) : List UInt8 :=
  if n < 16 then [hexd n] else if n < 256 then [hexd (n / 16), hexd (n % 16)] else if n < 4096 then [hexd (n / 256), hexd (n / 16 % 16), hexd (n % 16)] else [hexd (n / 4096), hexd (n / 256 % 16), hexd (n / 16 % 16), hexd (n % 16)]
theorem hexD_d (i : Nat) (h : i < 16) : hexD (hexd i) = i := by
  have key : ∀ i : Fin 16, hexD (hexd i.val) = i.val := by decide +kernel
  exact key ⟨i, h⟩
theorem hexd_vis (i : Nat) (h : i < 16) : hexd i ≠ 58 ∧ hexd i ≠ 46 ∧ ¬ (65 ≤ (hexd i).toNat ∧ (hexd i).toNat ≤ 90) := by
  have key : ∀ i : Fin 16, hexd i.val ≠ 58 ∧ hexd i.val ≠ 46 ∧ ¬ (65 ≤ (hexd i.val).toNat ∧ (hexd i.val).toNat ≤ 90) := by decide +kernel
  exact key ⟨i, h⟩
theorem hexL_mem (n : Nat) (h : n < 65536) : ∀ c ∈ hexL n, ∃ i, i < 16 ∧ c = hexd i := by
  intro c hc
  unfold hexL at hc
  split at hc
  · simp only [List.mem_singleton] at hc; exact ⟨_, by omega, hc⟩
  · split at hc
    · simp only [List.mem_cons, List.not_mem_nil, or_false] at hc
      rcases hc with hc | hc <;> exact ⟨_, by omega, hc⟩
    · split at hc
      · simp only [List.mem_cons, List.not_mem_nil, or_false] at hc
        rcases hc with hc | hc | hc <;> exact ⟨_, by omega, hc⟩
      · simp only [List.mem_cons, List.not_mem_nil, or_false] at hc
        rcases hc with hc | hc | hc | hc <;> exact ⟨_, by omega, hc⟩
theorem hexL_len (n : Nat) : 1 ≤ (hexL n).length ∧ (hexL n).length ≤ 4 := by
  unfold hexL
  split
  · simp
  · split
    · simp
    · split <;> simp
theorem hexL_ok (n : Nat) (h : n < 65536) : grpOk (hexL n) = true := by
  have h1 := hexL_len n
  have h2 : hexAll (hexL n) = true := by
    rw [hexAll, List.all_eq_true]
    intro c hc
    obtain ⟨i, hi, rfl⟩ := hexL_mem n h c hc
    rw [hexD_d i hi]; simp
  rw [grpOk, h2]
  simp [h1.1, h1.2]
theorem hexL_val (n : Nat) (h : n < 65536) : hexN (hexL n) = n := by
  unfold hexL
  split
  · rename_i h1
    simp [hexN, hexD_d _ h1]
  · split
    · simp only [hexN, List.foldl_cons, List.foldl_nil, hexD_d (n / 16) (by omega), hexD_d (n % 16) (by omega), Int.toNat_natCast]; omega
    · split
      · simp only [hexN, List.foldl_cons, List.foldl_nil, hexD_d (n / 256) (by omega), hexD_d (n / 16 % 16) (by omega), hexD_d (n % 16) (by omega), Int.toNat_natCast]; omega
      · simp only [hexN, List.foldl_cons, List.foldl_nil, hexD_d (n / 4096) (by omega), hexD_d (n / 256 % 16) (by omega), hexD_d (n / 16 % 16) (by omega), hexD_d (n % 16) (by omega), Int.toNat_natCast]; omega
theorem grpV_hex (x : UInt16) : grpV (hexL x.toNat) = x := by
  rw [← UInt16.toNat_inj, grpV_nat _ (hexL_len _).2, hexL_val _ x.toNat_lt]
theorem split_join (c : UInt8) : ∀ L : List (List UInt8), L ≠ [] → (∀ p ∈ L, c ∉ p) → splitL c (joinL c L) = L
  | [], h, _ => absurd rfl h
  | [l], _, h => splitL_none c l (h l (by simp))
  | l :: m :: L, _, h => by
    rw [joinL, splitL_append c _ _ (h l (by simp)), split_join c (m :: L) (by simp) (fun p hp => h p (by simp only [List.mem_cons] at hp ⊢; exact .inr hp))]
def writtenL (g : List UInt16) : List UInt8 := joinL 58 (g.map fun x => hexL x.toNat)
theorem hexL_no (n : Nat) (h : n < 65536) : (58 : UInt8) ∉ hexL n := fun hc => by
  obtain ⟨i, hi, e⟩ := hexL_mem n h _ hc
  exact (hexd_vis i hi).1 e.symm
theorem written_split (g : List UInt16) (h : g ≠ []) : splitL 58 (writtenL g) = g.map fun x => hexL x.toNat :=
  split_join 58 _ (by simpa using h) (fun p hp => by
    simp only [List.mem_map] at hp
    obtain ⟨x, _, rfl⟩ := hp
    exact hexL_no _ x.toNat_lt)
theorem joinL_ne (c : UInt8) : ∀ L : List (List UInt8), L ≠ [] → (∀ p ∈ L, p ≠ []) → joinL c L ≠ []
  | [], h, _ => absurd rfl h
  | [l], _, h => h l (by simp)
  | l :: m :: L, _, h => by simp [joinL]
theorem rowL_written (g : List UInt16) : rowL (writtenL g) = some g := by
  by_cases h : g = []
  · subst h; rfl
  · have h0 : writtenL g ≠ [] := joinL_ne 58 _ (by simpa using h) (fun p hp => by
      simp only [List.mem_map] at hp
      obtain ⟨x, _, rfl⟩ := hp
      intro e
      have := (hexL_len x.toNat).1
      rw [e] at this; simp at this)
    rw [rowL_some h0, written_split g h, List.map_map]
    · congr 1
      conv => rhs; rw [← List.map_id g]
      apply List.map_congr_left
      intro x _
      exact grpV_hex x
    · rw [written_split g h, List.all_eq_true]
      intro p hp
      simp only [List.mem_map] at hp
      obtain ⟨x, _, rfl⟩ := hp
      exact hexL_ok _ x.toNat_lt

/-! ### the longest row of noughts -/
def zStep (st : Nat × Nat × Nat × Nat) (z : Bool) : Nat × Nat × Nat × Nat :=
  let r := if z then st.2.2.2 + 1 else 0
  if st.2.2.1 < r then (st.1 + 1, st.1 + 1 - r, r, r) else (st.1 + 1, st.2.1, st.2.2.1, r)
def zState (l : List Bool) : Nat × Nat × Nat × Nat := l.foldl zStep (0, 0, 0, 0)
def zAt (l : List Bool) : Nat := (zState l).2.1
def zLong (l : List Bool) : Nat := (zState l).2.2.1
def winB (z : List Bool) (a n : Nat) : Bool := ((z.drop a).take n).all id
def zGood (z : List Bool) : Bool :=
  if 2 ≤ zLong z then winB z (zAt z) (zLong z) && (decide (zAt z + zLong z ≤ 8) && ((List.range 9).all (fun n => decide (n ≤ zLong z) || (List.range 9).all fun a => decide (8 < a + n) || !winB z a n) && (List.range (zAt z)).all fun a => !winB z a (zLong z)))
  else (List.range 9).all fun n => decide (n < 2) || (List.range 9).all fun a => decide (8 < a + n) || !winB z a n
theorem zGood_all : ∀ a b c d e f g h : Bool, zGood [a, b, c, d, e, f, g, h] = true := by decide +kernel
theorem list8 {α : Type} (l : List α) (h : l.length = 8) : ∃ a b c d e f g i, l = [a, b, c, d, e, f, g, i] := by
  match l, h with
  | [a, b, c, d, e, f, g, i], _ => exact ⟨a, b, c, d, e, f, g, i, rfl⟩
theorem z_good (z : List Bool) (hz : z.length = 8) : zGood z = true := by
  obtain ⟨a, b, c, d, e, f, g, h, rfl⟩ := list8 z hz
  exact zGood_all a b c d e f g h
theorem z_long {z : List Bool} (hz : z.length = 8) (h2 : 2 ≤ zLong z) : winB z (zAt z) (zLong z) = true ∧ zAt z + zLong z ≤ 8 ∧ (∀ n a, zLong z < n → a + n ≤ 8 → winB z a n = false) ∧ ∀ a, a < zAt z → winB z a (zLong z) = false := by
  have h := z_good z hz
  rw [zGood, if_pos h2] at h
  simp only [Bool.and_eq_true, decide_eq_true_eq, List.all_eq_true, List.mem_range, Bool.or_eq_true, Bool.not_eq_true'] at h
  refine ⟨h.1, h.2.1, fun n a hn ha => ?_, h.2.2.2⟩
  rcases h.2.2.1 n (by omega) with h' | h'
  · omega
  · rcases h' a (by omega) with h' | h'
    · omega
    · exact h'
theorem z_short {z : List Bool} (hz : z.length = 8) (h2 : zLong z < 2) (n a : Nat) (hn : 2 ≤ n) (ha : a + n ≤ 8) : winB z a n = false := by
  have h := z_good z hz
  rw [zGood, if_neg (by omega)] at h
  simp only [decide_eq_true_eq, List.all_eq_true, List.mem_range, Bool.or_eq_true, Bool.not_eq_true'] at h
  rcases h n (by omega) with h' | h'
  · omega
  · rcases h' a (by omega) with h' | h'
    · omega
    · exact h'
/-- The first window, the long ones first, is the row that is told. -/
theorem z_first {z : List Bool} (hz : z.length = 8) {n a : Nat} (hn : 2 ≤ n) (ha : a + n ≤ 8) (hw : winB z a n = true) (hlong : ∀ n' a', n < n' → a' + n' ≤ 8 → winB z a' n' = false) (hat : ∀ a', a' < a → winB z a' n = false) : zLong z = n ∧ zAt z = a := by
  by_cases h2 : zLong z < 2
  · rw [z_short hz h2 n a hn ha] at hw; cases hw
  · obtain ⟨w1, w2, w3, w4⟩ := z_long hz (by omega)
    have e : zLong z = n := by
      rcases Nat.lt_trichotomy (zLong z) n with h | h | h
      · rw [w3 n a h ha] at hw; cases hw
      · exact h
      · rw [hlong _ _ h w2] at w1; cases w1
    refine ⟨e, ?_⟩
    rw [e] at w1 w4
    rcases Nat.lt_trichotomy (zAt z) a with h | h | h
    · rw [hat _ h] at w1; cases w1
    · exact h
    · rw [w4 a h] at hw; cases hw
def nulls (g : List UInt16) : List Bool := g.map fun x => x == 0
def text6G (g : List UInt16) : List UInt8 :=
  if zLong (nulls g) < 2 then writtenL g else writtenL (g.take (zAt (nulls g))) ++ [58, 58] ++ writtenL (g.drop (zAt (nulls g) + zLong (nulls g)))
def text6L (a : List UInt8) : List UInt8 := text6G (grpL a)
theorem win_zeros (g : List UInt16) (a n : Nat) (hw : winB (nulls g) a n = true) (ha : a + n ≤ g.length) : g = g.take a ++ List.replicate n 0 ++ g.drop (a + n) := by
  have e : (g.drop a).take n = List.replicate n 0 := by
    rw [List.eq_replicate_iff]
    refine ⟨by rw [List.length_take, List.length_drop]; omega, fun x hx => ?_⟩
    unfold winB nulls at hw
    rw [← List.map_drop, ← List.map_take, List.all_eq_true] at hw
    have := hw (x == 0) (List.mem_map_of_mem hx)
    simpa using this
  have h1 : g = g.take a ++ ((g.drop a).take n ++ (g.drop a).drop n) := by rw [List.take_append_drop, List.take_append_drop]
  rw [e, List.drop_drop] at h1
  rw [List.append_assoc]
  exact h1
theorem v6_text (g : List UInt16) (hg : g.length = 8) : v6L (text6G g) = some g := by
  have hz : (nulls g).length = 8 := by simp [nulls, hg]
  unfold text6G
  split
  · have hr := rowL_written g
    rw [v6L, if_pos (gap_none _ (rowL_noCC hr)), hr]
    simp [hg]
  · rename_i h2
    obtain ⟨w1, w2, _, _⟩ := z_long hz (by omega)
    have hr1 := rowL_written (g.take (zAt (nulls g)))
    have hr2 := rowL_written (g.drop (zAt (nulls g) + zLong (nulls g)))
    have e : writtenL (g.take (zAt (nulls g))) ++ [58, 58] ++ writtenL (g.drop (zAt (nulls g) + zLong (nulls g))) = writtenL (g.take (zAt (nulls g))) ++ 58 :: 58 :: writtenL (g.drop (zAt (nulls g) + zLong (nulls g))) := by simp
    rw [e]
    have hgap := gap_app (writtenL (g.take (zAt (nulls g)))) (writtenL (g.drop (zAt (nulls g) + zLong (nulls g)))) (rowL_noCC hr1)
    rw [v6L, if_neg (by omega), hgap, Int.toNat_natCast, List.take_left, hr1]
    have e2 : (writtenL (g.take (zAt (nulls g))) ++ 58 :: 58 :: writtenL (g.drop (zAt (nulls g) + zLong (nulls g)))).drop ((writtenL (g.take (zAt (nulls g)))).length + 2) = writtenL (g.drop (zAt (nulls g) + zLong (nulls g))) := by
      rw [List.drop_append, List.drop_of_length_le (by omega)]
      simp
    rw [e2, hr2]
    simp only [List.length_take, List.length_drop, hg]
    rw [if_pos (by omega)]
    congr 1
    have := win_zeros g _ _ w1 (by omega)
    conv => rhs; rw [this]
    congr 2
    congr 1
    omega
theorem text6_inj (a b : List UInt8) (ha : a.length = 16) (hb : b.length = 16) (h : text6L a = text6L b) : a = b := by
  have h1 := v6_text (grpL a) (by rw [grpL_length, ha])
  have h2 := v6_text (grpL b) (by rw [grpL_length, hb])
  rw [text6L, text6L] at h
  rw [h, h2] at h1
  have : grpL b = grpL a := Option.some.inj h1
  rw [← from_grp a (by omega), ← from_grp b (by omega), this]

/-! ### four numbers -/
def decT (n : Nat) : List UInt8 :=
  if n < 10 then [UInt8.ofNat (48 + n)] else if n < 100 then [UInt8.ofNat (48 + n / 10), UInt8.ofNat (48 + n % 10)] else [UInt8.ofNat (48 + n / 100), UInt8.ofNat (48 + n / 10 % 10), UInt8.ofNat (48 + n % 10)]
def text4L (a : List UInt8) : List UInt8 := joinL 46 ((a.drop 12).map fun c => decT c.toNat)
theorem decT_ok (c : UInt8) : numOk (decT c.toNat) = true ∧ numV (decT c.toNat) = c.toNat ∧ (46 : UInt8) ∉ decT c.toNat ∧ (decT c.toNat).length ≤ 3 := by
  have key : ∀ i : Fin 256, numOk (decT i.val) = true ∧ numV (decT i.val) = i.val ∧ (46 : UInt8) ∉ decT i.val ∧ (decT i.val).length ≤ 3 := by decide +kernel
  exact key ⟨c.toNat, c.toNat_lt⟩
theorem text4_split (a : List UInt8) (ha : a.length = 16) : splitL 46 (text4L a) = (a.drop 12).map fun c => decT c.toNat :=
  split_join 46 _ (fun e => by have := congrArg List.length e; simp [ha] at this) (fun p hp => by
    simp only [List.mem_map] at hp
    obtain ⟨x, _, rfl⟩ := hp
    exact (decT_ok x).2.2.1)
theorem v4_text (a : List UInt8) (ha : a.length = 16) : v4Ok (text4L a) = true ∧ v4B (text4L a) = List.replicate 12 0 ++ a.drop 12 := by
  rw [v4Ok, v4B, text4_split a ha]
  constructor
  · rw [Bool.and_eq_true, List.all_eq_true]
    refine ⟨by simp [ha], fun p hp => ?_⟩
    simp only [List.mem_map] at hp
    obtain ⟨x, _, rfl⟩ := hp
    obtain ⟨h1, h2, _, _⟩ := decT_ok x
    have := x.toNat_lt
    rw [h1, h2]
    simp
    omega
  · congr 1
    rw [List.map_map]
    conv => rhs; rw [← List.map_id (a.drop 12)]
    apply List.map_congr_left
    intro x _
    simp [(decT_ok x).2.1]

/-! ### how long, and which signs -/
theorem joinL_mem (c : UInt8) : ∀ (L : List (List UInt8)) (x : UInt8), x ∈ joinL c L → x = c ∨ ∃ p ∈ L, x ∈ p
  | [], x, h => by simp [joinL] at h
  | [l], x, h => .inr ⟨l, by simp, h⟩
  | l :: m :: L, x, h => by
    rw [joinL, List.mem_append, List.mem_cons] at h
    rcases h with h | h | h
    · exact .inr ⟨l, by simp, h⟩
    · exact .inl h
    · rcases joinL_mem c (m :: L) x h with h | ⟨p, hp, hx⟩
      · exact .inl h
      · exact .inr ⟨p, by simp only [List.mem_cons] at hp ⊢; exact .inr hp, hx⟩
theorem written_low (g : List UInt16) (x : UInt8) (h : x ∈ writtenL g) : ¬ (65 ≤ x.toNat ∧ x.toNat ≤ 90) := by
  rcases joinL_mem 58 _ x h with rfl | ⟨p, hp, hx⟩
  · decide
  · simp only [List.mem_map] at hp
    obtain ⟨y, _, rfl⟩ := hp
    obtain ⟨i, hi, rfl⟩ := hexL_mem _ y.toNat_lt x hx
    exact (hexd_vis i hi).2.2
theorem text6_low (g : List UInt16) (x : UInt8) (h : x ∈ text6G g) : ¬ (65 ≤ x.toNat ∧ x.toNat ≤ 90) := by
  unfold text6G at h
  split at h
  · exact written_low g x h
  · simp only [List.mem_append, List.mem_cons, List.not_mem_nil, or_false] at h
    rcases h with (h | rfl | rfl) | h
    · exact written_low _ x h
    · decide
    · decide
    · exact written_low _ x h
theorem written_len : ∀ g : List UInt16, (writtenL g).length ≤ 5 * g.length ∧ (g ≠ [] → (writtenL g).length + 1 ≤ 5 * g.length ∧ 2 * g.length ≤ (writtenL g).length + 1)
  | [] => ⟨by simp [writtenL, joinL], fun h => absurd rfl h⟩
  | [x] => by
    have := hexL_len x.toNat
    have e : writtenL [x] = hexL x.toNat := rfl
    rw [e]; simp; omega
  | x :: y :: g => by
    have ih := (written_len (y :: g)).2 (by simp)
    have := hexL_len x.toNat
    have e : writtenL (x :: y :: g) = hexL x.toNat ++ 58 :: writtenL (y :: g) := rfl
    rw [e]
    simp only [List.length_append, List.length_cons] at *
    omega
theorem text6_len (g : List UInt16) (hg : g.length = 8) : 2 ≤ (text6G g).length ∧ (text6G g).length ≤ 39 := by
  have hz : (nulls g).length = 8 := by simp [nulls, hg]
  unfold text6G
  split
  · have := (written_len g).2 (by rintro rfl; simp at hg)
    omega
  · rename_i h2
    obtain ⟨_, w2, _, _⟩ := z_long hz (by omega)
    have h1 := (written_len (g.take (zAt (nulls g)))).1
    have h3 := (written_len (g.drop (zAt (nulls g) + zLong (nulls g)))).1
    simp only [List.length_take, List.length_drop, hg] at h1 h3
    simp only [List.length_append, List.length_cons, List.length_nil]
    omega
end Go.Proofs.YtmfjabpmhkechaaGreatDoor
