/- The pieces of a text between bytes: in plain words. No program in sight. -/
import Derived.Test.YtmfjabpmhkechaaGreatDoorBase
import Derived.Lib.SplitLaws
namespace Go.Proofs.YtmfjabpmhkechaaGreatDoor
open Go

/-- The pieces between the bytes c. -/
def splitL (c : UInt8) : List UInt8 → List (List UInt8)
  | [] => [[]]
  | x :: l => if x = c then [] :: splitL c l else (x :: (splitL c l).headD []) :: (splitL c l).tail
theorem splitL_ne (c : UInt8) : ∀ l, splitL c l ≠ []
  | [] => by simp [splitL]
  | x :: l => by rw [splitL]; split <;> simp
theorem splitL_pos (c : UInt8) (l : List UInt8) : 0 < (splitL c l).length := List.length_pos_iff.2 (splitL_ne c l)
theorem index_cons (c x : UInt8) (l : List UInt8) : Lib.index (x :: l) [c] = if x = c then 0 else if Lib.index l [c] == -1 then -1 else Lib.index l [c] + 1 := by
  rw [Lib.index]
  by_cases h : x = c
  · subst h; simp
  · have h1 : ([c].isPrefixOf (x :: l)) = false := by
      simp only [List.isPrefixOf, Bool.and_true]
      exact beq_eq_false_iff_ne.2 (fun e => h e.symm)
    rw [h1, if_neg h]
    simp
theorem splitK_one (c : UInt8) : ∀ l : List UInt8, Lib.splitK [c] 0 (Lib.count l [c]) l = splitL c l
  | [] => by
    rw [Lib.count_one]
    rfl
  | x :: l => by
    have ih := splitK_one c l
    by_cases h : x = c
    · subst h
      rw [Lib.count_cons_eq, Nat.add_comm, Lib.splitK, index_cons]
      simp [splitL, ih]
    · rw [Lib.count_cons_ne x c l h, splitL, if_neg h]
      cases hn : Lib.count l [c] with
      | zero =>
        rw [hn] at ih
        rw [← ih]
        simp [Lib.splitK]
      | succ k =>
        rw [hn] at ih
        have hi : (Lib.index l [c] == -1) = false := by
          rw [beq_eq_false_iff_ne]
          intro e
          rw [Lib.count_miss e] at hn
          cases hn
        have hge := Lib.index_ge l [c]
        have hi' : Lib.index l [c] ≠ -1 := beq_eq_false_iff_ne.1 hi
        rw [Lib.splitK, hi] at ih
        rw [Lib.splitK, index_cons, if_neg h, hi]
        have h1 : (Lib.index l [c] + 1 == -1) = false := beq_eq_false_iff_ne.2 (by omega)
        have h2 : (Lib.index l [c] + 1).toNat = (Lib.index l [c]).toNat + 1 := by omega
        simp only [Bool.false_eq_true, if_false, h1, h2] at ih ⊢
        rw [← ih]
        simp [List.take_succ_cons, Nat.add_assoc]
theorem splitB_one (c : UInt8) (l : List UInt8) : (Lib.splitB ⟨[c].toArray⟩ 0 (Lib.countB ⟨l.toArray⟩ ⟨[c].toArray⟩) ⟨l.toArray⟩).map (·.data.toList) = splitL c l := by
  rw [Lib.splitB_data]
  exact splitK_one c l
theorem splitB_count (c : UInt8) (l : List UInt8) : Lib.countB ⟨l.toArray⟩ ⟨[c].toArray⟩ + 1 = (splitL c l).length := by
  rw [← splitB_one, List.length_map]
  exact (Lib.splitB_all ⟨[c].toArray⟩ (Nat.le_refl 1) 0 _ ⟨l.toArray⟩ rfl).symm

/-! ### a list of texts as cells -/
def strsL (L : List (List UInt8)) : List Value := L.map fun l => Value.string ⟨l.toArray⟩
def strsV (L : List (List UInt8)) : Array Value := (strsL L).toArray
@[go_sem] theorem strsV_size (L : List (List UInt8)) : (strsV L).size = L.length := by simp [strsV, strsL]
@[go_sem ↓ high] theorem strsV_get (L : List (List UInt8)) (i : Nat) (h : i < L.length) : (strsV L)[i]? = some (.string ⟨(L[i]'h).toArray⟩) := by
  simp [strsV, strsL, h]
theorem splitB_cells (c : UInt8) (l : List UInt8) : ((Lib.splitB ⟨[c].toArray⟩ 0 (Lib.countB ⟨l.toArray⟩ ⟨[c].toArray⟩) ⟨l.toArray⟩).map Value.string).toArray = strsV (splitL c l) := by
  rw [strsV, strsL, ← splitB_one, List.map_map]
  rfl

/-! ### pieces and the whole -/
/-- The texts with a byte between each two. -/
def joinL (c : UInt8) : List (List UInt8) → List UInt8
  | [] => []
  | [l] => l
  | l :: m :: L => l ++ c :: joinL c (m :: L)
theorem splitL_cons (c x : UInt8) (l : List UInt8) (h : x ≠ c) : ∃ p ps, splitL c l = p :: ps ∧ splitL c (x :: l) = (x :: p) :: ps := by
  rcases hs : splitL c l with _ | ⟨p, ps⟩
  · exact absurd hs (splitL_ne c l)
  · exact ⟨p, ps, rfl, by rw [splitL, if_neg h, hs]; rfl⟩
theorem join_split (c : UInt8) : ∀ l, joinL c (splitL c l) = l
  | [] => rfl
  | x :: l => by
    have ih := join_split c l
    by_cases h : x = c
    · subst h
      rw [splitL, if_pos rfl]
      rcases hs : splitL x l with _ | ⟨p, ps⟩
      · exact absurd hs (splitL_ne x l)
      · rw [hs] at ih
        rw [joinL, ih]; rfl
    · obtain ⟨p, ps, h1, h2⟩ := splitL_cons c x l h
      rw [h1] at ih
      rw [h2]
      rcases ps with _ | ⟨q, ps⟩
      · rw [joinL] at ih ⊢; rw [ih]
      · rw [joinL] at ih ⊢; rw [List.cons_append, ih]
theorem splitL_no (c : UInt8) : ∀ l p, p ∈ splitL c l → c ∉ p
  | [], p, h => by simp [splitL] at h; subst h; simp
  | x :: l, p, h => by
    by_cases hx : x = c
    · rw [splitL, if_pos hx, List.mem_cons] at h
      rcases h with rfl | h
      · simp
      · exact splitL_no c l p h
    · obtain ⟨q, qs, h1, h2⟩ := splitL_cons c x l hx
      rw [h2, List.mem_cons] at h
      rcases h with rfl | h
      · simp only [List.mem_cons, not_or]
        exact ⟨fun e => hx e.symm, splitL_no c l q (by rw [h1]; simp)⟩
      · exact splitL_no c l p (by rw [h1]; simp [h])
theorem splitL_append (c : UInt8) (a b : List UInt8) (ha : c ∉ a) : splitL c (a ++ c :: b) = a :: splitL c b := by
  induction a with
  | nil => rw [List.nil_append, splitL, if_pos rfl]
  | cons x a ih =>
    have hx : x ≠ c := fun e => ha (by simp [e])
    have := ih (fun h => ha (by simp [h]))
    rw [List.cons_append, splitL, if_neg hx, this]; rfl
theorem splitL_none (c : UInt8) (a : List UInt8) (ha : c ∉ a) : splitL c a = [a] := by
  induction a with
  | nil => rfl
  | cons x a ih =>
    have hx : x ≠ c := fun e => ha (by simp [e])
    have := ih (fun h => ha (by simp [h]))
    rw [splitL, if_neg hx, this]; rfl
theorem splitL_length_le (c : UInt8) : ∀ l : List UInt8, (splitL c l).length ≤ l.length + 1
  | [] => by simp [splitL]
  | x :: l => by
    have ih := splitL_length_le c l
    rw [splitL]
    split
    · simp; omega
    · simp; omega
theorem splitL_piece_le (c : UInt8) : ∀ l p, p ∈ splitL c l → p.length ≤ l.length
  | [], p, h => by simp [splitL] at h; subst h; simp
  | x :: l, p, h => by
    by_cases hx : x = c
    · rw [splitL, if_pos hx, List.mem_cons] at h
      rcases h with rfl | h
      · simp
      · have := splitL_piece_le c l p h; simp; omega
    · obtain ⟨q, qs, h1, h2⟩ := splitL_cons c x l hx
      rw [h2, List.mem_cons] at h
      rcases h with rfl | h
      · have := splitL_piece_le c l q (by rw [h1]; simp); simp; omega
      · have := splitL_piece_le c l p (by rw [h1]; simp [h]); simp; omega
end Go.Proofs.YtmfjabpmhkechaaGreatDoor
