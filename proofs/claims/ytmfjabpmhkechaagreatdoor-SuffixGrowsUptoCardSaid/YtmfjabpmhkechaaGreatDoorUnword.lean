/- The walks of Unword: the bytes that a word stands for. -/
import Derived.Test.YtmfjabpmhkechaaGreatDoorWordR
import Derived.Test.YtmfjabpmhkechaaGreatDoorShelf
namespace Go.Proofs.YtmfjabpmhkechaaGreatDoor
open Go Go.RowKit

def halfI (c : UInt8) : Int := Lib.indexByte hexCs c % 256
theorem wordBody_cons (d : UInt8) (o : List UInt8) : wordBody (d :: o) = wordC d ++ wordBody o := by simp [wordBody]
theorem plainC_ne {d : UInt8} (h : plainC d = true) : d ≠ 37 := by
  rintro rfl
  revert h; decide
/-- What a word's beginning tells of the text's. -/
theorem word_head {d c : UInt8} {o r : List UInt8} (h : wordBody (d :: o) = c :: r) :
    (c = 37 ∧ ∃ r', r = hexU (d.toNat / 16) :: hexU (d.toNat % 16) :: r' ∧ wordBody o = r') ∨ (c ≠ 37 ∧ d = c ∧ wordBody o = r) := by
  rw [wordBody_cons, wordC] at h
  by_cases hp : plainC d = true
  · rw [if_pos hp] at h
    injection h with h1 h2
    exact .inr ⟨h1 ▸ plainC_ne hp, h1, h2⟩
  · rw [if_neg hp] at h
    injection h with h1 h2
    exact .inl ⟨h1.symm, _, h2.symm, rfl⟩
theorem hexU_inj : ∀ c d : UInt8, hexU (c.toNat / 16) = hexU (d.toNat / 16) → hexU (c.toNat % 16) = hexU (d.toNat % 16) → c = d := by
  have key : ∀ i j : Fin 16, hexU i.val = hexU j.val → i = j := by decide +kernel
  intro c d h1 h2
  have a := key ⟨c.toNat / 16, by have := c.toNat_lt; omega⟩ ⟨d.toNat / 16, by have := d.toNat_lt; omega⟩ h1
  have b := key ⟨c.toNat % 16, by omega⟩ ⟨d.toNat % 16, by omega⟩ h2
  simp only [Fin.mk.injEq] at a b
  exact UInt8.toNat_inj.1 (by omega)
theorem wordBody_inj : ∀ (a b : List UInt8), wordBody a = wordBody b → a = b
  | [], [], _ => rfl
  | [], d :: o, h => by
    have := wordBody_pos (d :: o) (by simp)
    rw [← h] at this; cases this
  | d :: o, [], h => by
    have := wordBody_pos (d :: o) (by simp)
    rw [h] at this; cases this
  | d :: o, c :: q, h => by
    rcases hw : wordBody (c :: q) with _ | ⟨x, r⟩
    · have := wordBody_pos (c :: q) (by simp)
      rw [hw] at this; cases this
    · rw [hw] at h
      rcases word_head h with ⟨h1, r1, e1, f1⟩ | ⟨h1, e1, f1⟩ <;> rcases word_head hw with ⟨h2, r2, e2, f2⟩ | ⟨h2, e2, f2⟩
      · rw [e1] at e2
        injection e2 with g1 g2
        injection g2 with g2 g3
        rw [hexU_inj _ _ g1 g2, wordBody_inj o q (by rw [f1, f2, g3])]
      · exact absurd h1 h2
      · exact absurd h2 h1
      · rw [e1, e2, wordBody_inj o q (by rw [f1, f2])]
theorem wordL_inj (a b : List UInt8) (h : wordL a = wordL b) : a = b := by
  have key : ∀ o, o ≠ [] → wordBody o ≠ [37] := by
    intro o ho e
    cases o with
    | nil => exact ho rfl
    | cons d o =>
      rcases word_head e with ⟨_, r, e1, _⟩ | ⟨h1, _⟩
      · cases e1
      · exact h1 rfl
  unfold wordL at h
  by_cases ha : a = [] <;> by_cases hb : b = []
  · rw [ha, hb]
  · rw [if_pos ha, if_neg hb] at h; exact absurd h.symm (key b hb)
  · rw [if_neg ha, if_pos hb] at h; exact absurd h (key a ha)
  · rw [if_neg ha, if_neg hb] at h; exact wordBody_inj a b h
/-- What both answers come to: the text whose word this is, if there is one. -/
def Unworded (s t : List UInt8) (ok : Bool) : Prop := (ok = true ∧ wordL t = s) ∨ (ok = false ∧ t = [] ∧ ∀ o, wordL o ≠ s)
theorem Unworded.one {s t t' : List UInt8} {ok ok' : Bool} (h : Unworded s t ok) (h' : Unworded s t' ok') : t = t' ∧ ok = ok' := by
  rcases h with ⟨rfl, e⟩ | ⟨rfl, rfl, n⟩ <;> rcases h' with ⟨rfl, e'⟩ | ⟨rfl, rfl, n'⟩
  · exact ⟨wordL_inj _ _ (e.trans e'.symm), rfl⟩
  · exact absurd e (n' _)
  · exact absurd e' (n _)
  · exact ⟨rfl, rfl⟩
def UnwordPost (l : List UInt8) (w : World) (e : Ending) (w' : World) : Prop := ∃ t ok, Unworded l t ok ∧ e = .returned (.tuple #[.string ⟨t.toArray⟩, .bool ok]) ∧ Below w.heap.size w w'
theorem word_last : ∀ o : List UInt8, (wordBody o).getLast? ≠ some 37
  | [] => by simp [wordBody]
  | d :: o => by
    rw [wordBody_cons, List.getLast?_append]
    have ih := word_last o
    cases hl : (wordBody o).getLast? with
    | some x => rw [hl] at ih; simpa using ih
    | none =>
      have key : ∀ i : Fin 16, hexU i.val ≠ 37 := by decide +kernel
      rw [wordC]
      by_cases hp : plainC d = true
      · rw [if_pos hp]
        simpa using plainC_ne hp
      · rw [if_neg hp]
        simpa using key ⟨d.toNat % 16, by omega⟩
theorem trim_word (o : List UInt8) : Lib.trimSuffix (wordBody o) [37] = wordBody o := by
  unfold Lib.trimSuffix Lib.hasSuffix
  refine if_neg fun h => ?_
  obtain ⟨t, ht⟩ := List.isSuffixOf_iff_suffix.1 h
  have := word_last o
  rw [← ht] at this
  simp at this
/-- What is left to read, and what was read of it. -/
theorem unword_start (s o : List UInt8) (h : wordL o = s) : wordBody o = Lib.trimSuffix s [37] := by
  subst h
  unfold wordL
  by_cases h0 : o = []
  · subst h0; rfl
  · rw [if_neg h0, trim_word]
theorem bytesAt_new1e (w : World) (x : UInt8) (t : TypeId) {b : Nat} (hb : b = w.heap.size) : bytesAt (w.alloc (.cells #[.int .u8 (x.toNat : Int)] t)) ⟨b, 0, none⟩ [x] := by
  subst hb; exact bytesAt_new1 w x t
/-- What the four bits and the four bits make. -/
def combI (x y : UInt8) : Int := bits .or .u8 (IntKind.u8.wrap (halfI x * 16)) (bits .and .u8 (halfI y) 15)
def halves : List Int := [0, 1, 2, 3, 4, 5, 6, 7, 8, 9, 10, 11, 12, 13, 14, 15, 255]
theorem half_mem (c : UInt8) : halfI c ∈ halves := by
  have key : ∀ i : Fin 256, halfI (UInt8.ofNat i.val) ∈ halves := by decide +kernel
  have := key ⟨c.toNat, c.toNat_lt⟩
  simpa using this
theorem comb_u8 (x y : UInt8) : ∃ d : UInt8, (d.toNat : Int) = combI x y := by
  have key : ∀ i ∈ halves, ∀ j ∈ halves, 0 ≤ bits .or .u8 (IntKind.u8.wrap (i * 16)) (bits .and .u8 j 15) ∧ bits .or .u8 (IntKind.u8.wrap (i * 16)) (bits .and .u8 j 15) < 256 := by decide +kernel
  obtain ⟨h1, h2⟩ := key _ (half_mem x) _ (half_mem y)
  refine ⟨UInt8.ofNat (combI x y).toNat, ?_⟩
  unfold combI
  rw [UInt8.toNat_ofNat']
  omega
theorem comb_hex (d : UInt8) : (d.toNat : Int) = combI (hexU (d.toNat / 16)) (hexU (d.toNat % 16)) := by
  have key : ∀ i : Fin 256, (i.val : Int) = combI (hexU (i.val / 16)) (hexU (i.val % 16)) := by decide +kernel
  exact key ⟨d.toNat, d.toNat_lt⟩
theorem trimSuffix_length (l p : List UInt8) : (Lib.trimSuffix l p).length ≤ l.length := by
  unfold Lib.trimSuffix
  split
  · rw [List.length_take]; omega
  · exact Nat.le_refl _
end Go.Proofs.YtmfjabpmhkechaaGreatDoor
