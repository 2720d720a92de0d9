/- The walk of Lines: a text's lines, without the line ends. -/
import Derived.Test.YtmfjabpmhkechaaGreatDoorSplit
import Derived.Test.YtmfjabpmhkechaaGreatDoorCod
namespace Go.Proofs.YtmfjabpmhkechaaGreatDoor
open Go Go.RowKit

def dropEmpty (L : List (List UInt8)) : List (List UInt8) := if L.getLast? = some [] then L.dropLast else L
def cutCR (l : List UInt8) : List UInt8 := Lib.trimSuffix l [13]
def linesL (l : List UInt8) : List (List UInt8) := (dropEmpty (splitL 10 l)).map cutCR
def crTo (L : List (List UInt8)) (k : Nat) : List (List UInt8) := (L.take k).map cutCR ++ L.drop k
theorem crTo_length (L : List (List UInt8)) (k : Nat) : (crTo L k).length = L.length := by simp [crTo]; omega
theorem crTo_at (l : List (List UInt8)) (k : Nat) (hk : k ≤ l.length) (j : Nat) : (crTo l k)[j]? = if j < k then (l[j]?).map cutCR else l[j]? := by
  rw [crTo, List.getElem?_append, List.length_map, List.length_take, Nat.min_eq_left hk]
  split
  · rw [List.getElem?_map, List.getElem?_take, if_pos (by assumption)]
  · rw [List.getElem?_drop]
    congr 1
    omega
theorem crTo_get (l : List (List UInt8)) (k : Nat) (h : k < l.length) (h' : k < (crTo l k).length) : (crTo l k)[k]'h' = l[k]'h := by
  have := crTo_at l k (by omega) k
  rw [if_neg (by omega), List.getElem?_eq_getElem h', List.getElem?_eq_getElem h] at this
  exact Option.some.inj this
theorem crTo_succ (l : List (List UInt8)) (k : Nat) (h : k < l.length) : crTo l (k + 1) = (crTo l k).set k (cutCR (l[k]'h)) := by
  apply List.ext_getElem?
  intro j
  rw [crTo_at l (k + 1) (by omega), List.getElem?_set, crTo_length, crTo_at l k (by omega)]
  by_cases e : k = j
  · subst e
    rw [if_pos (by omega), if_pos rfl, if_pos h, List.getElem?_eq_getElem h]
    rfl
  · rw [if_neg e]
    by_cases hj : j < k
    · rw [if_pos (by omega), if_pos hj]
    · rw [if_neg (by omega), if_neg hj]
theorem crTo_zero (l : List (List UInt8)) : crTo l 0 = l := by simp [crTo]
theorem crTo_all (l : List (List UInt8)) : crTo l l.length = l.map cutCR := by simp [crTo]

/-- Texts in a row of cells. -/
def strsAt (w : World) (b : Nat) (L : List (List UInt8)) : Prop := ∀ j (h : j < L.length), w.cell? ⟨b, j, none⟩ = some (.string ⟨(L[j]'h).toArray⟩)
theorem strsAt_set {w : World} {b : Nat} {L : List (List UInt8)} (h : strsAt w b L) (k : Nat) (hk : k < L.length) (x : List UInt8) : strsAt (w.setCell ⟨b, k, none⟩ (.string ⟨x.toArray⟩)) b (L.set k x) := by
  intro j hj
  have hj' : j < L.length := by simpa using hj
  by_cases e : j = k
  · subst e
    rw [World.cell?_setCell_same _ _ _ (h j hj')]
    simp
  · rw [World.cell?_setCell_other _ _ _ _ (by intro e'; apply e; have := congrArg Addr.off e'; simp at this; omega), h j hj']
    rw [List.getElem_set_ne (by omega)]
theorem strsIn_owns {w : World} {base : Nat} {v : Value} {n : Nat} {L : List (List UInt8)} {t : TypeId} (hn : n = L.length) (h : w.ownsRow base t 1 v n (strsL L)) : ∃ a c, v = .slice a L.length c ∧ L.length ≤ c ∧ ListIn strCod w a L base := by
  subst hn
  obtain ⟨_, ⟨hv, h0⟩ | ⟨g, cap, cur, hv, hg, hh, hcap, hmax, hcur, hx⟩⟩ := h
  · exact ⟨none, 0, by rw [hv, h0], by omega, .inl (List.length_eq_zero_iff.1 h0)⟩
  · refine ⟨some ⟨g, 0, none⟩, cap, hv, hcap, .inr ⟨g, 0, rfl, hg, ?_, strAt_of fun j hj => ?_⟩⟩
    · rcases Nat.lt_or_ge g w.heap.size with h' | h'
      · exact h'
      · rw [Array.getElem?_eq_none h'] at hh; cases hh
    · have e : (strsL L)[j]? = some (.string ⟨(L[j]'hj).toArray⟩) := by simp [strsL, hj]
      rw [← hx, Nat.mul_one, List.getElem?_take, if_pos hj, Array.getElem?_toList] at e
      simp only [World.cell?, hh, Nat.zero_add]
      exact e

theorem strsV_at (L : List (List UInt8)) (i : Nat) (p : List UInt8) (h : L[i]? = some p) : (strsV L)[i]? = some (.string ⟨p.toArray⟩) := by
  simp [strsV, strsL, h]
theorem last_split (c : UInt8) (l : List UInt8) : ∃ p, (splitL c l).getLast? = some p ∧ (splitL c l)[(splitL c l).length - 1]? = some p := by
  have h := splitL_pos c l
  exact ⟨_, by rw [List.getLast?_eq_getElem?, List.getElem?_eq_getElem], List.getElem?_eq_getElem (by omega)⟩

end Go.Proofs.YtmfjabpmhkechaaGreatDoor
