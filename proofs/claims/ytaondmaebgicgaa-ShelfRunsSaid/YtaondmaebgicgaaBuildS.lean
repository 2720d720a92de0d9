/- A slice literal of one struct whose cells stand as a name: the row that it makes. -/
import Derived.Test.YtaondmaebgicgaaAgg
namespace Go.Proofs.Ytaondmaebgicgaa
open Go Go.RowKit
set_option linter.unusedSimpArgs false
set_option linter.unusedVariables false

theorem foldl_sets : ∀ (l : List Value) (s : Nat) (z : Array Value), s + l.length = z.size → (l.zipIdx s).foldl (fun (cs : Array Value) (x : Value × Nat) => cs.setIfInBounds x.snd x.fst) z = (z.toList.take s ++ l).toArray
  | [], s, z, h => by
    have : z.toList.take s = z.toList := List.take_of_length_le (by simp at h; simp [h])
    simp [this]
  | v :: l, s, z, h => by
    have hs : s < z.size := by simp at h; omega
    have ih := foldl_sets l (s + 1) (z.setIfInBounds s v) (by simp at h ⊢; omega)
    rw [List.zipIdx_cons, List.foldl_cons, ih]
    have e : (z.setIfInBounds s v).toList.take (s + 1) = z.toList.take s ++ [v] := by
      rw [Array.toList_setIfInBounds, List.take_add_one, List.take_set_of_le (Nat.le_refl _)]
      simp [hs]
    rw [e, List.append_assoc]
    rfl
@[go_sem] theorem foldl_set (z c : Array Value) (k : Nat) (hz : z.size = c.size) (hk : k = c.size) : Array.foldl (fun (cs : Array Value) (x : Value × Nat) => cs.setIfInBounds x.snd x.fst) z c.zipIdx 0 k = c := by
  have h := foldl_sets c.toList 0 z (by simp [hz])
  subst hk
  have e : c.size = c.zipIdx.size := by simp
  rw [e, ← Array.foldl_toList, Array.toList_zipIdx, h]
  simp
end Go.Proofs.Ytaondmaebgicgaa
