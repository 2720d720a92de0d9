/- The files of TopologyNames, computed. -/
import Derived.Test.YthklfbakffaioaaDoorTopoAllA
namespace Go.Proofs.YthklfbakffaioaaDoor
open Go Go.RowKit
set_option maxRecDepth 20000
set_option linter.unusedSimpArgs false
set_option linter.unusedVariables false

def namesX : List (List UInt8) := [
  [104, 111, 115, 116, 32, 97, 32, 104, 116, 116, 112],
  [35, 32, 120, 10, 104, 111, 115, 116, 32, 42, 46, 49, 46, 50, 46, 51, 46, 52, 32, 104, 116, 116, 112, 32, 47],
  [104, 111, 115, 116, 32, 97, 32, 102, 116, 112, 32, 47],
  [104, 111, 115, 116, 32, 97, 32, 104, 116, 116, 112, 32, 120],
  [104, 111, 115, 116, 32, 97, 32, 104, 116, 116, 112, 32, 47, 10, 10, 104, 111, 115, 116, 32, 65, 32, 104, 116, 116, 112, 32, 47]]
def namesF : List GFl := [(131, 1, 1), (31, 2, 6), (211, 1, 8), (43, 1, 13), (52, 3, 1)]
def manyC (i : Nat) : UInt8 := UInt8.ofNat (97 + i)
def manyTL (i : Nat) : List UInt8 := [104, 111, 115, 116, 32] ++ ([manyC i] ++ [32, 98, 111, 116, 104, 32, 47, 10])
def manyT (n : Nat) : List UInt8 := (List.range n).flatMap manyTL
theorem manyT_succ (n : Nat) : manyT (n + 1) = manyT n ++ manyTL n := by
  simp [manyT, List.range_succ]
theorem manyT_len (n : Nat) : (manyT n).length = 14 * n := by
  induction n with
  | zero => rfl
  | succ n ih => rw [manyT_succ, List.length_append, ih]; simp [manyTL]; omega
set_option maxRecDepth 1000000 in
theorem namesT_plain : namesX.map (fun s => ((topoFile s).1.length, (topoFile s).2)) = namesF.map (fun f => (0, f)) ∧ (topoFile (manyT 13)).1.length = 0 ∧ (topoFile (manyT 13)).2 = (53, 13, 1) := by decide +kernel
theorem namesT_at (k : Nat) (hk : k < 5) : topoFile (namesX[k]'hk) = ([], namesF[k]'hk) := by
  have h := congrArg (fun l => l[k]?) namesT_plain.1
  rw [List.getElem?_map, List.getElem?_map, List.getElem?_eq_getElem (show k < namesX.length from hk), List.getElem?_eq_getElem (show k < namesF.length from hk)] at h
  simp only [Option.map_some, Option.some.injEq, Prod.mk.injEq] at h
  exact Prod.ext (List.length_eq_zero_iff.1 h.1) h.2
end Go.Proofs.YthklfbakffaioaaDoor
