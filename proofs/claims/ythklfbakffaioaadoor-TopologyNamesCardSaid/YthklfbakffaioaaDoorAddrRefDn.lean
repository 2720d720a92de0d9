/- The walk of the document's digit (where the rest is not reached). -/
import Derived.Test.YthklfbakffaioaaDoorAddrQ
namespace Go.Proofs.YthklfbakffaioaaDoor
open Go Go.RowKit
set_option maxRecDepth 20000
set_option linter.unusedSimpArgs false
set_option linter.unusedVariables false

theorem digit02_any (c : UInt8) (w : World) :
    Calls Tryd.prog 82 #[.int .u8 (c.toNat : Int)] w fun e w' => e = .returned (.int .i64 (hexD c)) ∧ w = w' := by
  have hlt := c.toNat_lt
  rcases hexD_cases c with ⟨h1, hd⟩ | ⟨h1, h2, hd⟩ | ⟨h1, h2, hd⟩ | ⟨h1, h2, hd⟩ | ⟨h1, h2, hd⟩ | ⟨h1, h2, hd⟩ | ⟨h1, hd⟩
  all_goals
    rw [hd]
    clear hd
    go_enter Tryd.func82, Tryd.ntmps82
    go_wp2
    go_ret
    exact ⟨by first | rfl | (go_num; done) | (go_num; rfl), rfl⟩

theorem tdiv_nat (n k : Nat) : (n : Int).tdiv (k : Int) = ((n / k : Nat) : Int) := by
  rw [Int.tdiv_eq_ediv_of_nonneg (by omega)]; push_cast; rfl
theorem tmod_nat (n k : Nat) : (n : Int).tmod (k : Int) = ((n % k : Nat) : Int) := by
  rw [Int.tmod_eq_emod_of_nonneg (by omega)]; push_cast; rfl
end Go.Proofs.YthklfbakffaioaaDoor
