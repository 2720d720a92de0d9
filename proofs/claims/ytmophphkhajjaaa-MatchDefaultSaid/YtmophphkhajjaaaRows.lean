/-
  No cell of these rows narrows 'for every input' (looked for: loops, veiled, ifaces, maps, wideKeys, modest, calm, conditions, laid).
  DERIVED. THE GIVEN ROWS OF THIS SEAT. 3 by the template 'for every input the law returns true; each argument reads behind the call as it read before'; 0 by the template 'total and deterministic' (their statements: YtmophphkhajjaaaTotals.lean).
  GIVEN WITH THE SEED: the statements are not yours to turn. If you find one false, say at which input.
  Laid BY PROGRAM, IN A SANDBOX (cutbox-rows.mjs): the forced cells as the released guide's own fill.sh prints them over the translation 58f12cd3183edccc… (all of the seat's roots in one cut). By AI agents, Wed Nov 11 2026. No macro, syntax, notation, axiom, sorry.
-/
import Derived.Test.YtmophphkhajjaaaChecked
import GoSem.Claim
import GoSem.ClaimJoined
import GoSem.ClaimMapViews
import Derived.JoinedTies
import Derived.KernelRfl
namespace Go.Proofs.Ytmophphkhajjaaa
/- THE CELL 'sum', in the pinned program and in every row, IS THE sha256 OF THE DUMP (.gsa) THAT YtmophphkhajjaaaProg.lean LOADS. Nothing in Lean hashes anything: it is a label: what it is worth is what the hold of that sum in a sandbox is worth. -/
noncomputable def Try.pinned : Pinned := { name := "ytmophphkhajjaaa", sum := "58f12cd3183edccc1a35100beab197137df62dc911779a311ef1cb8c64cfc8b9", checked := Try.checked }
namespace Rows
def none {H : Type} : Left H := { results := [], args := [] }

/-- 'cracknellaw09.MatchPaths': WHATEVER THE INPUT: true; the input reads as it did. -/
def matchPathsSpec : ChangeSpec := { name := "matchPaths", fn := fun _ => fun
  | [d1, d2] => { results := [.lit (.bool true)], args := [d1, d2] }
  | _ => none }
def matchPathsRow : OpenClaim := { program := "ytmophphkhajjaaa", sum := "58f12cd3183edccc1a35100beab197137df62dc911779a311ef1cb8c64cfc8b9", func := "cracknel/cracknellaw09.MatchPaths", spec := "matchPaths", apart := false }
def MatchPathsSaid : Prop := matchPathsRow.holds Try.pinned (OpenSpec.ofChange matchPathsSpec)

/-- ITS FALSE NEIGHBOUR: 'it returns false'. Refute it at one input. -/
def matchPathsWrong : ChangeSpec := { name := "matchPaths", fn := fun _ => fun
  | [d1, d2] => { results := [.lit (.bool false)], args := [d1, d2] }
  | _ => none }
def MatchPathsWrongFalsely : Prop := matchPathsRow.holds Try.pinned (OpenSpec.ofChange matchPathsWrong)

/-- 'cracknellaw09.MatchDefault': WHATEVER THE INPUT: true; the input reads as it did. -/
def matchDefaultSpec : ChangeSpec := { name := "matchDefault", fn := fun _ => fun
  | [d1, d2, d3] => { results := [.lit (.bool true)], args := [d1, d2, d3] }
  | _ => none }
def matchDefaultRow : OpenClaim := { program := "ytmophphkhajjaaa", sum := "58f12cd3183edccc1a35100beab197137df62dc911779a311ef1cb8c64cfc8b9", func := "cracknel/cracknellaw09.MatchDefault", spec := "matchDefault", apart := false }
def MatchDefaultSaid : Prop := matchDefaultRow.holds Try.pinned (OpenSpec.ofChange matchDefaultSpec)

/-- ITS FALSE NEIGHBOUR: 'it returns false'. Refute it at one input. -/
def matchDefaultWrong : ChangeSpec := { name := "matchDefault", fn := fun _ => fun
  | [d1, d2, d3] => { results := [.lit (.bool false)], args := [d1, d2, d3] }
  | _ => none }
def MatchDefaultWrongFalsely : Prop := matchDefaultRow.holds Try.pinned (OpenSpec.ofChange matchDefaultWrong)

/-- 'cracknellaw09.MatchOrders': WHATEVER THE INPUT: true; the input reads as it did. -/
def matchOrdersSpec : ChangeSpec := { name := "matchOrders", fn := fun _ => fun
  | [d1, d2] => { results := [.lit (.bool true)], args := [d1, d2] }
  | _ => none }
def matchOrdersRow : OpenClaim := { program := "ytmophphkhajjaaa", sum := "58f12cd3183edccc1a35100beab197137df62dc911779a311ef1cb8c64cfc8b9", func := "cracknel/cracknellaw09.MatchOrders", spec := "matchOrders", apart := false }
def MatchOrdersSaid : Prop := matchOrdersRow.holds Try.pinned (OpenSpec.ofChange matchOrdersSpec)

/-- ITS FALSE NEIGHBOUR: 'it returns false'. Refute it at one input. -/
def matchOrdersWrong : ChangeSpec := { name := "matchOrders", fn := fun _ => fun
  | [d1, d2] => { results := [.lit (.bool false)], args := [d1, d2] }
  | _ => none }
def MatchOrdersWrongFalsely : Prop := matchOrdersRow.holds Try.pinned (OpenSpec.ofChange matchOrdersWrong)

/- THE SECOND FORM. 'bulk': how many values and letters a reading holds, each counted each time it is reached (what is shared counts as often as it is met; a slice's spare places count too). A statement '..UptoSaid' is the law's where the arguments, and the package variables that the reading takes, are together of bulk at most 1048576: NARROWER than '..Said'. Prove '..Said' where nothing that the law and all that it calls make is longer than what came in: it says more and counts as full. Else prove '..UptoSaid'. A law counts once. -/
mutual
def uptoBulk {H : Type} : DataW H → Nat
  | .lit (.string bytes) => bytes.length + 1
  | .lit _ => 1
  | .nil => 1
  | .ptr d => uptoBulk d + 1
  | .slice elems spare => uptoBulkAll elems + uptoBulkAll spare + 1
  | .agg parts => uptoBulkAll parts + 1
  | .iface _ d => uptoBulk d + 1
  | .map entries => uptoBulkEntries entries + 1
  | .held _ => 1
def uptoBulkAll {H : Type} : List (DataW H) → Nat
  | [] => 0
  | d :: r => uptoBulk d + uptoBulkAll r
def uptoBulkEntries {H : Type} : List (Lit × DataW H) → Nat
  | [] => 0
  | x :: r => uptoBulkEntry x + uptoBulkEntries r
def uptoBulkEntry {H : Type} : Lit × DataW H → Nat
  | (.string bytes, d) => bytes.length + uptoBulk d + 1
  | (_, d) => uptoBulk d + 1
 end
def uptoSmall : (H : Type) → List (DataW H) → Bool := fun _ ds => decide (uptoBulkAll ds ≤ 1048576)
def OpenSpec.upto (s : _root_.Go.ChangeSpec) : _root_.Go.OpenSpec := { _root_.Go.OpenSpec.ofChange s with cond := some uptoSmall }

/-- 'cracknellaw09.MatchPaths', WHERE WHAT IT READS IS OF BULK AT MOST 1048576: true; the input reads as it did. -/
def matchPathsUptoRow : OpenClaim := { program := "ytmophphkhajjaaa", sum := "58f12cd3183edccc1a35100beab197137df62dc911779a311ef1cb8c64cfc8b9", func := "cracknel/cracknellaw09.MatchPaths", spec := "matchPaths", apart := false, narrowed := true }
def MatchPathsUptoSaid : Prop := matchPathsUptoRow.holds Try.pinned (OpenSpec.upto matchPathsSpec)

/-- 'cracknellaw09.MatchDefault', WHERE WHAT IT READS IS OF BULK AT MOST 1048576: true; the input reads as it did. -/
def matchDefaultUptoRow : OpenClaim := { program := "ytmophphkhajjaaa", sum := "58f12cd3183edccc1a35100beab197137df62dc911779a311ef1cb8c64cfc8b9", func := "cracknel/cracknellaw09.MatchDefault", spec := "matchDefault", apart := false, narrowed := true }
def MatchDefaultUptoSaid : Prop := matchDefaultUptoRow.holds Try.pinned (OpenSpec.upto matchDefaultSpec)

/-- 'cracknellaw09.MatchOrders', WHERE WHAT IT READS IS OF BULK AT MOST 1048576: true; the input reads as it did. -/
def matchOrdersUptoRow : OpenClaim := { program := "ytmophphkhajjaaa", sum := "58f12cd3183edccc1a35100beab197137df62dc911779a311ef1cb8c64cfc8b9", func := "cracknel/cracknellaw09.MatchOrders", spec := "matchOrders", apart := false, narrowed := true }
def MatchOrdersUptoSaid : Prop := matchOrdersUptoRow.holds Try.pinned (OpenSpec.upto matchOrdersSpec)

end Rows
end Go.Proofs.Ytmophphkhajjaaa
