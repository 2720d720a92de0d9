/-
  No cell of these rows narrows 'for every input' (looked for: loops, veiled, ifaces, maps, wideKeys, modest, calm, conditions, laid).
  DERIVED. THE GIVEN ROWS OF THIS SEAT. 4 by the template 'for every input the law returns true; each argument reads behind the call as it read before'; 0 by the template 'total and deterministic' (their statements: YtaondmaebgicgaaTotals.lean).
  GIVEN WITH THE SEED: the statements are not yours to turn. If you find one false, say at which input.
  Laid BY PROGRAM, IN A SANDBOX (cutbox-rows.mjs): the forced cells as the released guide's own fill.sh prints them over the translation fddccec2872ce560… (all of the seat's roots in one cut). By AI agents, Wed Nov 11 2026. No macro, syntax, notation, axiom, sorry.
-/
import Derived.Test.YtaondmaebgicgaaChecked
import GoSem.Claim
import GoSem.ClaimJoined
import GoSem.ClaimMapViews
import Derived.JoinedTies
import Derived.KernelRfl
namespace Go.Proofs.Ytaondmaebgicgaa
/- THE CELL 'sum', in the pinned program and in every row, IS THE sha256 OF THE DUMP (.gsa) THAT YtaondmaebgicgaaProg.lean LOADS. Nothing in Lean hashes anything: it is a label: what it is worth is what the hold of that sum in a sandbox is worth. -/
noncomputable def Try.pinned : Pinned := { name := "ytaondmaebgicgaa", sum := "fddccec2872ce560954e07ed672778eb28e63a3262459d33b946a93a299b0b8b", checked := Try.checked }
namespace Rows
def none {H : Type} : Left H := { results := [], args := [] }

/-- 'cracknellaw11.ShelfOnce': WHATEVER THE INPUT: true; the input reads as it did. -/
def shelfOnceSpec : ChangeSpec := { name := "shelfOnce", fn := fun _ => fun
  | [d] => { results := [.lit (.bool true)], args := [d] }
  | _ => none }
def shelfOnceRow : OpenClaim := { program := "ytaondmaebgicgaa", sum := "fddccec2872ce560954e07ed672778eb28e63a3262459d33b946a93a299b0b8b", func := "cracknel/cracknellaw11.ShelfOnce", spec := "shelfOnce", unfollowed := true, recurses := true, plainKeys := false, apart := false }
def ShelfOnceSaid : Prop := shelfOnceRow.holds Try.pinned (OpenSpec.ofChange shelfOnceSpec)

/-- ITS FALSE NEIGHBOUR: 'it returns false'. Refute it at one input. -/
def shelfOnceWrong : ChangeSpec := { name := "shelfOnce", fn := fun _ => fun
  | [d] => { results := [.lit (.bool false)], args := [d] }
  | _ => none }
def ShelfOnceWrongFalsely : Prop := shelfOnceRow.holds Try.pinned (OpenSpec.ofChange shelfOnceWrong)

/-- 'cracknellaw11.ShelfApart': WHATEVER THE INPUT: true; the input reads as it did. -/
def shelfApartSpec : ChangeSpec := { name := "shelfApart", fn := fun _ => fun
  | [d1, d2, d3] => { results := [.lit (.bool true)], args := [d1, d2, d3] }
  | _ => none }
def shelfApartRow : OpenClaim := { program := "ytaondmaebgicgaa", sum := "fddccec2872ce560954e07ed672778eb28e63a3262459d33b946a93a299b0b8b", func := "cracknel/cracknellaw11.ShelfApart", spec := "shelfApart", unfollowed := true, recurses := true, plainKeys := false, apart := false }
def ShelfApartSaid : Prop := shelfApartRow.holds Try.pinned (OpenSpec.ofChange shelfApartSpec)

/-- ITS FALSE NEIGHBOUR: 'it returns false'. Refute it at one input. -/
def shelfApartWrong : ChangeSpec := { name := "shelfApart", fn := fun _ => fun
  | [d1, d2, d3] => { results := [.lit (.bool false)], args := [d1, d2, d3] }
  | _ => none }
def ShelfApartWrongFalsely : Prop := shelfApartRow.holds Try.pinned (OpenSpec.ofChange shelfApartWrong)

/-- 'cracknellaw11.ShelfCounts': WHATEVER THE INPUT: true; the input reads as it did. -/
def shelfCountsSpec : ChangeSpec := { name := "shelfCounts", fn := fun _ => fun
  | [d] => { results := [.lit (.bool true)], args := [d] }
  | _ => none }
def shelfCountsRow : OpenClaim := { program := "ytaondmaebgicgaa", sum := "fddccec2872ce560954e07ed672778eb28e63a3262459d33b946a93a299b0b8b", func := "cracknel/cracknellaw11.ShelfCounts", spec := "shelfCounts", unfollowed := true, recurses := true, plainKeys := false, apart := false }
def ShelfCountsSaid : Prop := shelfCountsRow.holds Try.pinned (OpenSpec.ofChange shelfCountsSpec)

/-- ITS FALSE NEIGHBOUR: 'it returns false'. Refute it at one input. -/
def shelfCountsWrong : ChangeSpec := { name := "shelfCounts", fn := fun _ => fun
  | [d] => { results := [.lit (.bool false)], args := [d] }
  | _ => none }
def ShelfCountsWrongFalsely : Prop := shelfCountsRow.holds Try.pinned (OpenSpec.ofChange shelfCountsWrong)

/-- 'cracknellaw11.ShelfRuns': WHATEVER THE INPUT: true; the input reads as it did. -/
def shelfRunsSpec : ChangeSpec := { name := "shelfRuns", fn := fun _ => fun
  | [d] => { results := [.lit (.bool true)], args := [d] }
  | _ => none }
def shelfRunsRow : OpenClaim := { program := "ytaondmaebgicgaa", sum := "fddccec2872ce560954e07ed672778eb28e63a3262459d33b946a93a299b0b8b", func := "cracknel/cracknellaw11.ShelfRuns", spec := "shelfRuns", unfollowed := true, recurses := true, plainKeys := false, apart := false }
def ShelfRunsSaid : Prop := shelfRunsRow.holds Try.pinned (OpenSpec.ofChange shelfRunsSpec)

/-- ITS FALSE NEIGHBOUR: 'it returns false'. Refute it at one input. -/
def shelfRunsWrong : ChangeSpec := { name := "shelfRuns", fn := fun _ => fun
  | [d] => { results := [.lit (.bool false)], args := [d] }
  | _ => none }
def ShelfRunsWrongFalsely : Prop := shelfRunsRow.holds Try.pinned (OpenSpec.ofChange shelfRunsWrong)

/- THE SECOND FORM. 'bulk': how many values and letters a reading holds, each counted each time it is reached (what is shared counts as often as it is met; a slice's spare places count too). A statement '..UptoSaid' is the law's where the arguments, and the package variables that the reading takes, are together of bulk at most 1048576: NARROWER than '..Said'. Prove '..Said' where nothing that the law and all that it calls make is longer than what came in: it says more and counts as full. Else prove '..UptoSaid'. A law counts once. -/
mutual
def uptoBulk {H : Type} : DataW H → Nat
  | .lit (.string bytes) => bytes.length + 1
  | .lit _ => 1
  | .nil => 1
  | .ptr d => uptoBulk d + 1
  | .slice elems spare => uptoBulkAll elems + uptoBulkAll spare + 1
  | .agg parts => uptoBulkAll parts + 1
  | .iface _ d => uptoBulk d + 1
  | .map entries => uptoBulkEntries entries + 1
  | .held _ => 1
def uptoBulkAll {H : Type} : List (DataW H) → Nat
  | [] => 0
  | d :: r => uptoBulk d + uptoBulkAll r
def uptoBulkEntries {H : Type} : List (Lit × DataW H) → Nat
  | [] => 0
  | x :: r => uptoBulkEntry x + uptoBulkEntries r
def uptoBulkEntry {H : Type} : Lit × DataW H → Nat
  | (.string bytes, d) => bytes.length + uptoBulk d + 1
  | (_, d) => uptoBulk d + 1
 end
def uptoSmall : (H : Type) → List (DataW H) → Bool := fun _ ds => decide (uptoBulkAll ds ≤ 1048576)
def OpenSpec.upto (s : _root_.Go.ChangeSpec) : _root_.Go.OpenSpec := { _root_.Go.OpenSpec.ofChange s with cond := some uptoSmall }

/-- 'cracknellaw11.ShelfOnce', WHERE WHAT IT READS IS OF BULK AT MOST 1048576: true; the input reads as it did. -/
def shelfOnceUptoRow : OpenClaim := { program := "ytaondmaebgicgaa", sum := "fddccec2872ce560954e07ed672778eb28e63a3262459d33b946a93a299b0b8b", func := "cracknel/cracknellaw11.ShelfOnce", spec := "shelfOnce", unfollowed := true, recurses := true, plainKeys := false, apart := false, narrowed := true }
def ShelfOnceUptoSaid : Prop := shelfOnceUptoRow.holds Try.pinned (OpenSpec.upto shelfOnceSpec)

/-- 'cracknellaw11.ShelfApart', WHERE WHAT IT READS IS OF BULK AT MOST 1048576: true; the input reads as it did. -/
def shelfApartUptoRow : OpenClaim := { program := "ytaondmaebgicgaa", sum := "fddccec2872ce560954e07ed672778eb28e63a3262459d33b946a93a299b0b8b", func := "cracknel/cracknellaw11.ShelfApart", spec := "shelfApart", unfollowed := true, recurses := true, plainKeys := false, apart := false, narrowed := true }
def ShelfApartUptoSaid : Prop := shelfApartUptoRow.holds Try.pinned (OpenSpec.upto shelfApartSpec)

/-- 'cracknellaw11.ShelfCounts', WHERE WHAT IT READS IS OF BULK AT MOST 1048576: true; the input reads as it did. -/
def shelfCountsUptoRow : OpenClaim := { program := "ytaondmaebgicgaa", sum := "fddccec2872ce560954e07ed672778eb28e63a3262459d33b946a93a299b0b8b", func := "cracknel/cracknellaw11.ShelfCounts", spec := "shelfCounts", unfollowed := true, recurses := true, plainKeys := false, apart := false, narrowed := true }
def ShelfCountsUptoSaid : Prop := shelfCountsUptoRow.holds Try.pinned (OpenSpec.upto shelfCountsSpec)

/-- 'cracknellaw11.ShelfRuns', WHERE WHAT IT READS IS OF BULK AT MOST 1048576: true; the input reads as it did. -/
def shelfRunsUptoRow : OpenClaim := { program := "ytaondmaebgicgaa", sum := "fddccec2872ce560954e07ed672778eb28e63a3262459d33b946a93a299b0b8b", func := "cracknel/cracknellaw11.ShelfRuns", spec := "shelfRuns", unfollowed := true, recurses := true, plainKeys := false, apart := false, narrowed := true }
def ShelfRunsUptoSaid : Prop := shelfRunsUptoRow.holds Try.pinned (OpenSpec.upto shelfRunsSpec)

end Rows
end Go.Proofs.Ytaondmaebgicgaa
