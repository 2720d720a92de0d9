/-
  DERIVED. GIVEN WITH THE SEED: THE CARDS: each row of YthklfbakffaioaaDoorRows.lean that lists a variable, with what it lists TIED to the program's text (the seventh form; the later family's looks); each row that meets fmt, with fmt's text TOLD by the authors' own Lean function (tested against real Go, not proved from fmt's source: count such statements apart). THE CARD IS WHAT COUNTS. Prove the row's statement (the work); the ties are given (YthklfbakffaioaaDoorTie.lean); close each card by the builder's one call (the guide's Derived/Test/ToyasCard.lean, 'card_holds'). Laid BY PROGRAM, IN A SANDBOX (cutbox-door.mjs). By AI agents, Wed Nov 11 2026. No macro, syntax, notation, axiom, sorry.
-/
import Derived.Test.YthklfbakffaioaaDoorRows
import GoSem.ClaimSeven
namespace Go.Proofs.YthklfbakffaioaaDoor
namespace Rows

/-- THE TIED CARD OF 'cracknellaw21.TopologyNames'. -/
def topologyNamesCard : Claim7 := { stood := { row := topologyNamesRow, standIns := [], harness := (true, "f0f6e6ecadc6ff4ff091b7440f2ecb3a7feb9888e149bc8eb43e6e97dac9bfcf"), looks := false }, kinds := [], alts := [], laidByText := true, laidKinds := [.data, .pinned], laidTests := true, laidLooks := .later }
def TopologyNamesCardSaid : Prop := Claim7.holds Tryd.pinned (.plain (OpenSpec.ofChange topologyNamesSpec)) topologyNamesCard

/-- THE TIED CARD OF 'cracknellaw21.TopologyReads'. -/
def topologyReadsCard : Claim7 := { stood := { row := topologyReadsRow, standIns := [], harness := (true, "f0f6e6ecadc6ff4ff091b7440f2ecb3a7feb9888e149bc8eb43e6e97dac9bfcf"), looks := false }, kinds := [], alts := [], laidByText := true, laidKinds := [.data, .pinned], laidTests := true, laidLooks := .later }
def TopologyReadsCardSaid : Prop := Claim7.holds Tryd.pinned (.plain (OpenSpec.ofChange topologyReadsSpec)) topologyReadsCard

/-- THE SECOND FORM's CARD OF 'cracknellaw21.TopologyNames'. -/
def topologyNamesUptoCard : Claim7 := { stood := { row := topologyNamesUptoRow, standIns := [], harness := (true, "f0f6e6ecadc6ff4ff091b7440f2ecb3a7feb9888e149bc8eb43e6e97dac9bfcf"), looks := false }, kinds := [], alts := [], laidByText := true, laidKinds := [.data, .pinned], laidTests := true, laidLooks := .later }
def TopologyNamesUptoCardSaid : Prop := Claim7.holds Tryd.pinned (.plain (OpenSpec.upto topologyNamesSpec)) topologyNamesUptoCard

/-- THE SECOND FORM's CARD OF 'cracknellaw21.TopologyReads'. -/
def topologyReadsUptoCard : Claim7 := { stood := { row := topologyReadsUptoRow, standIns := [], harness := (true, "f0f6e6ecadc6ff4ff091b7440f2ecb3a7feb9888e149bc8eb43e6e97dac9bfcf"), looks := false }, kinds := [], alts := [], laidByText := true, laidKinds := [.data, .pinned], laidTests := true, laidLooks := .later }
def TopologyReadsUptoCardSaid : Prop := Claim7.holds Tryd.pinned (.plain (OpenSpec.upto topologyReadsSpec)) topologyReadsUptoCard
end Rows
end Go.Proofs.YthklfbakffaioaaDoor
