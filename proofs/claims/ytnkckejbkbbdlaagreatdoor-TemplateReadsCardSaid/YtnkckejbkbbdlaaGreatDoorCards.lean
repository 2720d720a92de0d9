/-
  DERIVED. GIVEN WITH THE SEED: THE CARDS: each row of YtnkckejbkbbdlaaGreatDoorRows.lean that lists a variable, with what it lists TIED to the program's text (the seventh form; the later family's looks); each row that meets fmt, with fmt's text TOLD by the authors' own Lean function (tested against real Go, not proved from fmt's source: count such statements apart). THE CARD IS WHAT COUNTS. Prove the row's statement (the work); the ties are given (YtnkckejbkbbdlaaGreatDoorTie.lean); close each card by the builder's one call (the guide's Derived/Test/ToyasCard.lean, 'card_holds'). Laid BY PROGRAM, IN A SANDBOX (cutbox-door.mjs). By AI agents, Wed Nov 11 2026. No macro, syntax, notation, axiom, sorry.
-/
import Derived.Test.YtnkckejbkbbdlaaGreatDoorRows
import GoSem.ClaimSeven
namespace Go.Proofs.YtnkckejbkbbdlaaGreatDoor
namespace Rows

/-- THE TIED CARD OF 'cracknellaw22.TemplateNames'. -/
def templateNamesCard : Claim7 := { stood := { row := templateNamesRow, standIns := [], harness := (true, "ee4d4a8f7c8b780667c6324f7c83bdd30c8d086cb8e19e56b69ca63169754a43"), looks := true }, kinds := [], alts := [], laidByText := true, laidKinds := [.data, .pinned], laidTests := true, laidLooks := .later }
def TemplateNamesCardSaid : Prop := Claim7.holds Tryz.pinned (.plain (OpenSpec.ofChange templateNamesSpec)) templateNamesCard

/-- THE TIED CARD OF 'cracknellaw22.TemplateReads'. -/
def templateReadsCard : Claim7 := { stood := { row := templateReadsRow, standIns := [], harness := (true, "ee4d4a8f7c8b780667c6324f7c83bdd30c8d086cb8e19e56b69ca63169754a43"), looks := true }, kinds := [], alts := [], laidByText := true, laidKinds := [.data, .pinned], laidTests := true, laidLooks := .later }
def TemplateReadsCardSaid : Prop := Claim7.holds Tryz.pinned (.plain (OpenSpec.ofChange templateReadsSpec)) templateReadsCard

/-- THE TIED CARD OF 'cracknellaw22.TemplateKeeps'. -/
def templateKeepsCard : Claim7 := { stood := { row := templateKeepsRow, standIns := [], harness := (true, "ee4d4a8f7c8b780667c6324f7c83bdd30c8d086cb8e19e56b69ca63169754a43"), looks := true }, kinds := [], alts := [], laidByText := true, laidKinds := [.data, .pinned], laidTests := true, laidLooks := .later }
def TemplateKeepsCardSaid : Prop := Claim7.holds Tryz.pinned (.plain (OpenSpec.ofChange templateKeepsSpec)) templateKeepsCard

/-- THE TIED CARD OF 'cracknellaw22.TemplateOne'. -/
def templateOneCard : Claim7 := { stood := { row := templateOneRow, standIns := [], harness := (true, "ee4d4a8f7c8b780667c6324f7c83bdd30c8d086cb8e19e56b69ca63169754a43"), looks := true }, kinds := [], alts := [], laidByText := true, laidKinds := [.data, .pinned], laidTests := true, laidLooks := .later }
def TemplateOneCardSaid : Prop := Claim7.holds Tryz.pinned (.plain (OpenSpec.ofChange templateOneSpec)) templateOneCard

/-- THE TIED CARD OF 'cracknellaw22.TemplateRemarks'. -/
def templateRemarksCard : Claim7 := { stood := { row := templateRemarksRow, standIns := [], harness := (true, "ee4d4a8f7c8b780667c6324f7c83bdd30c8d086cb8e19e56b69ca63169754a43"), looks := true }, kinds := [], alts := [], laidByText := true, laidKinds := [.data, .pinned], laidTests := true, laidLooks := .later }
def TemplateRemarksCardSaid : Prop := Claim7.holds Tryz.pinned (.plain (OpenSpec.ofChange templateRemarksSpec)) templateRemarksCard

/-- THE SECOND FORM's CARD OF 'cracknellaw22.TemplateNames'. -/
def templateNamesUptoCard : Claim7 := { stood := { row := templateNamesUptoRow, standIns := [], harness := (true, "ee4d4a8f7c8b780667c6324f7c83bdd30c8d086cb8e19e56b69ca63169754a43"), looks := true }, kinds := [], alts := [], laidByText := true, laidKinds := [.data, .pinned], laidTests := true, laidLooks := .later }
def TemplateNamesUptoCardSaid : Prop := Claim7.holds Tryz.pinned (.plain (OpenSpec.upto templateNamesSpec)) templateNamesUptoCard

/-- THE SECOND FORM's CARD OF 'cracknellaw22.TemplateReads'. -/
def templateReadsUptoCard : Claim7 := { stood := { row := templateReadsUptoRow, standIns := [], harness := (true, "ee4d4a8f7c8b780667c6324f7c83bdd30c8d086cb8e19e56b69ca63169754a43"), looks := true }, kinds := [], alts := [], laidByText := true, laidKinds := [.data, .pinned], laidTests := true, laidLooks := .later }
def TemplateReadsUptoCardSaid : Prop := Claim7.holds Tryz.pinned (.plain (OpenSpec.upto templateReadsSpec)) templateReadsUptoCard

/-- THE SECOND FORM's CARD OF 'cracknellaw22.TemplateKeeps'. -/
def templateKeepsUptoCard : Claim7 := { stood := { row := templateKeepsUptoRow, standIns := [], harness := (true, "ee4d4a8f7c8b780667c6324f7c83bdd30c8d086cb8e19e56b69ca63169754a43"), looks := true }, kinds := [], alts := [], laidByText := true, laidKinds := [.data, .pinned], laidTests := true, laidLooks := .later }
def TemplateKeepsUptoCardSaid : Prop := Claim7.holds Tryz.pinned (.plain (OpenSpec.upto templateKeepsSpec)) templateKeepsUptoCard

/-- THE SECOND FORM's CARD OF 'cracknellaw22.TemplateOne'. -/
def templateOneUptoCard : Claim7 := { stood := { row := templateOneUptoRow, standIns := [], harness := (true, "ee4d4a8f7c8b780667c6324f7c83bdd30c8d086cb8e19e56b69ca63169754a43"), looks := true }, kinds := [], alts := [], laidByText := true, laidKinds := [.data, .pinned], laidTests := true, laidLooks := .later }
def TemplateOneUptoCardSaid : Prop := Claim7.holds Tryz.pinned (.plain (OpenSpec.upto templateOneSpec)) templateOneUptoCard

/-- THE SECOND FORM's CARD OF 'cracknellaw22.TemplateRemarks'. -/
def templateRemarksUptoCard : Claim7 := { stood := { row := templateRemarksUptoRow, standIns := [], harness := (true, "ee4d4a8f7c8b780667c6324f7c83bdd30c8d086cb8e19e56b69ca63169754a43"), looks := true }, kinds := [], alts := [], laidByText := true, laidKinds := [.data, .pinned], laidTests := true, laidLooks := .later }
def TemplateRemarksUptoCardSaid : Prop := Claim7.holds Tryz.pinned (.plain (OpenSpec.upto templateRemarksSpec)) templateRemarksUptoCard
end Rows
end Go.Proofs.YtnkckejbkbbdlaaGreatDoor
