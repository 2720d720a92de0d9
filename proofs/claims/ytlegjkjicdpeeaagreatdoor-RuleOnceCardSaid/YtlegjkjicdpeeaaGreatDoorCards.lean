/-
  DERIVED. GIVEN WITH THE SEED: THE CARDS: each row of YtlegjkjicdpeeaaGreatDoorRows.lean that lists a variable, with what it lists TIED to the program's text (the seventh form; the later family's looks); each row that meets fmt, with fmt's text TOLD by the authors' own Lean function (tested against real Go, not proved from fmt's source: count such statements apart). THE CARD IS WHAT COUNTS. Prove the row's statement (the work); the ties are given (YtlegjkjicdpeeaaGreatDoorTie.lean); close each card by the builder's one call (the guide's Derived/Test/ToyasCard.lean, 'card_holds'). Laid BY PROGRAM, IN A SANDBOX (cutbox-door.mjs). By AI agents, Wed Nov 11 2026. No macro, syntax, notation, axiom, sorry.
-/
import Derived.Test.YtlegjkjicdpeeaaGreatDoorRows
import GoSem.ClaimSeven
namespace Go.Proofs.YtlegjkjicdpeeaaGreatDoor
namespace Rows

/-- THE TIED CARD OF 'cracknellaw05.RuleLines'. -/
def ruleLinesCard : Claim7 := { stood := { row := ruleLinesRow, standIns := [], harness := (true, "e76e23b823e545c35b374f6d5db8c741303dd53fee9c3da0a671cf571bef992f"), looks := false }, kinds := [], alts := [], laidByText := true, laidKinds := [.data, .data, .data, .data, .pinned], laidTests := true, laidLooks := .later }
def RuleLinesCardSaid : Prop := Claim7.holds Tryz.pinned (.plain (OpenSpec.ofChange ruleLinesSpec)) ruleLinesCard

/-- THE TIED CARD OF 'cracknellaw05.RuleBack'. -/
def ruleBackCard : Claim7 := { stood := { row := ruleBackRow, standIns := [], harness := (true, "e76e23b823e545c35b374f6d5db8c741303dd53fee9c3da0a671cf571bef992f"), looks := false }, kinds := [], alts := [], laidByText := true, laidKinds := [.data, .data, .data, .data, .pinned], laidTests := true, laidLooks := .later }
def RuleBackCardSaid : Prop := Claim7.holds Tryz.pinned (.plain (OpenSpec.ofChange ruleBackSpec)) ruleBackCard

/-- THE TIED CARD OF 'cracknellaw06.SuffixTells'. -/
def suffixTellsCard : Claim7 := { stood := { row := suffixTellsRow, standIns := [], harness := (true, "e76e23b823e545c35b374f6d5db8c741303dd53fee9c3da0a671cf571bef992f"), looks := false }, kinds := [], alts := [], laidByText := true, laidKinds := [.data, .data, .data, .data, .pinned], laidTests := true, laidLooks := .later }
def SuffixTellsCardSaid : Prop := Claim7.holds Tryz.pinned (.plain (OpenSpec.ofChange suffixTellsSpec)) suffixTellsCard

/-- THE TIED CARD OF 'cracknellaw06.SuffixFiles'. -/
def suffixFilesCard : Claim7 := { stood := { row := suffixFilesRow, standIns := [], harness := (true, "e76e23b823e545c35b374f6d5db8c741303dd53fee9c3da0a671cf571bef992f"), looks := false }, kinds := [], alts := [], laidByText := true, laidKinds := [.data, .data, .data, .data, .pinned], laidTests := true, laidLooks := .later }
def SuffixFilesCardSaid : Prop := Claim7.holds Tryz.pinned (.plain (OpenSpec.ofChange suffixFilesSpec)) suffixFilesCard

/-- THE TIED CARD OF 'cracknellaw06.SuffixSites'. -/
def suffixSitesCard : Claim7 := { stood := { row := suffixSitesRow, standIns := [], harness := (true, "e76e23b823e545c35b374f6d5db8c741303dd53fee9c3da0a671cf571bef992f"), looks := false }, kinds := [], alts := [], laidByText := true, laidKinds := [.data, .data, .data, .data, .pinned], laidTests := true, laidLooks := .later }
def SuffixSitesCardSaid : Prop := Claim7.holds Tryz.pinned (.plain (OpenSpec.ofChange suffixSitesSpec)) suffixSitesCard

/-- THE TIED CARD OF 'cracknellaw06.SuffixOrder'. -/
def suffixOrderCard : Claim7 := { stood := { row := suffixOrderRow, standIns := [], harness := (true, "e76e23b823e545c35b374f6d5db8c741303dd53fee9c3da0a671cf571bef992f"), looks := false }, kinds := [], alts := [], laidByText := true, laidKinds := [.data, .data, .data, .data, .pinned], laidTests := true, laidLooks := .later }
def SuffixOrderCardSaid : Prop := Claim7.holds Tryz.pinned (.plain (OpenSpec.ofChange suffixOrderSpec)) suffixOrderCard

/-- THE TIED CARD OF 'cracknellaw06.SuffixGrows'. -/
def suffixGrowsCard : Claim7 := { stood := { row := suffixGrowsRow, standIns := [], harness := (true, "e76e23b823e545c35b374f6d5db8c741303dd53fee9c3da0a671cf571bef992f"), looks := false }, kinds := [], alts := [], laidByText := true, laidKinds := [.data, .data, .data, .data, .pinned], laidTests := true, laidLooks := .later }
def SuffixGrowsCardSaid : Prop := Claim7.holds Tryz.pinned (.plain (OpenSpec.ofChange suffixGrowsSpec)) suffixGrowsCard

/-- THE TIED CARD OF 'cracknellaw05.RuleNames'. -/
def ruleNamesCard : Claim7 := { stood := { row := ruleNamesRow, standIns := [], harness := (true, "e76e23b823e545c35b374f6d5db8c741303dd53fee9c3da0a671cf571bef992f"), looks := false }, kinds := [], alts := [], laidByText := true, laidKinds := [.data, .data, .data, .data, .pinned], laidTests := true, laidLooks := .later }
def RuleNamesCardSaid : Prop := Claim7.holds Tryz.pinned (.plain (OpenSpec.ofChange ruleNamesSpec)) ruleNamesCard

/-- THE TIED CARD OF 'cracknellaw05.RuleFiles'. -/
def ruleFilesCard : Claim7 := { stood := { row := ruleFilesRow, standIns := [], harness := (true, "e76e23b823e545c35b374f6d5db8c741303dd53fee9c3da0a671cf571bef992f"), looks := false }, kinds := [], alts := [], laidByText := true, laidKinds := [.data, .data, .data, .data, .pinned], laidTests := true, laidLooks := .later }
def RuleFilesCardSaid : Prop := Claim7.holds Tryz.pinned (.plain (OpenSpec.ofChange ruleFilesSpec)) ruleFilesCard

/-- THE TIED CARD OF 'cracknellaw05.RuleOnce'. -/
def ruleOnceCard : Claim7 := { stood := { row := ruleOnceRow, standIns := [], harness := (true, "e76e23b823e545c35b374f6d5db8c741303dd53fee9c3da0a671cf571bef992f"), looks := false }, kinds := [], alts := [], laidByText := true, laidKinds := [.data, .data, .data, .data, .pinned], laidTests := true, laidLooks := .later }
def RuleOnceCardSaid : Prop := Claim7.holds Tryz.pinned (.plain (OpenSpec.ofChange ruleOnceSpec)) ruleOnceCard

/-- THE SECOND FORM's CARD OF 'cracknellaw05.RuleLines'. -/
def ruleLinesUptoCard : Claim7 := { stood := { row := ruleLinesUptoRow, standIns := [], harness := (true, "e76e23b823e545c35b374f6d5db8c741303dd53fee9c3da0a671cf571bef992f"), looks := false }, kinds := [], alts := [], laidByText := true, laidKinds := [.data, .data, .data, .data, .pinned], laidTests := true, laidLooks := .later }
def RuleLinesUptoCardSaid : Prop := Claim7.holds Tryz.pinned (.plain (OpenSpec.upto ruleLinesSpec)) ruleLinesUptoCard

/-- THE SECOND FORM's CARD OF 'cracknellaw05.RuleBack'. -/
def ruleBackUptoCard : Claim7 := { stood := { row := ruleBackUptoRow, standIns := [], harness := (true, "e76e23b823e545c35b374f6d5db8c741303dd53fee9c3da0a671cf571bef992f"), looks := false }, kinds := [], alts := [], laidByText := true, laidKinds := [.data, .data, .data, .data, .pinned], laidTests := true, laidLooks := .later }
def RuleBackUptoCardSaid : Prop := Claim7.holds Tryz.pinned (.plain (OpenSpec.upto ruleBackSpec)) ruleBackUptoCard

/-- THE SECOND FORM's CARD OF 'cracknellaw06.SuffixTells'. -/
def suffixTellsUptoCard : Claim7 := { stood := { row := suffixTellsUptoRow, standIns := [], harness := (true, "e76e23b823e545c35b374f6d5db8c741303dd53fee9c3da0a671cf571bef992f"), looks := false }, kinds := [], alts := [], laidByText := true, laidKinds := [.data, .data, .data, .data, .pinned], laidTests := true, laidLooks := .later }
def SuffixTellsUptoCardSaid : Prop := Claim7.holds Tryz.pinned (.plain (OpenSpec.upto suffixTellsSpec)) suffixTellsUptoCard

/-- THE SECOND FORM's CARD OF 'cracknellaw06.SuffixFiles'. -/
def suffixFilesUptoCard : Claim7 := { stood := { row := suffixFilesUptoRow, standIns := [], harness := (true, "e76e23b823e545c35b374f6d5db8c741303dd53fee9c3da0a671cf571bef992f"), looks := false }, kinds := [], alts := [], laidByText := true, laidKinds := [.data, .data, .data, .data, .pinned], laidTests := true, laidLooks := .later }
def SuffixFilesUptoCardSaid : Prop := Claim7.holds Tryz.pinned (.plain (OpenSpec.upto suffixFilesSpec)) suffixFilesUptoCard

/-- THE SECOND FORM's CARD OF 'cracknellaw06.SuffixSites'. -/
def suffixSitesUptoCard : Claim7 := { stood := { row := suffixSitesUptoRow, standIns := [], harness := (true, "e76e23b823e545c35b374f6d5db8c741303dd53fee9c3da0a671cf571bef992f"), looks := false }, kinds := [], alts := [], laidByText := true, laidKinds := [.data, .data, .data, .data, .pinned], laidTests := true, laidLooks := .later }
def SuffixSitesUptoCardSaid : Prop := Claim7.holds Tryz.pinned (.plain (OpenSpec.upto suffixSitesSpec)) suffixSitesUptoCard

/-- THE SECOND FORM's CARD OF 'cracknellaw06.SuffixOrder'. -/
def suffixOrderUptoCard : Claim7 := { stood := { row := suffixOrderUptoRow, standIns := [], harness := (true, "e76e23b823e545c35b374f6d5db8c741303dd53fee9c3da0a671cf571bef992f"), looks := false }, kinds := [], alts := [], laidByText := true, laidKinds := [.data, .data, .data, .data, .pinned], laidTests := true, laidLooks := .later }
def SuffixOrderUptoCardSaid : Prop := Claim7.holds Tryz.pinned (.plain (OpenSpec.upto suffixOrderSpec)) suffixOrderUptoCard

/-- THE SECOND FORM's CARD OF 'cracknellaw06.SuffixGrows'. -/
def suffixGrowsUptoCard : Claim7 := { stood := { row := suffixGrowsUptoRow, standIns := [], harness := (true, "e76e23b823e545c35b374f6d5db8c741303dd53fee9c3da0a671cf571bef992f"), looks := false }, kinds := [], alts := [], laidByText := true, laidKinds := [.data, .data, .data, .data, .pinned], laidTests := true, laidLooks := .later }
def SuffixGrowsUptoCardSaid : Prop := Claim7.holds Tryz.pinned (.plain (OpenSpec.upto suffixGrowsSpec)) suffixGrowsUptoCard

/-- THE SECOND FORM's CARD OF 'cracknellaw05.RuleNames'. -/
def ruleNamesUptoCard : Claim7 := { stood := { row := ruleNamesUptoRow, standIns := [], harness := (true, "e76e23b823e545c35b374f6d5db8c741303dd53fee9c3da0a671cf571bef992f"), looks := false }, kinds := [], alts := [], laidByText := true, laidKinds := [.data, .data, .data, .data, .pinned], laidTests := true, laidLooks := .later }
def RuleNamesUptoCardSaid : Prop := Claim7.holds Tryz.pinned (.plain (OpenSpec.upto ruleNamesSpec)) ruleNamesUptoCard

/-- THE SECOND FORM's CARD OF 'cracknellaw05.RuleFiles'. -/
def ruleFilesUptoCard : Claim7 := { stood := { row := ruleFilesUptoRow, standIns := [], harness := (true, "e76e23b823e545c35b374f6d5db8c741303dd53fee9c3da0a671cf571bef992f"), looks := false }, kinds := [], alts := [], laidByText := true, laidKinds := [.data, .data, .data, .data, .pinned], laidTests := true, laidLooks := .later }
def RuleFilesUptoCardSaid : Prop := Claim7.holds Tryz.pinned (.plain (OpenSpec.upto ruleFilesSpec)) ruleFilesUptoCard

/-- THE SECOND FORM's CARD OF 'cracknellaw05.RuleOnce'. -/
def ruleOnceUptoCard : Claim7 := { stood := { row := ruleOnceUptoRow, standIns := [], harness := (true, "e76e23b823e545c35b374f6d5db8c741303dd53fee9c3da0a671cf571bef992f"), looks := false }, kinds := [], alts := [], laidByText := true, laidKinds := [.data, .data, .data, .data, .pinned], laidTests := true, laidLooks := .later }
def RuleOnceUptoCardSaid : Prop := Claim7.holds Tryz.pinned (.plain (OpenSpec.upto ruleOnceSpec)) ruleOnceUptoCard
end Rows
end Go.Proofs.YtlegjkjicdpeeaaGreatDoor
