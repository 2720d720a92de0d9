/-
  DERIVED. GIVEN WITH THE SEED: THE CARDS: each row of YtmfjabpmhkechaaGreatDoorRows.lean that lists a variable, with what it lists TIED to the program's text (the seventh form; the later family's looks); each row that meets fmt, with fmt's text TOLD by the authors' own Lean function (tested against real Go, not proved from fmt's source: count such statements apart). THE CARD IS WHAT COUNTS. Prove the row's statement (the work); the ties are given (YtmfjabpmhkechaaGreatDoorTie.lean); close each card by the builder's one call (the guide's Derived/Test/ToyasCard.lean, 'card_holds'). Laid BY PROGRAM, IN A SANDBOX (cutbox-door.mjs). By AI agents, Wed Nov 11 2026. No macro, syntax, notation, axiom, sorry.
-/
import Derived.Test.YtmfjabpmhkechaaGreatDoorRows
import GoSem.ClaimSeven
namespace Go.Proofs.YtmfjabpmhkechaaGreatDoor
namespace Rows

/-- THE TIED CARD OF 'cracknellaw06.SuffixTells'. -/
def suffixTellsCard : Claim7 := { stood := { row := suffixTellsRow, standIns := [], harness := (true, "273ea1c799848f103ba07bd0ef6b32eb454abe7e247c061ebf22ddfd152441f8"), looks := false }, kinds := [], alts := [], laidByText := true, laidKinds := [.data, .data, .data, .data, .pinned], laidTests := true, laidLooks := .later }
def SuffixTellsCardSaid : Prop := Claim7.holds Tryz.pinned (.plain (OpenSpec.ofChange suffixTellsSpec)) suffixTellsCard

/-- THE TIED CARD OF 'cracknellaw06.SuffixFiles'. -/
def suffixFilesCard : Claim7 := { stood := { row := suffixFilesRow, standIns := [], harness := (true, "273ea1c799848f103ba07bd0ef6b32eb454abe7e247c061ebf22ddfd152441f8"), looks := false }, kinds := [], alts := [], laidByText := true, laidKinds := [.data, .data, .data, .data, .pinned], laidTests := true, laidLooks := .later }
def SuffixFilesCardSaid : Prop := Claim7.holds Tryz.pinned (.plain (OpenSpec.ofChange suffixFilesSpec)) suffixFilesCard

/-- THE TIED CARD OF 'cracknellaw06.SuffixSites'. -/
def suffixSitesCard : Claim7 := { stood := { row := suffixSitesRow, standIns := [], harness := (true, "273ea1c799848f103ba07bd0ef6b32eb454abe7e247c061ebf22ddfd152441f8"), looks := false }, kinds := [], alts := [], laidByText := true, laidKinds := [.data, .data, .data, .data, .pinned], laidTests := true, laidLooks := .later }
def SuffixSitesCardSaid : Prop := Claim7.holds Tryz.pinned (.plain (OpenSpec.ofChange suffixSitesSpec)) suffixSitesCard

/-- THE TIED CARD OF 'cracknellaw06.SuffixOrder'. -/
def suffixOrderCard : Claim7 := { stood := { row := suffixOrderRow, standIns := [], harness := (true, "273ea1c799848f103ba07bd0ef6b32eb454abe7e247c061ebf22ddfd152441f8"), looks := false }, kinds := [], alts := [], laidByText := true, laidKinds := [.data, .data, .data, .data, .pinned], laidTests := true, laidLooks := .later }
def SuffixOrderCardSaid : Prop := Claim7.holds Tryz.pinned (.plain (OpenSpec.ofChange suffixOrderSpec)) suffixOrderCard

/-- THE TIED CARD OF 'cracknellaw06.SuffixGrows'. -/
def suffixGrowsCard : Claim7 := { stood := { row := suffixGrowsRow, standIns := [], harness := (true, "273ea1c799848f103ba07bd0ef6b32eb454abe7e247c061ebf22ddfd152441f8"), looks := false }, kinds := [], alts := [], laidByText := true, laidKinds := [.data, .data, .data, .data, .pinned], laidTests := true, laidLooks := .later }
def SuffixGrowsCardSaid : Prop := Claim7.holds Tryz.pinned (.plain (OpenSpec.ofChange suffixGrowsSpec)) suffixGrowsCard

/-- THE SECOND FORM's CARD OF 'cracknellaw06.SuffixTells'. -/
def suffixTellsUptoCard : Claim7 := { stood := { row := suffixTellsUptoRow, standIns := [], harness := (true, "273ea1c799848f103ba07bd0ef6b32eb454abe7e247c061ebf22ddfd152441f8"), looks := false }, kinds := [], alts := [], laidByText := true, laidKinds := [.data, .data, .data, .data, .pinned], laidTests := true, laidLooks := .later }
def SuffixTellsUptoCardSaid : Prop := Claim7.holds Tryz.pinned (.plain (OpenSpec.upto suffixTellsSpec)) suffixTellsUptoCard

/-- THE SECOND FORM's CARD OF 'cracknellaw06.SuffixFiles'. -/
def suffixFilesUptoCard : Claim7 := { stood := { row := suffixFilesUptoRow, standIns := [], harness := (true, "273ea1c799848f103ba07bd0ef6b32eb454abe7e247c061ebf22ddfd152441f8"), looks := false }, kinds := [], alts := [], laidByText := true, laidKinds := [.data, .data, .data, .data, .pinned], laidTests := true, laidLooks := .later }
def SuffixFilesUptoCardSaid : Prop := Claim7.holds Tryz.pinned (.plain (OpenSpec.upto suffixFilesSpec)) suffixFilesUptoCard

/-- THE SECOND FORM's CARD OF 'cracknellaw06.SuffixSites'. -/
def suffixSitesUptoCard : Claim7 := { stood := { row := suffixSitesUptoRow, standIns := [], harness := (true, "273ea1c799848f103ba07bd0ef6b32eb454abe7e247c061ebf22ddfd152441f8"), looks := false }, kinds := [], alts := [], laidByText := true, laidKinds := [.data, .data, .data, .data, .pinned], laidTests := true, laidLooks := .later }
def SuffixSitesUptoCardSaid : Prop := Claim7.holds Tryz.pinned (.plain (OpenSpec.upto suffixSitesSpec)) suffixSitesUptoCard

/-- THE SECOND FORM's CARD OF 'cracknellaw06.SuffixOrder'. -/
def suffixOrderUptoCard : Claim7 := { stood := { row := suffixOrderUptoRow, standIns := [], harness := (true, "273ea1c799848f103ba07bd0ef6b32eb454abe7e247c061ebf22ddfd152441f8"), looks := false }, kinds := [], alts := [], laidByText := true, laidKinds := [.data, .data, .data, .data, .pinned], laidTests := true, laidLooks := .later }
def SuffixOrderUptoCardSaid : Prop := Claim7.holds Tryz.pinned (.plain (OpenSpec.upto suffixOrderSpec)) suffixOrderUptoCard

/-- THE SECOND FORM's CARD OF 'cracknellaw06.SuffixGrows'. -/
def suffixGrowsUptoCard : Claim7 := { stood := { row := suffixGrowsUptoRow, standIns := [], harness := (true, "273ea1c799848f103ba07bd0ef6b32eb454abe7e247c061ebf22ddfd152441f8"), looks := false }, kinds := [], alts := [], laidByText := true, laidKinds := [.data, .data, .data, .data, .pinned], laidTests := true, laidLooks := .later }
def SuffixGrowsUptoCardSaid : Prop := Claim7.holds Tryz.pinned (.plain (OpenSpec.upto suffixGrowsSpec)) suffixGrowsUptoCard
end Rows
end Go.Proofs.YtmfjabpmhkechaaGreatDoor
