/-
  DERIVED. GIVEN WITH THE SEED: THE CARDS: each row of YtmophphkhajjaaaDoorRows.lean that lists a variable, with what it lists TIED to the program's text (the seventh form; the later family's looks); each row that meets fmt, with fmt's text TOLD by the authors' own Lean function (tested against real Go, not proved from fmt's source: count such statements apart). THE CARD IS WHAT COUNTS. Prove the row's statement (the work); the ties are given (YtmophphkhajjaaaDoorTie.lean); close each card by the builder's one call (the guide's Derived/Test/ToyasCard.lean, 'card_holds'). Laid BY PROGRAM, IN A SANDBOX (cutbox-door.mjs). By AI agents, Wed Nov 11 2026. No macro, syntax, notation, axiom, sorry.
-/
import Derived.Test.YtmophphkhajjaaaDoorRows
import GoSem.ClaimSeven
namespace Go.Proofs.YtmophphkhajjaaaDoor
namespace Rows

/-- THE TIED CARD OF 'cracknellaw01.OctetSplits'. -/
def octetSplitsCard : Claim7 := { stood := { row := octetSplitsRow, standIns := [], harness := (true, "d54b9c8d4551b08e2e9c1f952fba6f79c58777f5341bffb4f3bce2dd592ad40a"), looks := false }, kinds := [], alts := [], laidByText := true, laidKinds := [.data, .pinned], laidTests := true, laidLooks := .later }
def OctetSplitsCardSaid : Prop := Claim7.holds Tryd.pinned (.plain (OpenSpec.ofChange octetSplitsSpec)) octetSplitsCard

/-- THE TIED CARD OF 'cracknellaw01.OctetApart'. -/
def octetApartCard : Claim7 := { stood := { row := octetApartRow, standIns := [], harness := (true, "d54b9c8d4551b08e2e9c1f952fba6f79c58777f5341bffb4f3bce2dd592ad40a"), looks := false }, kinds := [], alts := [], laidByText := true, laidKinds := [.data, .pinned], laidTests := true, laidLooks := .later }
def OctetApartCardSaid : Prop := Claim7.holds Tryd.pinned (.plain (OpenSpec.ofChange octetApartSpec)) octetApartCard

/-- THE TIED CARD OF 'cracknellaw01.OctetWords'. -/
def octetWordsCard : Claim7 := { stood := { row := octetWordsRow, standIns := [], harness := (true, "d54b9c8d4551b08e2e9c1f952fba6f79c58777f5341bffb4f3bce2dd592ad40a"), looks := false }, kinds := [], alts := [], laidByText := true, laidKinds := [.data, .pinned], laidTests := true, laidLooks := .later }
def OctetWordsCardSaid : Prop := Claim7.holds Tryd.pinned (.plain (OpenSpec.ofChange octetWordsSpec)) octetWordsCard

/-- THE TIED CARD OF 'cracknellaw01.OctetBack'. -/
def octetBackCard : Claim7 := { stood := { row := octetBackRow, standIns := [], harness := (true, "d54b9c8d4551b08e2e9c1f952fba6f79c58777f5341bffb4f3bce2dd592ad40a"), looks := false }, kinds := [], alts := [], laidByText := true, laidKinds := [.data, .pinned], laidTests := true, laidLooks := .later }
def OctetBackCardSaid : Prop := Claim7.holds Tryd.pinned (.plain (OpenSpec.ofChange octetBackSpec)) octetBackCard

/-- THE TIED CARD OF 'cracknellaw01.OctetNumbers'. -/
def octetNumbersCard : Claim7 := { stood := { row := octetNumbersRow, standIns := [], harness := (true, "d54b9c8d4551b08e2e9c1f952fba6f79c58777f5341bffb4f3bce2dd592ad40a"), looks := false }, kinds := [], alts := [], laidByText := true, laidKinds := [.data, .pinned], laidTests := true, laidLooks := .later }
def OctetNumbersCardSaid : Prop := Claim7.holds Tryd.pinned (.plain (OpenSpec.ofChange octetNumbersSpec)) octetNumbersCard

/-- THE TIED CARD OF 'cracknellaw01.OctetTells'. -/
def octetTellsCard : Claim7 := { stood := { row := octetTellsRow, standIns := [], harness := (true, "d54b9c8d4551b08e2e9c1f952fba6f79c58777f5341bffb4f3bce2dd592ad40a"), looks := false }, kinds := [], alts := [], laidByText := true, laidKinds := [.data, .pinned], laidTests := true, laidLooks := .later }
def OctetTellsCardSaid : Prop := Claim7.holds Tryd.pinned (.plain (OpenSpec.ofChange octetTellsSpec)) octetTellsCard

/-- THE SECOND FORM's CARD OF 'cracknellaw01.OctetSplits'. -/
def octetSplitsUptoCard : Claim7 := { stood := { row := octetSplitsUptoRow, standIns := [], harness := (true, "d54b9c8d4551b08e2e9c1f952fba6f79c58777f5341bffb4f3bce2dd592ad40a"), looks := false }, kinds := [], alts := [], laidByText := true, laidKinds := [.data, .pinned], laidTests := true, laidLooks := .later }
def OctetSplitsUptoCardSaid : Prop := Claim7.holds Tryd.pinned (.plain (OpenSpec.upto octetSplitsSpec)) octetSplitsUptoCard

/-- THE SECOND FORM's CARD OF 'cracknellaw01.OctetApart'. -/
def octetApartUptoCard : Claim7 := { stood := { row := octetApartUptoRow, standIns := [], harness := (true, "d54b9c8d4551b08e2e9c1f952fba6f79c58777f5341bffb4f3bce2dd592ad40a"), looks := false }, kinds := [], alts := [], laidByText := true, laidKinds := [.data, .pinned], laidTests := true, laidLooks := .later }
def OctetApartUptoCardSaid : Prop := Claim7.holds Tryd.pinned (.plain (OpenSpec.upto octetApartSpec)) octetApartUptoCard

/-- THE SECOND FORM's CARD OF 'cracknellaw01.OctetWords'. -/
def octetWordsUptoCard : Claim7 := { stood := { row := octetWordsUptoRow, standIns := [], harness := (true, "d54b9c8d4551b08e2e9c1f952fba6f79c58777f5341bffb4f3bce2dd592ad40a"), looks := false }, kinds := [], alts := [], laidByText := true, laidKinds := [.data, .pinned], laidTests := true, laidLooks := .later }
def OctetWordsUptoCardSaid : Prop := Claim7.holds Tryd.pinned (.plain (OpenSpec.upto octetWordsSpec)) octetWordsUptoCard

/-- THE SECOND FORM's CARD OF 'cracknellaw01.OctetBack'. -/
def octetBackUptoCard : Claim7 := { stood := { row := octetBackUptoRow, standIns := [], harness := (true, "d54b9c8d4551b08e2e9c1f952fba6f79c58777f5341bffb4f3bce2dd592ad40a"), looks := false }, kinds := [], alts := [], laidByText := true, laidKinds := [.data, .pinned], laidTests := true, laidLooks := .later }
def OctetBackUptoCardSaid : Prop := Claim7.holds Tryd.pinned (.plain (OpenSpec.upto octetBackSpec)) octetBackUptoCard

/-- THE SECOND FORM's CARD OF 'cracknellaw01.OctetNumbers'. -/
def octetNumbersUptoCard : Claim7 := { stood := { row := octetNumbersUptoRow, standIns := [], harness := (true, "d54b9c8d4551b08e2e9c1f952fba6f79c58777f5341bffb4f3bce2dd592ad40a"), looks := false }, kinds := [], alts := [], laidByText := true, laidKinds := [.data, .pinned], laidTests := true, laidLooks := .later }
def OctetNumbersUptoCardSaid : Prop := Claim7.holds Tryd.pinned (.plain (OpenSpec.upto octetNumbersSpec)) octetNumbersUptoCard

/-- THE SECOND FORM's CARD OF 'cracknellaw01.OctetTells'. -/
def octetTellsUptoCard : Claim7 := { stood := { row := octetTellsUptoRow, standIns := [], harness := (true, "d54b9c8d4551b08e2e9c1f952fba6f79c58777f5341bffb4f3bce2dd592ad40a"), looks := false }, kinds := [], alts := [], laidByText := true, laidKinds := [.data, .pinned], laidTests := true, laidLooks := .later }
def OctetTellsUptoCardSaid : Prop := Claim7.holds Tryd.pinned (.plain (OpenSpec.upto octetTellsSpec)) octetTellsUptoCard
end Rows
end Go.Proofs.YtmophphkhajjaaaDoor
