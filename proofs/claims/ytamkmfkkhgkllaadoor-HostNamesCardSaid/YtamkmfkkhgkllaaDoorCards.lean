/-
  DERIVED. GIVEN WITH THE SEED: THE CARDS: each row of YtamkmfkkhgkllaaDoorRows.lean that lists a variable, with what it lists TIED to the program's text (the seventh form; the later family's looks); each row that meets fmt, with fmt's text TOLD by the authors' own Lean function (tested against real Go, not proved from fmt's source: count such statements apart). THE CARD IS WHAT COUNTS. Prove the row's statement (the work); the ties are given (YtamkmfkkhgkllaaDoorTie.lean); close each card by the builder's one call (the guide's Derived/Test/ToyasCard.lean, 'card_holds'). Laid BY PROGRAM, IN A SANDBOX (cutbox-door.mjs). By AI agents, Wed Nov 11 2026. No macro, syntax, notation, axiom, sorry.
-/
import Derived.Test.YtamkmfkkhgkllaaDoorRows
import GoSem.ClaimSeven
namespace Go.Proofs.YtamkmfkkhgkllaaDoor
namespace Rows

/-- THE TIED CARD OF 'cracknellaw02.AddrGroups'. -/
def addrGroupsCard : Claim7 := { stood := { row := addrGroupsRow, standIns := [], harness := (true, "fbd4ef177b1baa6d5de21bec4ac36bc3e258bfc59f6a10ea2bdccb9c00e7bad3"), looks := false }, kinds := [], alts := [], laidByText := true, laidKinds := [.data, .data, .data, .data, .pinned], laidTests := true, laidLooks := .later }
def AddrGroupsCardSaid : Prop := Claim7.holds Tryd.pinned (.plain (OpenSpec.ofChange addrGroupsSpec)) addrGroupsCard

/-- THE TIED CARD OF 'cracknellaw02.AddrApart'. -/
def addrApartCard : Claim7 := { stood := { row := addrApartRow, standIns := [], harness := (true, "fbd4ef177b1baa6d5de21bec4ac36bc3e258bfc59f6a10ea2bdccb9c00e7bad3"), looks := false }, kinds := [], alts := [], laidByText := true, laidKinds := [.data, .data, .data, .data, .pinned], laidTests := true, laidLooks := .later }
def AddrApartCardSaid : Prop := Claim7.holds Tryd.pinned (.plain (OpenSpec.ofChange addrApartSpec)) addrApartCard

/-- THE TIED CARD OF 'cracknellaw02.AddrFolds'. -/
def addrFoldsCard : Claim7 := { stood := { row := addrFoldsRow, standIns := [], harness := (true, "fbd4ef177b1baa6d5de21bec4ac36bc3e258bfc59f6a10ea2bdccb9c00e7bad3"), looks := false }, kinds := [], alts := [], laidByText := true, laidKinds := [.data, .data, .data, .data, .pinned], laidTests := true, laidLooks := .later }
def AddrFoldsCardSaid : Prop := Claim7.holds Tryd.pinned (.plain (OpenSpec.ofChange addrFoldsSpec)) addrFoldsCard

/-- THE TIED CARD OF 'cracknellaw02.AddrTells'. -/
def addrTellsCard : Claim7 := { stood := { row := addrTellsRow, standIns := [], harness := (true, "fbd4ef177b1baa6d5de21bec4ac36bc3e258bfc59f6a10ea2bdccb9c00e7bad3"), looks := false }, kinds := [], alts := [], laidByText := true, laidKinds := [.data, .data, .data, .data, .pinned], laidTests := true, laidLooks := .later }
def AddrTellsCardSaid : Prop := Claim7.holds Tryd.pinned (.plain (OpenSpec.ofChange addrTellsSpec)) addrTellsCard

/-- THE TIED CARD OF 'cracknellaw02.AddrReads'. -/
def addrReadsCard : Claim7 := { stood := { row := addrReadsRow, standIns := [], harness := (true, "fbd4ef177b1baa6d5de21bec4ac36bc3e258bfc59f6a10ea2bdccb9c00e7bad3"), looks := false }, kinds := [], alts := [], laidByText := true, laidKinds := [.data, .data, .data, .data, .pinned], laidTests := true, laidLooks := .later }
def AddrReadsCardSaid : Prop := Claim7.holds Tryd.pinned (.plain (OpenSpec.ofChange addrReadsSpec)) addrReadsCard

/-- THE TIED CARD OF 'cracknellaw02.AddrBack'. -/
def addrBackCard : Claim7 := { stood := { row := addrBackRow, standIns := [], harness := (true, "fbd4ef177b1baa6d5de21bec4ac36bc3e258bfc59f6a10ea2bdccb9c00e7bad3"), looks := false }, kinds := [], alts := [], laidByText := true, laidKinds := [.data, .data, .data, .data, .pinned], laidTests := true, laidLooks := .later }
def AddrBackCardSaid : Prop := Claim7.holds Tryd.pinned (.plain (OpenSpec.ofChange addrBackSpec)) addrBackCard

/-- THE TIED CARD OF 'cracknellaw03.HostNames'. -/
def hostNamesCard : Claim7 := { stood := { row := hostNamesRow, standIns := [], harness := (true, "fbd4ef177b1baa6d5de21bec4ac36bc3e258bfc59f6a10ea2bdccb9c00e7bad3"), looks := false }, kinds := [], alts := [], laidByText := true, laidKinds := [.data, .data, .data, .data, .pinned], laidTests := true, laidLooks := .later }
def HostNamesCardSaid : Prop := Claim7.holds Tryd.pinned (.plain (OpenSpec.ofChange hostNamesSpec)) hostNamesCard

/-- THE TIED CARD OF 'cracknellaw03.HostOrders'. -/
def hostOrdersCard : Claim7 := { stood := { row := hostOrdersRow, standIns := [], harness := (true, "fbd4ef177b1baa6d5de21bec4ac36bc3e258bfc59f6a10ea2bdccb9c00e7bad3"), looks := false }, kinds := [], alts := [], laidByText := true, laidKinds := [.data, .data, .data, .data, .pinned], laidTests := true, laidLooks := .later }
def HostOrdersCardSaid : Prop := Claim7.holds Tryd.pinned (.plain (OpenSpec.ofChange hostOrdersSpec)) hostOrdersCard

/-- THE SECOND FORM's CARD OF 'cracknellaw02.AddrGroups'. -/
def addrGroupsUptoCard : Claim7 := { stood := { row := addrGroupsUptoRow, standIns := [], harness := (true, "fbd4ef177b1baa6d5de21bec4ac36bc3e258bfc59f6a10ea2bdccb9c00e7bad3"), looks := false }, kinds := [], alts := [], laidByText := true, laidKinds := [.data, .data, .data, .data, .pinned], laidTests := true, laidLooks := .later }
def AddrGroupsUptoCardSaid : Prop := Claim7.holds Tryd.pinned (.plain (OpenSpec.upto addrGroupsSpec)) addrGroupsUptoCard

/-- THE SECOND FORM's CARD OF 'cracknellaw02.AddrApart'. -/
def addrApartUptoCard : Claim7 := { stood := { row := addrApartUptoRow, standIns := [], harness := (true, "fbd4ef177b1baa6d5de21bec4ac36bc3e258bfc59f6a10ea2bdccb9c00e7bad3"), looks := false }, kinds := [], alts := [], laidByText := true, laidKinds := [.data, .data, .data, .data, .pinned], laidTests := true, laidLooks := .later }
def AddrApartUptoCardSaid : Prop := Claim7.holds Tryd.pinned (.plain (OpenSpec.upto addrApartSpec)) addrApartUptoCard

/-- THE SECOND FORM's CARD OF 'cracknellaw02.AddrFolds'. -/
def addrFoldsUptoCard : Claim7 := { stood := { row := addrFoldsUptoRow, standIns := [], harness := (true, "fbd4ef177b1baa6d5de21bec4ac36bc3e258bfc59f6a10ea2bdccb9c00e7bad3"), looks := false }, kinds := [], alts := [], laidByText := true, laidKinds := [.data, .data, .data, .data, .pinned], laidTests := true, laidLooks := .later }
def AddrFoldsUptoCardSaid : Prop := Claim7.holds Tryd.pinned (.plain (OpenSpec.upto addrFoldsSpec)) addrFoldsUptoCard

/-- THE SECOND FORM's CARD OF 'cracknellaw02.AddrTells'. -/
def addrTellsUptoCard : Claim7 := { stood := { row := addrTellsUptoRow, standIns := [], harness := (true, "fbd4ef177b1baa6d5de21bec4ac36bc3e258bfc59f6a10ea2bdccb9c00e7bad3"), looks := false }, kinds := [], alts := [], laidByText := true, laidKinds := [.data, .data, .data, .data, .pinned], laidTests := true, laidLooks := .later }
def AddrTellsUptoCardSaid : Prop := Claim7.holds Tryd.pinned (.plain (OpenSpec.upto addrTellsSpec)) addrTellsUptoCard

/-- THE SECOND FORM's CARD OF 'cracknellaw02.AddrReads'. -/
def addrReadsUptoCard : Claim7 := { stood := { row := addrReadsUptoRow, standIns := [], harness := (true, "fbd4ef177b1baa6d5de21bec4ac36bc3e258bfc59f6a10ea2bdccb9c00e7bad3"), looks := false }, kinds := [], alts := [], laidByText := true, laidKinds := [.data, .data, .data, .data, .pinned], laidTests := true, laidLooks := .later }
def AddrReadsUptoCardSaid : Prop := Claim7.holds Tryd.pinned (.plain (OpenSpec.upto addrReadsSpec)) addrReadsUptoCard

/-- THE SECOND FORM's CARD OF 'cracknellaw02.AddrBack'. -/
def addrBackUptoCard : Claim7 := { stood := { row := addrBackUptoRow, standIns := [], harness := (true, "fbd4ef177b1baa6d5de21bec4ac36bc3e258bfc59f6a10ea2bdccb9c00e7bad3"), looks := false }, kinds := [], alts := [], laidByText := true, laidKinds := [.data, .data, .data, .data, .pinned], laidTests := true, laidLooks := .later }
def AddrBackUptoCardSaid : Prop := Claim7.holds Tryd.pinned (.plain (OpenSpec.upto addrBackSpec)) addrBackUptoCard

/-- THE SECOND FORM's CARD OF 'cracknellaw03.HostNames'. -/
def hostNamesUptoCard : Claim7 := { stood := { row := hostNamesUptoRow, standIns := [], harness := (true, "fbd4ef177b1baa6d5de21bec4ac36bc3e258bfc59f6a10ea2bdccb9c00e7bad3"), looks := false }, kinds := [], alts := [], laidByText := true, laidKinds := [.data, .data, .data, .data, .pinned], laidTests := true, laidLooks := .later }
def HostNamesUptoCardSaid : Prop := Claim7.holds Tryd.pinned (.plain (OpenSpec.upto hostNamesSpec)) hostNamesUptoCard

/-- THE SECOND FORM's CARD OF 'cracknellaw03.HostOrders'. -/
def hostOrdersUptoCard : Claim7 := { stood := { row := hostOrdersUptoRow, standIns := [], harness := (true, "fbd4ef177b1baa6d5de21bec4ac36bc3e258bfc59f6a10ea2bdccb9c00e7bad3"), looks := false }, kinds := [], alts := [], laidByText := true, laidKinds := [.data, .data, .data, .data, .pinned], laidTests := true, laidLooks := .later }
def HostOrdersUptoCardSaid : Prop := Claim7.holds Tryd.pinned (.plain (OpenSpec.upto hostOrdersSpec)) hostOrdersUptoCard
end Rows
end Go.Proofs.YtamkmfkkhgkllaaDoor
