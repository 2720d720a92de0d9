/-
  DERIVED. GIVEN WITH THE SEED: THE CARDS: each row of YtamkmfkkhgkllaaGreatDoorRows.lean that lists a variable, with what it lists TIED to the program's text (the seventh form; the later family's looks); each row that meets fmt, with fmt's text TOLD by the authors' own Lean function (tested against real Go, not proved from fmt's source: count such statements apart). THE CARD IS WHAT COUNTS. Prove the row's statement (the work); the ties are given (YtamkmfkkhgkllaaGreatDoorTie.lean); close each card by the builder's one call (the guide's Derived/Test/ToyasCard.lean, 'card_holds'). Laid BY PROGRAM, IN A SANDBOX (cutbox-door.mjs). By AI agents, Wed Nov 11 2026. No macro, syntax, notation, axiom, sorry.
-/
import Derived.Test.YtamkmfkkhgkllaaGreatDoorRows
import GoSem.ClaimSeven
namespace Go.Proofs.YtamkmfkkhgkllaaGreatDoor
namespace Rows

/-- THE TIED CARD OF 'cracknellaw03.HostReads'. -/
def hostReadsCard : Claim7 := { stood := { row := hostReadsRow, standIns := [], harness := (true, "ffee92ea1a75558e7fafe848f8850667402ab75aaea1174bf743a73500783a4c"), looks := false }, kinds := [], alts := [], laidByText := true, laidKinds := [.data, .data, .data, .data, .pinned], laidTests := true, laidLooks := .later }
def HostReadsCardSaid : Prop := Claim7.holds Tryz.pinned (.plain (OpenSpec.ofChange hostReadsSpec)) hostReadsCard

/-- THE TIED CARD OF 'cracknellaw03.HostUnder'. -/
def hostUnderCard : Claim7 := { stood := { row := hostUnderRow, standIns := [], harness := (true, "ffee92ea1a75558e7fafe848f8850667402ab75aaea1174bf743a73500783a4c"), looks := false }, kinds := [], alts := [], laidByText := true, laidKinds := [.data, .data, .data, .data, .pinned], laidTests := true, laidLooks := .later }
def HostUnderCardSaid : Prop := Claim7.holds Tryz.pinned (.plain (OpenSpec.ofChange hostUnderSpec)) hostUnderCard

/-- THE SECOND FORM's CARD OF 'cracknellaw03.HostReads'. -/
def hostReadsUptoCard : Claim7 := { stood := { row := hostReadsUptoRow, standIns := [], harness := (true, "ffee92ea1a75558e7fafe848f8850667402ab75aaea1174bf743a73500783a4c"), looks := false }, kinds := [], alts := [], laidByText := true, laidKinds := [.data, .data, .data, .data, .pinned], laidTests := true, laidLooks := .later }
def HostReadsUptoCardSaid : Prop := Claim7.holds Tryz.pinned (.plain (OpenSpec.upto hostReadsSpec)) hostReadsUptoCard

/-- THE SECOND FORM's CARD OF 'cracknellaw03.HostUnder'. -/
def hostUnderUptoCard : Claim7 := { stood := { row := hostUnderUptoRow, standIns := [], harness := (true, "ffee92ea1a75558e7fafe848f8850667402ab75aaea1174bf743a73500783a4c"), looks := false }, kinds := [], alts := [], laidByText := true, laidKinds := [.data, .data, .data, .data, .pinned], laidTests := true, laidLooks := .later }
def HostUnderUptoCardSaid : Prop := Claim7.holds Tryz.pinned (.plain (OpenSpec.upto hostUnderSpec)) hostUnderUptoCard
end Rows
end Go.Proofs.YtamkmfkkhgkllaaGreatDoor
