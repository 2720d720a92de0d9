/-
  DERIVED. GIVEN WITH THE SEED: THE CARDS: each row of YtfnhkpfkaiamjaaDoorRows.lean that lists a variable, with what it lists TIED to the program's text (the seventh form; the later family's looks); each row that meets fmt, with fmt's text TOLD by the authors' own Lean function (tested against real Go, not proved from fmt's source: count such statements apart). THE CARD IS WHAT COUNTS. Prove the row's statement (the work); the ties are given (YtfnhkpfkaiamjaaDoorTie.lean); close each card by the builder's one call (the guide's Derived/Test/ToyasCard.lean, 'card_holds'). Laid BY PROGRAM, IN A SANDBOX (cutbox-door.mjs). By AI agents, Wed Nov 11 2026. No macro, syntax, notation, axiom, sorry.
-/
import Derived.Test.YtfnhkpfkaiamjaaDoorRows
import GoSem.ClaimSeven
namespace Go.Proofs.YtfnhkpfkaiamjaaDoor
namespace Rows

/-- THE TIED CARD OF 'cracknellaw04.UrlNames'. -/
def urlNamesCard : Claim7 := { stood := { row := urlNamesRow, standIns := [], harness := (true, "0ebfa0a5a077dff85537e8f888bfedad881a04c11caa17fd759220fc5f93d473"), looks := false }, kinds := [], alts := [], laidByText := true, laidKinds := [.data, .pinned], laidTests := true, laidLooks := .later }
def UrlNamesCardSaid : Prop := Claim7.holds Tryd.pinned (.plain (OpenSpec.ofChange urlNamesSpec)) urlNamesCard

/-- THE TIED CARD OF 'cracknellaw04.UrlReads'. -/
def urlReadsCard : Claim7 := { stood := { row := urlReadsRow, standIns := [], harness := (true, "0ebfa0a5a077dff85537e8f888bfedad881a04c11caa17fd759220fc5f93d473"), looks := false }, kinds := [], alts := [], laidByText := true, laidKinds := [.data, .pinned], laidTests := true, laidLooks := .later }
def UrlReadsCardSaid : Prop := Claim7.holds Tryd.pinned (.plain (OpenSpec.ofChange urlReadsSpec)) urlReadsCard

/-- THE TIED CARD OF 'cracknellaw04.UrlDrops'. -/
def urlDropsCard : Claim7 := { stood := { row := urlDropsRow, standIns := [], harness := (true, "0ebfa0a5a077dff85537e8f888bfedad881a04c11caa17fd759220fc5f93d473"), looks := false }, kinds := [], alts := [], laidByText := true, laidKinds := [.data, .pinned], laidTests := true, laidLooks := .later }
def UrlDropsCardSaid : Prop := Claim7.holds Tryd.pinned (.plain (OpenSpec.ofChange urlDropsSpec)) urlDropsCard

/-- THE TIED CARD OF 'cracknellaw04.UrlPaths'. -/
def urlPathsCard : Claim7 := { stood := { row := urlPathsRow, standIns := [], harness := (true, "0ebfa0a5a077dff85537e8f888bfedad881a04c11caa17fd759220fc5f93d473"), looks := false }, kinds := [], alts := [], laidByText := true, laidKinds := [.data, .pinned], laidTests := true, laidLooks := .later }
def UrlPathsCardSaid : Prop := Claim7.holds Tryd.pinned (.plain (OpenSpec.ofChange urlPathsSpec)) urlPathsCard

/-- THE SECOND FORM's CARD OF 'cracknellaw04.UrlNames'. -/
def urlNamesUptoCard : Claim7 := { stood := { row := urlNamesUptoRow, standIns := [], harness := (true, "0ebfa0a5a077dff85537e8f888bfedad881a04c11caa17fd759220fc5f93d473"), looks := false }, kinds := [], alts := [], laidByText := true, laidKinds := [.data, .pinned], laidTests := true, laidLooks := .later }
def UrlNamesUptoCardSaid : Prop := Claim7.holds Tryd.pinned (.plain (OpenSpec.upto urlNamesSpec)) urlNamesUptoCard

/-- THE SECOND FORM's CARD OF 'cracknellaw04.UrlReads'. -/
def urlReadsUptoCard : Claim7 := { stood := { row := urlReadsUptoRow, standIns := [], harness := (true, "0ebfa0a5a077dff85537e8f888bfedad881a04c11caa17fd759220fc5f93d473"), looks := false }, kinds := [], alts := [], laidByText := true, laidKinds := [.data, .pinned], laidTests := true, laidLooks := .later }
def UrlReadsUptoCardSaid : Prop := Claim7.holds Tryd.pinned (.plain (OpenSpec.upto urlReadsSpec)) urlReadsUptoCard

/-- THE SECOND FORM's CARD OF 'cracknellaw04.UrlDrops'. -/
def urlDropsUptoCard : Claim7 := { stood := { row := urlDropsUptoRow, standIns := [], harness := (true, "0ebfa0a5a077dff85537e8f888bfedad881a04c11caa17fd759220fc5f93d473"), looks := false }, kinds := [], alts := [], laidByText := true, laidKinds := [.data, .pinned], laidTests := true, laidLooks := .later }
def UrlDropsUptoCardSaid : Prop := Claim7.holds Tryd.pinned (.plain (OpenSpec.upto urlDropsSpec)) urlDropsUptoCard

/-- THE SECOND FORM's CARD OF 'cracknellaw04.UrlPaths'. -/
def urlPathsUptoCard : Claim7 := { stood := { row := urlPathsUptoRow, standIns := [], harness := (true, "0ebfa0a5a077dff85537e8f888bfedad881a04c11caa17fd759220fc5f93d473"), looks := false }, kinds := [], alts := [], laidByText := true, laidKinds := [.data, .pinned], laidTests := true, laidLooks := .later }
def UrlPathsUptoCardSaid : Prop := Claim7.holds Tryd.pinned (.plain (OpenSpec.upto urlPathsSpec)) urlPathsUptoCard
end Rows
end Go.Proofs.YtfnhkpfkaiamjaaDoor
