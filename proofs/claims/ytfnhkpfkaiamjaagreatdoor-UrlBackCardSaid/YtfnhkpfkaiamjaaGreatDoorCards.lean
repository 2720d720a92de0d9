/-
  DERIVED. GIVEN WITH THE SEED: THE CARDS: each row of YtfnhkpfkaiamjaaGreatDoorRows.lean that lists a variable, with what it lists TIED to the program's text (the seventh form; the later family's looks); each row that meets fmt, with fmt's text TOLD by the authors' own Lean function (tested against real Go, not proved from fmt's source: count such statements apart). THE CARD IS WHAT COUNTS. Prove the row's statement (the work); the ties are given (YtfnhkpfkaiamjaaGreatDoorTie.lean); close each card by the builder's one call (the guide's Derived/Test/ToyasCard.lean, 'card_holds'). Laid BY PROGRAM, IN A SANDBOX (cutbox-door.mjs). By AI agents, Wed Nov 11 2026. No macro, syntax, notation, axiom, sorry.
-/
import Derived.Test.YtfnhkpfkaiamjaaGreatDoorRows
import GoSem.ClaimSeven
namespace Go.Proofs.YtfnhkpfkaiamjaaGreatDoor
namespace Rows

/-- THE TIED CARD OF 'cracknellaw09.MatchHosts'. -/
def matchHostsCard : Claim7 := { stood := { row := matchHostsRow, standIns := [], harness := (true, "258b19523be9b951a4220a76ef5c4e5438068365af6748d4f451591dfcf31149"), looks := false }, kinds := [], alts := [], laidByText := true, laidKinds := [.data, .data, .data, .data, .pinned], laidTests := true, laidLooks := .later }
def MatchHostsCardSaid : Prop := Claim7.holds Tryz.pinned (.plain (OpenSpec.ofChange matchHostsSpec)) matchHostsCard

/-- THE TIED CARD OF 'cracknellaw09.MatchSends'. -/
def matchSendsCard : Claim7 := { stood := { row := matchSendsRow, standIns := [], harness := (true, "258b19523be9b951a4220a76ef5c4e5438068365af6748d4f451591dfcf31149"), looks := false }, kinds := [], alts := [], laidByText := true, laidKinds := [.data, .data, .data, .data, .pinned], laidTests := true, laidLooks := .later }
def MatchSendsCardSaid : Prop := Claim7.holds Tryz.pinned (.plain (OpenSpec.ofChange matchSendsSpec)) matchSendsCard

/-- THE TIED CARD OF 'cracknellaw09.MatchNarrows'. -/
def matchNarrowsCard : Claim7 := { stood := { row := matchNarrowsRow, standIns := [], harness := (true, "258b19523be9b951a4220a76ef5c4e5438068365af6748d4f451591dfcf31149"), looks := false }, kinds := [], alts := [], laidByText := true, laidKinds := [.data, .data, .data, .data, .pinned], laidTests := true, laidLooks := .later }
def MatchNarrowsCardSaid : Prop := Claim7.holds Tryz.pinned (.plain (OpenSpec.ofChange matchNarrowsSpec)) matchNarrowsCard

/-- THE TIED CARD OF 'cracknellaw04.UrlTells'. -/
def urlTellsCard : Claim7 := { stood := { row := urlTellsRow, standIns := [], harness := (true, "258b19523be9b951a4220a76ef5c4e5438068365af6748d4f451591dfcf31149"), looks := false }, kinds := [], alts := [], laidByText := true, laidKinds := [.data, .data, .data, .data, .pinned], laidTests := true, laidLooks := .later }
def UrlTellsCardSaid : Prop := Claim7.holds Tryz.pinned (.plain (OpenSpec.ofChange urlTellsSpec)) urlTellsCard

/-- THE TIED CARD OF 'cracknellaw04.UrlBack'. -/
def urlBackCard : Claim7 := { stood := { row := urlBackRow, standIns := [], harness := (true, "258b19523be9b951a4220a76ef5c4e5438068365af6748d4f451591dfcf31149"), looks := false }, kinds := [], alts := [], laidByText := true, laidKinds := [.data, .data, .data, .data, .pinned], laidTests := true, laidLooks := .later }
def UrlBackCardSaid : Prop := Claim7.holds Tryz.pinned (.plain (OpenSpec.ofChange urlBackSpec)) urlBackCard

/-- THE SECOND FORM's CARD OF 'cracknellaw09.MatchHosts'. -/
def matchHostsUptoCard : Claim7 := { stood := { row := matchHostsUptoRow, standIns := [], harness := (true, "258b19523be9b951a4220a76ef5c4e5438068365af6748d4f451591dfcf31149"), looks := false }, kinds := [], alts := [], laidByText := true, laidKinds := [.data, .data, .data, .data, .pinned], laidTests := true, laidLooks := .later }
def MatchHostsUptoCardSaid : Prop := Claim7.holds Tryz.pinned (.plain (OpenSpec.upto matchHostsSpec)) matchHostsUptoCard

/-- THE SECOND FORM's CARD OF 'cracknellaw09.MatchSends'. -/
def matchSendsUptoCard : Claim7 := { stood := { row := matchSendsUptoRow, standIns := [], harness := (true, "258b19523be9b951a4220a76ef5c4e5438068365af6748d4f451591dfcf31149"), looks := false }, kinds := [], alts := [], laidByText := true, laidKinds := [.data, .data, .data, .data, .pinned], laidTests := true, laidLooks := .later }
def MatchSendsUptoCardSaid : Prop := Claim7.holds Tryz.pinned (.plain (OpenSpec.upto matchSendsSpec)) matchSendsUptoCard

/-- THE SECOND FORM's CARD OF 'cracknellaw09.MatchNarrows'. -/
def matchNarrowsUptoCard : Claim7 := { stood := { row := matchNarrowsUptoRow, standIns := [], harness := (true, "258b19523be9b951a4220a76ef5c4e5438068365af6748d4f451591dfcf31149"), looks := false }, kinds := [], alts := [], laidByText := true, laidKinds := [.data, .data, .data, .data, .pinned], laidTests := true, laidLooks := .later }
def MatchNarrowsUptoCardSaid : Prop := Claim7.holds Tryz.pinned (.plain (OpenSpec.upto matchNarrowsSpec)) matchNarrowsUptoCard

/-- THE SECOND FORM's CARD OF 'cracknellaw04.UrlTells'. -/
def urlTellsUptoCard : Claim7 := { stood := { row := urlTellsUptoRow, standIns := [], harness := (true, "258b19523be9b951a4220a76ef5c4e5438068365af6748d4f451591dfcf31149"), looks := false }, kinds := [], alts := [], laidByText := true, laidKinds := [.data, .data, .data, .data, .pinned], laidTests := true, laidLooks := .later }
def UrlTellsUptoCardSaid : Prop := Claim7.holds Tryz.pinned (.plain (OpenSpec.upto urlTellsSpec)) urlTellsUptoCard

/-- THE SECOND FORM's CARD OF 'cracknellaw04.UrlBack'. -/
def urlBackUptoCard : Claim7 := { stood := { row := urlBackUptoRow, standIns := [], harness := (true, "258b19523be9b951a4220a76ef5c4e5438068365af6748d4f451591dfcf31149"), looks := false }, kinds := [], alts := [], laidByText := true, laidKinds := [.data, .data, .data, .data, .pinned], laidTests := true, laidLooks := .later }
def UrlBackUptoCardSaid : Prop := Claim7.holds Tryz.pinned (.plain (OpenSpec.upto urlBackSpec)) urlBackUptoCard
end Rows
end Go.Proofs.YtfnhkpfkaiamjaaGreatDoor
