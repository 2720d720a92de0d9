/-
  NARROWER THAN 'FOR EVERY INPUT', by the rows' own cells (each row's printed sentence says how): OctetSplits: laid · OctetApart: laid · OctetWords: laid · OctetBack: laid · OctetNumbers: laid · OctetTells: laid.
  DERIVED. THE GIVEN ROWS OF THIS SEAT. 6 by the template 'for every input the law returns true; each argument reads behind the call as it read before'; 0 by the template 'total and deterministic' (their statements: YtmophphkhajjaaaDoorTotals.lean).
  GIVEN WITH THE SEED: the statements are not yours to turn. If you find one false, say at which input.
  Laid BY PROGRAM, IN A SANDBOX (cutbox-rows.mjs): the forced cells as the released guide's own fill.sh prints them over the translation 9a94e3457e758d68… (all of the seat's roots in one cut). By AI agents, Wed Nov 11 2026. No macro, syntax, notation, axiom, sorry.
-/
import Derived.Test.YtmophphkhajjaaaDoorChecked
import GoSem.PinnedTables
import GoSem.Claim
import GoSem.ClaimJoined
import GoSem.ClaimMapViews
import Derived.JoinedTies
import Derived.KernelRfl
namespace Go.Proofs.YtmophphkhajjaaaDoor
/- THE CELL 'sum', in the pinned program and in every row, IS THE sha256 OF THE DUMP (.gsa) THAT YtmophphkhajjaaaDoorProg.lean LOADS. Nothing in Lean hashes anything: it is a label: what it is worth is what the hold of that sum in a sandbox is worth. -/
noncomputable def Tryd.pinned : Pinned := { name := "ytmophphkhajjaaadoor", sum := "9a94e3457e758d68fc79e7c73bf9b2476e3f5b88ad871cdf41aad6de6aa76884", checked := Tryd.checked }
namespace Rows
def none {H : Type} : Left H := { results := [], args := [] }

/- WHAT THE LISTED PACKAGE-LEVEL VARIABLES READ AS WHEN THE CALL BEGINS. Each datum BY PROGRAM (the guide's laid-datum.mjs) off the statement by which the dump's own 'gosem.cut.vars' lays the variable. In a bare row this is a premise. The card (YtmophphkhajjaaaDoorCards.lean) ties it to the program's text. -/
def laid_unicode_utf8_acceptRanges {H : Type} : DataW H := .agg [.agg [.lit (.int .u8 128), .lit (.int .u8 191)], .agg [.lit (.int .u8 160), .lit (.int .u8 191)], .agg [.lit (.int .u8 128), .lit (.int .u8 159)], .agg [.lit (.int .u8 144), .lit (.int .u8 191)], .agg [.lit (.int .u8 128), .lit (.int .u8 143)], .agg [.lit (.int .u8 0), .lit (.int .u8 0)], .agg [.lit (.int .u8 0), .lit (.int .u8 0)], .agg [.lit (.int .u8 0), .lit (.int .u8 0)], .agg [.lit (.int .u8 0), .lit (.int .u8 0)], .agg [.lit (.int .u8 0), .lit (.int .u8 0)], .agg [.lit (.int .u8 0), .lit (.int .u8 0)], .agg [.lit (.int .u8 0), .lit (.int .u8 0)], .agg [.lit (.int .u8 0), .lit (.int .u8 0)], .agg [.lit (.int .u8 0), .lit (.int .u8 0)], .agg [.lit (.int .u8 0), .lit (.int .u8 0)], .agg [.lit (.int .u8 0), .lit (.int .u8 0)]]
/-- One of Go's own tables, pinned by name: the form's constant. -/
def laid_unicode_utf8_first : DataW Unit := Go.Pinned.utf8First

/-- 'cracknellaw01.OctetSplits': WHATEVER THE INPUT: true; the input reads as it did. -/
def octetSplitsSpec : ChangeSpec := { name := "octetSplits", fn := fun _ => fun
  | [d1, d2] => { results := [.lit (.bool true)], args := [d1, d2] }
  | _ => none }
def octetSplitsRow : OpenClaim := { program := "ytmophphkhajjaaadoor", sum := "9a94e3457e758d68fc79e7c73bf9b2476e3f5b88ad871cdf41aad6de6aa76884", func := "cracknel/cracknellaw01.OctetSplits", spec := "octetSplits", inPlace := ["internal/bytealg.CountString", "internal/bytealg.IndexByteString", "internal/bytealg.IndexString"], named := ["unicode/utf8.first", "unicode/utf8.acceptRanges", "internal/bytealg.MaxLen"], apart := false, laid := [("unicode/utf8.acceptRanges", laid_unicode_utf8_acceptRanges), ("unicode/utf8.first", laid_unicode_utf8_first)] }
def OctetSplitsSaid : Prop := octetSplitsRow.holds Tryd.pinned (OpenSpec.ofChange octetSplitsSpec)

/-- ITS FALSE NEIGHBOUR: 'it returns false'. Refute it at one input. -/
def octetSplitsWrong : ChangeSpec := { name := "octetSplits", fn := fun _ => fun
  | [d1, d2] => { results := [.lit (.bool false)], args := [d1, d2] }
  | _ => none }
def OctetSplitsWrongFalsely : Prop := octetSplitsRow.holds Tryd.pinned (OpenSpec.ofChange octetSplitsWrong)

/-- 'cracknellaw01.OctetApart': WHATEVER THE INPUT: true; the input reads as it did. -/
def octetApartSpec : ChangeSpec := { name := "octetApart", fn := fun _ => fun
  | [d1, d2] => { results := [.lit (.bool true)], args := [d1, d2] }
  | _ => none }
def octetApartRow : OpenClaim := { program := "ytmophphkhajjaaadoor", sum := "9a94e3457e758d68fc79e7c73bf9b2476e3f5b88ad871cdf41aad6de6aa76884", func := "cracknel/cracknellaw01.OctetApart", spec := "octetApart", inPlace := ["internal/bytealg.CountString", "internal/bytealg.IndexByteString", "internal/bytealg.IndexString"], named := ["unicode/utf8.first", "unicode/utf8.acceptRanges", "internal/bytealg.MaxLen"], apart := false, laid := [("unicode/utf8.acceptRanges", laid_unicode_utf8_acceptRanges), ("unicode/utf8.first", laid_unicode_utf8_first)] }
def OctetApartSaid : Prop := octetApartRow.holds Tryd.pinned (OpenSpec.ofChange octetApartSpec)

/-- ITS FALSE NEIGHBOUR: 'it returns false'. Refute it at one input. -/
def octetApartWrong : ChangeSpec := { name := "octetApart", fn := fun _ => fun
  | [d1, d2] => { results := [.lit (.bool false)], args := [d1, d2] }
  | _ => none }
def OctetApartWrongFalsely : Prop := octetApartRow.holds Tryd.pinned (OpenSpec.ofChange octetApartWrong)

/-- 'cracknellaw01.OctetWords': WHATEVER THE INPUT: true; the input reads as it did. -/
def octetWordsSpec : ChangeSpec := { name := "octetWords", fn := fun _ => fun
  | [d] => { results := [.lit (.bool true)], args := [d] }
  | _ => none }
def octetWordsRow : OpenClaim := { program := "ytmophphkhajjaaadoor", sum := "9a94e3457e758d68fc79e7c73bf9b2476e3f5b88ad871cdf41aad6de6aa76884", func := "cracknel/cracknellaw01.OctetWords", spec := "octetWords", inPlace := ["internal/bytealg.CountString", "internal/bytealg.IndexByteString", "internal/bytealg.IndexString"], named := ["unicode/utf8.first", "unicode/utf8.acceptRanges", "internal/bytealg.MaxLen"], apart := false, laid := [("unicode/utf8.acceptRanges", laid_unicode_utf8_acceptRanges), ("unicode/utf8.first", laid_unicode_utf8_first)] }
def OctetWordsSaid : Prop := octetWordsRow.holds Tryd.pinned (OpenSpec.ofChange octetWordsSpec)

/-- ITS FALSE NEIGHBOUR: 'it returns false'. Refute it at one input. -/
def octetWordsWrong : ChangeSpec := { name := "octetWords", fn := fun _ => fun
  | [d] => { results := [.lit (.bool false)], args := [d] }
  | _ => none }
def OctetWordsWrongFalsely : Prop := octetWordsRow.holds Tryd.pinned (OpenSpec.ofChange octetWordsWrong)

/-- 'cracknellaw01.OctetBack': WHATEVER THE INPUT: true; the input reads as it did. -/
def octetBackSpec : ChangeSpec := { name := "octetBack", fn := fun _ => fun
  | [d1, d2] => { results := [.lit (.bool true)], args := [d1, d2] }
  | _ => none }
def octetBackRow : OpenClaim := { program := "ytmophphkhajjaaadoor", sum := "9a94e3457e758d68fc79e7c73bf9b2476e3f5b88ad871cdf41aad6de6aa76884", func := "cracknel/cracknellaw01.OctetBack", spec := "octetBack", inPlace := ["internal/bytealg.CountString", "internal/bytealg.IndexByteString", "internal/bytealg.IndexString"], named := ["unicode/utf8.first", "unicode/utf8.acceptRanges", "internal/bytealg.MaxLen"], apart := false, laid := [("unicode/utf8.acceptRanges", laid_unicode_utf8_acceptRanges), ("unicode/utf8.first", laid_unicode_utf8_first)] }
def OctetBackSaid : Prop := octetBackRow.holds Tryd.pinned (OpenSpec.ofChange octetBackSpec)

/-- ITS FALSE NEIGHBOUR: 'it returns false'. Refute it at one input. -/
def octetBackWrong : ChangeSpec := { name := "octetBack", fn := fun _ => fun
  | [d1, d2] => { results := [.lit (.bool false)], args := [d1, d2] }
  | _ => none }
def OctetBackWrongFalsely : Prop := octetBackRow.holds Tryd.pinned (OpenSpec.ofChange octetBackWrong)

/-- 'cracknellaw01.OctetNumbers': WHATEVER THE INPUT: true; the input reads as it did. -/
def octetNumbersSpec : ChangeSpec := { name := "octetNumbers", fn := fun _ => fun
  | [d] => { results := [.lit (.bool true)], args := [d] }
  | _ => none }
def octetNumbersRow : OpenClaim := { program := "ytmophphkhajjaaadoor", sum := "9a94e3457e758d68fc79e7c73bf9b2476e3f5b88ad871cdf41aad6de6aa76884", func := "cracknel/cracknellaw01.OctetNumbers", spec := "octetNumbers", inPlace := ["internal/bytealg.CountString", "internal/bytealg.IndexByteString", "internal/bytealg.IndexString"], named := ["unicode/utf8.first", "unicode/utf8.acceptRanges", "internal/bytealg.MaxLen"], apart := false, laid := [("unicode/utf8.acceptRanges", laid_unicode_utf8_acceptRanges), ("unicode/utf8.first", laid_unicode_utf8_first)] }
def OctetNumbersSaid : Prop := octetNumbersRow.holds Tryd.pinned (OpenSpec.ofChange octetNumbersSpec)

/-- ITS FALSE NEIGHBOUR: 'it returns false'. Refute it at one input. -/
def octetNumbersWrong : ChangeSpec := { name := "octetNumbers", fn := fun _ => fun
  | [d] => { results := [.lit (.bool false)], args := [d] }
  | _ => none }
def OctetNumbersWrongFalsely : Prop := octetNumbersRow.holds Tryd.pinned (OpenSpec.ofChange octetNumbersWrong)

/-- 'cracknellaw01.OctetTells': WHATEVER THE INPUT: true; the input reads as it did. -/
def octetTellsSpec : ChangeSpec := { name := "octetTells", fn := fun _ => fun
  | [d1, d2] => { results := [.lit (.bool true)], args := [d1, d2] }
  | _ => none }
def octetTellsRow : OpenClaim := { program := "ytmophphkhajjaaadoor", sum := "9a94e3457e758d68fc79e7c73bf9b2476e3f5b88ad871cdf41aad6de6aa76884", func := "cracknel/cracknellaw01.OctetTells", spec := "octetTells", inPlace := ["internal/bytealg.CountString", "internal/bytealg.IndexByteString", "internal/bytealg.IndexString"], named := ["unicode/utf8.first", "unicode/utf8.acceptRanges", "internal/bytealg.MaxLen"], apart := false, laid := [("unicode/utf8.acceptRanges", laid_unicode_utf8_acceptRanges), ("unicode/utf8.first", laid_unicode_utf8_first)] }
def OctetTellsSaid : Prop := octetTellsRow.holds Tryd.pinned (OpenSpec.ofChange octetTellsSpec)

/-- ITS FALSE NEIGHBOUR: 'it returns false'. Refute it at one input. -/
def octetTellsWrong : ChangeSpec := { name := "octetTells", fn := fun _ => fun
  | [d1, d2] => { results := [.lit (.bool false)], args := [d1, d2] }
  | _ => none }
def OctetTellsWrongFalsely : Prop := octetTellsRow.holds Tryd.pinned (OpenSpec.ofChange octetTellsWrong)

/- THE SECOND FORM. 'bulk': how many values and letters a reading holds, each counted each time it is reached (what is shared counts as often as it is met; a slice's spare places count too). A statement '..UptoSaid' is the law's where the arguments, and the package variables that the reading takes, are together of bulk at most 1048576: NARROWER than '..Said'. Prove '..Said' where nothing that the law and all that it calls make is longer than what came in: it says more and counts as full. Else prove '..UptoSaid'. A law counts once. -/
mutual
def uptoBulk {H : Type} : DataW H → Nat
  | .lit (.string bytes) => bytes.length + 1
  | .lit _ => 1
  | .nil => 1
  | .ptr d => uptoBulk d + 1
  | .slice elems spare => uptoBulkAll elems + uptoBulkAll spare + 1
  | .agg parts => uptoBulkAll parts + 1
  | .iface _ d => uptoBulk d + 1
  | .map entries => uptoBulkEntries entries + 1
  | .held _ => 1
def uptoBulkAll {H : Type} : List (DataW H) → Nat
  | [] => 0
  | d :: r => uptoBulk d + uptoBulkAll r
def uptoBulkEntries {H : Type} : List (Lit × DataW H) → Nat
  | [] => 0
  | x :: r => uptoBulkEntry x + uptoBulkEntries r
def uptoBulkEntry {H : Type} : Lit × DataW H → Nat
  | (.string bytes, d) => bytes.length + uptoBulk d + 1
  | (_, d) => uptoBulk d + 1
 end
def uptoSmall : (H : Type) → List (DataW H) → Bool := fun _ ds => decide (uptoBulkAll ds ≤ 1048576)
def OpenSpec.upto (s : _root_.Go.ChangeSpec) : _root_.Go.OpenSpec := { _root_.Go.OpenSpec.ofChange s with cond := some uptoSmall }

/-- 'cracknellaw01.OctetSplits', WHERE WHAT IT READS IS OF BULK AT MOST 1048576: true; the input reads as it did. -/
def octetSplitsUptoRow : OpenClaim := { program := "ytmophphkhajjaaadoor", sum := "9a94e3457e758d68fc79e7c73bf9b2476e3f5b88ad871cdf41aad6de6aa76884", func := "cracknel/cracknellaw01.OctetSplits", spec := "octetSplits", inPlace := ["internal/bytealg.CountString", "internal/bytealg.IndexByteString", "internal/bytealg.IndexString"], named := ["unicode/utf8.first", "unicode/utf8.acceptRanges", "internal/bytealg.MaxLen"], apart := false, laid := [("unicode/utf8.acceptRanges", laid_unicode_utf8_acceptRanges), ("unicode/utf8.first", laid_unicode_utf8_first)], narrowed := true }
def OctetSplitsUptoSaid : Prop := octetSplitsUptoRow.holds Tryd.pinned (OpenSpec.upto octetSplitsSpec)

/-- 'cracknellaw01.OctetApart', WHERE WHAT IT READS IS OF BULK AT MOST 1048576: true; the input reads as it did. -/
def octetApartUptoRow : OpenClaim := { program := "ytmophphkhajjaaadoor", sum := "9a94e3457e758d68fc79e7c73bf9b2476e3f5b88ad871cdf41aad6de6aa76884", func := "cracknel/cracknellaw01.OctetApart", spec := "octetApart", inPlace := ["internal/bytealg.CountString", "internal/bytealg.IndexByteString", "internal/bytealg.IndexString"], named := ["unicode/utf8.first", "unicode/utf8.acceptRanges", "internal/bytealg.MaxLen"], apart := false, laid := [("unicode/utf8.acceptRanges", laid_unicode_utf8_acceptRanges), ("unicode/utf8.first", laid_unicode_utf8_first)], narrowed := true }
def OctetApartUptoSaid : Prop := octetApartUptoRow.holds Tryd.pinned (OpenSpec.upto octetApartSpec)

/-- 'cracknellaw01.OctetWords', WHERE WHAT IT READS IS OF BULK AT MOST 1048576: true; the input reads as it did. -/
def octetWordsUptoRow : OpenClaim := { program := "ytmophphkhajjaaadoor", sum := "9a94e3457e758d68fc79e7c73bf9b2476e3f5b88ad871cdf41aad6de6aa76884", func := "cracknel/cracknellaw01.OctetWords", spec := "octetWords", inPlace := ["internal/bytealg.CountString", "internal/bytealg.IndexByteString", "internal/bytealg.IndexString"], named := ["unicode/utf8.first", "unicode/utf8.acceptRanges", "internal/bytealg.MaxLen"], apart := false, laid := [("unicode/utf8.acceptRanges", laid_unicode_utf8_acceptRanges), ("unicode/utf8.first", laid_unicode_utf8_first)], narrowed := true }
def OctetWordsUptoSaid : Prop := octetWordsUptoRow.holds Tryd.pinned (OpenSpec.upto octetWordsSpec)

/-- 'cracknellaw01.OctetBack', WHERE WHAT IT READS IS OF BULK AT MOST 1048576: true; the input reads as it did. -/
def octetBackUptoRow : OpenClaim := { program := "ytmophphkhajjaaadoor", sum := "9a94e3457e758d68fc79e7c73bf9b2476e3f5b88ad871cdf41aad6de6aa76884", func := "cracknel/cracknellaw01.OctetBack", spec := "octetBack", inPlace := ["internal/bytealg.CountString", "internal/bytealg.IndexByteString", "internal/bytealg.IndexString"], named := ["unicode/utf8.first", "unicode/utf8.acceptRanges", "internal/bytealg.MaxLen"], apart := false, laid := [("unicode/utf8.acceptRanges", laid_unicode_utf8_acceptRanges), ("unicode/utf8.first", laid_unicode_utf8_first)], narrowed := true }
def OctetBackUptoSaid : Prop := octetBackUptoRow.holds Tryd.pinned (OpenSpec.upto octetBackSpec)

/-- 'cracknellaw01.OctetNumbers', WHERE WHAT IT READS IS OF BULK AT MOST 1048576: true; the input reads as it did. -/
def octetNumbersUptoRow : OpenClaim := { program := "ytmophphkhajjaaadoor", sum := "9a94e3457e758d68fc79e7c73bf9b2476e3f5b88ad871cdf41aad6de6aa76884", func := "cracknel/cracknellaw01.OctetNumbers", spec := "octetNumbers", inPlace := ["internal/bytealg.CountString", "internal/bytealg.IndexByteString", "internal/bytealg.IndexString"], named := ["unicode/utf8.first", "unicode/utf8.acceptRanges", "internal/bytealg.MaxLen"], apart := false, laid := [("unicode/utf8.acceptRanges", laid_unicode_utf8_acceptRanges), ("unicode/utf8.first", laid_unicode_utf8_first)], narrowed := true }
def OctetNumbersUptoSaid : Prop := octetNumbersUptoRow.holds Tryd.pinned (OpenSpec.upto octetNumbersSpec)

/-- 'cracknellaw01.OctetTells', WHERE WHAT IT READS IS OF BULK AT MOST 1048576: true; the input reads as it did. -/
def octetTellsUptoRow : OpenClaim := { program := "ytmophphkhajjaaadoor", sum := "9a94e3457e758d68fc79e7c73bf9b2476e3f5b88ad871cdf41aad6de6aa76884", func := "cracknel/cracknellaw01.OctetTells", spec := "octetTells", inPlace := ["internal/bytealg.CountString", "internal/bytealg.IndexByteString", "internal/bytealg.IndexString"], named := ["unicode/utf8.first", "unicode/utf8.acceptRanges", "internal/bytealg.MaxLen"], apart := false, laid := [("unicode/utf8.acceptRanges", laid_unicode_utf8_acceptRanges), ("unicode/utf8.first", laid_unicode_utf8_first)], narrowed := true }
def OctetTellsUptoSaid : Prop := octetTellsUptoRow.holds Tryd.pinned (OpenSpec.upto octetTellsSpec)

end Rows
end Go.Proofs.YtmophphkhajjaaaDoor
