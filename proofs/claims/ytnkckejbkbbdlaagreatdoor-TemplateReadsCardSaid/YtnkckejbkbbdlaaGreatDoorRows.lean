/-
  NARROWER THAN 'FOR EVERY INPUT', by the rows' own cells (each row's printed sentence says how): TemplateNames: laid · TemplateReads: laid · TemplateKeeps: laid · TemplateOne: laid · TemplateRemarks: laid.
  DERIVED. THE GIVEN ROWS OF THIS SEAT. 5 by the template 'for every input the law returns true; each argument reads behind the call as it read before'; 0 by the template 'total and deterministic' (their statements: YtnkckejbkbbdlaaGreatDoorTotals.lean).
  GIVEN WITH THE SEED: the statements are not yours to turn. If you find one false, say at which input.
  Laid BY PROGRAM, IN A SANDBOX (cutbox-rows.mjs): the forced cells as the released guide's own fill.sh prints them over the translation 3b6fc732b42631cd… (all of the seat's roots in one cut). By AI agents, Wed Nov 11 2026. No macro, syntax, notation, axiom, sorry.
-/
import Derived.Test.YtnkckejbkbbdlaaGreatDoorChecked
import GoSem.PinnedTables
import GoSem.Claim
import GoSem.ClaimJoined
import GoSem.ClaimMapViews
import Derived.JoinedTies
import Derived.KernelRfl
namespace Go.Proofs.YtnkckejbkbbdlaaGreatDoor
/- THE CELL 'sum', in the pinned program and in every row, IS THE sha256 OF THE DUMP (.gsa) THAT YtnkckejbkbbdlaaGreatDoorProg.lean LOADS. Nothing in Lean hashes anything: it is a label: what it is worth is what the hold of that sum in a sandbox is worth. -/
noncomputable def Tryz.pinned : Pinned := { name := "ytnkckejbkbbdlaagreatdoor", sum := "3b6fc732b42631cd46cd04a3bc9dc539b1423382cc1f365416f79f18c8f37758", checked := Tryz.checked }
namespace Rows
def none {H : Type} : Left H := { results := [], args := [] }

/- WHAT THE LISTED PACKAGE-LEVEL VARIABLES READ AS WHEN THE CALL BEGINS. Each datum BY PROGRAM (the guide's laid-datum.mjs) off the statement by which the dump's own 'gosem.cut.vars' lays the variable. In a bare row this is a premise. The card (YtnkckejbkbbdlaaGreatDoorCards.lean) ties it to the program's text. -/
def laid_unicode_utf8_acceptRanges {H : Type} : DataW H := .agg [.agg [.lit (.int .u8 128), .lit (.int .u8 191)], .agg [.lit (.int .u8 160), .lit (.int .u8 191)], .agg [.lit (.int .u8 128), .lit (.int .u8 159)], .agg [.lit (.int .u8 144), .lit (.int .u8 191)], .agg [.lit (.int .u8 128), .lit (.int .u8 143)], .agg [.lit (.int .u8 0), .lit (.int .u8 0)], .agg [.lit (.int .u8 0), .lit (.int .u8 0)], .agg [.lit (.int .u8 0), .lit (.int .u8 0)], .agg [.lit (.int .u8 0), .lit (.int .u8 0)], .agg [.lit (.int .u8 0), .lit (.int .u8 0)], .agg [.lit (.int .u8 0), .lit (.int .u8 0)], .agg [.lit (.int .u8 0), .lit (.int .u8 0)], .agg [.lit (.int .u8 0), .lit (.int .u8 0)], .agg [.lit (.int .u8 0), .lit (.int .u8 0)], .agg [.lit (.int .u8 0), .lit (.int .u8 0)], .agg [.lit (.int .u8 0), .lit (.int .u8 0)]]
/-- One of Go's own tables, pinned by name: the form's constant. -/
def laid_unicode_utf8_first : DataW Unit := Go.Pinned.utf8First

/-- 'cracknellaw22.TemplateNames': WHATEVER THE INPUT: true; the input reads as it did. -/
def templateNamesSpec : ChangeSpec := { name := "templateNames", fn := fun _ => fun
  | [] => { results := [.lit (.bool true)], args := [] }
  | _ => none }
def templateNamesRow : OpenClaim := { program := "ytnkckejbkbbdlaagreatdoor", sum := "3b6fc732b42631cd46cd04a3bc9dc539b1423382cc1f365416f79f18c8f37758", func := "cracknel/cracknellaw22.TemplateNames", spec := "templateNames", inPlace := ["internal/bytealg.CountString", "internal/bytealg.IndexByteString", "internal/bytealg.IndexString", "internal/abi.NoEscape", "internal/bytealg.MakeNoZero"], unfollowed := true, recurses := true, named := ["unicode/utf8.first", "unicode/utf8.acceptRanges", "internal/bytealg.MaxLen"], apart := false, laid := [("unicode/utf8.acceptRanges", laid_unicode_utf8_acceptRanges), ("unicode/utf8.first", laid_unicode_utf8_first)] }
def TemplateNamesSaid : Prop := templateNamesRow.holds Tryz.pinned (OpenSpec.ofChange templateNamesSpec)

/-- ITS FALSE NEIGHBOUR: 'it returns false'. Refute it at one input. -/
def templateNamesWrong : ChangeSpec := { name := "templateNames", fn := fun _ => fun
  | [] => { results := [.lit (.bool false)], args := [] }
  | _ => none }
def TemplateNamesWrongFalsely : Prop := templateNamesRow.holds Tryz.pinned (OpenSpec.ofChange templateNamesWrong)

/-- 'cracknellaw22.TemplateReads': WHATEVER THE INPUT: true; the input reads as it did. -/
def templateReadsSpec : ChangeSpec := { name := "templateReads", fn := fun _ => fun
  | [d] => { results := [.lit (.bool true)], args := [d] }
  | _ => none }
def templateReadsRow : OpenClaim := { program := "ytnkckejbkbbdlaagreatdoor", sum := "3b6fc732b42631cd46cd04a3bc9dc539b1423382cc1f365416f79f18c8f37758", func := "cracknel/cracknellaw22.TemplateReads", spec := "templateReads", inPlace := ["internal/bytealg.CountString", "internal/bytealg.IndexByteString", "internal/bytealg.IndexString", "internal/abi.NoEscape", "internal/bytealg.MakeNoZero"], unfollowed := true, recurses := true, named := ["unicode/utf8.first", "unicode/utf8.acceptRanges", "internal/bytealg.MaxLen"], apart := false, laid := [("unicode/utf8.acceptRanges", laid_unicode_utf8_acceptRanges), ("unicode/utf8.first", laid_unicode_utf8_first)] }
def TemplateReadsSaid : Prop := templateReadsRow.holds Tryz.pinned (OpenSpec.ofChange templateReadsSpec)

/-- ITS FALSE NEIGHBOUR: 'it returns false'. Refute it at one input. -/
def templateReadsWrong : ChangeSpec := { name := "templateReads", fn := fun _ => fun
  | [d] => { results := [.lit (.bool false)], args := [d] }
  | _ => none }
def TemplateReadsWrongFalsely : Prop := templateReadsRow.holds Tryz.pinned (OpenSpec.ofChange templateReadsWrong)

/-- 'cracknellaw22.TemplateKeeps': WHATEVER THE INPUT: true; the input reads as it did. -/
def templateKeepsSpec : ChangeSpec := { name := "templateKeeps", fn := fun _ => fun
  | [d] => { results := [.lit (.bool true)], args := [d] }
  | _ => none }
def templateKeepsRow : OpenClaim := { program := "ytnkckejbkbbdlaagreatdoor", sum := "3b6fc732b42631cd46cd04a3bc9dc539b1423382cc1f365416f79f18c8f37758", func := "cracknel/cracknellaw22.TemplateKeeps", spec := "templateKeeps", inPlace := ["internal/bytealg.CountString", "internal/bytealg.IndexByteString", "internal/bytealg.IndexString", "internal/abi.NoEscape", "internal/bytealg.MakeNoZero"], unfollowed := true, recurses := true, named := ["unicode/utf8.first", "unicode/utf8.acceptRanges", "internal/bytealg.MaxLen"], apart := false, laid := [("unicode/utf8.acceptRanges", laid_unicode_utf8_acceptRanges), ("unicode/utf8.first", laid_unicode_utf8_first)] }
def TemplateKeepsSaid : Prop := templateKeepsRow.holds Tryz.pinned (OpenSpec.ofChange templateKeepsSpec)

/-- ITS FALSE NEIGHBOUR: 'it returns false'. Refute it at one input. -/
def templateKeepsWrong : ChangeSpec := { name := "templateKeeps", fn := fun _ => fun
  | [d] => { results := [.lit (.bool false)], args := [d] }
  | _ => none }
def TemplateKeepsWrongFalsely : Prop := templateKeepsRow.holds Tryz.pinned (OpenSpec.ofChange templateKeepsWrong)

/-- 'cracknellaw22.TemplateOne': WHATEVER THE INPUT: true; the input reads as it did. -/
def templateOneSpec : ChangeSpec := { name := "templateOne", fn := fun _ => fun
  | [d1, d2, d3] => { results := [.lit (.bool true)], args := [d1, d2, d3] }
  | _ => none }
def templateOneRow : OpenClaim := { program := "ytnkckejbkbbdlaagreatdoor", sum := "3b6fc732b42631cd46cd04a3bc9dc539b1423382cc1f365416f79f18c8f37758", func := "cracknel/cracknellaw22.TemplateOne", spec := "templateOne", inPlace := ["internal/bytealg.CountString", "internal/bytealg.IndexByteString", "internal/bytealg.IndexString", "internal/abi.NoEscape", "internal/bytealg.MakeNoZero"], unfollowed := true, recurses := true, named := ["unicode/utf8.first", "unicode/utf8.acceptRanges", "internal/bytealg.MaxLen"], apart := false, laid := [("unicode/utf8.acceptRanges", laid_unicode_utf8_acceptRanges), ("unicode/utf8.first", laid_unicode_utf8_first)] }
def TemplateOneSaid : Prop := templateOneRow.holds Tryz.pinned (OpenSpec.ofChange templateOneSpec)

/-- ITS FALSE NEIGHBOUR: 'it returns false'. Refute it at one input. -/
def templateOneWrong : ChangeSpec := { name := "templateOne", fn := fun _ => fun
  | [d1, d2, d3] => { results := [.lit (.bool false)], args := [d1, d2, d3] }
  | _ => none }
def TemplateOneWrongFalsely : Prop := templateOneRow.holds Tryz.pinned (OpenSpec.ofChange templateOneWrong)

/-- 'cracknellaw22.TemplateRemarks': WHATEVER THE INPUT: true; the input reads as it did. -/
def templateRemarksSpec : ChangeSpec := { name := "templateRemarks", fn := fun _ => fun
  | [d] => { results := [.lit (.bool true)], args := [d] }
  | _ => none }
def templateRemarksRow : OpenClaim := { program := "ytnkckejbkbbdlaagreatdoor", sum := "3b6fc732b42631cd46cd04a3bc9dc539b1423382cc1f365416f79f18c8f37758", func := "cracknel/cracknellaw22.TemplateRemarks", spec := "templateRemarks", inPlace := ["internal/bytealg.CountString", "internal/bytealg.IndexByteString", "internal/bytealg.IndexString", "internal/abi.NoEscape", "internal/bytealg.MakeNoZero"], unfollowed := true, recurses := true, named := ["unicode/utf8.first", "unicode/utf8.acceptRanges", "internal/bytealg.MaxLen"], apart := false, laid := [("unicode/utf8.acceptRanges", laid_unicode_utf8_acceptRanges), ("unicode/utf8.first", laid_unicode_utf8_first)] }
def TemplateRemarksSaid : Prop := templateRemarksRow.holds Tryz.pinned (OpenSpec.ofChange templateRemarksSpec)

/-- ITS FALSE NEIGHBOUR: 'it returns false'. Refute it at one input. -/
def templateRemarksWrong : ChangeSpec := { name := "templateRemarks", fn := fun _ => fun
  | [d] => { results := [.lit (.bool false)], args := [d] }
  | _ => none }
def TemplateRemarksWrongFalsely : Prop := templateRemarksRow.holds Tryz.pinned (OpenSpec.ofChange templateRemarksWrong)

/- THE SECOND FORM. 'bulk': how many values and letters a reading holds, each counted each time it is reached (what is shared counts as often as it is met; a slice's spare places count too). A statement '..UptoSaid' is the law's where the arguments, and the package variables that the reading takes, are together of bulk at most 1048576: NARROWER than '..Said'. Prove '..Said' where nothing that the law and all that it calls make is longer than what came in: it says more and counts as full. Else prove '..UptoSaid'. A law counts once. -/
mutual
def uptoBulk {H : Type} : DataW H → Nat
  | .lit (.string bytes) => bytes.length + 1
  | .lit _ => 1
  | .nil => 1
  | .ptr d => uptoBulk d + 1
  | .slice elems spare => uptoBulkAll elems + uptoBulkAll spare + 1
  | .agg parts => uptoBulkAll parts + 1
  | .iface _ d => uptoBulk d + 1
  | .map entries => uptoBulkEntries entries + 1
  | .held _ => 1
def uptoBulkAll {H : Type} : List (DataW H) → Nat
  | [] => 0
  | d :: r => uptoBulk d + uptoBulkAll r
def uptoBulkEntries {H : Type} : List (Lit × DataW H) → Nat
  | [] => 0
  | x :: r => uptoBulkEntry x + uptoBulkEntries r
def uptoBulkEntry {H : Type} : Lit × DataW H → Nat
  | (.string bytes, d) => bytes.length + uptoBulk d + 1
  | (_, d) => uptoBulk d + 1
 end
def uptoSmall : (H : Type) → List (DataW H) → Bool := fun _ ds => decide (uptoBulkAll ds ≤ 1048576)
def OpenSpec.upto (s : _root_.Go.ChangeSpec) : _root_.Go.OpenSpec := { _root_.Go.OpenSpec.ofChange s with cond := some uptoSmall }

/-- 'cracknellaw22.TemplateNames', WHERE WHAT IT READS IS OF BULK AT MOST 1048576: true; the input reads as it did. -/
def templateNamesUptoRow : OpenClaim := { program := "ytnkckejbkbbdlaagreatdoor", sum := "3b6fc732b42631cd46cd04a3bc9dc539b1423382cc1f365416f79f18c8f37758", func := "cracknel/cracknellaw22.TemplateNames", spec := "templateNames", inPlace := ["internal/bytealg.CountString", "internal/bytealg.IndexByteString", "internal/bytealg.IndexString", "internal/abi.NoEscape", "internal/bytealg.MakeNoZero"], unfollowed := true, recurses := true, named := ["unicode/utf8.first", "unicode/utf8.acceptRanges", "internal/bytealg.MaxLen"], apart := false, laid := [("unicode/utf8.acceptRanges", laid_unicode_utf8_acceptRanges), ("unicode/utf8.first", laid_unicode_utf8_first)], narrowed := true }
def TemplateNamesUptoSaid : Prop := templateNamesUptoRow.holds Tryz.pinned (OpenSpec.upto templateNamesSpec)

/-- 'cracknellaw22.TemplateReads', WHERE WHAT IT READS IS OF BULK AT MOST 1048576: true; the input reads as it did. -/
def templateReadsUptoRow : OpenClaim := { program := "ytnkckejbkbbdlaagreatdoor", sum := "3b6fc732b42631cd46cd04a3bc9dc539b1423382cc1f365416f79f18c8f37758", func := "cracknel/cracknellaw22.TemplateReads", spec := "templateReads", inPlace := ["internal/bytealg.CountString", "internal/bytealg.IndexByteString", "internal/bytealg.IndexString", "internal/abi.NoEscape", "internal/bytealg.MakeNoZero"], unfollowed := true, recurses := true, named := ["unicode/utf8.first", "unicode/utf8.acceptRanges", "internal/bytealg.MaxLen"], apart := false, laid := [("unicode/utf8.acceptRanges", laid_unicode_utf8_acceptRanges), ("unicode/utf8.first", laid_unicode_utf8_first)], narrowed := true }
def TemplateReadsUptoSaid : Prop := templateReadsUptoRow.holds Tryz.pinned (OpenSpec.upto templateReadsSpec)

/-- 'cracknellaw22.TemplateKeeps', WHERE WHAT IT READS IS OF BULK AT MOST 1048576: true; the input reads as it did. -/
def templateKeepsUptoRow : OpenClaim := { program := "ytnkckejbkbbdlaagreatdoor", sum := "3b6fc732b42631cd46cd04a3bc9dc539b1423382cc1f365416f79f18c8f37758", func := "cracknel/cracknellaw22.TemplateKeeps", spec := "templateKeeps", inPlace := ["internal/bytealg.CountString", "internal/bytealg.IndexByteString", "internal/bytealg.IndexString", "internal/abi.NoEscape", "internal/bytealg.MakeNoZero"], unfollowed := true, recurses := true, named := ["unicode/utf8.first", "unicode/utf8.acceptRanges", "internal/bytealg.MaxLen"], apart := false, laid := [("unicode/utf8.acceptRanges", laid_unicode_utf8_acceptRanges), ("unicode/utf8.first", laid_unicode_utf8_first)], narrowed := true }
def TemplateKeepsUptoSaid : Prop := templateKeepsUptoRow.holds Tryz.pinned (OpenSpec.upto templateKeepsSpec)

/-- 'cracknellaw22.TemplateOne', WHERE WHAT IT READS IS OF BULK AT MOST 1048576: true; the input reads as it did. -/
def templateOneUptoRow : OpenClaim := { program := "ytnkckejbkbbdlaagreatdoor", sum := "3b6fc732b42631cd46cd04a3bc9dc539b1423382cc1f365416f79f18c8f37758", func := "cracknel/cracknellaw22.TemplateOne", spec := "templateOne", inPlace := ["internal/bytealg.CountString", "internal/bytealg.IndexByteString", "internal/bytealg.IndexString", "internal/abi.NoEscape", "internal/bytealg.MakeNoZero"], unfollowed := true, recurses := true, named := ["unicode/utf8.first", "unicode/utf8.acceptRanges", "internal/bytealg.MaxLen"], apart := false, laid := [("unicode/utf8.acceptRanges", laid_unicode_utf8_acceptRanges), ("unicode/utf8.first", laid_unicode_utf8_first)], narrowed := true }
def TemplateOneUptoSaid : Prop := templateOneUptoRow.holds Tryz.pinned (OpenSpec.upto templateOneSpec)

/-- 'cracknellaw22.TemplateRemarks', WHERE WHAT IT READS IS OF BULK AT MOST 1048576: true; the input reads as it did. -/
def templateRemarksUptoRow : OpenClaim := { program := "ytnkckejbkbbdlaagreatdoor", sum := "3b6fc732b42631cd46cd04a3bc9dc539b1423382cc1f365416f79f18c8f37758", func := "cracknel/cracknellaw22.TemplateRemarks", spec := "templateRemarks", inPlace := ["internal/bytealg.CountString", "internal/bytealg.IndexByteString", "internal/bytealg.IndexString", "internal/abi.NoEscape", "internal/bytealg.MakeNoZero"], unfollowed := true, recurses := true, named := ["unicode/utf8.first", "unicode/utf8.acceptRanges", "internal/bytealg.MaxLen"], apart := false, laid := [("unicode/utf8.acceptRanges", laid_unicode_utf8_acceptRanges), ("unicode/utf8.first", laid_unicode_utf8_first)], narrowed := true }
def TemplateRemarksUptoSaid : Prop := templateRemarksUptoRow.holds Tryz.pinned (OpenSpec.upto templateRemarksSpec)

end Rows
end Go.Proofs.YtnkckejbkbbdlaaGreatDoor
