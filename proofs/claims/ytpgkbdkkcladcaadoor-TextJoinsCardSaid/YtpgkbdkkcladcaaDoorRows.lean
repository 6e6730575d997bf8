/-
  NARROWER THAN 'FOR EVERY INPUT', by the rows' own cells (each row's printed sentence says how): TextBacks: laid · TextFull: laid · TextCuts: laid · TextLines: laid · TextRights: laid · DeskBacks: laid · DeskNones: laid · DeskFull: laid · DeskApart: laid · DeskFresh: laid · TextInserts: laid · TextJoins: laid · DeskActs: laid.
  DERIVED. THE GIVEN ROWS OF THIS SEAT. 13 by the template 'for every input the law returns true; each argument reads behind the call as it read before'; 0 by the template 'total and deterministic' (their statements: YtpgkbdkkcladcaaDoorTotals.lean).
  GIVEN WITH THE SEED: the statements are not yours to turn. If you find one false, say at which input.
  Laid BY PROGRAM, IN A SANDBOX (cutbox-rows.mjs): the forced cells as the released guide's own fill.sh prints them over the translation d30d3a0086ac524e… (all of the seat's roots in one cut). By AI agents, Wed Nov 11 2026. No macro, syntax, notation, axiom, sorry.
-/
import Derived.Test.YtpgkbdkkcladcaaDoorChecked
import GoSem.PinnedTables
import GoSem.Claim
import GoSem.ClaimJoined
import GoSem.ClaimMapViews
import Derived.JoinedTies
import Derived.KernelRfl
namespace Go.Proofs.YtpgkbdkkcladcaaDoor
/- THE CELL 'sum', in the pinned program and in every row, IS THE sha256 OF THE DUMP (.gsa) THAT YtpgkbdkkcladcaaDoorProg.lean LOADS. Nothing in Lean hashes anything: it is a label: what it is worth is what the hold of that sum in a sandbox is worth. -/
noncomputable def Tryd.pinned : Pinned := { name := "ytpgkbdkkcladcaadoor", sum := "d30d3a0086ac524e46c95b9b42ca472a65cbc20a4e23ed8282f45aa543ae90ca", checked := Tryd.checked }
namespace Rows
def none {H : Type} : Left H := { results := [], args := [] }

/- WHAT THE LISTED PACKAGE-LEVEL VARIABLES READ AS WHEN THE CALL BEGINS. Each datum BY PROGRAM (the guide's laid-datum.mjs) off the statement by which the dump's own 'gosem.cut.vars' lays the variable. In a bare row this is a premise. The card (YtpgkbdkkcladcaaDoorCards.lean) ties it to the program's text. -/
def laid_unicode_utf8_acceptRanges {H : Type} : DataW H := .agg [.agg [.lit (.int .u8 128), .lit (.int .u8 191)], .agg [.lit (.int .u8 160), .lit (.int .u8 191)], .agg [.lit (.int .u8 128), .lit (.int .u8 159)], .agg [.lit (.int .u8 144), .lit (.int .u8 191)], .agg [.lit (.int .u8 128), .lit (.int .u8 143)], .agg [.lit (.int .u8 0), .lit (.int .u8 0)], .agg [.lit (.int .u8 0), .lit (.int .u8 0)], .agg [.lit (.int .u8 0), .lit (.int .u8 0)], .agg [.lit (.int .u8 0), .lit (.int .u8 0)], .agg [.lit (.int .u8 0), .lit (.int .u8 0)], .agg [.lit (.int .u8 0), .lit (.int .u8 0)], .agg [.lit (.int .u8 0), .lit (.int .u8 0)], .agg [.lit (.int .u8 0), .lit (.int .u8 0)], .agg [.lit (.int .u8 0), .lit (.int .u8 0)], .agg [.lit (.int .u8 0), .lit (.int .u8 0)], .agg [.lit (.int .u8 0), .lit (.int .u8 0)]]
/-- One of Go's own tables, pinned by name: the form's constant. -/
def laid_unicode_utf8_first : DataW Unit := Go.Pinned.utf8First

/-- 'stackyardlaw20.TextBacks': WHATEVER THE INPUT: true; the input reads as it did. -/
def textBacksSpec : ChangeSpec := { name := "textBacks", fn := fun _ => fun
  | [d1, d2, d3, d4] => { results := [.lit (.bool true)], args := [d1, d2, d3, d4] }
  | _ => none }
def textBacksRow : OpenClaim := { program := "ytpgkbdkkcladcaadoor", sum := "d30d3a0086ac524e46c95b9b42ca472a65cbc20a4e23ed8282f45aa543ae90ca", func := "stackyard/stackyardlaw20.TextBacks", spec := "textBacks", inPlace := ["internal/abi.NoEscape"], named := ["unicode/utf8.first", "unicode/utf8.acceptRanges"], apart := false, laid := [("unicode/utf8.acceptRanges", laid_unicode_utf8_acceptRanges), ("unicode/utf8.first", laid_unicode_utf8_first)] }
def TextBacksSaid : Prop := textBacksRow.holds Tryd.pinned (OpenSpec.ofChange textBacksSpec)

/-- ITS FALSE NEIGHBOUR: 'it returns false'. Refute it at one input. -/
def textBacksWrong : ChangeSpec := { name := "textBacks", fn := fun _ => fun
  | [d1, d2, d3, d4] => { results := [.lit (.bool false)], args := [d1, d2, d3, d4] }
  | _ => none }
def TextBacksWrongFalsely : Prop := textBacksRow.holds Tryd.pinned (OpenSpec.ofChange textBacksWrong)

/-- 'stackyardlaw20.TextFull': WHATEVER THE INPUT: true; the input reads as it did. -/
def textFullSpec : ChangeSpec := { name := "textFull", fn := fun _ => fun
  | [d1, d2, d3] => { results := [.lit (.bool true)], args := [d1, d2, d3] }
  | _ => none }
def textFullRow : OpenClaim := { program := "ytpgkbdkkcladcaadoor", sum := "d30d3a0086ac524e46c95b9b42ca472a65cbc20a4e23ed8282f45aa543ae90ca", func := "stackyard/stackyardlaw20.TextFull", spec := "textFull", inPlace := ["internal/abi.NoEscape"], named := ["unicode/utf8.first", "unicode/utf8.acceptRanges"], apart := false, laid := [("unicode/utf8.acceptRanges", laid_unicode_utf8_acceptRanges), ("unicode/utf8.first", laid_unicode_utf8_first)] }
def TextFullSaid : Prop := textFullRow.holds Tryd.pinned (OpenSpec.ofChange textFullSpec)

/-- ITS FALSE NEIGHBOUR: 'it returns false'. Refute it at one input. -/
def textFullWrong : ChangeSpec := { name := "textFull", fn := fun _ => fun
  | [d1, d2, d3] => { results := [.lit (.bool false)], args := [d1, d2, d3] }
  | _ => none }
def TextFullWrongFalsely : Prop := textFullRow.holds Tryd.pinned (OpenSpec.ofChange textFullWrong)

/-- 'stackyardlaw20.TextCuts': WHATEVER THE INPUT: true; the input reads as it did. -/
def textCutsSpec : ChangeSpec := { name := "textCuts", fn := fun _ => fun
  | [d1, d2, d3] => { results := [.lit (.bool true)], args := [d1, d2, d3] }
  | _ => none }
def textCutsRow : OpenClaim := { program := "ytpgkbdkkcladcaadoor", sum := "d30d3a0086ac524e46c95b9b42ca472a65cbc20a4e23ed8282f45aa543ae90ca", func := "stackyard/stackyardlaw20.TextCuts", spec := "textCuts", inPlace := ["internal/abi.NoEscape"], named := ["unicode/utf8.first", "unicode/utf8.acceptRanges"], apart := false, laid := [("unicode/utf8.acceptRanges", laid_unicode_utf8_acceptRanges), ("unicode/utf8.first", laid_unicode_utf8_first)] }
def TextCutsSaid : Prop := textCutsRow.holds Tryd.pinned (OpenSpec.ofChange textCutsSpec)

/-- ITS FALSE NEIGHBOUR: 'it returns false'. Refute it at one input. -/
def textCutsWrong : ChangeSpec := { name := "textCuts", fn := fun _ => fun
  | [d1, d2, d3] => { results := [.lit (.bool false)], args := [d1, d2, d3] }
  | _ => none }
def TextCutsWrongFalsely : Prop := textCutsRow.holds Tryd.pinned (OpenSpec.ofChange textCutsWrong)

/-- 'stackyardlaw20.TextLines': WHATEVER THE INPUT: true; the input reads as it did. -/
def textLinesSpec : ChangeSpec := { name := "textLines", fn := fun _ => fun
  | [d] => { results := [.lit (.bool true)], args := [d] }
  | _ => none }
def textLinesRow : OpenClaim := { program := "ytpgkbdkkcladcaadoor", sum := "d30d3a0086ac524e46c95b9b42ca472a65cbc20a4e23ed8282f45aa543ae90ca", func := "stackyard/stackyardlaw20.TextLines", spec := "textLines", inPlace := ["internal/abi.NoEscape"], named := ["unicode/utf8.first", "unicode/utf8.acceptRanges"], apart := false, laid := [("unicode/utf8.acceptRanges", laid_unicode_utf8_acceptRanges), ("unicode/utf8.first", laid_unicode_utf8_first)] }
def TextLinesSaid : Prop := textLinesRow.holds Tryd.pinned (OpenSpec.ofChange textLinesSpec)

/-- ITS FALSE NEIGHBOUR: 'it returns false'. Refute it at one input. -/
def textLinesWrong : ChangeSpec := { name := "textLines", fn := fun _ => fun
  | [d] => { results := [.lit (.bool false)], args := [d] }
  | _ => none }
def TextLinesWrongFalsely : Prop := textLinesRow.holds Tryd.pinned (OpenSpec.ofChange textLinesWrong)

/-- 'stackyardlaw20.TextRights': WHATEVER THE INPUT: true; the input reads as it did. -/
def textRightsSpec : ChangeSpec := { name := "textRights", fn := fun _ => fun
  | [d] => { results := [.lit (.bool true)], args := [d] }
  | _ => none }
def textRightsRow : OpenClaim := { program := "ytpgkbdkkcladcaadoor", sum := "d30d3a0086ac524e46c95b9b42ca472a65cbc20a4e23ed8282f45aa543ae90ca", func := "stackyard/stackyardlaw20.TextRights", spec := "textRights", inPlace := ["internal/abi.NoEscape"], named := ["unicode/utf8.first", "unicode/utf8.acceptRanges"], apart := false, laid := [("unicode/utf8.acceptRanges", laid_unicode_utf8_acceptRanges), ("unicode/utf8.first", laid_unicode_utf8_first)] }
def TextRightsSaid : Prop := textRightsRow.holds Tryd.pinned (OpenSpec.ofChange textRightsSpec)

/-- ITS FALSE NEIGHBOUR: 'it returns false'. Refute it at one input. -/
def textRightsWrong : ChangeSpec := { name := "textRights", fn := fun _ => fun
  | [d] => { results := [.lit (.bool false)], args := [d] }
  | _ => none }
def TextRightsWrongFalsely : Prop := textRightsRow.holds Tryd.pinned (OpenSpec.ofChange textRightsWrong)

/-- 'stackyardlaw21.DeskBacks': WHATEVER THE INPUT: true; the input reads as it did. -/
def deskBacksSpec : ChangeSpec := { name := "deskBacks", fn := fun _ => fun
  | [d1, d2] => { results := [.lit (.bool true)], args := [d1, d2] }
  | _ => none }
def deskBacksRow : OpenClaim := { program := "ytpgkbdkkcladcaadoor", sum := "d30d3a0086ac524e46c95b9b42ca472a65cbc20a4e23ed8282f45aa543ae90ca", func := "stackyard/stackyardlaw21.DeskBacks", spec := "deskBacks", unfollowed := true, recurses := true, named := ["unicode/utf8.first", "unicode/utf8.acceptRanges"], apart := false, laid := [("unicode/utf8.acceptRanges", laid_unicode_utf8_acceptRanges), ("unicode/utf8.first", laid_unicode_utf8_first)] }
def DeskBacksSaid : Prop := deskBacksRow.holds Tryd.pinned (OpenSpec.ofChange deskBacksSpec)

/-- ITS FALSE NEIGHBOUR: 'it returns false'. Refute it at one input. -/
def deskBacksWrong : ChangeSpec := { name := "deskBacks", fn := fun _ => fun
  | [d1, d2] => { results := [.lit (.bool false)], args := [d1, d2] }
  | _ => none }
def DeskBacksWrongFalsely : Prop := deskBacksRow.holds Tryd.pinned (OpenSpec.ofChange deskBacksWrong)

/-- 'stackyardlaw21.DeskNones': WHATEVER THE INPUT: true; the input reads as it did. -/
def deskNonesSpec : ChangeSpec := { name := "deskNones", fn := fun _ => fun
  | [d1, d2] => { results := [.lit (.bool true)], args := [d1, d2] }
  | _ => none }
def deskNonesRow : OpenClaim := { program := "ytpgkbdkkcladcaadoor", sum := "d30d3a0086ac524e46c95b9b42ca472a65cbc20a4e23ed8282f45aa543ae90ca", func := "stackyard/stackyardlaw21.DeskNones", spec := "deskNones", unfollowed := true, recurses := true, named := ["unicode/utf8.first", "unicode/utf8.acceptRanges"], apart := false, laid := [("unicode/utf8.acceptRanges", laid_unicode_utf8_acceptRanges), ("unicode/utf8.first", laid_unicode_utf8_first)] }
def DeskNonesSaid : Prop := deskNonesRow.holds Tryd.pinned (OpenSpec.ofChange deskNonesSpec)

/-- ITS FALSE NEIGHBOUR: 'it returns false'. Refute it at one input. -/
def deskNonesWrong : ChangeSpec := { name := "deskNones", fn := fun _ => fun
  | [d1, d2] => { results := [.lit (.bool false)], args := [d1, d2] }
  | _ => none }
def DeskNonesWrongFalsely : Prop := deskNonesRow.holds Tryd.pinned (OpenSpec.ofChange deskNonesWrong)

/-- 'stackyardlaw21.DeskFull': WHATEVER THE INPUT: true; the input reads as it did. -/
def deskFullSpec : ChangeSpec := { name := "deskFull", fn := fun _ => fun
  | [d1, d2] => { results := [.lit (.bool true)], args := [d1, d2] }
  | _ => none }
def deskFullRow : OpenClaim := { program := "ytpgkbdkkcladcaadoor", sum := "d30d3a0086ac524e46c95b9b42ca472a65cbc20a4e23ed8282f45aa543ae90ca", func := "stackyard/stackyardlaw21.DeskFull", spec := "deskFull", unfollowed := true, recurses := true, named := ["unicode/utf8.first", "unicode/utf8.acceptRanges"], apart := false, laid := [("unicode/utf8.acceptRanges", laid_unicode_utf8_acceptRanges), ("unicode/utf8.first", laid_unicode_utf8_first)] }
def DeskFullSaid : Prop := deskFullRow.holds Tryd.pinned (OpenSpec.ofChange deskFullSpec)

/-- ITS FALSE NEIGHBOUR: 'it returns false'. Refute it at one input. -/
def deskFullWrong : ChangeSpec := { name := "deskFull", fn := fun _ => fun
  | [d1, d2] => { results := [.lit (.bool false)], args := [d1, d2] }
  | _ => none }
def DeskFullWrongFalsely : Prop := deskFullRow.holds Tryd.pinned (OpenSpec.ofChange deskFullWrong)

/-- 'stackyardlaw21.DeskApart': WHATEVER THE INPUT: true; the input reads as it did. -/
def deskApartSpec : ChangeSpec := { name := "deskApart", fn := fun _ => fun
  | [d1, d2] => { results := [.lit (.bool true)], args := [d1, d2] }
  | _ => none }
def deskApartRow : OpenClaim := { program := "ytpgkbdkkcladcaadoor", sum := "d30d3a0086ac524e46c95b9b42ca472a65cbc20a4e23ed8282f45aa543ae90ca", func := "stackyard/stackyardlaw21.DeskApart", spec := "deskApart", unfollowed := true, recurses := true, named := ["unicode/utf8.first", "unicode/utf8.acceptRanges"], apart := false, laid := [("unicode/utf8.acceptRanges", laid_unicode_utf8_acceptRanges), ("unicode/utf8.first", laid_unicode_utf8_first)] }
def DeskApartSaid : Prop := deskApartRow.holds Tryd.pinned (OpenSpec.ofChange deskApartSpec)

/-- ITS FALSE NEIGHBOUR: 'it returns false'. Refute it at one input. -/
def deskApartWrong : ChangeSpec := { name := "deskApart", fn := fun _ => fun
  | [d1, d2] => { results := [.lit (.bool false)], args := [d1, d2] }
  | _ => none }
def DeskApartWrongFalsely : Prop := deskApartRow.holds Tryd.pinned (OpenSpec.ofChange deskApartWrong)

/-- 'stackyardlaw21.DeskFresh': WHATEVER THE INPUT: true; the input reads as it did. -/
def deskFreshSpec : ChangeSpec := { name := "deskFresh", fn := fun _ => fun
  | [d1, d2, d3] => { results := [.lit (.bool true)], args := [d1, d2, d3] }
  | _ => none }
def deskFreshRow : OpenClaim := { program := "ytpgkbdkkcladcaadoor", sum := "d30d3a0086ac524e46c95b9b42ca472a65cbc20a4e23ed8282f45aa543ae90ca", func := "stackyard/stackyardlaw21.DeskFresh", spec := "deskFresh", unfollowed := true, recurses := true, named := ["unicode/utf8.first", "unicode/utf8.acceptRanges"], apart := false, laid := [("unicode/utf8.acceptRanges", laid_unicode_utf8_acceptRanges), ("unicode/utf8.first", laid_unicode_utf8_first)] }
def DeskFreshSaid : Prop := deskFreshRow.holds Tryd.pinned (OpenSpec.ofChange deskFreshSpec)

/-- ITS FALSE NEIGHBOUR: 'it returns false'. Refute it at one input. -/
def deskFreshWrong : ChangeSpec := { name := "deskFresh", fn := fun _ => fun
  | [d1, d2, d3] => { results := [.lit (.bool false)], args := [d1, d2, d3] }
  | _ => none }
def DeskFreshWrongFalsely : Prop := deskFreshRow.holds Tryd.pinned (OpenSpec.ofChange deskFreshWrong)

/-- 'stackyardlaw20.TextInserts': WHATEVER THE INPUT: true; the input reads as it did. -/
def textInsertsSpec : ChangeSpec := { name := "textInserts", fn := fun _ => fun
  | [d1, d2, d3] => { results := [.lit (.bool true)], args := [d1, d2, d3] }
  | _ => none }
def textInsertsRow : OpenClaim := { program := "ytpgkbdkkcladcaadoor", sum := "d30d3a0086ac524e46c95b9b42ca472a65cbc20a4e23ed8282f45aa543ae90ca", func := "stackyard/stackyardlaw20.TextInserts", spec := "textInserts", inPlace := ["internal/abi.NoEscape"], named := ["unicode/utf8.first", "unicode/utf8.acceptRanges"], apart := false, laid := [("unicode/utf8.acceptRanges", laid_unicode_utf8_acceptRanges), ("unicode/utf8.first", laid_unicode_utf8_first)] }
def TextInsertsSaid : Prop := textInsertsRow.holds Tryd.pinned (OpenSpec.ofChange textInsertsSpec)

/-- ITS FALSE NEIGHBOUR: 'it returns false'. Refute it at one input. -/
def textInsertsWrong : ChangeSpec := { name := "textInserts", fn := fun _ => fun
  | [d1, d2, d3] => { results := [.lit (.bool false)], args := [d1, d2, d3] }
  | _ => none }
def TextInsertsWrongFalsely : Prop := textInsertsRow.holds Tryd.pinned (OpenSpec.ofChange textInsertsWrong)

/-- 'stackyardlaw20.TextJoins': WHATEVER THE INPUT: true; the input reads as it did. -/
def textJoinsSpec : ChangeSpec := { name := "textJoins", fn := fun _ => fun
  | [d1, d2, d3, d4] => { results := [.lit (.bool true)], args := [d1, d2, d3, d4] }
  | _ => none }
def textJoinsRow : OpenClaim := { program := "ytpgkbdkkcladcaadoor", sum := "d30d3a0086ac524e46c95b9b42ca472a65cbc20a4e23ed8282f45aa543ae90ca", func := "stackyard/stackyardlaw20.TextJoins", spec := "textJoins", inPlace := ["internal/abi.NoEscape"], named := ["unicode/utf8.first", "unicode/utf8.acceptRanges"], apart := false, laid := [("unicode/utf8.acceptRanges", laid_unicode_utf8_acceptRanges), ("unicode/utf8.first", laid_unicode_utf8_first)] }
def TextJoinsSaid : Prop := textJoinsRow.holds Tryd.pinned (OpenSpec.ofChange textJoinsSpec)

/-- ITS FALSE NEIGHBOUR: 'it returns false'. Refute it at one input. -/
def textJoinsWrong : ChangeSpec := { name := "textJoins", fn := fun _ => fun
  | [d1, d2, d3, d4] => { results := [.lit (.bool false)], args := [d1, d2, d3, d4] }
  | _ => none }
def TextJoinsWrongFalsely : Prop := textJoinsRow.holds Tryd.pinned (OpenSpec.ofChange textJoinsWrong)

/-- 'stackyardlaw21.DeskActs': WHATEVER THE INPUT: true; the input reads as it did. -/
def deskActsSpec : ChangeSpec := { name := "deskActs", fn := fun _ => fun
  | [d] => { results := [.lit (.bool true)], args := [d] }
  | _ => none }
def deskActsRow : OpenClaim := { program := "ytpgkbdkkcladcaadoor", sum := "d30d3a0086ac524e46c95b9b42ca472a65cbc20a4e23ed8282f45aa543ae90ca", func := "stackyard/stackyardlaw21.DeskActs", spec := "deskActs", unfollowed := true, recurses := true, named := ["unicode/utf8.first", "unicode/utf8.acceptRanges"], apart := false, laid := [("unicode/utf8.acceptRanges", laid_unicode_utf8_acceptRanges), ("unicode/utf8.first", laid_unicode_utf8_first)] }
def DeskActsSaid : Prop := deskActsRow.holds Tryd.pinned (OpenSpec.ofChange deskActsSpec)

/-- ITS FALSE NEIGHBOUR: 'it returns false'. Refute it at one input. -/
def deskActsWrong : ChangeSpec := { name := "deskActs", fn := fun _ => fun
  | [d] => { results := [.lit (.bool false)], args := [d] }
  | _ => none }
def DeskActsWrongFalsely : Prop := deskActsRow.holds Tryd.pinned (OpenSpec.ofChange deskActsWrong)

/- THE SECOND FORM. 'bulk': how many values and letters a reading holds, each counted each time it is reached (what is shared counts as often as it is met; a slice's spare places count too). A statement '..UptoSaid' is the law's where the arguments, and the package variables that the reading takes, are together of bulk at most 1048576: NARROWER than '..Said'. Prove '..Said' where nothing that the law and all that it calls make is longer than what came in: it says more and counts as full. Else prove '..UptoSaid'. A law counts once. -/
mutual
def uptoBulk {H : Type} : DataW H → Nat
  | .lit (.string bytes) => bytes.length + 1
  | .lit _ => 1
  | .nil => 1
  | .ptr d => uptoBulk d + 1
  | .slice elems spare => uptoBulkAll elems + uptoBulkAll spare + 1
  | .agg parts => uptoBulkAll parts + 1
  | .iface _ d => uptoBulk d + 1
  | .map entries => uptoBulkEntries entries + 1
  | .held _ => 1
def uptoBulkAll {H : Type} : List (DataW H) → Nat
  | [] => 0
  | d :: r => uptoBulk d + uptoBulkAll r
def uptoBulkEntries {H : Type} : List (Lit × DataW H) → Nat
  | [] => 0
  | x :: r => uptoBulkEntry x + uptoBulkEntries r
def uptoBulkEntry {H : Type} : Lit × DataW H → Nat
  | (.string bytes, d) => bytes.length + uptoBulk d + 1
  | (_, d) => uptoBulk d + 1
 end
def uptoSmall : (H : Type) → List (DataW H) → Bool := fun _ ds => decide (uptoBulkAll ds ≤ 1048576)
def OpenSpec.upto (s : _root_.Go.ChangeSpec) : _root_.Go.OpenSpec := { _root_.Go.OpenSpec.ofChange s with cond := some uptoSmall }

/-- 'stackyardlaw20.TextBacks', WHERE WHAT IT READS IS OF BULK AT MOST 1048576: true; the input reads as it did. -/
def textBacksUptoRow : OpenClaim := { program := "ytpgkbdkkcladcaadoor", sum := "d30d3a0086ac524e46c95b9b42ca472a65cbc20a4e23ed8282f45aa543ae90ca", func := "stackyard/stackyardlaw20.TextBacks", spec := "textBacks", inPlace := ["internal/abi.NoEscape"], named := ["unicode/utf8.first", "unicode/utf8.acceptRanges"], apart := false, laid := [("unicode/utf8.acceptRanges", laid_unicode_utf8_acceptRanges), ("unicode/utf8.first", laid_unicode_utf8_first)], narrowed := true }
def TextBacksUptoSaid : Prop := textBacksUptoRow.holds Tryd.pinned (OpenSpec.upto textBacksSpec)

/-- 'stackyardlaw20.TextFull', WHERE WHAT IT READS IS OF BULK AT MOST 1048576: true; the input reads as it did. -/
def textFullUptoRow : OpenClaim := { program := "ytpgkbdkkcladcaadoor", sum := "d30d3a0086ac524e46c95b9b42ca472a65cbc20a4e23ed8282f45aa543ae90ca", func := "stackyard/stackyardlaw20.TextFull", spec := "textFull", inPlace := ["internal/abi.NoEscape"], named := ["unicode/utf8.first", "unicode/utf8.acceptRanges"], apart := false, laid := [("unicode/utf8.acceptRanges", laid_unicode_utf8_acceptRanges), ("unicode/utf8.first", laid_unicode_utf8_first)], narrowed := true }
def TextFullUptoSaid : Prop := textFullUptoRow.holds Tryd.pinned (OpenSpec.upto textFullSpec)

/-- 'stackyardlaw20.TextCuts', WHERE WHAT IT READS IS OF BULK AT MOST 1048576: true; the input reads as it did. -/
def textCutsUptoRow : OpenClaim := { program := "ytpgkbdkkcladcaadoor", sum := "d30d3a0086ac524e46c95b9b42ca472a65cbc20a4e23ed8282f45aa543ae90ca", func := "stackyard/stackyardlaw20.TextCuts", spec := "textCuts", inPlace := ["internal/abi.NoEscape"], named := ["unicode/utf8.first", "unicode/utf8.acceptRanges"], apart := false, laid := [("unicode/utf8.acceptRanges", laid_unicode_utf8_acceptRanges), ("unicode/utf8.first", laid_unicode_utf8_first)], narrowed := true }
def TextCutsUptoSaid : Prop := textCutsUptoRow.holds Tryd.pinned (OpenSpec.upto textCutsSpec)

/-- 'stackyardlaw20.TextLines', WHERE WHAT IT READS IS OF BULK AT MOST 1048576: true; the input reads as it did. -/
def textLinesUptoRow : OpenClaim := { program := "ytpgkbdkkcladcaadoor", sum := "d30d3a0086ac524e46c95b9b42ca472a65cbc20a4e23ed8282f45aa543ae90ca", func := "stackyard/stackyardlaw20.TextLines", spec := "textLines", inPlace := ["internal/abi.NoEscape"], named := ["unicode/utf8.first", "unicode/utf8.acceptRanges"], apart := false, laid := [("unicode/utf8.acceptRanges", laid_unicode_utf8_acceptRanges), ("unicode/utf8.first", laid_unicode_utf8_first)], narrowed := true }
def TextLinesUptoSaid : Prop := textLinesUptoRow.holds Tryd.pinned (OpenSpec.upto textLinesSpec)

/-- 'stackyardlaw20.TextRights', WHERE WHAT IT READS IS OF BULK AT MOST 1048576: true; the input reads as it did. -/
def textRightsUptoRow : OpenClaim := { program := "ytpgkbdkkcladcaadoor", sum := "d30d3a0086ac524e46c95b9b42ca472a65cbc20a4e23ed8282f45aa543ae90ca", func := "stackyard/stackyardlaw20.TextRights", spec := "textRights", inPlace := ["internal/abi.NoEscape"], named := ["unicode/utf8.first", "unicode/utf8.acceptRanges"], apart := false, laid := [("unicode/utf8.acceptRanges", laid_unicode_utf8_acceptRanges), ("unicode/utf8.first", laid_unicode_utf8_first)], narrowed := true }
def TextRightsUptoSaid : Prop := textRightsUptoRow.holds Tryd.pinned (OpenSpec.upto textRightsSpec)

/-- 'stackyardlaw21.DeskBacks', WHERE WHAT IT READS IS OF BULK AT MOST 1048576: true; the input reads as it did. -/
def deskBacksUptoRow : OpenClaim := { program := "ytpgkbdkkcladcaadoor", sum := "d30d3a0086ac524e46c95b9b42ca472a65cbc20a4e23ed8282f45aa543ae90ca", func := "stackyard/stackyardlaw21.DeskBacks", spec := "deskBacks", unfollowed := true, recurses := true, named := ["unicode/utf8.first", "unicode/utf8.acceptRanges"], apart := false, laid := [("unicode/utf8.acceptRanges", laid_unicode_utf8_acceptRanges), ("unicode/utf8.first", laid_unicode_utf8_first)], narrowed := true }
def DeskBacksUptoSaid : Prop := deskBacksUptoRow.holds Tryd.pinned (OpenSpec.upto deskBacksSpec)

/-- 'stackyardlaw21.DeskNones', WHERE WHAT IT READS IS OF BULK AT MOST 1048576: true; the input reads as it did. -/
def deskNonesUptoRow : OpenClaim := { program := "ytpgkbdkkcladcaadoor", sum := "d30d3a0086ac524e46c95b9b42ca472a65cbc20a4e23ed8282f45aa543ae90ca", func := "stackyard/stackyardlaw21.DeskNones", spec := "deskNones", unfollowed := true, recurses := true, named := ["unicode/utf8.first", "unicode/utf8.acceptRanges"], apart := false, laid := [("unicode/utf8.acceptRanges", laid_unicode_utf8_acceptRanges), ("unicode/utf8.first", laid_unicode_utf8_first)], narrowed := true }
def DeskNonesUptoSaid : Prop := deskNonesUptoRow.holds Tryd.pinned (OpenSpec.upto deskNonesSpec)

/-- 'stackyardlaw21.DeskFull', WHERE WHAT IT READS IS OF BULK AT MOST 1048576: true; the input reads as it did. -/
def deskFullUptoRow : OpenClaim := { program := "ytpgkbdkkcladcaadoor", sum := "d30d3a0086ac524e46c95b9b42ca472a65cbc20a4e23ed8282f45aa543ae90ca", func := "stackyard/stackyardlaw21.DeskFull", spec := "deskFull", unfollowed := true, recurses := true, named := ["unicode/utf8.first", "unicode/utf8.acceptRanges"], apart := false, laid := [("unicode/utf8.acceptRanges", laid_unicode_utf8_acceptRanges), ("unicode/utf8.first", laid_unicode_utf8_first)], narrowed := true }
def DeskFullUptoSaid : Prop := deskFullUptoRow.holds Tryd.pinned (OpenSpec.upto deskFullSpec)

/-- 'stackyardlaw21.DeskApart', WHERE WHAT IT READS IS OF BULK AT MOST 1048576: true; the input reads as it did. -/
def deskApartUptoRow : OpenClaim := { program := "ytpgkbdkkcladcaadoor", sum := "d30d3a0086ac524e46c95b9b42ca472a65cbc20a4e23ed8282f45aa543ae90ca", func := "stackyard/stackyardlaw21.DeskApart", spec := "deskApart", unfollowed := true, recurses := true, named := ["unicode/utf8.first", "unicode/utf8.acceptRanges"], apart := false, laid := [("unicode/utf8.acceptRanges", laid_unicode_utf8_acceptRanges), ("unicode/utf8.first", laid_unicode_utf8_first)], narrowed := true }
def DeskApartUptoSaid : Prop := deskApartUptoRow.holds Tryd.pinned (OpenSpec.upto deskApartSpec)

/-- 'stackyardlaw21.DeskFresh', WHERE WHAT IT READS IS OF BULK AT MOST 1048576: true; the input reads as it did. -/
def deskFreshUptoRow : OpenClaim := { program := "ytpgkbdkkcladcaadoor", sum := "d30d3a0086ac524e46c95b9b42ca472a65cbc20a4e23ed8282f45aa543ae90ca", func := "stackyard/stackyardlaw21.DeskFresh", spec := "deskFresh", unfollowed := true, recurses := true, named := ["unicode/utf8.first", "unicode/utf8.acceptRanges"], apart := false, laid := [("unicode/utf8.acceptRanges", laid_unicode_utf8_acceptRanges), ("unicode/utf8.first", laid_unicode_utf8_first)], narrowed := true }
def DeskFreshUptoSaid : Prop := deskFreshUptoRow.holds Tryd.pinned (OpenSpec.upto deskFreshSpec)

/-- 'stackyardlaw20.TextInserts', WHERE WHAT IT READS IS OF BULK AT MOST 1048576: true; the input reads as it did. -/
def textInsertsUptoRow : OpenClaim := { program := "ytpgkbdkkcladcaadoor", sum := "d30d3a0086ac524e46c95b9b42ca472a65cbc20a4e23ed8282f45aa543ae90ca", func := "stackyard/stackyardlaw20.TextInserts", spec := "textInserts", inPlace := ["internal/abi.NoEscape"], named := ["unicode/utf8.first", "unicode/utf8.acceptRanges"], apart := false, laid := [("unicode/utf8.acceptRanges", laid_unicode_utf8_acceptRanges), ("unicode/utf8.first", laid_unicode_utf8_first)], narrowed := true }
def TextInsertsUptoSaid : Prop := textInsertsUptoRow.holds Tryd.pinned (OpenSpec.upto textInsertsSpec)

/-- 'stackyardlaw20.TextJoins', WHERE WHAT IT READS IS OF BULK AT MOST 1048576: true; the input reads as it did. -/
def textJoinsUptoRow : OpenClaim := { program := "ytpgkbdkkcladcaadoor", sum := "d30d3a0086ac524e46c95b9b42ca472a65cbc20a4e23ed8282f45aa543ae90ca", func := "stackyard/stackyardlaw20.TextJoins", spec := "textJoins", inPlace := ["internal/abi.NoEscape"], named := ["unicode/utf8.first", "unicode/utf8.acceptRanges"], apart := false, laid := [("unicode/utf8.acceptRanges", laid_unicode_utf8_acceptRanges), ("unicode/utf8.first", laid_unicode_utf8_first)], narrowed := true }
def TextJoinsUptoSaid : Prop := textJoinsUptoRow.holds Tryd.pinned (OpenSpec.upto textJoinsSpec)

/-- 'stackyardlaw21.DeskActs', WHERE WHAT IT READS IS OF BULK AT MOST 1048576: true; the input reads as it did. -/
def deskActsUptoRow : OpenClaim := { program := "ytpgkbdkkcladcaadoor", sum := "d30d3a0086ac524e46c95b9b42ca472a65cbc20a4e23ed8282f45aa543ae90ca", func := "stackyard/stackyardlaw21.DeskActs", spec := "deskActs", unfollowed := true, recurses := true, named := ["unicode/utf8.first", "unicode/utf8.acceptRanges"], apart := false, laid := [("unicode/utf8.acceptRanges", laid_unicode_utf8_acceptRanges), ("unicode/utf8.first", laid_unicode_utf8_first)], narrowed := true }
def DeskActsUptoSaid : Prop := deskActsUptoRow.holds Tryd.pinned (OpenSpec.upto deskActsSpec)

end Rows
end Go.Proofs.YtpgkbdkkcladcaaDoor
