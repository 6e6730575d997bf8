/-
  No cell of these rows narrows 'for every input' (looked for: loops, veiled, ifaces, maps, wideKeys, modest, calm, conditions, laid).
  DERIVED. THE GIVEN ROWS OF THIS SEAT. 11 by the template 'for every input the law returns true; each argument reads behind the call as it read before'; 0 by the template 'total and deterministic' (their statements: YtjohamgpnaafaaaTotals.lean).
  GIVEN WITH THE SEED: the statements are not yours to turn. If you find one false, say at which input.
  Laid BY PROGRAM, IN A SANDBOX (cutbox-rows.mjs): the forced cells as the released guide's own fill.sh prints them over the translation 031bce3d04e9a7cb… (all of the seat's roots in one cut). By AI agents, Wed Nov 11 2026. No macro, syntax, notation, axiom, sorry.
-/
import Derived.Test.YtjohamgpnaafaaaChecked
import GoSem.Claim
import GoSem.ClaimJoined
import GoSem.ClaimMapViews
import Derived.JoinedTies
import Derived.KernelRfl
namespace Go.Proofs.Ytjohamgpnaafaaa
/- THE CELL 'sum', in the pinned program and in every row, IS THE sha256 OF THE DUMP (.gsa) THAT YtjohamgpnaafaaaProg.lean LOADS. Nothing in Lean hashes anything: it is a label: what it is worth is what the hold of that sum in a sandbox is worth. -/
noncomputable def Try.pinned : Pinned := { name := "ytjohamgpnaafaaa", sum := "031bce3d04e9a7cb0cfd1f5323b8b201f43c5ef9651be8af7030a877226e7d45", checked := Try.checked }
namespace Rows
def none {H : Type} : Left H := { results := [], args := [] }

/-- 'stackyardlaw04.LayRights': WHATEVER THE INPUT: true; the input reads as it did. -/
def layRightsSpec : ChangeSpec := { name := "layRights", fn := fun _ => fun
  | [d] => { results := [.lit (.bool true)], args := [d] }
  | _ => none }
def layRightsRow : OpenClaim := { program := "ytjohamgpnaafaaa", sum := "031bce3d04e9a7cb0cfd1f5323b8b201f43c5ef9651be8af7030a877226e7d45", func := "stackyard/stackyardlaw04.LayRights", spec := "layRights", apart := false }
def LayRightsSaid : Prop := layRightsRow.holds Try.pinned (OpenSpec.ofChange layRightsSpec)

/-- ITS FALSE NEIGHBOUR: 'it returns false'. Refute it at one input. -/
def layRightsWrong : ChangeSpec := { name := "layRights", fn := fun _ => fun
  | [d] => { results := [.lit (.bool false)], args := [d] }
  | _ => none }
def LayRightsWrongFalsely : Prop := layRightsRow.holds Try.pinned (OpenSpec.ofChange layRightsWrong)

/-- 'stackyardlaw04.LayOwners': WHATEVER THE INPUT: true; the input reads as it did. -/
def layOwnersSpec : ChangeSpec := { name := "layOwners", fn := fun _ => fun
  | [d1, d2] => { results := [.lit (.bool true)], args := [d1, d2] }
  | _ => none }
def layOwnersRow : OpenClaim := { program := "ytjohamgpnaafaaa", sum := "031bce3d04e9a7cb0cfd1f5323b8b201f43c5ef9651be8af7030a877226e7d45", func := "stackyard/stackyardlaw04.LayOwners", spec := "layOwners", apart := false }
def LayOwnersSaid : Prop := layOwnersRow.holds Try.pinned (OpenSpec.ofChange layOwnersSpec)

/-- ITS FALSE NEIGHBOUR: 'it returns false'. Refute it at one input. -/
def layOwnersWrong : ChangeSpec := { name := "layOwners", fn := fun _ => fun
  | [d1, d2] => { results := [.lit (.bool false)], args := [d1, d2] }
  | _ => none }
def LayOwnersWrongFalsely : Prop := layOwnersRow.holds Try.pinned (OpenSpec.ofChange layOwnersWrong)

/-- 'stackyardlaw04.LayFits': WHATEVER THE INPUT: true; the input reads as it did. -/
def layFitsSpec : ChangeSpec := { name := "layFits", fn := fun _ => fun
  | [d] => { results := [.lit (.bool true)], args := [d] }
  | _ => none }
def layFitsRow : OpenClaim := { program := "ytjohamgpnaafaaa", sum := "031bce3d04e9a7cb0cfd1f5323b8b201f43c5ef9651be8af7030a877226e7d45", func := "stackyard/stackyardlaw04.LayFits", spec := "layFits", apart := false }
def LayFitsSaid : Prop := layFitsRow.holds Try.pinned (OpenSpec.ofChange layFitsSpec)

/-- ITS FALSE NEIGHBOUR: 'it returns false'. Refute it at one input. -/
def layFitsWrong : ChangeSpec := { name := "layFits", fn := fun _ => fun
  | [d] => { results := [.lit (.bool false)], args := [d] }
  | _ => none }
def LayFitsWrongFalsely : Prop := layFitsRow.holds Try.pinned (OpenSpec.ofChange layFitsWrong)

/-- 'stackyardlaw02.WordPacks': WHATEVER THE INPUT: true; the input reads as it did. -/
def wordPacksSpec : ChangeSpec := { name := "wordPacks", fn := fun _ => fun
  | [d] => { results := [.lit (.bool true)], args := [d] }
  | _ => none }
def wordPacksRow : OpenClaim := { program := "ytjohamgpnaafaaa", sum := "031bce3d04e9a7cb0cfd1f5323b8b201f43c5ef9651be8af7030a877226e7d45", func := "stackyard/stackyardlaw02.WordPacks", spec := "wordPacks", apart := false }
def WordPacksSaid : Prop := wordPacksRow.holds Try.pinned (OpenSpec.ofChange wordPacksSpec)

/-- ITS FALSE NEIGHBOUR: 'it returns false'. Refute it at one input. -/
def wordPacksWrong : ChangeSpec := { name := "wordPacks", fn := fun _ => fun
  | [d] => { results := [.lit (.bool false)], args := [d] }
  | _ => none }
def WordPacksWrongFalsely : Prop := wordPacksRow.holds Try.pinned (OpenSpec.ofChange wordPacksWrong)

/-- 'stackyardlaw02.WordUnpacks': WHATEVER THE INPUT: true; the input reads as it did. -/
def wordUnpacksSpec : ChangeSpec := { name := "wordUnpacks", fn := fun _ => fun
  | [d] => { results := [.lit (.bool true)], args := [d] }
  | _ => none }
def wordUnpacksRow : OpenClaim := { program := "ytjohamgpnaafaaa", sum := "031bce3d04e9a7cb0cfd1f5323b8b201f43c5ef9651be8af7030a877226e7d45", func := "stackyard/stackyardlaw02.WordUnpacks", spec := "wordUnpacks", apart := false }
def WordUnpacksSaid : Prop := wordUnpacksRow.holds Try.pinned (OpenSpec.ofChange wordUnpacksSpec)

/-- ITS FALSE NEIGHBOUR: 'it returns false'. Refute it at one input. -/
def wordUnpacksWrong : ChangeSpec := { name := "wordUnpacks", fn := fun _ => fun
  | [d] => { results := [.lit (.bool false)], args := [d] }
  | _ => none }
def WordUnpacksWrongFalsely : Prop := wordUnpacksRow.holds Try.pinned (OpenSpec.ofChange wordUnpacksWrong)

/-- 'stackyardlaw02.WordApart': WHATEVER THE INPUT: true; the input reads as it did. -/
def wordApartSpec : ChangeSpec := { name := "wordApart", fn := fun _ => fun
  | [d1, d2] => { results := [.lit (.bool true)], args := [d1, d2] }
  | _ => none }
def wordApartRow : OpenClaim := { program := "ytjohamgpnaafaaa", sum := "031bce3d04e9a7cb0cfd1f5323b8b201f43c5ef9651be8af7030a877226e7d45", func := "stackyard/stackyardlaw02.WordApart", spec := "wordApart", apart := false }
def WordApartSaid : Prop := wordApartRow.holds Try.pinned (OpenSpec.ofChange wordApartSpec)

/-- ITS FALSE NEIGHBOUR: 'it returns false'. Refute it at one input. -/
def wordApartWrong : ChangeSpec := { name := "wordApart", fn := fun _ => fun
  | [d1, d2] => { results := [.lit (.bool false)], args := [d1, d2] }
  | _ => none }
def WordApartWrongFalsely : Prop := wordApartRow.holds Try.pinned (OpenSpec.ofChange wordApartWrong)

/-- 'stackyardlaw02.WordBits': WHATEVER THE INPUT: true; the input reads as it did. -/
def wordBitsSpec : ChangeSpec := { name := "wordBits", fn := fun _ => fun
  | [d1, d2] => { results := [.lit (.bool true)], args := [d1, d2] }
  | _ => none }
def wordBitsRow : OpenClaim := { program := "ytjohamgpnaafaaa", sum := "031bce3d04e9a7cb0cfd1f5323b8b201f43c5ef9651be8af7030a877226e7d45", func := "stackyard/stackyardlaw02.WordBits", spec := "wordBits", apart := false }
def WordBitsSaid : Prop := wordBitsRow.holds Try.pinned (OpenSpec.ofChange wordBitsSpec)

/-- ITS FALSE NEIGHBOUR: 'it returns false'. Refute it at one input. -/
def wordBitsWrong : ChangeSpec := { name := "wordBits", fn := fun _ => fun
  | [d1, d2] => { results := [.lit (.bool false)], args := [d1, d2] }
  | _ => none }
def WordBitsWrongFalsely : Prop := wordBitsRow.holds Try.pinned (OpenSpec.ofChange wordBitsWrong)

/-- 'stackyardlaw02.WordTurns': WHATEVER THE INPUT: true; the input reads as it did. -/
def wordTurnsSpec : ChangeSpec := { name := "wordTurns", fn := fun _ => fun
  | [d1, d2, d3] => { results := [.lit (.bool true)], args := [d1, d2, d3] }
  | _ => none }
def wordTurnsRow : OpenClaim := { program := "ytjohamgpnaafaaa", sum := "031bce3d04e9a7cb0cfd1f5323b8b201f43c5ef9651be8af7030a877226e7d45", func := "stackyard/stackyardlaw02.WordTurns", spec := "wordTurns", apart := false }
def WordTurnsSaid : Prop := wordTurnsRow.holds Try.pinned (OpenSpec.ofChange wordTurnsSpec)

/-- ITS FALSE NEIGHBOUR: 'it returns false'. Refute it at one input. -/
def wordTurnsWrong : ChangeSpec := { name := "wordTurns", fn := fun _ => fun
  | [d1, d2, d3] => { results := [.lit (.bool false)], args := [d1, d2, d3] }
  | _ => none }
def WordTurnsWrongFalsely : Prop := wordTurnsRow.holds Try.pinned (OpenSpec.ofChange wordTurnsWrong)

/-- 'stackyardlaw02.WordUses': WHATEVER THE INPUT: true; the input reads as it did. -/
def wordUsesSpec : ChangeSpec := { name := "wordUses", fn := fun _ => fun
  | [d1, d2] => { results := [.lit (.bool true)], args := [d1, d2] }
  | _ => none }
def wordUsesRow : OpenClaim := { program := "ytjohamgpnaafaaa", sum := "031bce3d04e9a7cb0cfd1f5323b8b201f43c5ef9651be8af7030a877226e7d45", func := "stackyard/stackyardlaw02.WordUses", spec := "wordUses", apart := false }
def WordUsesSaid : Prop := wordUsesRow.holds Try.pinned (OpenSpec.ofChange wordUsesSpec)

/-- ITS FALSE NEIGHBOUR: 'it returns false'. Refute it at one input. -/
def wordUsesWrong : ChangeSpec := { name := "wordUses", fn := fun _ => fun
  | [d1, d2] => { results := [.lit (.bool false)], args := [d1, d2] }
  | _ => none }
def WordUsesWrongFalsely : Prop := wordUsesRow.holds Try.pinned (OpenSpec.ofChange wordUsesWrong)

/-- 'stackyardlaw04.LayCells': WHATEVER THE INPUT: true; the input reads as it did. -/
def layCellsSpec : ChangeSpec := { name := "layCells", fn := fun _ => fun
  | [d] => { results := [.lit (.bool true)], args := [d] }
  | _ => none }
def layCellsRow : OpenClaim := { program := "ytjohamgpnaafaaa", sum := "031bce3d04e9a7cb0cfd1f5323b8b201f43c5ef9651be8af7030a877226e7d45", func := "stackyard/stackyardlaw04.LayCells", spec := "layCells", apart := false }
def LayCellsSaid : Prop := layCellsRow.holds Try.pinned (OpenSpec.ofChange layCellsSpec)

/-- ITS FALSE NEIGHBOUR: 'it returns false'. Refute it at one input. -/
def layCellsWrong : ChangeSpec := { name := "layCells", fn := fun _ => fun
  | [d] => { results := [.lit (.bool false)], args := [d] }
  | _ => none }
def LayCellsWrongFalsely : Prop := layCellsRow.holds Try.pinned (OpenSpec.ofChange layCellsWrong)

/-- 'stackyardlaw04.LayKinds': WHATEVER THE INPUT: true; the input reads as it did. -/
def layKindsSpec : ChangeSpec := { name := "layKinds", fn := fun _ => fun
  | [d1, d2] => { results := [.lit (.bool true)], args := [d1, d2] }
  | _ => none }
def layKindsRow : OpenClaim := { program := "ytjohamgpnaafaaa", sum := "031bce3d04e9a7cb0cfd1f5323b8b201f43c5ef9651be8af7030a877226e7d45", func := "stackyard/stackyardlaw04.LayKinds", spec := "layKinds", apart := false }
def LayKindsSaid : Prop := layKindsRow.holds Try.pinned (OpenSpec.ofChange layKindsSpec)

/-- ITS FALSE NEIGHBOUR: 'it returns false'. Refute it at one input. -/
def layKindsWrong : ChangeSpec := { name := "layKinds", fn := fun _ => fun
  | [d1, d2] => { results := [.lit (.bool false)], args := [d1, d2] }
  | _ => none }
def LayKindsWrongFalsely : Prop := layKindsRow.holds Try.pinned (OpenSpec.ofChange layKindsWrong)

/- THE SECOND FORM. 'bulk': how many values and letters a reading holds, each counted each time it is reached (what is shared counts as often as it is met; a slice's spare places count too). A statement '..UptoSaid' is the law's where the arguments, and the package variables that the reading takes, are together of bulk at most 1048576: NARROWER than '..Said'. Prove '..Said' where nothing that the law and all that it calls make is longer than what came in: it says more and counts as full. Else prove '..UptoSaid'. A law counts once. -/
mutual
def uptoBulk {H : Type} : DataW H → Nat
  | .lit (.string bytes) => bytes.length + 1
  | .lit _ => 1
  | .nil => 1
  | .ptr d => uptoBulk d + 1
  | .slice elems spare => uptoBulkAll elems + uptoBulkAll spare + 1
  | .agg parts => uptoBulkAll parts + 1
  | .iface _ d => uptoBulk d + 1
  | .map entries => uptoBulkEntries entries + 1
  | .held _ => 1
def uptoBulkAll {H : Type} : List (DataW H) → Nat
  | [] => 0
  | d :: r => uptoBulk d + uptoBulkAll r
def uptoBulkEntries {H : Type} : List (Lit × DataW H) → Nat
  | [] => 0
  | x :: r => uptoBulkEntry x + uptoBulkEntries r
def uptoBulkEntry {H : Type} : Lit × DataW H → Nat
  | (.string bytes, d) => bytes.length + uptoBulk d + 1
  | (_, d) => uptoBulk d + 1
 end
def uptoSmall : (H : Type) → List (DataW H) → Bool := fun _ ds => decide (uptoBulkAll ds ≤ 1048576)
def OpenSpec.upto (s : _root_.Go.ChangeSpec) : _root_.Go.OpenSpec := { _root_.Go.OpenSpec.ofChange s with cond := some uptoSmall }

/-- 'stackyardlaw04.LayRights', WHERE WHAT IT READS IS OF BULK AT MOST 1048576: true; the input reads as it did. -/
def layRightsUptoRow : OpenClaim := { program := "ytjohamgpnaafaaa", sum := "031bce3d04e9a7cb0cfd1f5323b8b201f43c5ef9651be8af7030a877226e7d45", func := "stackyard/stackyardlaw04.LayRights", spec := "layRights", apart := false, narrowed := true }
def LayRightsUptoSaid : Prop := layRightsUptoRow.holds Try.pinned (OpenSpec.upto layRightsSpec)

/-- 'stackyardlaw04.LayOwners', WHERE WHAT IT READS IS OF BULK AT MOST 1048576: true; the input reads as it did. -/
def layOwnersUptoRow : OpenClaim := { program := "ytjohamgpnaafaaa", sum := "031bce3d04e9a7cb0cfd1f5323b8b201f43c5ef9651be8af7030a877226e7d45", func := "stackyard/stackyardlaw04.LayOwners", spec := "layOwners", apart := false, narrowed := true }
def LayOwnersUptoSaid : Prop := layOwnersUptoRow.holds Try.pinned (OpenSpec.upto layOwnersSpec)

/-- 'stackyardlaw04.LayFits', WHERE WHAT IT READS IS OF BULK AT MOST 1048576: true; the input reads as it did. -/
def layFitsUptoRow : OpenClaim := { program := "ytjohamgpnaafaaa", sum := "031bce3d04e9a7cb0cfd1f5323b8b201f43c5ef9651be8af7030a877226e7d45", func := "stackyard/stackyardlaw04.LayFits", spec := "layFits", apart := false, narrowed := true }
def LayFitsUptoSaid : Prop := layFitsUptoRow.holds Try.pinned (OpenSpec.upto layFitsSpec)

/-- 'stackyardlaw02.WordPacks', WHERE WHAT IT READS IS OF BULK AT MOST 1048576: true; the input reads as it did. -/
def wordPacksUptoRow : OpenClaim := { program := "ytjohamgpnaafaaa", sum := "031bce3d04e9a7cb0cfd1f5323b8b201f43c5ef9651be8af7030a877226e7d45", func := "stackyard/stackyardlaw02.WordPacks", spec := "wordPacks", apart := false, narrowed := true }
def WordPacksUptoSaid : Prop := wordPacksUptoRow.holds Try.pinned (OpenSpec.upto wordPacksSpec)

/-- 'stackyardlaw02.WordUnpacks', WHERE WHAT IT READS IS OF BULK AT MOST 1048576: true; the input reads as it did. -/
def wordUnpacksUptoRow : OpenClaim := { program := "ytjohamgpnaafaaa", sum := "031bce3d04e9a7cb0cfd1f5323b8b201f43c5ef9651be8af7030a877226e7d45", func := "stackyard/stackyardlaw02.WordUnpacks", spec := "wordUnpacks", apart := false, narrowed := true }
def WordUnpacksUptoSaid : Prop := wordUnpacksUptoRow.holds Try.pinned (OpenSpec.upto wordUnpacksSpec)

/-- 'stackyardlaw02.WordApart', WHERE WHAT IT READS IS OF BULK AT MOST 1048576: true; the input reads as it did. -/
def wordApartUptoRow : OpenClaim := { program := "ytjohamgpnaafaaa", sum := "031bce3d04e9a7cb0cfd1f5323b8b201f43c5ef9651be8af7030a877226e7d45", func := "stackyard/stackyardlaw02.WordApart", spec := "wordApart", apart := false, narrowed := true }
def WordApartUptoSaid : Prop := wordApartUptoRow.holds Try.pinned (OpenSpec.upto wordApartSpec)

/-- 'stackyardlaw02.WordBits', WHERE WHAT IT READS IS OF BULK AT MOST 1048576: true; the input reads as it did. -/
def wordBitsUptoRow : OpenClaim := { program := "ytjohamgpnaafaaa", sum := "031bce3d04e9a7cb0cfd1f5323b8b201f43c5ef9651be8af7030a877226e7d45", func := "stackyard/stackyardlaw02.WordBits", spec := "wordBits", apart := false, narrowed := true }
def WordBitsUptoSaid : Prop := wordBitsUptoRow.holds Try.pinned (OpenSpec.upto wordBitsSpec)

/-- 'stackyardlaw02.WordTurns', WHERE WHAT IT READS IS OF BULK AT MOST 1048576: true; the input reads as it did. -/
def wordTurnsUptoRow : OpenClaim := { program := "ytjohamgpnaafaaa", sum := "031bce3d04e9a7cb0cfd1f5323b8b201f43c5ef9651be8af7030a877226e7d45", func := "stackyard/stackyardlaw02.WordTurns", spec := "wordTurns", apart := false, narrowed := true }
def WordTurnsUptoSaid : Prop := wordTurnsUptoRow.holds Try.pinned (OpenSpec.upto wordTurnsSpec)

/-- 'stackyardlaw02.WordUses', WHERE WHAT IT READS IS OF BULK AT MOST 1048576: true; the input reads as it did. -/
def wordUsesUptoRow : OpenClaim := { program := "ytjohamgpnaafaaa", sum := "031bce3d04e9a7cb0cfd1f5323b8b201f43c5ef9651be8af7030a877226e7d45", func := "stackyard/stackyardlaw02.WordUses", spec := "wordUses", apart := false, narrowed := true }
def WordUsesUptoSaid : Prop := wordUsesUptoRow.holds Try.pinned (OpenSpec.upto wordUsesSpec)

/-- 'stackyardlaw04.LayCells', WHERE WHAT IT READS IS OF BULK AT MOST 1048576: true; the input reads as it did. -/
def layCellsUptoRow : OpenClaim := { program := "ytjohamgpnaafaaa", sum := "031bce3d04e9a7cb0cfd1f5323b8b201f43c5ef9651be8af7030a877226e7d45", func := "stackyard/stackyardlaw04.LayCells", spec := "layCells", apart := false, narrowed := true }
def LayCellsUptoSaid : Prop := layCellsUptoRow.holds Try.pinned (OpenSpec.upto layCellsSpec)

/-- 'stackyardlaw04.LayKinds', WHERE WHAT IT READS IS OF BULK AT MOST 1048576: true; the input reads as it did. -/
def layKindsUptoRow : OpenClaim := { program := "ytjohamgpnaafaaa", sum := "031bce3d04e9a7cb0cfd1f5323b8b201f43c5ef9651be8af7030a877226e7d45", func := "stackyard/stackyardlaw04.LayKinds", spec := "layKinds", apart := false, narrowed := true }
def LayKindsUptoSaid : Prop := layKindsUptoRow.holds Try.pinned (OpenSpec.upto layKindsSpec)

end Rows
end Go.Proofs.Ytjohamgpnaafaaa
