/-
  No cell of these rows narrows 'for every input' (looked for: loops, veiled, ifaces, maps, wideKeys, modest, calm, conditions, laid).
  DERIVED. THE GIVEN ROWS OF THIS SEAT. 17 by the template 'for every input the law returns true; each argument reads behind the call as it read before'; 0 by the template 'total and deterministic' (their statements: YtnkgkdhddaongaaTotals.lean).
  GIVEN WITH THE SEED: the statements are not yours to turn. If you find one false, say at which input.
  Laid BY PROGRAM, IN A SANDBOX (cutbox-rows.mjs): the forced cells as the released guide's own fill.sh prints them over the translation 3e71faba022d719d… (all of the seat's roots in one cut). By AI agents, Wed Nov 11 2026. No macro, syntax, notation, axiom, sorry.
-/
import Derived.Test.YtnkgkdhddaongaaChecked
import GoSem.Claim
import GoSem.ClaimJoined
import GoSem.ClaimMapViews
import Derived.JoinedTies
import Derived.KernelRfl
namespace Go.Proofs.Ytnkgkdhddaongaa
/- THE CELL 'sum', in the pinned program and in every row, IS THE sha256 OF THE DUMP (.gsa) THAT YtnkgkdhddaongaaProg.lean LOADS. Nothing in Lean hashes anything: it is a label: what it is worth is what the hold of that sum in a sandbox is worth. -/
noncomputable def Try.pinned : Pinned := { name := "ytnkgkdhddaongaa", sum := "3e71faba022d719d1dad23f708b011b9edd4fe020a9a8650bc09236f61e04f67", checked := Try.checked }
namespace Rows
def none {H : Type} : Left H := { results := [], args := [] }

/-- 'stackyardlaw07.SnapEnds': WHATEVER THE INPUT: true; the input reads as it did. -/
def snapEndsSpec : ChangeSpec := { name := "snapEnds", fn := fun _ => fun
  | [d1, d2, d3, d4, d5] => { results := [.lit (.bool true)], args := [d1, d2, d3, d4, d5] }
  | _ => none }
def snapEndsRow : OpenClaim := { program := "ytnkgkdhddaongaa", sum := "3e71faba022d719d1dad23f708b011b9edd4fe020a9a8650bc09236f61e04f67", func := "stackyard/stackyardlaw07.SnapEnds", spec := "snapEnds", apart := false }
def SnapEndsSaid : Prop := snapEndsRow.holds Try.pinned (OpenSpec.ofChange snapEndsSpec)

/-- ITS FALSE NEIGHBOUR: 'it returns false'. Refute it at one input. -/
def snapEndsWrong : ChangeSpec := { name := "snapEnds", fn := fun _ => fun
  | [d1, d2, d3, d4, d5] => { results := [.lit (.bool false)], args := [d1, d2, d3, d4, d5] }
  | _ => none }
def SnapEndsWrongFalsely : Prop := snapEndsRow.holds Try.pinned (OpenSpec.ofChange snapEndsWrong)

/-- 'stackyardlaw07.SnapNever': WHATEVER THE INPUT: true; the input reads as it did. -/
def snapNeverSpec : ChangeSpec := { name := "snapNever", fn := fun _ => fun
  | [d1, d2, d3, d4, d5] => { results := [.lit (.bool true)], args := [d1, d2, d3, d4, d5] }
  | _ => none }
def snapNeverRow : OpenClaim := { program := "ytnkgkdhddaongaa", sum := "3e71faba022d719d1dad23f708b011b9edd4fe020a9a8650bc09236f61e04f67", func := "stackyard/stackyardlaw07.SnapNever", spec := "snapNever", apart := false }
def SnapNeverSaid : Prop := snapNeverRow.holds Try.pinned (OpenSpec.ofChange snapNeverSpec)

/-- ITS FALSE NEIGHBOUR: 'it returns false'. Refute it at one input. -/
def snapNeverWrong : ChangeSpec := { name := "snapNever", fn := fun _ => fun
  | [d1, d2, d3, d4, d5] => { results := [.lit (.bool false)], args := [d1, d2, d3, d4, d5] }
  | _ => none }
def SnapNeverWrongFalsely : Prop := snapNeverRow.holds Try.pinned (OpenSpec.ofChange snapNeverWrong)

/-- 'stackyardlaw07.SnapOnes': WHATEVER THE INPUT: true; the input reads as it did. -/
def snapOnesSpec : ChangeSpec := { name := "snapOnes", fn := fun _ => fun
  | [d1, d2, d3, d4, d5] => { results := [.lit (.bool true)], args := [d1, d2, d3, d4, d5] }
  | _ => none }
def snapOnesRow : OpenClaim := { program := "ytnkgkdhddaongaa", sum := "3e71faba022d719d1dad23f708b011b9edd4fe020a9a8650bc09236f61e04f67", func := "stackyard/stackyardlaw07.SnapOnes", spec := "snapOnes", apart := false }
def SnapOnesSaid : Prop := snapOnesRow.holds Try.pinned (OpenSpec.ofChange snapOnesSpec)

/-- ITS FALSE NEIGHBOUR: 'it returns false'. Refute it at one input. -/
def snapOnesWrong : ChangeSpec := { name := "snapOnes", fn := fun _ => fun
  | [d1, d2, d3, d4, d5] => { results := [.lit (.bool false)], args := [d1, d2, d3, d4, d5] }
  | _ => none }
def SnapOnesWrongFalsely : Prop := snapOnesRow.holds Try.pinned (OpenSpec.ofChange snapOnesWrong)

/-- 'stackyardlaw07.SnapQuiet': WHATEVER THE INPUT: true; the input reads as it did. -/
def snapQuietSpec : ChangeSpec := { name := "snapQuiet", fn := fun _ => fun
  | [d1, d2, d3, d4, d5] => { results := [.lit (.bool true)], args := [d1, d2, d3, d4, d5] }
  | _ => none }
def snapQuietRow : OpenClaim := { program := "ytnkgkdhddaongaa", sum := "3e71faba022d719d1dad23f708b011b9edd4fe020a9a8650bc09236f61e04f67", func := "stackyard/stackyardlaw07.SnapQuiet", spec := "snapQuiet", apart := false }
def SnapQuietSaid : Prop := snapQuietRow.holds Try.pinned (OpenSpec.ofChange snapQuietSpec)

/-- ITS FALSE NEIGHBOUR: 'it returns false'. Refute it at one input. -/
def snapQuietWrong : ChangeSpec := { name := "snapQuiet", fn := fun _ => fun
  | [d1, d2, d3, d4, d5] => { results := [.lit (.bool false)], args := [d1, d2, d3, d4, d5] }
  | _ => none }
def SnapQuietWrongFalsely : Prop := snapQuietRow.holds Try.pinned (OpenSpec.ofChange snapQuietWrong)

/-- 'stackyardlaw07.SnapSteps': WHATEVER THE INPUT: true; the input reads as it did. -/
def snapStepsSpec : ChangeSpec := { name := "snapSteps", fn := fun _ => fun
  | [d1, d2, d3, d4, d5] => { results := [.lit (.bool true)], args := [d1, d2, d3, d4, d5] }
  | _ => none }
def snapStepsRow : OpenClaim := { program := "ytnkgkdhddaongaa", sum := "3e71faba022d719d1dad23f708b011b9edd4fe020a9a8650bc09236f61e04f67", func := "stackyard/stackyardlaw07.SnapSteps", spec := "snapSteps", apart := false }
def SnapStepsSaid : Prop := snapStepsRow.holds Try.pinned (OpenSpec.ofChange snapStepsSpec)

/-- ITS FALSE NEIGHBOUR: 'it returns false'. Refute it at one input. -/
def snapStepsWrong : ChangeSpec := { name := "snapSteps", fn := fun _ => fun
  | [d1, d2, d3, d4, d5] => { results := [.lit (.bool false)], args := [d1, d2, d3, d4, d5] }
  | _ => none }
def SnapStepsWrongFalsely : Prop := snapStepsRow.holds Try.pinned (OpenSpec.ofChange snapStepsWrong)

/-- 'stackyardlaw06.ClaimMost': WHATEVER THE INPUT: true; the input reads as it did. -/
def claimMostSpec : ChangeSpec := { name := "claimMost", fn := fun _ => fun
  | [d1, d2, d3] => { results := [.lit (.bool true)], args := [d1, d2, d3] }
  | _ => none }
def claimMostRow : OpenClaim := { program := "ytnkgkdhddaongaa", sum := "3e71faba022d719d1dad23f708b011b9edd4fe020a9a8650bc09236f61e04f67", func := "stackyard/stackyardlaw06.ClaimMost", spec := "claimMost", apart := false }
def ClaimMostSaid : Prop := claimMostRow.holds Try.pinned (OpenSpec.ofChange claimMostSpec)

/-- ITS FALSE NEIGHBOUR: 'it returns false'. Refute it at one input. -/
def claimMostWrong : ChangeSpec := { name := "claimMost", fn := fun _ => fun
  | [d1, d2, d3] => { results := [.lit (.bool false)], args := [d1, d2, d3] }
  | _ => none }
def ClaimMostWrongFalsely : Prop := claimMostRow.holds Try.pinned (OpenSpec.ofChange claimMostWrong)

/-- 'stackyardlaw06.ClaimOwns': WHATEVER THE INPUT: true; the input reads as it did. -/
def claimOwnsSpec : ChangeSpec := { name := "claimOwns", fn := fun _ => fun
  | [d1, d2, d3, d4] => { results := [.lit (.bool true)], args := [d1, d2, d3, d4] }
  | _ => none }
def claimOwnsRow : OpenClaim := { program := "ytnkgkdhddaongaa", sum := "3e71faba022d719d1dad23f708b011b9edd4fe020a9a8650bc09236f61e04f67", func := "stackyard/stackyardlaw06.ClaimOwns", spec := "claimOwns", apart := false }
def ClaimOwnsSaid : Prop := claimOwnsRow.holds Try.pinned (OpenSpec.ofChange claimOwnsSpec)

/-- ITS FALSE NEIGHBOUR: 'it returns false'. Refute it at one input. -/
def claimOwnsWrong : ChangeSpec := { name := "claimOwns", fn := fun _ => fun
  | [d1, d2, d3, d4] => { results := [.lit (.bool false)], args := [d1, d2, d3, d4] }
  | _ => none }
def ClaimOwnsWrongFalsely : Prop := claimOwnsRow.holds Try.pinned (OpenSpec.ofChange claimOwnsWrong)

/-- 'stackyardlaw09.TakeRaces': WHATEVER THE INPUT: true; the input reads as it did. -/
def takeRacesSpec : ChangeSpec := { name := "takeRaces", fn := fun _ => fun
  | [d1, d2, d3] => { results := [.lit (.bool true)], args := [d1, d2, d3] }
  | _ => none }
def takeRacesRow : OpenClaim := { program := "ytnkgkdhddaongaa", sum := "3e71faba022d719d1dad23f708b011b9edd4fe020a9a8650bc09236f61e04f67", func := "stackyard/stackyardlaw09.TakeRaces", spec := "takeRaces", apart := false }
def TakeRacesSaid : Prop := takeRacesRow.holds Try.pinned (OpenSpec.ofChange takeRacesSpec)

/-- ITS FALSE NEIGHBOUR: 'it returns false'. Refute it at one input. -/
def takeRacesWrong : ChangeSpec := { name := "takeRaces", fn := fun _ => fun
  | [d1, d2, d3] => { results := [.lit (.bool false)], args := [d1, d2, d3] }
  | _ => none }
def TakeRacesWrongFalsely : Prop := takeRacesRow.holds Try.pinned (OpenSpec.ofChange takeRacesWrong)

/-- 'stackyardlaw09.TakeLeaves': WHATEVER THE INPUT: true; the input reads as it did. -/
def takeLeavesSpec : ChangeSpec := { name := "takeLeaves", fn := fun _ => fun
  | [d1, d2, d3, d4, d5, d6, d7] => { results := [.lit (.bool true)], args := [d1, d2, d3, d4, d5, d6, d7] }
  | _ => none }
def takeLeavesRow : OpenClaim := { program := "ytnkgkdhddaongaa", sum := "3e71faba022d719d1dad23f708b011b9edd4fe020a9a8650bc09236f61e04f67", func := "stackyard/stackyardlaw09.TakeLeaves", spec := "takeLeaves", apart := false }
def TakeLeavesSaid : Prop := takeLeavesRow.holds Try.pinned (OpenSpec.ofChange takeLeavesSpec)

/-- ITS FALSE NEIGHBOUR: 'it returns false'. Refute it at one input. -/
def takeLeavesWrong : ChangeSpec := { name := "takeLeaves", fn := fun _ => fun
  | [d1, d2, d3, d4, d5, d6, d7] => { results := [.lit (.bool false)], args := [d1, d2, d3, d4, d5, d6, d7] }
  | _ => none }
def TakeLeavesWrongFalsely : Prop := takeLeavesRow.holds Try.pinned (OpenSpec.ofChange takeLeavesWrong)

/-- 'stackyardlaw09.TakeGuards': WHATEVER THE INPUT: true; the input reads as it did. -/
def takeGuardsSpec : ChangeSpec := { name := "takeGuards", fn := fun _ => fun
  | [d1, d2, d3, d4, d5, d6] => { results := [.lit (.bool true)], args := [d1, d2, d3, d4, d5, d6] }
  | _ => none }
def takeGuardsRow : OpenClaim := { program := "ytnkgkdhddaongaa", sum := "3e71faba022d719d1dad23f708b011b9edd4fe020a9a8650bc09236f61e04f67", func := "stackyard/stackyardlaw09.TakeGuards", spec := "takeGuards", apart := false }
def TakeGuardsSaid : Prop := takeGuardsRow.holds Try.pinned (OpenSpec.ofChange takeGuardsSpec)

/-- ITS FALSE NEIGHBOUR: 'it returns false'. Refute it at one input. -/
def takeGuardsWrong : ChangeSpec := { name := "takeGuards", fn := fun _ => fun
  | [d1, d2, d3, d4, d5, d6] => { results := [.lit (.bool false)], args := [d1, d2, d3, d4, d5, d6] }
  | _ => none }
def TakeGuardsWrongFalsely : Prop := takeGuardsRow.holds Try.pinned (OpenSpec.ofChange takeGuardsWrong)

/-- 'stackyardlaw06.ClaimFinds': WHATEVER THE INPUT: true; the input reads as it did. -/
def claimFindsSpec : ChangeSpec := { name := "claimFinds", fn := fun _ => fun
  | [d1, d2, d3, d4, d5] => { results := [.lit (.bool true)], args := [d1, d2, d3, d4, d5] }
  | _ => none }
def claimFindsRow : OpenClaim := { program := "ytnkgkdhddaongaa", sum := "3e71faba022d719d1dad23f708b011b9edd4fe020a9a8650bc09236f61e04f67", func := "stackyard/stackyardlaw06.ClaimFinds", spec := "claimFinds", apart := false }
def ClaimFindsSaid : Prop := claimFindsRow.holds Try.pinned (OpenSpec.ofChange claimFindsSpec)

/-- ITS FALSE NEIGHBOUR: 'it returns false'. Refute it at one input. -/
def claimFindsWrong : ChangeSpec := { name := "claimFinds", fn := fun _ => fun
  | [d1, d2, d3, d4, d5] => { results := [.lit (.bool false)], args := [d1, d2, d3, d4, d5] }
  | _ => none }
def ClaimFindsWrongFalsely : Prop := claimFindsRow.holds Try.pinned (OpenSpec.ofChange claimFindsWrong)

/-- 'stackyardlaw09.TakeSteps': WHATEVER THE INPUT: true; the input reads as it did. -/
def takeStepsSpec : ChangeSpec := { name := "takeSteps", fn := fun _ => fun
  | [d1, d2, d3, d4, d5, d6, d7] => { results := [.lit (.bool true)], args := [d1, d2, d3, d4, d5, d6, d7] }
  | _ => none }
def takeStepsRow : OpenClaim := { program := "ytnkgkdhddaongaa", sum := "3e71faba022d719d1dad23f708b011b9edd4fe020a9a8650bc09236f61e04f67", func := "stackyard/stackyardlaw09.TakeSteps", spec := "takeSteps", apart := false }
def TakeStepsSaid : Prop := takeStepsRow.holds Try.pinned (OpenSpec.ofChange takeStepsSpec)

/-- ITS FALSE NEIGHBOUR: 'it returns false'. Refute it at one input. -/
def takeStepsWrong : ChangeSpec := { name := "takeSteps", fn := fun _ => fun
  | [d1, d2, d3, d4, d5, d6, d7] => { results := [.lit (.bool false)], args := [d1, d2, d3, d4, d5, d6, d7] }
  | _ => none }
def TakeStepsWrongFalsely : Prop := takeStepsRow.holds Try.pinned (OpenSpec.ofChange takeStepsWrong)

/-- 'stackyardlaw05.TickMost': WHATEVER THE INPUT: true; the input reads as it did. -/
def tickMostSpec : ChangeSpec := { name := "tickMost", fn := fun _ => fun
  | [d1, d2, d3, d4, d5] => { results := [.lit (.bool true)], args := [d1, d2, d3, d4, d5] }
  | _ => none }
def tickMostRow : OpenClaim := { program := "ytnkgkdhddaongaa", sum := "3e71faba022d719d1dad23f708b011b9edd4fe020a9a8650bc09236f61e04f67", func := "stackyard/stackyardlaw05.TickMost", spec := "tickMost", apart := false }
def TickMostSaid : Prop := tickMostRow.holds Try.pinned (OpenSpec.ofChange tickMostSpec)

/-- ITS FALSE NEIGHBOUR: 'it returns false'. Refute it at one input. -/
def tickMostWrong : ChangeSpec := { name := "tickMost", fn := fun _ => fun
  | [d1, d2, d3, d4, d5] => { results := [.lit (.bool false)], args := [d1, d2, d3, d4, d5] }
  | _ => none }
def TickMostWrongFalsely : Prop := tickMostRow.holds Try.pinned (OpenSpec.ofChange tickMostWrong)

/-- 'stackyardlaw05.TickFull': WHATEVER THE INPUT: true; the input reads as it did. -/
def tickFullSpec : ChangeSpec := { name := "tickFull", fn := fun _ => fun
  | [d1, d2, d3, d4] => { results := [.lit (.bool true)], args := [d1, d2, d3, d4] }
  | _ => none }
def tickFullRow : OpenClaim := { program := "ytnkgkdhddaongaa", sum := "3e71faba022d719d1dad23f708b011b9edd4fe020a9a8650bc09236f61e04f67", func := "stackyard/stackyardlaw05.TickFull", spec := "tickFull", apart := false }
def TickFullSaid : Prop := tickFullRow.holds Try.pinned (OpenSpec.ofChange tickFullSpec)

/-- ITS FALSE NEIGHBOUR: 'it returns false'. Refute it at one input. -/
def tickFullWrong : ChangeSpec := { name := "tickFull", fn := fun _ => fun
  | [d1, d2, d3, d4] => { results := [.lit (.bool false)], args := [d1, d2, d3, d4] }
  | _ => none }
def TickFullWrongFalsely : Prop := tickFullRow.holds Try.pinned (OpenSpec.ofChange tickFullWrong)

/-- 'stackyardlaw05.TickRises': WHATEVER THE INPUT: true; the input reads as it did. -/
def tickRisesSpec : ChangeSpec := { name := "tickRises", fn := fun _ => fun
  | [d1, d2, d3, d4, d5] => { results := [.lit (.bool true)], args := [d1, d2, d3, d4, d5] }
  | _ => none }
def tickRisesRow : OpenClaim := { program := "ytnkgkdhddaongaa", sum := "3e71faba022d719d1dad23f708b011b9edd4fe020a9a8650bc09236f61e04f67", func := "stackyard/stackyardlaw05.TickRises", spec := "tickRises", apart := false }
def TickRisesSaid : Prop := tickRisesRow.holds Try.pinned (OpenSpec.ofChange tickRisesSpec)

/-- ITS FALSE NEIGHBOUR: 'it returns false'. Refute it at one input. -/
def tickRisesWrong : ChangeSpec := { name := "tickRises", fn := fun _ => fun
  | [d1, d2, d3, d4, d5] => { results := [.lit (.bool false)], args := [d1, d2, d3, d4, d5] }
  | _ => none }
def TickRisesWrongFalsely : Prop := tickRisesRow.holds Try.pinned (OpenSpec.ofChange tickRisesWrong)

/-- 'stackyardlaw05.TickBefore': WHATEVER THE INPUT: true; the input reads as it did. -/
def tickBeforeSpec : ChangeSpec := { name := "tickBefore", fn := fun _ => fun
  | [d1, d2, d3, d4, d5] => { results := [.lit (.bool true)], args := [d1, d2, d3, d4, d5] }
  | _ => none }
def tickBeforeRow : OpenClaim := { program := "ytnkgkdhddaongaa", sum := "3e71faba022d719d1dad23f708b011b9edd4fe020a9a8650bc09236f61e04f67", func := "stackyard/stackyardlaw05.TickBefore", spec := "tickBefore", apart := false }
def TickBeforeSaid : Prop := tickBeforeRow.holds Try.pinned (OpenSpec.ofChange tickBeforeSpec)

/-- ITS FALSE NEIGHBOUR: 'it returns false'. Refute it at one input. -/
def tickBeforeWrong : ChangeSpec := { name := "tickBefore", fn := fun _ => fun
  | [d1, d2, d3, d4, d5] => { results := [.lit (.bool false)], args := [d1, d2, d3, d4, d5] }
  | _ => none }
def TickBeforeWrongFalsely : Prop := tickBeforeRow.holds Try.pinned (OpenSpec.ofChange tickBeforeWrong)

/-- 'stackyardlaw05.TickSteps': WHATEVER THE INPUT: true; the input reads as it did. -/
def tickStepsSpec : ChangeSpec := { name := "tickSteps", fn := fun _ => fun
  | [d1, d2, d3, d4, d5] => { results := [.lit (.bool true)], args := [d1, d2, d3, d4, d5] }
  | _ => none }
def tickStepsRow : OpenClaim := { program := "ytnkgkdhddaongaa", sum := "3e71faba022d719d1dad23f708b011b9edd4fe020a9a8650bc09236f61e04f67", func := "stackyard/stackyardlaw05.TickSteps", spec := "tickSteps", apart := false }
def TickStepsSaid : Prop := tickStepsRow.holds Try.pinned (OpenSpec.ofChange tickStepsSpec)

/-- ITS FALSE NEIGHBOUR: 'it returns false'. Refute it at one input. -/
def tickStepsWrong : ChangeSpec := { name := "tickSteps", fn := fun _ => fun
  | [d1, d2, d3, d4, d5] => { results := [.lit (.bool false)], args := [d1, d2, d3, d4, d5] }
  | _ => none }
def TickStepsWrongFalsely : Prop := tickStepsRow.holds Try.pinned (OpenSpec.ofChange tickStepsWrong)

/- THE SECOND FORM. 'bulk': how many values and letters a reading holds, each counted each time it is reached (what is shared counts as often as it is met; a slice's spare places count too). A statement '..UptoSaid' is the law's where the arguments, and the package variables that the reading takes, are together of bulk at most 1048576: NARROWER than '..Said'. Prove '..Said' where nothing that the law and all that it calls make is longer than what came in: it says more and counts as full. Else prove '..UptoSaid'. A law counts once. -/
mutual
def uptoBulk {H : Type} : DataW H → Nat
  | .lit (.string bytes) => bytes.length + 1
  | .lit _ => 1
  | .nil => 1
  | .ptr d => uptoBulk d + 1
  | .slice elems spare => uptoBulkAll elems + uptoBulkAll spare + 1
  | .agg parts => uptoBulkAll parts + 1
  | .iface _ d => uptoBulk d + 1
  | .map entries => uptoBulkEntries entries + 1
  | .held _ => 1
def uptoBulkAll {H : Type} : List (DataW H) → Nat
  | [] => 0
  | d :: r => uptoBulk d + uptoBulkAll r
def uptoBulkEntries {H : Type} : List (Lit × DataW H) → Nat
  | [] => 0
  | x :: r => uptoBulkEntry x + uptoBulkEntries r
def uptoBulkEntry {H : Type} : Lit × DataW H → Nat
  | (.string bytes, d) => bytes.length + uptoBulk d + 1
  | (_, d) => uptoBulk d + 1
 end
def uptoSmall : (H : Type) → List (DataW H) → Bool := fun _ ds => decide (uptoBulkAll ds ≤ 1048576)
def OpenSpec.upto (s : _root_.Go.ChangeSpec) : _root_.Go.OpenSpec := { _root_.Go.OpenSpec.ofChange s with cond := some uptoSmall }

/-- 'stackyardlaw07.SnapEnds', WHERE WHAT IT READS IS OF BULK AT MOST 1048576: true; the input reads as it did. -/
def snapEndsUptoRow : OpenClaim := { program := "ytnkgkdhddaongaa", sum := "3e71faba022d719d1dad23f708b011b9edd4fe020a9a8650bc09236f61e04f67", func := "stackyard/stackyardlaw07.SnapEnds", spec := "snapEnds", apart := false, narrowed := true }
def SnapEndsUptoSaid : Prop := snapEndsUptoRow.holds Try.pinned (OpenSpec.upto snapEndsSpec)

/-- 'stackyardlaw07.SnapNever', WHERE WHAT IT READS IS OF BULK AT MOST 1048576: true; the input reads as it did. -/
def snapNeverUptoRow : OpenClaim := { program := "ytnkgkdhddaongaa", sum := "3e71faba022d719d1dad23f708b011b9edd4fe020a9a8650bc09236f61e04f67", func := "stackyard/stackyardlaw07.SnapNever", spec := "snapNever", apart := false, narrowed := true }
def SnapNeverUptoSaid : Prop := snapNeverUptoRow.holds Try.pinned (OpenSpec.upto snapNeverSpec)

/-- 'stackyardlaw07.SnapOnes', WHERE WHAT IT READS IS OF BULK AT MOST 1048576: true; the input reads as it did. -/
def snapOnesUptoRow : OpenClaim := { program := "ytnkgkdhddaongaa", sum := "3e71faba022d719d1dad23f708b011b9edd4fe020a9a8650bc09236f61e04f67", func := "stackyard/stackyardlaw07.SnapOnes", spec := "snapOnes", apart := false, narrowed := true }
def SnapOnesUptoSaid : Prop := snapOnesUptoRow.holds Try.pinned (OpenSpec.upto snapOnesSpec)

/-- 'stackyardlaw07.SnapQuiet', WHERE WHAT IT READS IS OF BULK AT MOST 1048576: true; the input reads as it did. -/
def snapQuietUptoRow : OpenClaim := { program := "ytnkgkdhddaongaa", sum := "3e71faba022d719d1dad23f708b011b9edd4fe020a9a8650bc09236f61e04f67", func := "stackyard/stackyardlaw07.SnapQuiet", spec := "snapQuiet", apart := false, narrowed := true }
def SnapQuietUptoSaid : Prop := snapQuietUptoRow.holds Try.pinned (OpenSpec.upto snapQuietSpec)

/-- 'stackyardlaw07.SnapSteps', WHERE WHAT IT READS IS OF BULK AT MOST 1048576: true; the input reads as it did. -/
def snapStepsUptoRow : OpenClaim := { program := "ytnkgkdhddaongaa", sum := "3e71faba022d719d1dad23f708b011b9edd4fe020a9a8650bc09236f61e04f67", func := "stackyard/stackyardlaw07.SnapSteps", spec := "snapSteps", apart := false, narrowed := true }
def SnapStepsUptoSaid : Prop := snapStepsUptoRow.holds Try.pinned (OpenSpec.upto snapStepsSpec)

/-- 'stackyardlaw06.ClaimMost', WHERE WHAT IT READS IS OF BULK AT MOST 1048576: true; the input reads as it did. -/
def claimMostUptoRow : OpenClaim := { program := "ytnkgkdhddaongaa", sum := "3e71faba022d719d1dad23f708b011b9edd4fe020a9a8650bc09236f61e04f67", func := "stackyard/stackyardlaw06.ClaimMost", spec := "claimMost", apart := false, narrowed := true }
def ClaimMostUptoSaid : Prop := claimMostUptoRow.holds Try.pinned (OpenSpec.upto claimMostSpec)

/-- 'stackyardlaw06.ClaimOwns', WHERE WHAT IT READS IS OF BULK AT MOST 1048576: true; the input reads as it did. -/
def claimOwnsUptoRow : OpenClaim := { program := "ytnkgkdhddaongaa", sum := "3e71faba022d719d1dad23f708b011b9edd4fe020a9a8650bc09236f61e04f67", func := "stackyard/stackyardlaw06.ClaimOwns", spec := "claimOwns", apart := false, narrowed := true }
def ClaimOwnsUptoSaid : Prop := claimOwnsUptoRow.holds Try.pinned (OpenSpec.upto claimOwnsSpec)

/-- 'stackyardlaw09.TakeRaces', WHERE WHAT IT READS IS OF BULK AT MOST 1048576: true; the input reads as it did. -/
def takeRacesUptoRow : OpenClaim := { program := "ytnkgkdhddaongaa", sum := "3e71faba022d719d1dad23f708b011b9edd4fe020a9a8650bc09236f61e04f67", func := "stackyard/stackyardlaw09.TakeRaces", spec := "takeRaces", apart := false, narrowed := true }
def TakeRacesUptoSaid : Prop := takeRacesUptoRow.holds Try.pinned (OpenSpec.upto takeRacesSpec)

/-- 'stackyardlaw09.TakeLeaves', WHERE WHAT IT READS IS OF BULK AT MOST 1048576: true; the input reads as it did. -/
def takeLeavesUptoRow : OpenClaim := { program := "ytnkgkdhddaongaa", sum := "3e71faba022d719d1dad23f708b011b9edd4fe020a9a8650bc09236f61e04f67", func := "stackyard/stackyardlaw09.TakeLeaves", spec := "takeLeaves", apart := false, narrowed := true }
def TakeLeavesUptoSaid : Prop := takeLeavesUptoRow.holds Try.pinned (OpenSpec.upto takeLeavesSpec)

/-- 'stackyardlaw09.TakeGuards', WHERE WHAT IT READS IS OF BULK AT MOST 1048576: true; the input reads as it did. -/
def takeGuardsUptoRow : OpenClaim := { program := "ytnkgkdhddaongaa", sum := "3e71faba022d719d1dad23f708b011b9edd4fe020a9a8650bc09236f61e04f67", func := "stackyard/stackyardlaw09.TakeGuards", spec := "takeGuards", apart := false, narrowed := true }
def TakeGuardsUptoSaid : Prop := takeGuardsUptoRow.holds Try.pinned (OpenSpec.upto takeGuardsSpec)

/-- 'stackyardlaw06.ClaimFinds', WHERE WHAT IT READS IS OF BULK AT MOST 1048576: true; the input reads as it did. -/
def claimFindsUptoRow : OpenClaim := { program := "ytnkgkdhddaongaa", sum := "3e71faba022d719d1dad23f708b011b9edd4fe020a9a8650bc09236f61e04f67", func := "stackyard/stackyardlaw06.ClaimFinds", spec := "claimFinds", apart := false, narrowed := true }
def ClaimFindsUptoSaid : Prop := claimFindsUptoRow.holds Try.pinned (OpenSpec.upto claimFindsSpec)

/-- 'stackyardlaw09.TakeSteps', WHERE WHAT IT READS IS OF BULK AT MOST 1048576: true; the input reads as it did. -/
def takeStepsUptoRow : OpenClaim := { program := "ytnkgkdhddaongaa", sum := "3e71faba022d719d1dad23f708b011b9edd4fe020a9a8650bc09236f61e04f67", func := "stackyard/stackyardlaw09.TakeSteps", spec := "takeSteps", apart := false, narrowed := true }
def TakeStepsUptoSaid : Prop := takeStepsUptoRow.holds Try.pinned (OpenSpec.upto takeStepsSpec)

/-- 'stackyardlaw05.TickMost', WHERE WHAT IT READS IS OF BULK AT MOST 1048576: true; the input reads as it did. -/
def tickMostUptoRow : OpenClaim := { program := "ytnkgkdhddaongaa", sum := "3e71faba022d719d1dad23f708b011b9edd4fe020a9a8650bc09236f61e04f67", func := "stackyard/stackyardlaw05.TickMost", spec := "tickMost", apart := false, narrowed := true }
def TickMostUptoSaid : Prop := tickMostUptoRow.holds Try.pinned (OpenSpec.upto tickMostSpec)

/-- 'stackyardlaw05.TickFull', WHERE WHAT IT READS IS OF BULK AT MOST 1048576: true; the input reads as it did. -/
def tickFullUptoRow : OpenClaim := { program := "ytnkgkdhddaongaa", sum := "3e71faba022d719d1dad23f708b011b9edd4fe020a9a8650bc09236f61e04f67", func := "stackyard/stackyardlaw05.TickFull", spec := "tickFull", apart := false, narrowed := true }
def TickFullUptoSaid : Prop := tickFullUptoRow.holds Try.pinned (OpenSpec.upto tickFullSpec)

/-- 'stackyardlaw05.TickRises', WHERE WHAT IT READS IS OF BULK AT MOST 1048576: true; the input reads as it did. -/
def tickRisesUptoRow : OpenClaim := { program := "ytnkgkdhddaongaa", sum := "3e71faba022d719d1dad23f708b011b9edd4fe020a9a8650bc09236f61e04f67", func := "stackyard/stackyardlaw05.TickRises", spec := "tickRises", apart := false, narrowed := true }
def TickRisesUptoSaid : Prop := tickRisesUptoRow.holds Try.pinned (OpenSpec.upto tickRisesSpec)

/-- 'stackyardlaw05.TickBefore', WHERE WHAT IT READS IS OF BULK AT MOST 1048576: true; the input reads as it did. -/
def tickBeforeUptoRow : OpenClaim := { program := "ytnkgkdhddaongaa", sum := "3e71faba022d719d1dad23f708b011b9edd4fe020a9a8650bc09236f61e04f67", func := "stackyard/stackyardlaw05.TickBefore", spec := "tickBefore", apart := false, narrowed := true }
def TickBeforeUptoSaid : Prop := tickBeforeUptoRow.holds Try.pinned (OpenSpec.upto tickBeforeSpec)

/-- 'stackyardlaw05.TickSteps', WHERE WHAT IT READS IS OF BULK AT MOST 1048576: true; the input reads as it did. -/
def tickStepsUptoRow : OpenClaim := { program := "ytnkgkdhddaongaa", sum := "3e71faba022d719d1dad23f708b011b9edd4fe020a9a8650bc09236f61e04f67", func := "stackyard/stackyardlaw05.TickSteps", spec := "tickSteps", apart := false, narrowed := true }
def TickStepsUptoSaid : Prop := tickStepsUptoRow.holds Try.pinned (OpenSpec.upto tickStepsSpec)

end Rows
end Go.Proofs.Ytnkgkdhddaongaa
