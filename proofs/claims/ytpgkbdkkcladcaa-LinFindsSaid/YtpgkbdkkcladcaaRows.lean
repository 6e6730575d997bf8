/-
  No cell of these rows narrows 'for every input' (looked for: loops, veiled, ifaces, maps, wideKeys, modest, calm, conditions, laid).
  DERIVED. THE GIVEN ROWS OF THIS SEAT. 8 by the template 'for every input the law returns true; each argument reads behind the call as it read before'; 0 by the template 'total and deterministic' (their statements: YtpgkbdkkcladcaaTotals.lean).
  GIVEN WITH THE SEED: the statements are not yours to turn. If you find one false, say at which input.
  Laid BY PROGRAM, IN A SANDBOX (cutbox-rows.mjs): the forced cells as the released guide's own fill.sh prints them over the translation 047ee5b3a6d3d356… (all of the seat's roots in one cut). By AI agents, Wed Nov 11 2026. No macro, syntax, notation, axiom, sorry.
-/
import Derived.Test.YtpgkbdkkcladcaaChecked
import GoSem.Claim
import GoSem.ClaimJoined
import GoSem.ClaimMapViews
import Derived.JoinedTies
import Derived.KernelRfl
namespace Go.Proofs.Ytpgkbdkkcladcaa
/- THE CELL 'sum', in the pinned program and in every row, IS THE sha256 OF THE DUMP (.gsa) THAT YtpgkbdkkcladcaaProg.lean LOADS. Nothing in Lean hashes anything: it is a label: what it is worth is what the hold of that sum in a sandbox is worth. -/
noncomputable def Try.pinned : Pinned := { name := "ytpgkbdkkcladcaa", sum := "047ee5b3a6d3d356585db4ebaca6ec075f3dadd401dfbd993e3e4e75881b3338", checked := Try.checked }
namespace Rows
def none {H : Type} : Left H := { results := [], args := [] }

/-- 'stackyardlaw15.LinMany': WHATEVER THE INPUT: true; the input reads as it did. -/
def linManySpec : ChangeSpec := { name := "linMany", fn := fun _ => fun
  | [d] => { results := [.lit (.bool true)], args := [d] }
  | _ => none }
def linManyRow : OpenClaim := { program := "ytpgkbdkkcladcaa", sum := "047ee5b3a6d3d356585db4ebaca6ec075f3dadd401dfbd993e3e4e75881b3338", func := "stackyard/stackyardlaw15.LinMany", spec := "linMany", recurses := true, apart := false }
def LinManySaid : Prop := linManyRow.holds Try.pinned (OpenSpec.ofChange linManySpec)

/-- ITS FALSE NEIGHBOUR: 'it returns false'. Refute it at one input. -/
def linManyWrong : ChangeSpec := { name := "linMany", fn := fun _ => fun
  | [d] => { results := [.lit (.bool false)], args := [d] }
  | _ => none }
def LinManyWrongFalsely : Prop := linManyRow.holds Try.pinned (OpenSpec.ofChange linManyWrong)

/-- 'stackyardlaw15.LinStacks': WHATEVER THE INPUT: true; the input reads as it did. -/
def linStacksSpec : ChangeSpec := { name := "linStacks", fn := fun _ => fun
  | [d1, d2] => { results := [.lit (.bool true)], args := [d1, d2] }
  | _ => none }
def linStacksRow : OpenClaim := { program := "ytpgkbdkkcladcaa", sum := "047ee5b3a6d3d356585db4ebaca6ec075f3dadd401dfbd993e3e4e75881b3338", func := "stackyard/stackyardlaw15.LinStacks", spec := "linStacks", recurses := true, apart := false }
def LinStacksSaid : Prop := linStacksRow.holds Try.pinned (OpenSpec.ofChange linStacksSpec)

/-- ITS FALSE NEIGHBOUR: 'it returns false'. Refute it at one input. -/
def linStacksWrong : ChangeSpec := { name := "linStacks", fn := fun _ => fun
  | [d1, d2] => { results := [.lit (.bool false)], args := [d1, d2] }
  | _ => none }
def LinStacksWrongFalsely : Prop := linStacksRow.holds Try.pinned (OpenSpec.ofChange linStacksWrong)

/-- 'stackyardlaw15.LinDoes': WHATEVER THE INPUT: true; the input reads as it did. -/
def linDoesSpec : ChangeSpec := { name := "linDoes", fn := fun _ => fun
  | [d1, d2] => { results := [.lit (.bool true)], args := [d1, d2] }
  | _ => none }
def linDoesRow : OpenClaim := { program := "ytpgkbdkkcladcaa", sum := "047ee5b3a6d3d356585db4ebaca6ec075f3dadd401dfbd993e3e4e75881b3338", func := "stackyard/stackyardlaw15.LinDoes", spec := "linDoes", recurses := true, apart := false }
def LinDoesSaid : Prop := linDoesRow.holds Try.pinned (OpenSpec.ofChange linDoesSpec)

/-- ITS FALSE NEIGHBOUR: 'it returns false'. Refute it at one input. -/
def linDoesWrong : ChangeSpec := { name := "linDoes", fn := fun _ => fun
  | [d1, d2] => { results := [.lit (.bool false)], args := [d1, d2] }
  | _ => none }
def LinDoesWrongFalsely : Prop := linDoesRow.holds Try.pinned (OpenSpec.ofChange linDoesWrong)

/-- 'stackyardlaw15.LinLegals': WHATEVER THE INPUT: true; the input reads as it did. -/
def linLegalsSpec : ChangeSpec := { name := "linLegals", fn := fun _ => fun
  | [d] => { results := [.lit (.bool true)], args := [d] }
  | _ => none }
def linLegalsRow : OpenClaim := { program := "ytpgkbdkkcladcaa", sum := "047ee5b3a6d3d356585db4ebaca6ec075f3dadd401dfbd993e3e4e75881b3338", func := "stackyard/stackyardlaw15.LinLegals", spec := "linLegals", recurses := true, apart := false }
def LinLegalsSaid : Prop := linLegalsRow.holds Try.pinned (OpenSpec.ofChange linLegalsSpec)

/-- ITS FALSE NEIGHBOUR: 'it returns false'. Refute it at one input. -/
def linLegalsWrong : ChangeSpec := { name := "linLegals", fn := fun _ => fun
  | [d] => { results := [.lit (.bool false)], args := [d] }
  | _ => none }
def LinLegalsWrongFalsely : Prop := linLegalsRow.holds Try.pinned (OpenSpec.ofChange linLegalsWrong)

/-- 'stackyardlaw15.LinFinds': WHATEVER THE INPUT: true; the input reads as it did. -/
def linFindsSpec : ChangeSpec := { name := "linFinds", fn := fun _ => fun
  | [d] => { results := [.lit (.bool true)], args := [d] }
  | _ => none }
def linFindsRow : OpenClaim := { program := "ytpgkbdkkcladcaa", sum := "047ee5b3a6d3d356585db4ebaca6ec075f3dadd401dfbd993e3e4e75881b3338", func := "stackyard/stackyardlaw15.LinFinds", spec := "linFinds", recurses := true, apart := false }
def LinFindsSaid : Prop := linFindsRow.holds Try.pinned (OpenSpec.ofChange linFindsSpec)

/-- ITS FALSE NEIGHBOUR: 'it returns false'. Refute it at one input. -/
def linFindsWrong : ChangeSpec := { name := "linFinds", fn := fun _ => fun
  | [d] => { results := [.lit (.bool false)], args := [d] }
  | _ => none }
def LinFindsWrongFalsely : Prop := linFindsRow.holds Try.pinned (OpenSpec.ofChange linFindsWrong)

/-- 'stackyardlaw15.LinOrders': WHATEVER THE INPUT: true; the input reads as it did. -/
def linOrdersSpec : ChangeSpec := { name := "linOrders", fn := fun _ => fun
  | [d] => { results := [.lit (.bool true)], args := [d] }
  | _ => none }
def linOrdersRow : OpenClaim := { program := "ytpgkbdkkcladcaa", sum := "047ee5b3a6d3d356585db4ebaca6ec075f3dadd401dfbd993e3e4e75881b3338", func := "stackyard/stackyardlaw15.LinOrders", spec := "linOrders", recurses := true, apart := false }
def LinOrdersSaid : Prop := linOrdersRow.holds Try.pinned (OpenSpec.ofChange linOrdersSpec)

/-- ITS FALSE NEIGHBOUR: 'it returns false'. Refute it at one input. -/
def linOrdersWrong : ChangeSpec := { name := "linOrders", fn := fun _ => fun
  | [d] => { results := [.lit (.bool false)], args := [d] }
  | _ => none }
def LinOrdersWrongFalsely : Prop := linOrdersRow.holds Try.pinned (OpenSpec.ofChange linOrdersWrong)

/-- 'stackyardlaw15.LinCuts': WHATEVER THE INPUT: true; the input reads as it did. -/
def linCutsSpec : ChangeSpec := { name := "linCuts", fn := fun _ => fun
  | [d1, d2] => { results := [.lit (.bool true)], args := [d1, d2] }
  | _ => none }
def linCutsRow : OpenClaim := { program := "ytpgkbdkkcladcaa", sum := "047ee5b3a6d3d356585db4ebaca6ec075f3dadd401dfbd993e3e4e75881b3338", func := "stackyard/stackyardlaw15.LinCuts", spec := "linCuts", recurses := true, apart := false }
def LinCutsSaid : Prop := linCutsRow.holds Try.pinned (OpenSpec.ofChange linCutsSpec)

/-- ITS FALSE NEIGHBOUR: 'it returns false'. Refute it at one input. -/
def linCutsWrong : ChangeSpec := { name := "linCuts", fn := fun _ => fun
  | [d1, d2] => { results := [.lit (.bool false)], args := [d1, d2] }
  | _ => none }
def LinCutsWrongFalsely : Prop := linCutsRow.holds Try.pinned (OpenSpec.ofChange linCutsWrong)

/-- 'stackyardlaw15.LinMirror': WHATEVER THE INPUT: true; the input reads as it did. -/
def linMirrorSpec : ChangeSpec := { name := "linMirror", fn := fun _ => fun
  | [d] => { results := [.lit (.bool true)], args := [d] }
  | _ => none }
def linMirrorRow : OpenClaim := { program := "ytpgkbdkkcladcaa", sum := "047ee5b3a6d3d356585db4ebaca6ec075f3dadd401dfbd993e3e4e75881b3338", func := "stackyard/stackyardlaw15.LinMirror", spec := "linMirror", recurses := true, apart := false }
def LinMirrorSaid : Prop := linMirrorRow.holds Try.pinned (OpenSpec.ofChange linMirrorSpec)

/-- ITS FALSE NEIGHBOUR: 'it returns false'. Refute it at one input. -/
def linMirrorWrong : ChangeSpec := { name := "linMirror", fn := fun _ => fun
  | [d] => { results := [.lit (.bool false)], args := [d] }
  | _ => none }
def LinMirrorWrongFalsely : Prop := linMirrorRow.holds Try.pinned (OpenSpec.ofChange linMirrorWrong)

/- THE SECOND FORM. 'bulk': how many values and letters a reading holds, each counted each time it is reached (what is shared counts as often as it is met; a slice's spare places count too). A statement '..UptoSaid' is the law's where the arguments, and the package variables that the reading takes, are together of bulk at most 1048576: NARROWER than '..Said'. Prove '..Said' where nothing that the law and all that it calls make is longer than what came in: it says more and counts as full. Else prove '..UptoSaid'. A law counts once. -/
mutual
def uptoBulk {H : Type} : DataW H → Nat
  | .lit (.string bytes) => bytes.length + 1
  | .lit _ => 1
  | .nil => 1
  | .ptr d => uptoBulk d + 1
  | .slice elems spare => uptoBulkAll elems + uptoBulkAll spare + 1
  | .agg parts => uptoBulkAll parts + 1
  | .iface _ d => uptoBulk d + 1
  | .map entries => uptoBulkEntries entries + 1
  | .held _ => 1
def uptoBulkAll {H : Type} : List (DataW H) → Nat
  | [] => 0
  | d :: r => uptoBulk d + uptoBulkAll r
def uptoBulkEntries {H : Type} : List (Lit × DataW H) → Nat
  | [] => 0
  | x :: r => uptoBulkEntry x + uptoBulkEntries r
def uptoBulkEntry {H : Type} : Lit × DataW H → Nat
  | (.string bytes, d) => bytes.length + uptoBulk d + 1
  | (_, d) => uptoBulk d + 1
 end
def uptoSmall : (H : Type) → List (DataW H) → Bool := fun _ ds => decide (uptoBulkAll ds ≤ 1048576)
def OpenSpec.upto (s : _root_.Go.ChangeSpec) : _root_.Go.OpenSpec := { _root_.Go.OpenSpec.ofChange s with cond := some uptoSmall }

/-- 'stackyardlaw15.LinMany', WHERE WHAT IT READS IS OF BULK AT MOST 1048576: true; the input reads as it did. -/
def linManyUptoRow : OpenClaim := { program := "ytpgkbdkkcladcaa", sum := "047ee5b3a6d3d356585db4ebaca6ec075f3dadd401dfbd993e3e4e75881b3338", func := "stackyard/stackyardlaw15.LinMany", spec := "linMany", recurses := true, apart := false, narrowed := true }
def LinManyUptoSaid : Prop := linManyUptoRow.holds Try.pinned (OpenSpec.upto linManySpec)

/-- 'stackyardlaw15.LinStacks', WHERE WHAT IT READS IS OF BULK AT MOST 1048576: true; the input reads as it did. -/
def linStacksUptoRow : OpenClaim := { program := "ytpgkbdkkcladcaa", sum := "047ee5b3a6d3d356585db4ebaca6ec075f3dadd401dfbd993e3e4e75881b3338", func := "stackyard/stackyardlaw15.LinStacks", spec := "linStacks", recurses := true, apart := false, narrowed := true }
def LinStacksUptoSaid : Prop := linStacksUptoRow.holds Try.pinned (OpenSpec.upto linStacksSpec)

/-- 'stackyardlaw15.LinDoes', WHERE WHAT IT READS IS OF BULK AT MOST 1048576: true; the input reads as it did. -/
def linDoesUptoRow : OpenClaim := { program := "ytpgkbdkkcladcaa", sum := "047ee5b3a6d3d356585db4ebaca6ec075f3dadd401dfbd993e3e4e75881b3338", func := "stackyard/stackyardlaw15.LinDoes", spec := "linDoes", recurses := true, apart := false, narrowed := true }
def LinDoesUptoSaid : Prop := linDoesUptoRow.holds Try.pinned (OpenSpec.upto linDoesSpec)

/-- 'stackyardlaw15.LinLegals', WHERE WHAT IT READS IS OF BULK AT MOST 1048576: true; the input reads as it did. -/
def linLegalsUptoRow : OpenClaim := { program := "ytpgkbdkkcladcaa", sum := "047ee5b3a6d3d356585db4ebaca6ec075f3dadd401dfbd993e3e4e75881b3338", func := "stackyard/stackyardlaw15.LinLegals", spec := "linLegals", recurses := true, apart := false, narrowed := true }
def LinLegalsUptoSaid : Prop := linLegalsUptoRow.holds Try.pinned (OpenSpec.upto linLegalsSpec)

/-- 'stackyardlaw15.LinFinds', WHERE WHAT IT READS IS OF BULK AT MOST 1048576: true; the input reads as it did. -/
def linFindsUptoRow : OpenClaim := { program := "ytpgkbdkkcladcaa", sum := "047ee5b3a6d3d356585db4ebaca6ec075f3dadd401dfbd993e3e4e75881b3338", func := "stackyard/stackyardlaw15.LinFinds", spec := "linFinds", recurses := true, apart := false, narrowed := true }
def LinFindsUptoSaid : Prop := linFindsUptoRow.holds Try.pinned (OpenSpec.upto linFindsSpec)

/-- 'stackyardlaw15.LinOrders', WHERE WHAT IT READS IS OF BULK AT MOST 1048576: true; the input reads as it did. -/
def linOrdersUptoRow : OpenClaim := { program := "ytpgkbdkkcladcaa", sum := "047ee5b3a6d3d356585db4ebaca6ec075f3dadd401dfbd993e3e4e75881b3338", func := "stackyard/stackyardlaw15.LinOrders", spec := "linOrders", recurses := true, apart := false, narrowed := true }
def LinOrdersUptoSaid : Prop := linOrdersUptoRow.holds Try.pinned (OpenSpec.upto linOrdersSpec)

/-- 'stackyardlaw15.LinCuts', WHERE WHAT IT READS IS OF BULK AT MOST 1048576: true; the input reads as it did. -/
def linCutsUptoRow : OpenClaim := { program := "ytpgkbdkkcladcaa", sum := "047ee5b3a6d3d356585db4ebaca6ec075f3dadd401dfbd993e3e4e75881b3338", func := "stackyard/stackyardlaw15.LinCuts", spec := "linCuts", recurses := true, apart := false, narrowed := true }
def LinCutsUptoSaid : Prop := linCutsUptoRow.holds Try.pinned (OpenSpec.upto linCutsSpec)

/-- 'stackyardlaw15.LinMirror', WHERE WHAT IT READS IS OF BULK AT MOST 1048576: true; the input reads as it did. -/
def linMirrorUptoRow : OpenClaim := { program := "ytpgkbdkkcladcaa", sum := "047ee5b3a6d3d356585db4ebaca6ec075f3dadd401dfbd993e3e4e75881b3338", func := "stackyard/stackyardlaw15.LinMirror", spec := "linMirror", recurses := true, apart := false, narrowed := true }
def LinMirrorUptoSaid : Prop := linMirrorUptoRow.holds Try.pinned (OpenSpec.upto linMirrorSpec)

end Rows
end Go.Proofs.Ytpgkbdkkcladcaa
