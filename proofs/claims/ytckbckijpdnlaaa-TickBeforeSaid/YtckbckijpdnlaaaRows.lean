/-
  No cell of these rows narrows 'for every input' (looked for: loops, veiled, ifaces, maps, wideKeys, modest, calm, conditions, laid).
  DERIVED. THE GIVEN ROWS OF THIS SEAT. 13 by the template 'for every input the law returns true; each argument reads behind the call as it read before'; 0 by the template 'total and deterministic' (their statements: YtckbckijpdnlaaaTotals.lean).
  GIVEN WITH THE SEED: the statements are not yours to turn. If you find one false, say at which input.
  Laid BY PROGRAM, IN A SANDBOX (cutbox-rows.mjs): the forced cells as the released guide's own fill.sh prints them over the translation 3459eb5363bb78f3… (all of the seat's roots in one cut). By AI agents, Wed Nov 11 2026. No macro, syntax, notation, axiom, sorry.
-/
import Derived.Test.YtckbckijpdnlaaaChecked
import GoSem.Claim
import GoSem.ClaimJoined
import GoSem.ClaimMapViews
import Derived.JoinedTies
import Derived.KernelRfl
namespace Go.Proofs.Ytckbckijpdnlaaa
/- THE CELL 'sum', in the pinned program and in every row, IS THE sha256 OF THE DUMP (.gsa) THAT YtckbckijpdnlaaaProg.lean LOADS. Nothing in Lean hashes anything: it is a label: what it is worth is what the hold of that sum in a sandbox is worth. -/
noncomputable def Try.pinned : Pinned := { name := "ytckbckijpdnlaaa", sum := "3459eb5363bb78f38e2d722d8282c5749c460b979924fc05bea60a1b5294b07d", checked := Try.checked }
namespace Rows
def none {H : Type} : Left H := { results := [], args := [] }

/-- 'stackyardlaw03.MemActs': WHATEVER THE INPUT: true; the input reads as it did. -/
def memActsSpec : ChangeSpec := { name := "memActs", fn := fun _ => fun
  | [d1, d2] => { results := [.lit (.bool true)], args := [d1, d2] }
  | _ => none }
def memActsRow : OpenClaim := { program := "ytckbckijpdnlaaa", sum := "3459eb5363bb78f38e2d722d8282c5749c460b979924fc05bea60a1b5294b07d", func := "stackyard/stackyardlaw03.MemActs", spec := "memActs", apart := false }
def MemActsSaid : Prop := memActsRow.holds Try.pinned (OpenSpec.ofChange memActsSpec)

/-- ITS FALSE NEIGHBOUR: 'it returns false'. Refute it at one input. -/
def memActsWrong : ChangeSpec := { name := "memActs", fn := fun _ => fun
  | [d1, d2] => { results := [.lit (.bool false)], args := [d1, d2] }
  | _ => none }
def MemActsWrongFalsely : Prop := memActsRow.holds Try.pinned (OpenSpec.ofChange memActsWrong)

/-- 'stackyardlaw03.MemReads': WHATEVER THE INPUT: true; the input reads as it did. -/
def memReadsSpec : ChangeSpec := { name := "memReads", fn := fun _ => fun
  | [d1, d2] => { results := [.lit (.bool true)], args := [d1, d2] }
  | _ => none }
def memReadsRow : OpenClaim := { program := "ytckbckijpdnlaaa", sum := "3459eb5363bb78f38e2d722d8282c5749c460b979924fc05bea60a1b5294b07d", func := "stackyard/stackyardlaw03.MemReads", spec := "memReads", apart := false }
def MemReadsSaid : Prop := memReadsRow.holds Try.pinned (OpenSpec.ofChange memReadsSpec)

/-- ITS FALSE NEIGHBOUR: 'it returns false'. Refute it at one input. -/
def memReadsWrong : ChangeSpec := { name := "memReads", fn := fun _ => fun
  | [d1, d2] => { results := [.lit (.bool false)], args := [d1, d2] }
  | _ => none }
def MemReadsWrongFalsely : Prop := memReadsRow.holds Try.pinned (OpenSpec.ofChange memReadsWrong)

/-- 'stackyardlaw06.ClaimOwns': WHATEVER THE INPUT: true; the input reads as it did. -/
def claimOwnsSpec : ChangeSpec := { name := "claimOwns", fn := fun _ => fun
  | [d1, d2, d3, d4] => { results := [.lit (.bool true)], args := [d1, d2, d3, d4] }
  | _ => none }
def claimOwnsRow : OpenClaim := { program := "ytckbckijpdnlaaa", sum := "3459eb5363bb78f38e2d722d8282c5749c460b979924fc05bea60a1b5294b07d", func := "stackyard/stackyardlaw06.ClaimOwns", spec := "claimOwns", apart := false }
def ClaimOwnsSaid : Prop := claimOwnsRow.holds Try.pinned (OpenSpec.ofChange claimOwnsSpec)

/-- ITS FALSE NEIGHBOUR: 'it returns false'. Refute it at one input. -/
def claimOwnsWrong : ChangeSpec := { name := "claimOwns", fn := fun _ => fun
  | [d1, d2, d3, d4] => { results := [.lit (.bool false)], args := [d1, d2, d3, d4] }
  | _ => none }
def ClaimOwnsWrongFalsely : Prop := claimOwnsRow.holds Try.pinned (OpenSpec.ofChange claimOwnsWrong)

/-- 'stackyardlaw09.TakeRaces': WHATEVER THE INPUT: true; the input reads as it did. -/
def takeRacesSpec : ChangeSpec := { name := "takeRaces", fn := fun _ => fun
  | [d1, d2, d3] => { results := [.lit (.bool true)], args := [d1, d2, d3] }
  | _ => none }
def takeRacesRow : OpenClaim := { program := "ytckbckijpdnlaaa", sum := "3459eb5363bb78f38e2d722d8282c5749c460b979924fc05bea60a1b5294b07d", func := "stackyard/stackyardlaw09.TakeRaces", spec := "takeRaces", apart := false }
def TakeRacesSaid : Prop := takeRacesRow.holds Try.pinned (OpenSpec.ofChange takeRacesSpec)

/-- ITS FALSE NEIGHBOUR: 'it returns false'. Refute it at one input. -/
def takeRacesWrong : ChangeSpec := { name := "takeRaces", fn := fun _ => fun
  | [d1, d2, d3] => { results := [.lit (.bool false)], args := [d1, d2, d3] }
  | _ => none }
def TakeRacesWrongFalsely : Prop := takeRacesRow.holds Try.pinned (OpenSpec.ofChange takeRacesWrong)

/-- 'stackyardlaw06.ClaimFinds': WHATEVER THE INPUT: true; the input reads as it did. -/
def claimFindsSpec : ChangeSpec := { name := "claimFinds", fn := fun _ => fun
  | [d1, d2, d3, d4, d5] => { results := [.lit (.bool true)], args := [d1, d2, d3, d4, d5] }
  | _ => none }
def claimFindsRow : OpenClaim := { program := "ytckbckijpdnlaaa", sum := "3459eb5363bb78f38e2d722d8282c5749c460b979924fc05bea60a1b5294b07d", func := "stackyard/stackyardlaw06.ClaimFinds", spec := "claimFinds", apart := false }
def ClaimFindsSaid : Prop := claimFindsRow.holds Try.pinned (OpenSpec.ofChange claimFindsSpec)

/-- ITS FALSE NEIGHBOUR: 'it returns false'. Refute it at one input. -/
def claimFindsWrong : ChangeSpec := { name := "claimFinds", fn := fun _ => fun
  | [d1, d2, d3, d4, d5] => { results := [.lit (.bool false)], args := [d1, d2, d3, d4, d5] }
  | _ => none }
def ClaimFindsWrongFalsely : Prop := claimFindsRow.holds Try.pinned (OpenSpec.ofChange claimFindsWrong)

/-- 'stackyardlaw09.TakeSteps': WHATEVER THE INPUT: true; the input reads as it did. -/
def takeStepsSpec : ChangeSpec := { name := "takeSteps", fn := fun _ => fun
  | [d1, d2, d3, d4, d5, d6, d7] => { results := [.lit (.bool true)], args := [d1, d2, d3, d4, d5, d6, d7] }
  | _ => none }
def takeStepsRow : OpenClaim := { program := "ytckbckijpdnlaaa", sum := "3459eb5363bb78f38e2d722d8282c5749c460b979924fc05bea60a1b5294b07d", func := "stackyard/stackyardlaw09.TakeSteps", spec := "takeSteps", apart := false }
def TakeStepsSaid : Prop := takeStepsRow.holds Try.pinned (OpenSpec.ofChange takeStepsSpec)

/-- ITS FALSE NEIGHBOUR: 'it returns false'. Refute it at one input. -/
def takeStepsWrong : ChangeSpec := { name := "takeSteps", fn := fun _ => fun
  | [d1, d2, d3, d4, d5, d6, d7] => { results := [.lit (.bool false)], args := [d1, d2, d3, d4, d5, d6, d7] }
  | _ => none }
def TakeStepsWrongFalsely : Prop := takeStepsRow.holds Try.pinned (OpenSpec.ofChange takeStepsWrong)

/-- 'stackyardlaw05.TickBefore': WHATEVER THE INPUT: true; the input reads as it did. -/
def tickBeforeSpec : ChangeSpec := { name := "tickBefore", fn := fun _ => fun
  | [d1, d2, d3, d4, d5] => { results := [.lit (.bool true)], args := [d1, d2, d3, d4, d5] }
  | _ => none }
def tickBeforeRow : OpenClaim := { program := "ytckbckijpdnlaaa", sum := "3459eb5363bb78f38e2d722d8282c5749c460b979924fc05bea60a1b5294b07d", func := "stackyard/stackyardlaw05.TickBefore", spec := "tickBefore", apart := false }
def TickBeforeSaid : Prop := tickBeforeRow.holds Try.pinned (OpenSpec.ofChange tickBeforeSpec)

/-- ITS FALSE NEIGHBOUR: 'it returns false'. Refute it at one input. -/
def tickBeforeWrong : ChangeSpec := { name := "tickBefore", fn := fun _ => fun
  | [d1, d2, d3, d4, d5] => { results := [.lit (.bool false)], args := [d1, d2, d3, d4, d5] }
  | _ => none }
def TickBeforeWrongFalsely : Prop := tickBeforeRow.holds Try.pinned (OpenSpec.ofChange tickBeforeWrong)

/-- 'stackyardlaw10.PutMany': WHATEVER THE INPUT: true; the input reads as it did. -/
def putManySpec : ChangeSpec := { name := "putMany", fn := fun _ => fun
  | [d1, d2, d3, d4] => { results := [.lit (.bool true)], args := [d1, d2, d3, d4] }
  | _ => none }
def putManyRow : OpenClaim := { program := "ytckbckijpdnlaaa", sum := "3459eb5363bb78f38e2d722d8282c5749c460b979924fc05bea60a1b5294b07d", func := "stackyard/stackyardlaw10.PutMany", spec := "putMany", apart := false }
def PutManySaid : Prop := putManyRow.holds Try.pinned (OpenSpec.ofChange putManySpec)

/-- ITS FALSE NEIGHBOUR: 'it returns false'. Refute it at one input. -/
def putManyWrong : ChangeSpec := { name := "putMany", fn := fun _ => fun
  | [d1, d2, d3, d4] => { results := [.lit (.bool false)], args := [d1, d2, d3, d4] }
  | _ => none }
def PutManyWrongFalsely : Prop := putManyRow.holds Try.pinned (OpenSpec.ofChange putManyWrong)

/-- 'stackyardlaw10.PutMost': WHATEVER THE INPUT: true; the input reads as it did. -/
def putMostSpec : ChangeSpec := { name := "putMost", fn := fun _ => fun
  | [d1, d2, d3, d4, d5, d6, d7] => { results := [.lit (.bool true)], args := [d1, d2, d3, d4, d5, d6, d7] }
  | _ => none }
def putMostRow : OpenClaim := { program := "ytckbckijpdnlaaa", sum := "3459eb5363bb78f38e2d722d8282c5749c460b979924fc05bea60a1b5294b07d", func := "stackyard/stackyardlaw10.PutMost", spec := "putMost", apart := false }
def PutMostSaid : Prop := putMostRow.holds Try.pinned (OpenSpec.ofChange putMostSpec)

/-- ITS FALSE NEIGHBOUR: 'it returns false'. Refute it at one input. -/
def putMostWrong : ChangeSpec := { name := "putMost", fn := fun _ => fun
  | [d1, d2, d3, d4, d5, d6, d7] => { results := [.lit (.bool false)], args := [d1, d2, d3, d4, d5, d6, d7] }
  | _ => none }
def PutMostWrongFalsely : Prop := putMostRow.holds Try.pinned (OpenSpec.ofChange putMostWrong)

/-- 'stackyardlaw10.PutAgain': WHATEVER THE INPUT: true; the input reads as it did. -/
def putAgainSpec : ChangeSpec := { name := "putAgain", fn := fun _ => fun
  | [d1, d2, d3] => { results := [.lit (.bool true)], args := [d1, d2, d3] }
  | _ => none }
def putAgainRow : OpenClaim := { program := "ytckbckijpdnlaaa", sum := "3459eb5363bb78f38e2d722d8282c5749c460b979924fc05bea60a1b5294b07d", func := "stackyard/stackyardlaw10.PutAgain", spec := "putAgain", apart := false }
def PutAgainSaid : Prop := putAgainRow.holds Try.pinned (OpenSpec.ofChange putAgainSpec)

/-- ITS FALSE NEIGHBOUR: 'it returns false'. Refute it at one input. -/
def putAgainWrong : ChangeSpec := { name := "putAgain", fn := fun _ => fun
  | [d1, d2, d3] => { results := [.lit (.bool false)], args := [d1, d2, d3] }
  | _ => none }
def PutAgainWrongFalsely : Prop := putAgainRow.holds Try.pinned (OpenSpec.ofChange putAgainWrong)

/-- 'stackyardlaw10.PutAlone': WHATEVER THE INPUT: true; the input reads as it did. -/
def putAloneSpec : ChangeSpec := { name := "putAlone", fn := fun _ => fun
  | [d1, d2, d3, d4, d5, d6] => { results := [.lit (.bool true)], args := [d1, d2, d3, d4, d5, d6] }
  | _ => none }
def putAloneRow : OpenClaim := { program := "ytckbckijpdnlaaa", sum := "3459eb5363bb78f38e2d722d8282c5749c460b979924fc05bea60a1b5294b07d", func := "stackyard/stackyardlaw10.PutAlone", spec := "putAlone", apart := false }
def PutAloneSaid : Prop := putAloneRow.holds Try.pinned (OpenSpec.ofChange putAloneSpec)

/-- ITS FALSE NEIGHBOUR: 'it returns false'. Refute it at one input. -/
def putAloneWrong : ChangeSpec := { name := "putAlone", fn := fun _ => fun
  | [d1, d2, d3, d4, d5, d6] => { results := [.lit (.bool false)], args := [d1, d2, d3, d4, d5, d6] }
  | _ => none }
def PutAloneWrongFalsely : Prop := putAloneRow.holds Try.pinned (OpenSpec.ofChange putAloneWrong)

/-- 'stackyardlaw10.PutSteps': WHATEVER THE INPUT: true; the input reads as it did. -/
def putStepsSpec : ChangeSpec := { name := "putSteps", fn := fun _ => fun
  | [d1, d2, d3, d4, d5, d6, d7, d8, d9, d10] => { results := [.lit (.bool true)], args := [d1, d2, d3, d4, d5, d6, d7, d8, d9, d10] }
  | _ => none }
def putStepsRow : OpenClaim := { program := "ytckbckijpdnlaaa", sum := "3459eb5363bb78f38e2d722d8282c5749c460b979924fc05bea60a1b5294b07d", func := "stackyard/stackyardlaw10.PutSteps", spec := "putSteps", apart := false }
def PutStepsSaid : Prop := putStepsRow.holds Try.pinned (OpenSpec.ofChange putStepsSpec)

/-- ITS FALSE NEIGHBOUR: 'it returns false'. Refute it at one input. -/
def putStepsWrong : ChangeSpec := { name := "putSteps", fn := fun _ => fun
  | [d1, d2, d3, d4, d5, d6, d7, d8, d9, d10] => { results := [.lit (.bool false)], args := [d1, d2, d3, d4, d5, d6, d7, d8, d9, d10] }
  | _ => none }
def PutStepsWrongFalsely : Prop := putStepsRow.holds Try.pinned (OpenSpec.ofChange putStepsWrong)

/-- 'stackyardlaw10.PutFull': WHATEVER THE INPUT: true; the input reads as it did. -/
def putFullSpec : ChangeSpec := { name := "putFull", fn := fun _ => fun
  | [d1, d2, d3, d4, d5, d6] => { results := [.lit (.bool true)], args := [d1, d2, d3, d4, d5, d6] }
  | _ => none }
def putFullRow : OpenClaim := { program := "ytckbckijpdnlaaa", sum := "3459eb5363bb78f38e2d722d8282c5749c460b979924fc05bea60a1b5294b07d", func := "stackyard/stackyardlaw10.PutFull", spec := "putFull", apart := false }
def PutFullSaid : Prop := putFullRow.holds Try.pinned (OpenSpec.ofChange putFullSpec)

/-- ITS FALSE NEIGHBOUR: 'it returns false'. Refute it at one input. -/
def putFullWrong : ChangeSpec := { name := "putFull", fn := fun _ => fun
  | [d1, d2, d3, d4, d5, d6] => { results := [.lit (.bool false)], args := [d1, d2, d3, d4, d5, d6] }
  | _ => none }
def PutFullWrongFalsely : Prop := putFullRow.holds Try.pinned (OpenSpec.ofChange putFullWrong)

/- THE SECOND FORM. 'bulk': how many values and letters a reading holds, each counted each time it is reached (what is shared counts as often as it is met; a slice's spare places count too). A statement '..UptoSaid' is the law's where the arguments, and the package variables that the reading takes, are together of bulk at most 1048576: NARROWER than '..Said'. Prove '..Said' where nothing that the law and all that it calls make is longer than what came in: it says more and counts as full. Else prove '..UptoSaid'. A law counts once. -/
mutual
def uptoBulk {H : Type} : DataW H → Nat
  | .lit (.string bytes) => bytes.length + 1
  | .lit _ => 1
  | .nil => 1
  | .ptr d => uptoBulk d + 1
  | .slice elems spare => uptoBulkAll elems + uptoBulkAll spare + 1
  | .agg parts => uptoBulkAll parts + 1
  | .iface _ d => uptoBulk d + 1
  | .map entries => uptoBulkEntries entries + 1
  | .held _ => 1
def uptoBulkAll {H : Type} : List (DataW H) → Nat
  | [] => 0
  | d :: r => uptoBulk d + uptoBulkAll r
def uptoBulkEntries {H : Type} : List (Lit × DataW H) → Nat
  | [] => 0
  | x :: r => uptoBulkEntry x + uptoBulkEntries r
def uptoBulkEntry {H : Type} : Lit × DataW H → Nat
  | (.string bytes, d) => bytes.length + uptoBulk d + 1
  | (_, d) => uptoBulk d + 1
 end
def uptoSmall : (H : Type) → List (DataW H) → Bool := fun _ ds => decide (uptoBulkAll ds ≤ 1048576)
def OpenSpec.upto (s : _root_.Go.ChangeSpec) : _root_.Go.OpenSpec := { _root_.Go.OpenSpec.ofChange s with cond := some uptoSmall }

/-- 'stackyardlaw03.MemActs', WHERE WHAT IT READS IS OF BULK AT MOST 1048576: true; the input reads as it did. -/
def memActsUptoRow : OpenClaim := { program := "ytckbckijpdnlaaa", sum := "3459eb5363bb78f38e2d722d8282c5749c460b979924fc05bea60a1b5294b07d", func := "stackyard/stackyardlaw03.MemActs", spec := "memActs", apart := false, narrowed := true }
def MemActsUptoSaid : Prop := memActsUptoRow.holds Try.pinned (OpenSpec.upto memActsSpec)

/-- 'stackyardlaw03.MemReads', WHERE WHAT IT READS IS OF BULK AT MOST 1048576: true; the input reads as it did. -/
def memReadsUptoRow : OpenClaim := { program := "ytckbckijpdnlaaa", sum := "3459eb5363bb78f38e2d722d8282c5749c460b979924fc05bea60a1b5294b07d", func := "stackyard/stackyardlaw03.MemReads", spec := "memReads", apart := false, narrowed := true }
def MemReadsUptoSaid : Prop := memReadsUptoRow.holds Try.pinned (OpenSpec.upto memReadsSpec)

/-- 'stackyardlaw06.ClaimOwns', WHERE WHAT IT READS IS OF BULK AT MOST 1048576: true; the input reads as it did. -/
def claimOwnsUptoRow : OpenClaim := { program := "ytckbckijpdnlaaa", sum := "3459eb5363bb78f38e2d722d8282c5749c460b979924fc05bea60a1b5294b07d", func := "stackyard/stackyardlaw06.ClaimOwns", spec := "claimOwns", apart := false, narrowed := true }
def ClaimOwnsUptoSaid : Prop := claimOwnsUptoRow.holds Try.pinned (OpenSpec.upto claimOwnsSpec)

/-- 'stackyardlaw09.TakeRaces', WHERE WHAT IT READS IS OF BULK AT MOST 1048576: true; the input reads as it did. -/
def takeRacesUptoRow : OpenClaim := { program := "ytckbckijpdnlaaa", sum := "3459eb5363bb78f38e2d722d8282c5749c460b979924fc05bea60a1b5294b07d", func := "stackyard/stackyardlaw09.TakeRaces", spec := "takeRaces", apart := false, narrowed := true }
def TakeRacesUptoSaid : Prop := takeRacesUptoRow.holds Try.pinned (OpenSpec.upto takeRacesSpec)

/-- 'stackyardlaw06.ClaimFinds', WHERE WHAT IT READS IS OF BULK AT MOST 1048576: true; the input reads as it did. -/
def claimFindsUptoRow : OpenClaim := { program := "ytckbckijpdnlaaa", sum := "3459eb5363bb78f38e2d722d8282c5749c460b979924fc05bea60a1b5294b07d", func := "stackyard/stackyardlaw06.ClaimFinds", spec := "claimFinds", apart := false, narrowed := true }
def ClaimFindsUptoSaid : Prop := claimFindsUptoRow.holds Try.pinned (OpenSpec.upto claimFindsSpec)

/-- 'stackyardlaw09.TakeSteps', WHERE WHAT IT READS IS OF BULK AT MOST 1048576: true; the input reads as it did. -/
def takeStepsUptoRow : OpenClaim := { program := "ytckbckijpdnlaaa", sum := "3459eb5363bb78f38e2d722d8282c5749c460b979924fc05bea60a1b5294b07d", func := "stackyard/stackyardlaw09.TakeSteps", spec := "takeSteps", apart := false, narrowed := true }
def TakeStepsUptoSaid : Prop := takeStepsUptoRow.holds Try.pinned (OpenSpec.upto takeStepsSpec)

/-- 'stackyardlaw05.TickBefore', WHERE WHAT IT READS IS OF BULK AT MOST 1048576: true; the input reads as it did. -/
def tickBeforeUptoRow : OpenClaim := { program := "ytckbckijpdnlaaa", sum := "3459eb5363bb78f38e2d722d8282c5749c460b979924fc05bea60a1b5294b07d", func := "stackyard/stackyardlaw05.TickBefore", spec := "tickBefore", apart := false, narrowed := true }
def TickBeforeUptoSaid : Prop := tickBeforeUptoRow.holds Try.pinned (OpenSpec.upto tickBeforeSpec)

/-- 'stackyardlaw10.PutMany', WHERE WHAT IT READS IS OF BULK AT MOST 1048576: true; the input reads as it did. -/
def putManyUptoRow : OpenClaim := { program := "ytckbckijpdnlaaa", sum := "3459eb5363bb78f38e2d722d8282c5749c460b979924fc05bea60a1b5294b07d", func := "stackyard/stackyardlaw10.PutMany", spec := "putMany", apart := false, narrowed := true }
def PutManyUptoSaid : Prop := putManyUptoRow.holds Try.pinned (OpenSpec.upto putManySpec)

/-- 'stackyardlaw10.PutMost', WHERE WHAT IT READS IS OF BULK AT MOST 1048576: true; the input reads as it did. -/
def putMostUptoRow : OpenClaim := { program := "ytckbckijpdnlaaa", sum := "3459eb5363bb78f38e2d722d8282c5749c460b979924fc05bea60a1b5294b07d", func := "stackyard/stackyardlaw10.PutMost", spec := "putMost", apart := false, narrowed := true }
def PutMostUptoSaid : Prop := putMostUptoRow.holds Try.pinned (OpenSpec.upto putMostSpec)

/-- 'stackyardlaw10.PutAgain', WHERE WHAT IT READS IS OF BULK AT MOST 1048576: true; the input reads as it did. -/
def putAgainUptoRow : OpenClaim := { program := "ytckbckijpdnlaaa", sum := "3459eb5363bb78f38e2d722d8282c5749c460b979924fc05bea60a1b5294b07d", func := "stackyard/stackyardlaw10.PutAgain", spec := "putAgain", apart := false, narrowed := true }
def PutAgainUptoSaid : Prop := putAgainUptoRow.holds Try.pinned (OpenSpec.upto putAgainSpec)

/-- 'stackyardlaw10.PutAlone', WHERE WHAT IT READS IS OF BULK AT MOST 1048576: true; the input reads as it did. -/
def putAloneUptoRow : OpenClaim := { program := "ytckbckijpdnlaaa", sum := "3459eb5363bb78f38e2d722d8282c5749c460b979924fc05bea60a1b5294b07d", func := "stackyard/stackyardlaw10.PutAlone", spec := "putAlone", apart := false, narrowed := true }
def PutAloneUptoSaid : Prop := putAloneUptoRow.holds Try.pinned (OpenSpec.upto putAloneSpec)

/-- 'stackyardlaw10.PutSteps', WHERE WHAT IT READS IS OF BULK AT MOST 1048576: true; the input reads as it did. -/
def putStepsUptoRow : OpenClaim := { program := "ytckbckijpdnlaaa", sum := "3459eb5363bb78f38e2d722d8282c5749c460b979924fc05bea60a1b5294b07d", func := "stackyard/stackyardlaw10.PutSteps", spec := "putSteps", apart := false, narrowed := true }
def PutStepsUptoSaid : Prop := putStepsUptoRow.holds Try.pinned (OpenSpec.upto putStepsSpec)

/-- 'stackyardlaw10.PutFull', WHERE WHAT IT READS IS OF BULK AT MOST 1048576: true; the input reads as it did. -/
def putFullUptoRow : OpenClaim := { program := "ytckbckijpdnlaaa", sum := "3459eb5363bb78f38e2d722d8282c5749c460b979924fc05bea60a1b5294b07d", func := "stackyard/stackyardlaw10.PutFull", spec := "putFull", apart := false, narrowed := true }
def PutFullUptoSaid : Prop := putFullUptoRow.holds Try.pinned (OpenSpec.upto putFullSpec)

end Rows
end Go.Proofs.Ytckbckijpdnlaaa
