/-
  No cell of these rows narrows 'for every input' (looked for: loops, veiled, ifaces, maps, wideKeys, modest, calm, conditions, laid).
  DERIVED. THE GIVEN ROWS OF THIS SEAT. 15 by the template 'for every input the law returns true; each argument reads behind the call as it read before'; 0 by the template 'total and deterministic' (their statements: YtlimmmnpcomfjaaTotals.lean).
  GIVEN WITH THE SEED: the statements are not yours to turn. If you find one false, say at which input.
  Laid BY PROGRAM, IN A SANDBOX (cutbox-rows.mjs): the forced cells as the released guide's own fill.sh prints them over the translation 938b3038f8124094… (all of the seat's roots in one cut). By AI agents, Wed Nov 11 2026. No macro, syntax, notation, axiom, sorry.
-/
import Derived.Test.YtlimmmnpcomfjaaChecked
import GoSem.Claim
import GoSem.ClaimJoined
import GoSem.ClaimMapViews
import Derived.JoinedTies
import Derived.KernelRfl
namespace Go.Proofs.Ytlimmmnpcomfjaa
/- THE CELL 'sum', in the pinned program and in every row, IS THE sha256 OF THE DUMP (.gsa) THAT YtlimmmnpcomfjaaProg.lean LOADS. Nothing in Lean hashes anything: it is a label: what it is worth is what the hold of that sum in a sandbox is worth. -/
noncomputable def Try.pinned : Pinned := { name := "ytlimmmnpcomfjaa", sum := "938b3038f812409441dc3f5107b8f3540dbf3b345a8b035444d76f8bc9ec8a97", checked := Try.checked }
namespace Rows
def none {H : Type} : Left H := { results := [], args := [] }

/-- 'stackyardlaw03.MemSums': WHATEVER THE INPUT: true; the input reads as it did. -/
def memSumsSpec : ChangeSpec := { name := "memSums", fn := fun _ => fun
  | [d] => { results := [.lit (.bool true)], args := [d] }
  | _ => none }
def memSumsRow : OpenClaim := { program := "ytlimmmnpcomfjaa", sum := "938b3038f812409441dc3f5107b8f3540dbf3b345a8b035444d76f8bc9ec8a97", func := "stackyard/stackyardlaw03.MemSums", spec := "memSums", apart := false }
def MemSumsSaid : Prop := memSumsRow.holds Try.pinned (OpenSpec.ofChange memSumsSpec)

/-- ITS FALSE NEIGHBOUR: 'it returns false'. Refute it at one input. -/
def memSumsWrong : ChangeSpec := { name := "memSums", fn := fun _ => fun
  | [d] => { results := [.lit (.bool false)], args := [d] }
  | _ => none }
def MemSumsWrongFalsely : Prop := memSumsRow.holds Try.pinned (OpenSpec.ofChange memSumsWrong)

/-- 'stackyardlaw03.MemSizes': WHATEVER THE INPUT: true; the input reads as it did. -/
def memSizesSpec : ChangeSpec := { name := "memSizes", fn := fun _ => fun
  | [d] => { results := [.lit (.bool true)], args := [d] }
  | _ => none }
def memSizesRow : OpenClaim := { program := "ytlimmmnpcomfjaa", sum := "938b3038f812409441dc3f5107b8f3540dbf3b345a8b035444d76f8bc9ec8a97", func := "stackyard/stackyardlaw03.MemSizes", spec := "memSizes", apart := false }
def MemSizesSaid : Prop := memSizesRow.holds Try.pinned (OpenSpec.ofChange memSizesSpec)

/-- ITS FALSE NEIGHBOUR: 'it returns false'. Refute it at one input. -/
def memSizesWrong : ChangeSpec := { name := "memSizes", fn := fun _ => fun
  | [d] => { results := [.lit (.bool false)], args := [d] }
  | _ => none }
def MemSizesWrongFalsely : Prop := memSizesRow.holds Try.pinned (OpenSpec.ofChange memSizesWrong)

/-- 'stackyardlaw03.MemRaces': WHATEVER THE INPUT: true; the input reads as it did. -/
def memRacesSpec : ChangeSpec := { name := "memRaces", fn := fun _ => fun
  | [d1, d2] => { results := [.lit (.bool true)], args := [d1, d2] }
  | _ => none }
def memRacesRow : OpenClaim := { program := "ytlimmmnpcomfjaa", sum := "938b3038f812409441dc3f5107b8f3540dbf3b345a8b035444d76f8bc9ec8a97", func := "stackyard/stackyardlaw03.MemRaces", spec := "memRaces", apart := false }
def MemRacesSaid : Prop := memRacesRow.holds Try.pinned (OpenSpec.ofChange memRacesSpec)

/-- ITS FALSE NEIGHBOUR: 'it returns false'. Refute it at one input. -/
def memRacesWrong : ChangeSpec := { name := "memRaces", fn := fun _ => fun
  | [d1, d2] => { results := [.lit (.bool false)], args := [d1, d2] }
  | _ => none }
def MemRacesWrongFalsely : Prop := memRacesRow.holds Try.pinned (OpenSpec.ofChange memRacesWrong)

/-- 'stackyardlaw03.MemWraps': WHATEVER THE INPUT: true; the input reads as it did. -/
def memWrapsSpec : ChangeSpec := { name := "memWraps", fn := fun _ => fun
  | [d1, d2] => { results := [.lit (.bool true)], args := [d1, d2] }
  | _ => none }
def memWrapsRow : OpenClaim := { program := "ytlimmmnpcomfjaa", sum := "938b3038f812409441dc3f5107b8f3540dbf3b345a8b035444d76f8bc9ec8a97", func := "stackyard/stackyardlaw03.MemWraps", spec := "memWraps", apart := false }
def MemWrapsSaid : Prop := memWrapsRow.holds Try.pinned (OpenSpec.ofChange memWrapsSpec)

/-- ITS FALSE NEIGHBOUR: 'it returns false'. Refute it at one input. -/
def memWrapsWrong : ChangeSpec := { name := "memWraps", fn := fun _ => fun
  | [d1, d2] => { results := [.lit (.bool false)], args := [d1, d2] }
  | _ => none }
def MemWrapsWrongFalsely : Prop := memWrapsRow.holds Try.pinned (OpenSpec.ofChange memWrapsWrong)

/-- 'stackyardlaw03.MemApart': WHATEVER THE INPUT: true; the input reads as it did. -/
def memApartSpec : ChangeSpec := { name := "memApart", fn := fun _ => fun
  | [d1, d2, d3] => { results := [.lit (.bool true)], args := [d1, d2, d3] }
  | _ => none }
def memApartRow : OpenClaim := { program := "ytlimmmnpcomfjaa", sum := "938b3038f812409441dc3f5107b8f3540dbf3b345a8b035444d76f8bc9ec8a97", func := "stackyard/stackyardlaw03.MemApart", spec := "memApart", apart := false }
def MemApartSaid : Prop := memApartRow.holds Try.pinned (OpenSpec.ofChange memApartSpec)

/-- ITS FALSE NEIGHBOUR: 'it returns false'. Refute it at one input. -/
def memApartWrong : ChangeSpec := { name := "memApart", fn := fun _ => fun
  | [d1, d2, d3] => { results := [.lit (.bool false)], args := [d1, d2, d3] }
  | _ => none }
def MemApartWrongFalsely : Prop := memApartRow.holds Try.pinned (OpenSpec.ofChange memApartWrong)

/-- 'stackyardlaw01.StampOrder': WHATEVER THE INPUT: true; the input reads as it did. -/
def stampOrderSpec : ChangeSpec := { name := "stampOrder", fn := fun _ => fun
  | [d1, d2, d3] => { results := [.lit (.bool true)], args := [d1, d2, d3] }
  | _ => none }
def stampOrderRow : OpenClaim := { program := "ytlimmmnpcomfjaa", sum := "938b3038f812409441dc3f5107b8f3540dbf3b345a8b035444d76f8bc9ec8a97", func := "stackyard/stackyardlaw01.StampOrder", spec := "stampOrder", apart := false }
def StampOrderSaid : Prop := stampOrderRow.holds Try.pinned (OpenSpec.ofChange stampOrderSpec)

/-- ITS FALSE NEIGHBOUR: 'it returns false'. Refute it at one input. -/
def stampOrderWrong : ChangeSpec := { name := "stampOrder", fn := fun _ => fun
  | [d1, d2, d3] => { results := [.lit (.bool false)], args := [d1, d2, d3] }
  | _ => none }
def StampOrderWrongFalsely : Prop := stampOrderRow.holds Try.pinned (OpenSpec.ofChange stampOrderWrong)

/-- 'stackyardlaw01.StampLeast': WHATEVER THE INPUT: true; the input reads as it did. -/
def stampLeastSpec : ChangeSpec := { name := "stampLeast", fn := fun _ => fun
  | [d] => { results := [.lit (.bool true)], args := [d] }
  | _ => none }
def stampLeastRow : OpenClaim := { program := "ytlimmmnpcomfjaa", sum := "938b3038f812409441dc3f5107b8f3540dbf3b345a8b035444d76f8bc9ec8a97", func := "stackyard/stackyardlaw01.StampLeast", spec := "stampLeast", apart := false }
def StampLeastSaid : Prop := stampLeastRow.holds Try.pinned (OpenSpec.ofChange stampLeastSpec)

/-- ITS FALSE NEIGHBOUR: 'it returns false'. Refute it at one input. -/
def stampLeastWrong : ChangeSpec := { name := "stampLeast", fn := fun _ => fun
  | [d] => { results := [.lit (.bool false)], args := [d] }
  | _ => none }
def StampLeastWrongFalsely : Prop := stampLeastRow.holds Try.pinned (OpenSpec.ofChange stampLeastWrong)

/-- 'stackyardlaw01.StampSorts': WHATEVER THE INPUT: true; the input reads as it did. -/
def stampSortsSpec : ChangeSpec := { name := "stampSorts", fn := fun _ => fun
  | [d] => { results := [.lit (.bool true)], args := [d] }
  | _ => none }
def stampSortsRow : OpenClaim := { program := "ytlimmmnpcomfjaa", sum := "938b3038f812409441dc3f5107b8f3540dbf3b345a8b035444d76f8bc9ec8a97", func := "stackyard/stackyardlaw01.StampSorts", spec := "stampSorts", apart := false }
def StampSortsSaid : Prop := stampSortsRow.holds Try.pinned (OpenSpec.ofChange stampSortsSpec)

/-- ITS FALSE NEIGHBOUR: 'it returns false'. Refute it at one input. -/
def stampSortsWrong : ChangeSpec := { name := "stampSorts", fn := fun _ => fun
  | [d] => { results := [.lit (.bool false)], args := [d] }
  | _ => none }
def StampSortsWrongFalsely : Prop := stampSortsRow.holds Try.pinned (OpenSpec.ofChange stampSortsWrong)

/-- 'stackyardlaw01.StampJoins': WHATEVER THE INPUT: true; the input reads as it did. -/
def stampJoinsSpec : ChangeSpec := { name := "stampJoins", fn := fun _ => fun
  | [d1, d2, d3] => { results := [.lit (.bool true)], args := [d1, d2, d3] }
  | _ => none }
def stampJoinsRow : OpenClaim := { program := "ytlimmmnpcomfjaa", sum := "938b3038f812409441dc3f5107b8f3540dbf3b345a8b035444d76f8bc9ec8a97", func := "stackyard/stackyardlaw01.StampJoins", spec := "stampJoins", apart := false }
def StampJoinsSaid : Prop := stampJoinsRow.holds Try.pinned (OpenSpec.ofChange stampJoinsSpec)

/-- ITS FALSE NEIGHBOUR: 'it returns false'. Refute it at one input. -/
def stampJoinsWrong : ChangeSpec := { name := "stampJoins", fn := fun _ => fun
  | [d1, d2, d3] => { results := [.lit (.bool false)], args := [d1, d2, d3] }
  | _ => none }
def StampJoinsWrongFalsely : Prop := stampJoinsRow.holds Try.pinned (OpenSpec.ofChange stampJoinsWrong)

/-- 'stackyardlaw01.StampPairs': WHATEVER THE INPUT: true; the input reads as it did. -/
def stampPairsSpec : ChangeSpec := { name := "stampPairs", fn := fun _ => fun
  | [d1, d2] => { results := [.lit (.bool true)], args := [d1, d2] }
  | _ => none }
def stampPairsRow : OpenClaim := { program := "ytlimmmnpcomfjaa", sum := "938b3038f812409441dc3f5107b8f3540dbf3b345a8b035444d76f8bc9ec8a97", func := "stackyard/stackyardlaw01.StampPairs", spec := "stampPairs", apart := false }
def StampPairsSaid : Prop := stampPairsRow.holds Try.pinned (OpenSpec.ofChange stampPairsSpec)

/-- ITS FALSE NEIGHBOUR: 'it returns false'. Refute it at one input. -/
def stampPairsWrong : ChangeSpec := { name := "stampPairs", fn := fun _ => fun
  | [d1, d2] => { results := [.lit (.bool false)], args := [d1, d2] }
  | _ => none }
def StampPairsWrongFalsely : Prop := stampPairsRow.holds Try.pinned (OpenSpec.ofChange stampPairsWrong)

/-- 'stackyardlaw01.StampRights': WHATEVER THE INPUT: true; the input reads as it did. -/
def stampRightsSpec : ChangeSpec := { name := "stampRights", fn := fun _ => fun
  | [d1, d2] => { results := [.lit (.bool true)], args := [d1, d2] }
  | _ => none }
def stampRightsRow : OpenClaim := { program := "ytlimmmnpcomfjaa", sum := "938b3038f812409441dc3f5107b8f3540dbf3b345a8b035444d76f8bc9ec8a97", func := "stackyard/stackyardlaw01.StampRights", spec := "stampRights", apart := false }
def StampRightsSaid : Prop := stampRightsRow.holds Try.pinned (OpenSpec.ofChange stampRightsSpec)

/-- ITS FALSE NEIGHBOUR: 'it returns false'. Refute it at one input. -/
def stampRightsWrong : ChangeSpec := { name := "stampRights", fn := fun _ => fun
  | [d1, d2] => { results := [.lit (.bool false)], args := [d1, d2] }
  | _ => none }
def StampRightsWrongFalsely : Prop := stampRightsRow.holds Try.pinned (OpenSpec.ofChange stampRightsWrong)

/-- 'stackyardlaw01.StampPoints': WHATEVER THE INPUT: true; the input reads as it did. -/
def stampPointsSpec : ChangeSpec := { name := "stampPoints", fn := fun _ => fun
  | [d1, d2] => { results := [.lit (.bool true)], args := [d1, d2] }
  | _ => none }
def stampPointsRow : OpenClaim := { program := "ytlimmmnpcomfjaa", sum := "938b3038f812409441dc3f5107b8f3540dbf3b345a8b035444d76f8bc9ec8a97", func := "stackyard/stackyardlaw01.StampPoints", spec := "stampPoints", apart := false }
def StampPointsSaid : Prop := stampPointsRow.holds Try.pinned (OpenSpec.ofChange stampPointsSpec)

/-- ITS FALSE NEIGHBOUR: 'it returns false'. Refute it at one input. -/
def stampPointsWrong : ChangeSpec := { name := "stampPoints", fn := fun _ => fun
  | [d1, d2] => { results := [.lit (.bool false)], args := [d1, d2] }
  | _ => none }
def StampPointsWrongFalsely : Prop := stampPointsRow.holds Try.pinned (OpenSpec.ofChange stampPointsWrong)

/-- 'stackyardlaw03.MemActs': WHATEVER THE INPUT: true; the input reads as it did. -/
def memActsSpec : ChangeSpec := { name := "memActs", fn := fun _ => fun
  | [d1, d2] => { results := [.lit (.bool true)], args := [d1, d2] }
  | _ => none }
def memActsRow : OpenClaim := { program := "ytlimmmnpcomfjaa", sum := "938b3038f812409441dc3f5107b8f3540dbf3b345a8b035444d76f8bc9ec8a97", func := "stackyard/stackyardlaw03.MemActs", spec := "memActs", apart := false }
def MemActsSaid : Prop := memActsRow.holds Try.pinned (OpenSpec.ofChange memActsSpec)

/-- ITS FALSE NEIGHBOUR: 'it returns false'. Refute it at one input. -/
def memActsWrong : ChangeSpec := { name := "memActs", fn := fun _ => fun
  | [d1, d2] => { results := [.lit (.bool false)], args := [d1, d2] }
  | _ => none }
def MemActsWrongFalsely : Prop := memActsRow.holds Try.pinned (OpenSpec.ofChange memActsWrong)

/-- 'stackyardlaw03.MemReads': WHATEVER THE INPUT: true; the input reads as it did. -/
def memReadsSpec : ChangeSpec := { name := "memReads", fn := fun _ => fun
  | [d1, d2] => { results := [.lit (.bool true)], args := [d1, d2] }
  | _ => none }
def memReadsRow : OpenClaim := { program := "ytlimmmnpcomfjaa", sum := "938b3038f812409441dc3f5107b8f3540dbf3b345a8b035444d76f8bc9ec8a97", func := "stackyard/stackyardlaw03.MemReads", spec := "memReads", apart := false }
def MemReadsSaid : Prop := memReadsRow.holds Try.pinned (OpenSpec.ofChange memReadsSpec)

/-- ITS FALSE NEIGHBOUR: 'it returns false'. Refute it at one input. -/
def memReadsWrong : ChangeSpec := { name := "memReads", fn := fun _ => fun
  | [d1, d2] => { results := [.lit (.bool false)], args := [d1, d2] }
  | _ => none }
def MemReadsWrongFalsely : Prop := memReadsRow.holds Try.pinned (OpenSpec.ofChange memReadsWrong)

/-- 'stackyardlaw03.MemBacks': WHATEVER THE INPUT: true; the input reads as it did. -/
def memBacksSpec : ChangeSpec := { name := "memBacks", fn := fun _ => fun
  | [d1, d2] => { results := [.lit (.bool true)], args := [d1, d2] }
  | _ => none }
def memBacksRow : OpenClaim := { program := "ytlimmmnpcomfjaa", sum := "938b3038f812409441dc3f5107b8f3540dbf3b345a8b035444d76f8bc9ec8a97", func := "stackyard/stackyardlaw03.MemBacks", spec := "memBacks", apart := false }
def MemBacksSaid : Prop := memBacksRow.holds Try.pinned (OpenSpec.ofChange memBacksSpec)

/-- ITS FALSE NEIGHBOUR: 'it returns false'. Refute it at one input. -/
def memBacksWrong : ChangeSpec := { name := "memBacks", fn := fun _ => fun
  | [d1, d2] => { results := [.lit (.bool false)], args := [d1, d2] }
  | _ => none }
def MemBacksWrongFalsely : Prop := memBacksRow.holds Try.pinned (OpenSpec.ofChange memBacksWrong)

/- THE SECOND FORM. 'bulk': how many values and letters a reading holds, each counted each time it is reached (what is shared counts as often as it is met; a slice's spare places count too). A statement '..UptoSaid' is the law's where the arguments, and the package variables that the reading takes, are together of bulk at most 1048576: NARROWER than '..Said'. Prove '..Said' where nothing that the law and all that it calls make is longer than what came in: it says more and counts as full. Else prove '..UptoSaid'. A law counts once. -/
mutual
def uptoBulk {H : Type} : DataW H → Nat
  | .lit (.string bytes) => bytes.length + 1
  | .lit _ => 1
  | .nil => 1
  | .ptr d => uptoBulk d + 1
  | .slice elems spare => uptoBulkAll elems + uptoBulkAll spare + 1
  | .agg parts => uptoBulkAll parts + 1
  | .iface _ d => uptoBulk d + 1
  | .map entries => uptoBulkEntries entries + 1
  | .held _ => 1
def uptoBulkAll {H : Type} : List (DataW H) → Nat
  | [] => 0
  | d :: r => uptoBulk d + uptoBulkAll r
def uptoBulkEntries {H : Type} : List (Lit × DataW H) → Nat
  | [] => 0
  | x :: r => uptoBulkEntry x + uptoBulkEntries r
def uptoBulkEntry {H : Type} : Lit × DataW H → Nat
  | (.string bytes, d) => bytes.length + uptoBulk d + 1
  | (_, d) => uptoBulk d + 1
 end
def uptoSmall : (H : Type) → List (DataW H) → Bool := fun _ ds => decide (uptoBulkAll ds ≤ 1048576)
def OpenSpec.upto (s : _root_.Go.ChangeSpec) : _root_.Go.OpenSpec := { _root_.Go.OpenSpec.ofChange s with cond := some uptoSmall }

/-- 'stackyardlaw03.MemSums', WHERE WHAT IT READS IS OF BULK AT MOST 1048576: true; the input reads as it did. -/
def memSumsUptoRow : OpenClaim := { program := "ytlimmmnpcomfjaa", sum := "938b3038f812409441dc3f5107b8f3540dbf3b345a8b035444d76f8bc9ec8a97", func := "stackyard/stackyardlaw03.MemSums", spec := "memSums", apart := false, narrowed := true }
def MemSumsUptoSaid : Prop := memSumsUptoRow.holds Try.pinned (OpenSpec.upto memSumsSpec)

/-- 'stackyardlaw03.MemSizes', WHERE WHAT IT READS IS OF BULK AT MOST 1048576: true; the input reads as it did. -/
def memSizesUptoRow : OpenClaim := { program := "ytlimmmnpcomfjaa", sum := "938b3038f812409441dc3f5107b8f3540dbf3b345a8b035444d76f8bc9ec8a97", func := "stackyard/stackyardlaw03.MemSizes", spec := "memSizes", apart := false, narrowed := true }
def MemSizesUptoSaid : Prop := memSizesUptoRow.holds Try.pinned (OpenSpec.upto memSizesSpec)

/-- 'stackyardlaw03.MemRaces', WHERE WHAT IT READS IS OF BULK AT MOST 1048576: true; the input reads as it did. -/
def memRacesUptoRow : OpenClaim := { program := "ytlimmmnpcomfjaa", sum := "938b3038f812409441dc3f5107b8f3540dbf3b345a8b035444d76f8bc9ec8a97", func := "stackyard/stackyardlaw03.MemRaces", spec := "memRaces", apart := false, narrowed := true }
def MemRacesUptoSaid : Prop := memRacesUptoRow.holds Try.pinned (OpenSpec.upto memRacesSpec)

/-- 'stackyardlaw03.MemWraps', WHERE WHAT IT READS IS OF BULK AT MOST 1048576: true; the input reads as it did. -/
def memWrapsUptoRow : OpenClaim := { program := "ytlimmmnpcomfjaa", sum := "938b3038f812409441dc3f5107b8f3540dbf3b345a8b035444d76f8bc9ec8a97", func := "stackyard/stackyardlaw03.MemWraps", spec := "memWraps", apart := false, narrowed := true }
def MemWrapsUptoSaid : Prop := memWrapsUptoRow.holds Try.pinned (OpenSpec.upto memWrapsSpec)

/-- 'stackyardlaw03.MemApart', WHERE WHAT IT READS IS OF BULK AT MOST 1048576: true; the input reads as it did. -/
def memApartUptoRow : OpenClaim := { program := "ytlimmmnpcomfjaa", sum := "938b3038f812409441dc3f5107b8f3540dbf3b345a8b035444d76f8bc9ec8a97", func := "stackyard/stackyardlaw03.MemApart", spec := "memApart", apart := false, narrowed := true }
def MemApartUptoSaid : Prop := memApartUptoRow.holds Try.pinned (OpenSpec.upto memApartSpec)

/-- 'stackyardlaw01.StampOrder', WHERE WHAT IT READS IS OF BULK AT MOST 1048576: true; the input reads as it did. -/
def stampOrderUptoRow : OpenClaim := { program := "ytlimmmnpcomfjaa", sum := "938b3038f812409441dc3f5107b8f3540dbf3b345a8b035444d76f8bc9ec8a97", func := "stackyard/stackyardlaw01.StampOrder", spec := "stampOrder", apart := false, narrowed := true }
def StampOrderUptoSaid : Prop := stampOrderUptoRow.holds Try.pinned (OpenSpec.upto stampOrderSpec)

/-- 'stackyardlaw01.StampLeast', WHERE WHAT IT READS IS OF BULK AT MOST 1048576: true; the input reads as it did. -/
def stampLeastUptoRow : OpenClaim := { program := "ytlimmmnpcomfjaa", sum := "938b3038f812409441dc3f5107b8f3540dbf3b345a8b035444d76f8bc9ec8a97", func := "stackyard/stackyardlaw01.StampLeast", spec := "stampLeast", apart := false, narrowed := true }
def StampLeastUptoSaid : Prop := stampLeastUptoRow.holds Try.pinned (OpenSpec.upto stampLeastSpec)

/-- 'stackyardlaw01.StampSorts', WHERE WHAT IT READS IS OF BULK AT MOST 1048576: true; the input reads as it did. -/
def stampSortsUptoRow : OpenClaim := { program := "ytlimmmnpcomfjaa", sum := "938b3038f812409441dc3f5107b8f3540dbf3b345a8b035444d76f8bc9ec8a97", func := "stackyard/stackyardlaw01.StampSorts", spec := "stampSorts", apart := false, narrowed := true }
def StampSortsUptoSaid : Prop := stampSortsUptoRow.holds Try.pinned (OpenSpec.upto stampSortsSpec)

/-- 'stackyardlaw01.StampJoins', WHERE WHAT IT READS IS OF BULK AT MOST 1048576: true; the input reads as it did. -/
def stampJoinsUptoRow : OpenClaim := { program := "ytlimmmnpcomfjaa", sum := "938b3038f812409441dc3f5107b8f3540dbf3b345a8b035444d76f8bc9ec8a97", func := "stackyard/stackyardlaw01.StampJoins", spec := "stampJoins", apart := false, narrowed := true }
def StampJoinsUptoSaid : Prop := stampJoinsUptoRow.holds Try.pinned (OpenSpec.upto stampJoinsSpec)

/-- 'stackyardlaw01.StampPairs', WHERE WHAT IT READS IS OF BULK AT MOST 1048576: true; the input reads as it did. -/
def stampPairsUptoRow : OpenClaim := { program := "ytlimmmnpcomfjaa", sum := "938b3038f812409441dc3f5107b8f3540dbf3b345a8b035444d76f8bc9ec8a97", func := "stackyard/stackyardlaw01.StampPairs", spec := "stampPairs", apart := false, narrowed := true }
def StampPairsUptoSaid : Prop := stampPairsUptoRow.holds Try.pinned (OpenSpec.upto stampPairsSpec)

/-- 'stackyardlaw01.StampRights', WHERE WHAT IT READS IS OF BULK AT MOST 1048576: true; the input reads as it did. -/
def stampRightsUptoRow : OpenClaim := { program := "ytlimmmnpcomfjaa", sum := "938b3038f812409441dc3f5107b8f3540dbf3b345a8b035444d76f8bc9ec8a97", func := "stackyard/stackyardlaw01.StampRights", spec := "stampRights", apart := false, narrowed := true }
def StampRightsUptoSaid : Prop := stampRightsUptoRow.holds Try.pinned (OpenSpec.upto stampRightsSpec)

/-- 'stackyardlaw01.StampPoints', WHERE WHAT IT READS IS OF BULK AT MOST 1048576: true; the input reads as it did. -/
def stampPointsUptoRow : OpenClaim := { program := "ytlimmmnpcomfjaa", sum := "938b3038f812409441dc3f5107b8f3540dbf3b345a8b035444d76f8bc9ec8a97", func := "stackyard/stackyardlaw01.StampPoints", spec := "stampPoints", apart := false, narrowed := true }
def StampPointsUptoSaid : Prop := stampPointsUptoRow.holds Try.pinned (OpenSpec.upto stampPointsSpec)

/-- 'stackyardlaw03.MemActs', WHERE WHAT IT READS IS OF BULK AT MOST 1048576: true; the input reads as it did. -/
def memActsUptoRow : OpenClaim := { program := "ytlimmmnpcomfjaa", sum := "938b3038f812409441dc3f5107b8f3540dbf3b345a8b035444d76f8bc9ec8a97", func := "stackyard/stackyardlaw03.MemActs", spec := "memActs", apart := false, narrowed := true }
def MemActsUptoSaid : Prop := memActsUptoRow.holds Try.pinned (OpenSpec.upto memActsSpec)

/-- 'stackyardlaw03.MemReads', WHERE WHAT IT READS IS OF BULK AT MOST 1048576: true; the input reads as it did. -/
def memReadsUptoRow : OpenClaim := { program := "ytlimmmnpcomfjaa", sum := "938b3038f812409441dc3f5107b8f3540dbf3b345a8b035444d76f8bc9ec8a97", func := "stackyard/stackyardlaw03.MemReads", spec := "memReads", apart := false, narrowed := true }
def MemReadsUptoSaid : Prop := memReadsUptoRow.holds Try.pinned (OpenSpec.upto memReadsSpec)

/-- 'stackyardlaw03.MemBacks', WHERE WHAT IT READS IS OF BULK AT MOST 1048576: true; the input reads as it did. -/
def memBacksUptoRow : OpenClaim := { program := "ytlimmmnpcomfjaa", sum := "938b3038f812409441dc3f5107b8f3540dbf3b345a8b035444d76f8bc9ec8a97", func := "stackyard/stackyardlaw03.MemBacks", spec := "memBacks", apart := false, narrowed := true }
def MemBacksUptoSaid : Prop := memBacksUptoRow.holds Try.pinned (OpenSpec.upto memBacksSpec)

end Rows
end Go.Proofs.Ytlimmmnpcomfjaa
