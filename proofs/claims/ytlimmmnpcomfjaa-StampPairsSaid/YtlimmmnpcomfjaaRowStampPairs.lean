/- The row of the law StampPairs: its statement out of the pure law and the printed walk. No condition. -/
import Derived.Test.YtlimmmnpcomfjaaRows
import Derived.Test.YtlimmmnpcomfjaaOwnStampPairs5
import Derived.Test.YtlimmmnpcomfjaaPureStampPairs
import Derived.Test.YtlimmmnpcomfjaaOwnFlat
import Derived.WalkKit
import Derived.ProofKit
import Derived.OpenShut
import Derived.ShutString
import Derived.ChangeOld
import Derived.Below
import Derived.SizedLaws
namespace Go.Proofs.Ytlimmmnpcomfjaa.stampPairs
open Go.ChangeShapes Go.WideShapes Go.ChangeAt Go.RowKit Go.Proofs.Ytlimmmnpcomfjaa.PStampPairs Go.Proofs.YtlimmmnpcomfjaaW.PrintWords Go.Proofs.YtlimmmnpcomfjaaW.PrintLast
open Go.ChangeMaps (open_string shut_string)
set_option linter.unusedVariables false
theorem own : ownKnob Try.prog.godebug = none := by kernel_rfl
theorem laidOut : laidOutB Try.prog = true := by kernel_rfl
theorem opnT44 {cs : List Value} (h0 : OwnFlat.All2 [.int .i64, .int .i64] cs) : ∃ (a0 : Int) (a1 : Int), cs = [.int .i64 a0, .int .i64 a1] ∧ (Lit.int .i64 a0).wf = true ∧ (Lit.int .i64 a1).wf = true := by
  obtain ⟨_, _, rfl, ⟨a0, rfl, w0⟩, h1⟩ := OwnFlat.All2.cons_inv h0
  obtain ⟨_, _, rfl, ⟨a1, rfl, w1⟩, h2⟩ := OwnFlat.All2.cons_inv h1
  obtain rfl := OwnFlat.All2.nil_inv h2
  exact ⟨a0, a1, rfl, w0, w1⟩
set_option maxRecDepth 100000 in
theorem lifted (os : Os) (started : os.Started) (H : Type) (enc : TypeId × Value → H) :
    ReturnsInHanded {} Try.checked os 12 .any (Rows.stampPairsSpec.pre6 enc Try.prog Try.f12 Rows.stampPairsRow.domain false) (Rows.stampPairsSpec.post enc Try.prog Try.f12 false true false false) := by
  refine returnsInHanded_of_change_sized (C := Try.checked) own started (by kernel_rfl) Try.func12
    (ChangeSpec.witness6 (enc := enc) (C := Try.checked) false ⟨#[], #[.agg #[.int .i64 0, .int .i64 0], .agg #[.int .i64 0, .int .i64 0]], []⟩ 8 (by kernel_rfl) (by kernel_rfl) (by kernel_rfl) (by kernel_rfl)) ?_
  intro W base args ds gs before hval0 hW hcnd hsz0 _
  have hsz : (DataW.weightsEach Try.prog (Try.f12.params.toList ++ Rows.stampPairsSpec.plain.varTypes Try.prog) (ds ++ gs)).all (· ≤ reachBytes) = true := hsz0
  have hval : ∀ (j : Nat) t v, Try.f12.params[j]? = some t → args[j]? = some v → Value.okWide Try.prog W .any base t v := hval0
  have hW' := hW
  obtain ⟨p, q, hA0, hV, rfl, hfz, hnd⟩ := hW
  have hA : DataW.TrodAll enc Try.prog W 0 (fun _ => true) true Try.f12.params.toList args.toList ds p := hA0
  rw [Try.params12] at hA hval hsz
  obtain ⟨v0, vs0, d0, ds0, p0, q0, hargs, rfl, rfl, h0, r0⟩ := trodAll_cons hA
  obtain ⟨v1, vs1, d1, ds1, p1, q1, rfl, rfl, rfl, h1, r1⟩ := trodAll_cons r0
  obtain ⟨rfl, rfl, rfl⟩ := trodAll_nil r1
  obtain rfl : args = #[v0, v1] := by cases args; simp_all
  obtain ⟨rfl, rfl⟩ := trodVars_none hV
  have k0 := h0
  have lt0 : ∀ x ∈ p0, x.block < W.heap.size := by obtain ⟨m, hm⟩ := k0; exact DataW.trod_lt m _ _ _ hm
  obtain ⟨cs0, rfl, o0⟩ := OwnFlat.open_struct Try.underlying44 (dep := 6) (ls := [.int .i64, .int .i64]) (by kernel_rfl) (hval 0 44 v0 rfl rfl) h0
  obtain ⟨a0_0, a0_1, rfl, wa0_0, wa0_1⟩ := opnT44 o0
  have k1 := h1
  have lt1 : ∀ x ∈ p1, x.block < W.heap.size := by obtain ⟨m, hm⟩ := k1; exact DataW.trod_lt m _ _ _ hm
  obtain ⟨cs1, rfl, o1⟩ := OwnFlat.open_struct Try.underlying44 (dep := 6) (ls := [.int .i64, .int .i64]) (by kernel_rfl) (hval 1 44 v1 rfl rfl) h1
  obtain ⟨a1_0, a1_1, rfl, wa1_0, wa1_1⟩ := opnT44 o1
  clear hA0 hval0 hsz0 hsz
  obtain ⟨k, hP⟩ := Pure.StampPairs a0_0 a0_1 a1_0 a1_1 wa0_0 wa0_1 wa1_0 wa1_1
  refine (stackyardlaw01_StampPairs.calls k a0_0 a0_1 a1_0 a1_1 true W hP (Aside0.mk rfl)).mono fun e W' hend => ?_
  obtain ⟨rfl, bel0⟩ := hend
  have bel : Below W.heap.size W W' := bel0
  exact ⟨_, rfl, _, _, _, [], _, [], hW', trodAll_mk1 (shut_bool Try.underlying4 _), (trodAll_cons_mk (Below.trod laidOut (by kernel_rfl) (of_decide_eq_true (by kernel_rfl)) k0 bel lt0) (trodAll_cons_mk (Below.trod laidOut (by kernel_rfl) (of_decide_eq_true (by kernel_rfl)) k1 bel lt1) trodAll_mk0)), rfl, bel.frame _, fun h => by cases h⟩
theorem over : Rows.stampPairsRow.holds Try.pinned (OpenSpec.ofChange Rows.stampPairsSpec) :=
  OpenClaim.holds_of_wide 12 Try.f12 rfl rfl rfl rfl rfl rfl rfl ⟨rfl, rfl, rfl, rfl, rfl⟩ rfl rfl rfl rfl rfl (by kernel_rfl) Try.func12 (by kernel_rfl)
    (of_decide_eq_true (by kernel_rfl)) (by unfold Func.isWrapper; first | (rw [if_pos (by decide +kernel)]; kernel_rfl) | (rw [if_neg (by decide +kernel)]; exact ⟨rfl, rfl⟩))
    (fun os started H enc _ => lifted os started H enc)
theorem proved : Rows.StampPairsSaid := over
#print axioms proved
end Go.Proofs.Ytlimmmnpcomfjaa.stampPairs
namespace Go.Proofs.Ytlimmmnpcomfjaa
/-- The row, under a short name, for the claim. -/
theorem stampPairs_holds : Rows.StampPairsSaid := stampPairs.proved
end Go.Proofs.Ytlimmmnpcomfjaa
