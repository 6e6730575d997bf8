/- The row of the law TakeSteps: its statement out of the walk. No condition. -/
import Derived.Test.YtckbckijpdnlaaaRows
import Derived.Test.YtckbckijpdnlaaaOwnTakeSteps
import Derived.WalkKit
import Derived.ProofKit
import Derived.OpenShut
import Derived.ShutString
import Derived.ChangeOld
import Derived.Below
import Derived.SizedLaws
namespace Go.Proofs.Ytckbckijpdnlaaa.takeSteps
open Go.ChangeShapes Go.WideShapes Go.ChangeAt Go.RowKit Go.Proofs.Ytckbckijpdnlaaa.Sy Go.Proofs.Ytckbckijpdnlaaa.KTakeSteps
open Go.ChangeMaps (open_string shut_string)
set_option linter.unusedVariables false
theorem own : ownKnob Try.prog.godebug = none := by kernel_rfl
theorem laidOut : laidOutB Try.prog = true := by kernel_rfl
set_option maxRecDepth 100000 in
theorem lifted (os : Os) (started : os.Started) (H : Type) (enc : TypeId × Value → H) :
    ReturnsInHanded {} Try.checked os 8 .any (Rows.takeStepsSpec.pre6 enc Try.prog Try.f8 Rows.takeStepsRow.domain false) (Rows.takeStepsSpec.post enc Try.prog Try.f8 false true false false) := by
  refine returnsInHanded_of_change_sized (C := Try.checked) own started (by kernel_rfl) Try.func8
    (ChangeSpec.witness6 (enc := enc) (C := Try.checked) false ⟨#[], #[.int .i64 0, .int .i64 0, .int .i64 0, .int .i64 0, .agg #[.int .i64 0, .int .i64 0, .int .i64 0, .int .i64 0, .int .i64 0], .int .u64 0, .slice none 0 0], []⟩ 8 (by kernel_rfl) (by kernel_rfl) (by kernel_rfl) (by kernel_rfl)) ?_
  intro W base args ds gs before hval0 hW hcnd hsz0 _
  have hsz : (DataW.weightsEach Try.prog (Try.f8.params.toList ++ Rows.takeStepsSpec.plain.varTypes Try.prog) (ds ++ gs)).all (· ≤ reachBytes) = true := hsz0
  have hval : ∀ (j : Nat) t v, Try.f8.params[j]? = some t → args[j]? = some v → Value.okWide Try.prog W .any base t v := hval0
  have hW' := hW
  obtain ⟨p, q, hA0, hV, rfl, hfz, hnd⟩ := hW
  have hA : DataW.TrodAll enc Try.prog W 0 (fun _ => true) true Try.f8.params.toList args.toList ds p := hA0
  rw [Try.params8] at hA hval hsz
  obtain ⟨v0, vs0, d0, ds0, p0, q0, hargs, rfl, rfl, h0, r0⟩ := trodAll_cons hA
  obtain ⟨v1, vs1, d1, ds1, p1, q1, rfl, rfl, rfl, h1, r1⟩ := trodAll_cons r0
  obtain ⟨v2, vs2, d2, ds2, p2, q2, rfl, rfl, rfl, h2, r2⟩ := trodAll_cons r1
  obtain ⟨v3, vs3, d3, ds3, p3, q3, rfl, rfl, rfl, h3, r3⟩ := trodAll_cons r2
  obtain ⟨v4, vs4, d4, ds4, p4, q4, rfl, rfl, rfl, h4, r4⟩ := trodAll_cons r3
  obtain ⟨v5, vs5, d5, ds5, p5, q5, rfl, rfl, rfl, h5, r5⟩ := trodAll_cons r4
  obtain ⟨v6, vs6, d6, ds6, p6, q6, rfl, rfl, rfl, h6, r6⟩ := trodAll_cons r5
  obtain ⟨rfl, rfl, rfl⟩ := trodAll_nil r6
  obtain rfl : args = #[v0, v1, v2, v3, v4, v5, v6] := by cases args; simp_all
  obtain ⟨rfl, rfl⟩ := trodVars_none hV
  obtain ⟨a0, rfl, rfl, rfl, wa0⟩ := open_int Try.underlying3 (hval 0 3 v0 rfl rfl) h0
  obtain ⟨a1, rfl, rfl, rfl, wa1⟩ := open_int Try.underlying3 (hval 1 3 v1 rfl rfl) h1
  obtain ⟨a2, rfl, rfl, rfl, wa2⟩ := open_int Try.underlying3 (hval 2 3 v2 rfl rfl) h2
  obtain ⟨a3, rfl, rfl, rfl, wa3⟩ := open_int Try.underlying3 (hval 3 3 v3 rfl rfl) h3
  have hv4 := (hval 4 64 v4 rfl rfl)
  have k4 := h4
  have lt4 : ∀ x ∈ p4, x.block < W.heap.size := by obtain ⟨m, hm⟩ := k4; exact DataW.trod_lt m _ _ _ hm
  obtain ⟨cs4, rfl, al4_0⟩ := open_struct (dep := 6) (ls := [.int .i64, .int .i64, .int .i64, .int .i64, .int .i64]) Try.underlying64 (by kernel_rfl) hv4 h4
  obtain ⟨y4_0, us4_0, rfl, ⟨n4_0, rfl, wn4_0⟩, al4_1⟩ := al4_0.cons_inv
  obtain ⟨y4_1, us4_1, rfl, ⟨n4_1, rfl, wn4_1⟩, al4_2⟩ := al4_1.cons_inv
  obtain ⟨y4_2, us4_2, rfl, ⟨n4_2, rfl, wn4_2⟩, al4_3⟩ := al4_2.cons_inv
  obtain ⟨y4_3, us4_3, rfl, ⟨n4_3, rfl, wn4_3⟩, al4_4⟩ := al4_3.cons_inv
  obtain ⟨y4_4, us4_4, rfl, ⟨n4_4, rfl, wn4_4⟩, al4_5⟩ := al4_4.cons_inv
  obtain rfl := al4_5.nil_inv
  obtain ⟨a5, rfl, rfl, rfl, wa5⟩ := open_int Try.underlying28 (hval 5 28 v5 rfl rfl) h5
  have hv6 := (hval 6 75 v6 rfl rfl)
  obtain ⟨A6, n6, c6, rfl⟩ := okWide_slice Try.underlying75 hv6
  have k6 := h6
  have lt6 : ∀ x ∈ p6, x.block < W.heap.size := by obtain ⟨m, hm⟩ := k6; exact DataW.trod_lt m _ _ _ hm
  obtain ⟨l6, hr6⟩ := open_argrow (dep := 6) (ls := [.int .i64, .int .i64, .int .u64]) (ks := [.i .i64, .i .i64, .i .u64]) Try.underlying75 (by kernel_rfl) rfl (by kernel_rfl) hv6 h6
  clear hA0 hval0 hsz0 hsz
  refine (TakeSteps_walk a0 a1 a2 a3 n4_0 n4_1 n4_2 n4_3 n4_4 a5 A6 n6 c6 l6 W wa0 wa1 wa2 wa3 wn4_0 wn4_1 wn4_2 wn4_3 wn4_4 wa5 hr6).mono fun e W' hend => ?_
  obtain ⟨rfl, bel0⟩ := hend
  have bel : Below W.heap.size W W' := bel0
  exact ⟨_, rfl, _, _, _, [], _, [], hW', trodAll_mk1 (shut_bool Try.underlying4 _), (trodAll_cons_mk (shut_int Try.underlying3 wa0) (trodAll_cons_mk (shut_int Try.underlying3 wa1) (trodAll_cons_mk (shut_int Try.underlying3 wa2) (trodAll_cons_mk (shut_int Try.underlying3 wa3) (trodAll_cons_mk (Below.trod laidOut (by kernel_rfl) (of_decide_eq_true (by kernel_rfl)) k4 bel lt4) (trodAll_cons_mk (shut_int Try.underlying28 wa5) (trodAll_cons_mk (Below.trod laidOut (by kernel_rfl) (of_decide_eq_true (by kernel_rfl)) k6 bel lt6) trodAll_mk0))))))), rfl, bel.frame _, fun h => by cases h⟩
theorem over : Rows.takeStepsRow.holds Try.pinned (OpenSpec.ofChange Rows.takeStepsSpec) :=
  OpenClaim.holds_of_wide 8 Try.f8 rfl rfl rfl rfl rfl rfl rfl ⟨rfl, rfl, rfl, rfl, rfl⟩ rfl rfl rfl rfl rfl (by kernel_rfl) Try.func8 (by kernel_rfl)
    (of_decide_eq_true (by kernel_rfl)) (by unfold Func.isWrapper; first | (rw [if_pos (by decide +kernel)]; kernel_rfl) | (rw [if_neg (by decide +kernel)]; exact ⟨rfl, rfl⟩))
    (fun os started H enc _ => lifted os started H enc)
theorem proved : Rows.TakeStepsSaid := over
#print axioms proved
end Go.Proofs.Ytckbckijpdnlaaa.takeSteps
namespace Go.Proofs.Ytckbckijpdnlaaa
/-- The row, under a short name, for the claim. -/
theorem takeSteps_holds : Rows.TakeStepsSaid := takeSteps.proved
end Go.Proofs.Ytckbckijpdnlaaa
