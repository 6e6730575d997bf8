/- The row of the law LinFinds: its statement out of the walk. No condition. -/
import Derived.Test.YtpgkbdkkcladcaaRows
import Derived.Test.YtpgkbdkkcladcaaOwnLinFinds
import Derived.WalkKit
import Derived.ProofKit
import Derived.OpenShut
import Derived.ShutString
import Derived.ChangeOld
import Derived.Below
import Derived.SizedLaws
namespace Go.Proofs.Ytpgkbdkkcladcaa.linFinds
open Go.ChangeShapes Go.WideShapes Go.ChangeAt Go.RowKit Go.Proofs.Ytpgkbdkkcladcaa.Sy Go.Proofs.Ytpgkbdkkcladcaa.KLinFinds
open Go.ChangeMaps (open_string shut_string)
set_option linter.unusedVariables false
theorem own : ownKnob Try.prog.godebug = none := by kernel_rfl
theorem laidOut : laidOutB Try.prog = true := by kernel_rfl
set_option maxRecDepth 100000 in
theorem lifted (os : Os) (started : os.Started) (H : Type) (enc : TypeId × Value → H) :
    ReturnsInHanded {} Try.checked os 7 .any (Rows.linFindsSpec.pre6 enc Try.prog Try.f7 Rows.linFindsRow.domain false) (Rows.linFindsSpec.post enc Try.prog Try.f7 false true false false) := by
  refine returnsInHanded_of_change_sized (C := Try.checked) own started (by kernel_rfl) Try.func7
    (ChangeSpec.witness6 (enc := enc) (C := Try.checked) false ⟨#[], #[.slice none 0 0], []⟩ 8 (by kernel_rfl) (by kernel_rfl) (by kernel_rfl) (by kernel_rfl)) ?_
  intro W base args ds gs before hval0 hW hcnd hsz0 _
  have hsz : (DataW.weightsEach Try.prog (Try.f7.params.toList ++ Rows.linFindsSpec.plain.varTypes Try.prog) (ds ++ gs)).all (· ≤ reachBytes) = true := hsz0
  have hval : ∀ (j : Nat) t v, Try.f7.params[j]? = some t → args[j]? = some v → Value.okWide Try.prog W .any base t v := hval0
  have hW' := hW
  obtain ⟨p, q, hA0, hV, rfl, hfz, hnd⟩ := hW
  have hA : DataW.TrodAll enc Try.prog W 0 (fun _ => true) true Try.f7.params.toList args.toList ds p := hA0
  rw [Try.params7] at hA hval hsz
  obtain ⟨v0, vs0, d0, ds0, p0, q0, hargs, rfl, rfl, h0, r0⟩ := trodAll_cons hA
  obtain ⟨rfl, rfl, rfl⟩ := trodAll_nil r0
  obtain rfl : args = #[v0] := by cases args; simp_all
  obtain ⟨rfl, rfl⟩ := trodVars_none hV
  have hv0 := (hval 0 23 v0 rfl rfl)
  obtain ⟨A0, n0, c0, rfl⟩ := okWide_slice Try.underlying23 hv0
  have k0 := h0
  have lt0 : ∀ x ∈ p0, x.block < W.heap.size := by obtain ⟨m, hm⟩ := k0; exact DataW.trod_lt m _ _ _ hm
  obtain ⟨l0, hr0⟩ := open_argrow (dep := 6) (ls := [.int .i64, .int .i64, .int .i64, .int .u64, .int .i64, .int .i64, .int .i64, .bool, .int .u64, .int .i64, .int .i64]) (ks := [.i .i64, .i .i64, .i .i64, .i .u64, .i .i64, .i .i64, .i .i64, .b, .i .u64, .i .i64, .i .i64]) Try.underlying23 (by kernel_rfl) rfl (by kernel_rfl) hv0 h0
  clear hA0 hval0 hsz0 hsz
  refine (LinFinds_walk A0 n0 c0 l0 W hr0).mono fun e W' hend => ?_
  obtain ⟨rfl, bel0⟩ := hend
  have bel : Below W.heap.size W W' := bel0
  exact ⟨_, rfl, _, _, _, [], _, [], hW', trodAll_mk1 (shut_bool Try.underlying4 _), (trodAll_cons_mk (Below.trod laidOut (by kernel_rfl) (of_decide_eq_true (by kernel_rfl)) k0 bel lt0) trodAll_mk0), rfl, bel.frame _, fun h => by cases h⟩
theorem over : Rows.linFindsRow.holds Try.pinned (OpenSpec.ofChange Rows.linFindsSpec) :=
  OpenClaim.holds_of_wide 7 Try.f7 rfl rfl rfl rfl rfl rfl rfl ⟨rfl, rfl, rfl, rfl, rfl⟩ rfl rfl rfl rfl rfl (by kernel_rfl) Try.func7 (by kernel_rfl)
    (of_decide_eq_true (by kernel_rfl)) (by unfold Func.isWrapper; first | (rw [if_pos (by decide +kernel)]; kernel_rfl) | (rw [if_neg (by decide +kernel)]; exact ⟨rfl, rfl⟩))
    (fun os started H enc _ => lifted os started H enc)
theorem proved : Rows.LinFindsSaid := over
#print axioms proved
end Go.Proofs.Ytpgkbdkkcladcaa.linFinds
namespace Go.Proofs.Ytpgkbdkkcladcaa
/-- The row, under a short name, for the claim. -/
theorem linFinds_holds : Rows.LinFindsSaid := linFinds.proved
end Go.Proofs.Ytpgkbdkkcladcaa
