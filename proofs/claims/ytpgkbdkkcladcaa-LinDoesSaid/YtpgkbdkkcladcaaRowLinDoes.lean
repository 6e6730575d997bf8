/- The row of the law LinDoes: its statement out of the walk. No condition. -/
import Derived.Test.YtpgkbdkkcladcaaRows
import Derived.Test.YtpgkbdkkcladcaaOwnLinDoes
import Derived.WalkKit
import Derived.ProofKit
import Derived.OpenShut
import Derived.ShutString
import Derived.ChangeOld
import Derived.Below
import Derived.SizedLaws
namespace Go.Proofs.Ytpgkbdkkcladcaa.linDoes
open Go.ChangeShapes Go.WideShapes Go.ChangeAt Go.RowKit Go.Proofs.Ytpgkbdkkcladcaa.Sy Go.Proofs.Ytpgkbdkkcladcaa.KLinDoes
open Go.ChangeMaps (open_string shut_string)
set_option linter.unusedVariables false
theorem own : ownKnob Try.prog.godebug = none := by kernel_rfl
theorem laidOut : laidOutB Try.prog = true := by kernel_rfl
set_option maxRecDepth 100000 in
theorem lifted (os : Os) (started : os.Started) (H : Type) (enc : TypeId × Value → H) :
    ReturnsInHanded {} Try.checked os 5 .any (Rows.linDoesSpec.pre6 enc Try.prog Try.f5 Rows.linDoesRow.domain false) (Rows.linDoesSpec.post enc Try.prog Try.f5 false true false false) := by
  refine returnsInHanded_of_change_sized (C := Try.checked) own started (by kernel_rfl) Try.func5
    (ChangeSpec.witness6 (enc := enc) (C := Try.checked) false ⟨#[], #[.slice none 0 0, .agg #[.int .i64 0, .int .i64 0, .int .i64 0, .int .u64 0, .int .i64 0, .int .i64 0, .int .i64 0, .bool false, .int .u64 0, .int .i64 0, .int .i64 0]], []⟩ 8 (by kernel_rfl) (by kernel_rfl) (by kernel_rfl) (by kernel_rfl)) ?_
  intro W base args ds gs before hval0 hW hcnd hsz0 _
  have hsz : (DataW.weightsEach Try.prog (Try.f5.params.toList ++ Rows.linDoesSpec.plain.varTypes Try.prog) (ds ++ gs)).all (· ≤ reachBytes) = true := hsz0
  have hval : ∀ (j : Nat) t v, Try.f5.params[j]? = some t → args[j]? = some v → Value.okWide Try.prog W .any base t v := hval0
  have hW' := hW
  obtain ⟨p, q, hA0, hV, rfl, hfz, hnd⟩ := hW
  have hA : DataW.TrodAll enc Try.prog W 0 (fun _ => true) true Try.f5.params.toList args.toList ds p := hA0
  rw [Try.params5] at hA hval hsz
  obtain ⟨v0, vs0, d0, ds0, p0, q0, hargs, rfl, rfl, h0, r0⟩ := trodAll_cons hA
  obtain ⟨v1, vs1, d1, ds1, p1, q1, rfl, rfl, rfl, h1, r1⟩ := trodAll_cons r0
  obtain ⟨rfl, rfl, rfl⟩ := trodAll_nil r1
  obtain rfl : args = #[v0, v1] := by cases args; simp_all
  obtain ⟨rfl, rfl⟩ := trodVars_none hV
  have hv0 := (hval 0 40 v0 rfl rfl)
  obtain ⟨A0, n0, c0, rfl⟩ := okWide_slice Try.underlying40 hv0
  have k0 := h0
  have lt0 : ∀ x ∈ p0, x.block < W.heap.size := by obtain ⟨m, hm⟩ := k0; exact DataW.trod_lt m _ _ _ hm
  obtain ⟨l0, hr0⟩ := open_argrow (dep := 6) (ls := [.int .u64]) (ks := [.i .u64]) Try.underlying40 (by kernel_rfl) rfl (by kernel_rfl) hv0 h0
  have hv1 := (hval 1 34 v1 rfl rfl)
  have k1 := h1
  have lt1 : ∀ x ∈ p1, x.block < W.heap.size := by obtain ⟨m, hm⟩ := k1; exact DataW.trod_lt m _ _ _ hm
  obtain ⟨cs1, rfl, al1_0⟩ := open_struct (dep := 6) (ls := [.int .i64, .int .i64, .int .i64, .int .u64, .int .i64, .int .i64, .int .i64, .bool, .int .u64, .int .i64, .int .i64]) Try.underlying34 (by kernel_rfl) hv1 h1
  obtain ⟨y1_0, us1_0, rfl, ⟨n1_0, rfl, wn1_0⟩, al1_1⟩ := al1_0.cons_inv
  obtain ⟨y1_1, us1_1, rfl, ⟨n1_1, rfl, wn1_1⟩, al1_2⟩ := al1_1.cons_inv
  obtain ⟨y1_2, us1_2, rfl, ⟨n1_2, rfl, wn1_2⟩, al1_3⟩ := al1_2.cons_inv
  obtain ⟨y1_3, us1_3, rfl, ⟨n1_3, rfl, wn1_3⟩, al1_4⟩ := al1_3.cons_inv
  obtain ⟨y1_4, us1_4, rfl, ⟨n1_4, rfl, wn1_4⟩, al1_5⟩ := al1_4.cons_inv
  obtain ⟨y1_5, us1_5, rfl, ⟨n1_5, rfl, wn1_5⟩, al1_6⟩ := al1_5.cons_inv
  obtain ⟨y1_6, us1_6, rfl, ⟨n1_6, rfl, wn1_6⟩, al1_7⟩ := al1_6.cons_inv
  obtain ⟨y1_7, us1_7, rfl, ⟨n1_7, rfl⟩, al1_8⟩ := al1_7.cons_inv
  obtain ⟨y1_8, us1_8, rfl, ⟨n1_8, rfl, wn1_8⟩, al1_9⟩ := al1_8.cons_inv
  obtain ⟨y1_9, us1_9, rfl, ⟨n1_9, rfl, wn1_9⟩, al1_10⟩ := al1_9.cons_inv
  obtain ⟨y1_10, us1_10, rfl, ⟨n1_10, rfl, wn1_10⟩, al1_11⟩ := al1_10.cons_inv
  obtain rfl := al1_11.nil_inv
  clear hA0 hval0 hsz0 hsz
  refine (LinDoes_walk A0 n0 c0 l0 n1_0 n1_1 n1_2 n1_3 n1_4 n1_5 n1_6 n1_7 n1_8 n1_9 n1_10 W hr0 wn1_0 wn1_1 wn1_2 wn1_3 wn1_4 wn1_5 wn1_6 wn1_8 wn1_9 wn1_10).mono fun e W' hend => ?_
  obtain ⟨rfl, bel0⟩ := hend
  have bel : Below W.heap.size W W' := bel0
  exact ⟨_, rfl, _, _, _, [], _, [], hW', trodAll_mk1 (shut_bool Try.underlying4 _), (trodAll_cons_mk (Below.trod laidOut (by kernel_rfl) (of_decide_eq_true (by kernel_rfl)) k0 bel lt0) (trodAll_cons_mk (Below.trod laidOut (by kernel_rfl) (of_decide_eq_true (by kernel_rfl)) k1 bel lt1) trodAll_mk0)), rfl, bel.frame _, fun h => by cases h⟩
theorem over : Rows.linDoesRow.holds Try.pinned (OpenSpec.ofChange Rows.linDoesSpec) :=
  OpenClaim.holds_of_wide 5 Try.f5 rfl rfl rfl rfl rfl rfl rfl ⟨rfl, rfl, rfl, rfl, rfl⟩ rfl rfl rfl rfl rfl (by kernel_rfl) Try.func5 (by kernel_rfl)
    (of_decide_eq_true (by kernel_rfl)) (by unfold Func.isWrapper; first | (rw [if_pos (by decide +kernel)]; kernel_rfl) | (rw [if_neg (by decide +kernel)]; exact ⟨rfl, rfl⟩))
    (fun os started H enc _ => lifted os started H enc)
theorem proved : Rows.LinDoesSaid := over
#print axioms proved
end Go.Proofs.Ytpgkbdkkcladcaa.linDoes
namespace Go.Proofs.Ytpgkbdkkcladcaa
/-- The row, under a short name, for the claim. -/
theorem linDoes_holds : Rows.LinDoesSaid := linDoes.proved
end Go.Proofs.Ytpgkbdkkcladcaa
