/- The row of the law LayFits: its statement out of the pure law and the printed walk. No condition. -/
import Derived.Test.YtjohamgpnaafaaaRows
import Derived.Test.YtjohamgpnaafaaaOwnLayFits2
import Derived.Test.YtjohamgpnaafaaaPureLayFits
import Derived.Test.YtjohamgpnaafaaaOwnFlat
import Derived.WalkKit
import Derived.ProofKit
import Derived.OpenShut
import Derived.ShutString
import Derived.ChangeOld
import Derived.Below
import Derived.SizedLaws
namespace Go.Proofs.Ytjohamgpnaafaaa.layFits
open Go.ChangeShapes Go.WideShapes Go.ChangeAt Go.RowKit Go.Proofs.Ytjohamgpnaafaaa.PLayFits Go.Proofs.YtjohamgpnaafaaaW.PrintWords Go.Proofs.YtjohamgpnaafaaaW.PrintLast
open Go.ChangeMaps (open_string shut_string)
set_option linter.unusedVariables false
theorem own : ownKnob Try.prog.godebug = none := by kernel_rfl
theorem laidOut : laidOutB Try.prog = true := by kernel_rfl
theorem opnT24 {cs : List Value} (h0 : OwnFlat.All2 [.int .i64, .int .i64, .int .i64, .int .i64] cs) : ∃ (a0 : Int) (a1 : Int) (a2 : Int) (a3 : Int), cs = [.int .i64 a0, .int .i64 a1, .int .i64 a2, .int .i64 a3] ∧ (Lit.int .i64 a0).wf = true ∧ (Lit.int .i64 a1).wf = true ∧ (Lit.int .i64 a2).wf = true ∧ (Lit.int .i64 a3).wf = true := by
  obtain ⟨_, _, rfl, ⟨a0, rfl, w0⟩, h1⟩ := OwnFlat.All2.cons_inv h0
  obtain ⟨_, _, rfl, ⟨a1, rfl, w1⟩, h2⟩ := OwnFlat.All2.cons_inv h1
  obtain ⟨_, _, rfl, ⟨a2, rfl, w2⟩, h3⟩ := OwnFlat.All2.cons_inv h2
  obtain ⟨_, _, rfl, ⟨a3, rfl, w3⟩, h4⟩ := OwnFlat.All2.cons_inv h3
  obtain rfl := OwnFlat.All2.nil_inv h4
  exact ⟨a0, a1, a2, a3, rfl, w0, w1, w2, w3⟩
set_option maxRecDepth 100000 in
theorem lifted (os : Os) (started : os.Started) (H : Type) (enc : TypeId × Value → H) :
    ReturnsInHanded {} Try.checked os 5 .any (Rows.layFitsSpec.pre6 enc Try.prog Try.f5 Rows.layFitsRow.domain false) (Rows.layFitsSpec.post enc Try.prog Try.f5 false true false false) := by
  refine returnsInHanded_of_change_sized (C := Try.checked) own started (by kernel_rfl) Try.func5
    (ChangeSpec.witness6 (enc := enc) (C := Try.checked) false ⟨#[], #[.agg #[.int .i64 0, .int .i64 0, .int .i64 0, .int .i64 0]], []⟩ 8 (by kernel_rfl) (by kernel_rfl) (by kernel_rfl) (by kernel_rfl)) ?_
  intro W base args ds gs before hval0 hW hcnd hsz0 _
  have hsz : (DataW.weightsEach Try.prog (Try.f5.params.toList ++ Rows.layFitsSpec.plain.varTypes Try.prog) (ds ++ gs)).all (· ≤ reachBytes) = true := hsz0
  have hval : ∀ (j : Nat) t v, Try.f5.params[j]? = some t → args[j]? = some v → Value.okWide Try.prog W .any base t v := hval0
  have hW' := hW
  obtain ⟨p, q, hA0, hV, rfl, hfz, hnd⟩ := hW
  have hA : DataW.TrodAll enc Try.prog W 0 (fun _ => true) true Try.f5.params.toList args.toList ds p := hA0
  rw [Try.params5] at hA hval hsz
  obtain ⟨v0, vs0, d0, ds0, p0, q0, hargs, rfl, rfl, h0, r0⟩ := trodAll_cons hA
  obtain ⟨rfl, rfl, rfl⟩ := trodAll_nil r0
  obtain rfl : args = #[v0] := by cases args; simp_all
  obtain ⟨rfl, rfl⟩ := trodVars_none hV
  have k0 := h0
  have lt0 : ∀ x ∈ p0, x.block < W.heap.size := by obtain ⟨m, hm⟩ := k0; exact DataW.trod_lt m _ _ _ hm
  obtain ⟨cs0, rfl, o0⟩ := OwnFlat.open_struct Try.underlying24 (dep := 6) (ls := [.int .i64, .int .i64, .int .i64, .int .i64]) (by kernel_rfl) (hval 0 24 v0 rfl rfl) h0
  obtain ⟨a0_0, a0_1, a0_2, a0_3, rfl, wa0_0, wa0_1, wa0_2, wa0_3⟩ := opnT24 o0
  clear hA0 hval0 hsz0 hsz
  have hP := Pure.LayFits a0_0 a0_1 a0_2 a0_3 wa0_0 wa0_1 wa0_2 wa0_3
  refine (stackyardlaw04_LayFits.calls a0_0 a0_1 a0_2 a0_3 true W hP (Aside0.mk rfl)).mono fun e W' hend => ?_
  obtain ⟨rfl, bel0⟩ := hend
  have bel : Below W.heap.size W W' := bel0
  exact ⟨_, rfl, _, _, _, [], _, [], hW', trodAll_mk1 (shut_bool Try.underlying4 _), (trodAll_cons_mk (Below.trod laidOut (by kernel_rfl) (of_decide_eq_true (by kernel_rfl)) k0 bel lt0) trodAll_mk0), rfl, bel.frame _, fun h => by cases h⟩
theorem over : Rows.layFitsRow.holds Try.pinned (OpenSpec.ofChange Rows.layFitsSpec) :=
  OpenClaim.holds_of_wide 5 Try.f5 rfl rfl rfl rfl rfl rfl rfl ⟨rfl, rfl, rfl, rfl, rfl⟩ rfl rfl rfl rfl rfl (by kernel_rfl) Try.func5 (by kernel_rfl)
    (of_decide_eq_true (by kernel_rfl)) (by unfold Func.isWrapper; first | (rw [if_pos (by decide +kernel)]; kernel_rfl) | (rw [if_neg (by decide +kernel)]; exact ⟨rfl, rfl⟩))
    (fun os started H enc _ => lifted os started H enc)
theorem proved : Rows.LayFitsSaid := over
#print axioms proved
end Go.Proofs.Ytjohamgpnaafaaa.layFits
namespace Go.Proofs.Ytjohamgpnaafaaa
/-- The row, under a short name, for the claim. -/
theorem layFits_holds : Rows.LayFitsSaid := layFits.proved
end Go.Proofs.Ytjohamgpnaafaaa
