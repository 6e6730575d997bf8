/- The row of the law StampSorts: its statement out of the pure law and the printed walk. No condition. -/
import Derived.Test.YtlimmmnpcomfjaaRows
import Derived.Test.YtlimmmnpcomfjaaPStampSortsx4
import Derived.Test.YtlimmmnpcomfjaaPureStampSorts
import Derived.Test.YtlimmmnpcomfjaaOwnFlat
import Derived.WalkKit
import Derived.ProofKit
import Derived.OpenShut
import Derived.ShutString
import Derived.ChangeOld
import Derived.Below
import Derived.SizedLaws
namespace Go.Proofs.Ytlimmmnpcomfjaa.stampSorts
open Go.ChangeShapes Go.WideShapes Go.ChangeAt Go.RowKit Go.Proofs.Ytlimmmnpcomfjaa.PStampSorts Go.Proofs.YtlimmmnpcomfjaaW.PrintWords Go.Proofs.YtlimmmnpcomfjaaW.PrintLast
open Go.ChangeMaps (open_string shut_string)
set_option linter.unusedVariables false
theorem own : ownKnob Try.prog.godebug = none := by kernel_rfl
theorem laidOut : laidOutB Try.prog = true := by kernel_rfl
theorem opnT44 {cs : List Value} (h0 : OwnFlat.All2 [.int .i64, .int .i64] cs) : ∃ (a0 : Int) (a1 : Int), cs = [.int .i64 a0, .int .i64 a1] ∧ (Lit.int .i64 a0).wf = true ∧ (Lit.int .i64 a1).wf = true := by
  obtain ⟨_, _, rfl, ⟨a0, rfl, w0⟩, h1⟩ := OwnFlat.All2.cons_inv h0
  obtain ⟨_, _, rfl, ⟨a1, rfl, w1⟩, h2⟩ := OwnFlat.All2.cons_inv h1
  obtain rfl := OwnFlat.All2.nil_inv h2
  exact ⟨a0, a1, rfl, w0, w1⟩
set_option maxRecDepth 100000 in
theorem lifted (os : Os) (started : os.Started) (H : Type) (enc : TypeId × Value → H) :
    ReturnsInHanded {} Try.checked os 10 .any (Rows.stampSortsSpec.pre6 enc Try.prog Try.f10 Rows.stampSortsRow.domain false) (Rows.stampSortsSpec.post enc Try.prog Try.f10 false true false false) := by
  refine returnsInHanded_of_change_sized (C := Try.checked) own started (by kernel_rfl) Try.func10
    (ChangeSpec.witness6 (enc := enc) (C := Try.checked) false ⟨#[], #[.slice none 0 0], []⟩ 8 (by kernel_rfl) (by kernel_rfl) (by kernel_rfl) (by kernel_rfl)) ?_
  intro W base args ds gs before hval0 hW hcnd hsz0 _
  have hsz : (DataW.weightsEach Try.prog (Try.f10.params.toList ++ Rows.stampSortsSpec.plain.varTypes Try.prog) (ds ++ gs)).all (· ≤ reachBytes) = true := hsz0
  have hval : ∀ (j : Nat) t v, Try.f10.params[j]? = some t → args[j]? = some v → Value.okWide Try.prog W .any base t v := hval0
  have hW' := hW
  obtain ⟨p, q, hA0, hV, rfl, hfz, hnd⟩ := hW
  have hA : DataW.TrodAll enc Try.prog W 0 (fun _ => true) true Try.f10.params.toList args.toList ds p := hA0
  rw [Try.params10] at hA hval hsz
  obtain ⟨v0, vs0, d0, ds0, p0, q0, hargs, rfl, rfl, h0, r0⟩ := trodAll_cons hA
  obtain ⟨rfl, rfl, rfl⟩ := trodAll_nil r0
  obtain rfl : args = #[v0] := by cases args; simp_all
  obtain ⟨rfl, rfl⟩ := trodVars_none hV
  obtain ⟨A0, len0, c0, rfl⟩ := okWide_slice Try.underlying48 (hval 0 48 v0 rfl rfl)
  have k0 := h0
  have lt0 : ∀ x ∈ p0, x.block < W.heap.size := by obtain ⟨m, hm⟩ := k0; exact DataW.trod_lt m _ _ _ hm
  obtain ⟨l0, hr0, rfl, hc0, g0⟩ := OwnFlat.open_rows (dep := 6) (sz := k44.sz) (ls := [.int .i64, .int .i64]) (k44.K W) (fun x : S44 => (Lit.int .i64 x.f0).wf = true ∧ (Lit.int .i64 x.f1).wf = true) Try.underlying48 (by kernel_rfl) (by kernel_rfl) rfl (fun cs hcs => by obtain ⟨a0, a1, rfl, w0, w1⟩ := opnT44 hcs; exact ⟨⟨a0, a1⟩, k44_mk W ⟨a0, a1⟩, w0, w1⟩) h0
  clear hA0 hval0 hsz0 hsz
  obtain ⟨k, hP⟩ := Pure.StampSorts l0 g0
  refine (stackyardlaw01_StampSorts.calls k A0 c0 l0 true W hr0 hc0 hP).mono fun e W' hend => ?_
  obtain ⟨rfl, bel0⟩ := hend
  have bel : Below W.heap.size W W' := bel0
  exact ⟨_, rfl, _, _, _, [], _, [], hW', trodAll_mk1 (shut_bool Try.underlying4 _), (trodAll_cons_mk (Below.trod laidOut (by kernel_rfl) (of_decide_eq_true (by kernel_rfl)) k0 bel lt0) trodAll_mk0), rfl, bel.frame _, fun h => by cases h⟩
theorem over : Rows.stampSortsRow.holds Try.pinned (OpenSpec.ofChange Rows.stampSortsSpec) :=
  OpenClaim.holds_of_wide 10 Try.f10 rfl rfl rfl rfl rfl rfl rfl ⟨rfl, rfl, rfl, rfl, rfl⟩ rfl rfl rfl rfl rfl (by kernel_rfl) Try.func10 (by kernel_rfl)
    (of_decide_eq_true (by kernel_rfl)) (by unfold Func.isWrapper; first | (rw [if_pos (by decide +kernel)]; kernel_rfl) | (rw [if_neg (by decide +kernel)]; exact ⟨rfl, rfl⟩))
    (fun os started H enc _ => lifted os started H enc)
theorem proved : Rows.StampSortsSaid := over
#print axioms proved
end Go.Proofs.Ytlimmmnpcomfjaa.stampSorts
namespace Go.Proofs.Ytlimmmnpcomfjaa
/-- The row, under a short name, for the claim. -/
theorem stampSorts_holds : Rows.StampSortsSaid := stampSorts.proved
end Go.Proofs.Ytlimmmnpcomfjaa
