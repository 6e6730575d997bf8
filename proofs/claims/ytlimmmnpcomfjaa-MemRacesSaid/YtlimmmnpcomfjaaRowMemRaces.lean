/- The row of the law MemRaces: its statement out of the pure law and the printed walk. No condition. -/
import Derived.Test.YtlimmmnpcomfjaaRows
import Derived.Test.YtlimmmnpcomfjaaOwnMemRaces
import Derived.Test.YtlimmmnpcomfjaaOwnFlat
import Derived.WalkKit
import Derived.ProofKit
import Derived.OpenShut
import Derived.ShutString
import Derived.ChangeOld
import Derived.Below
import Derived.SizedLaws
namespace Go.Proofs.Ytlimmmnpcomfjaa.memRaces
open Go.ChangeShapes Go.WideShapes Go.ChangeAt Go.RowKit Go.Proofs.Ytlimmmnpcomfjaa.Law03 Go.Proofs.Ytlimmmnpcomfjaa.Mem Go.Proofs.Ytlimmmnpcomfjaa.Sep Go.Proofs.YtlimmmnpcomfjaaW.PrintWords Go.Proofs.YtlimmmnpcomfjaaW.PrintLast
open Go.ChangeMaps (open_string shut_string)
set_option linter.unusedVariables false
theorem own : ownKnob Try.prog.godebug = none := by kernel_rfl
theorem laidOut : laidOutB Try.prog = true := by kernel_rfl
theorem opnLintu64 {cs : List Value} (h0 : OwnFlat.All2 [.int .u64] cs) : ∃ (a0 : Int), cs = [.int .u64 a0] ∧ (Lit.int .u64 a0).wf = true := by
  obtain ⟨_, _, rfl, ⟨a0, rfl, w0⟩, h1⟩ := OwnFlat.All2.cons_inv h0
  obtain rfl := OwnFlat.All2.nil_inv h1
  exact ⟨a0, rfl, w0⟩
set_option maxRecDepth 100000 in
theorem lifted (os : Os) (started : os.Started) (H : Type) (enc : TypeId × Value → H) :
    ReturnsInHanded {} Try.checked os 5 .any (Rows.memRacesSpec.pre6 enc Try.prog Try.f5 Rows.memRacesRow.domain false) (Rows.memRacesSpec.post enc Try.prog Try.f5 false true false false) := by
  refine returnsInHanded_of_change_sized (C := Try.checked) own started (by kernel_rfl) Try.func5
    (ChangeSpec.witness6 (enc := enc) (C := Try.checked) false ⟨#[], #[.slice none 0 0, .int .u64 0], []⟩ 8 (by kernel_rfl) (by kernel_rfl) (by kernel_rfl) (by kernel_rfl)) ?_
  intro W base args ds gs before hval0 hW hcnd hsz0 _
  have hsz : (DataW.weightsEach Try.prog (Try.f5.params.toList ++ Rows.memRacesSpec.plain.varTypes Try.prog) (ds ++ gs)).all (· ≤ reachBytes) = true := hsz0
  have hval : ∀ (j : Nat) t v, Try.f5.params[j]? = some t → args[j]? = some v → Value.okWide Try.prog W .any base t v := hval0
  have hW' := hW
  obtain ⟨p, q, hA0, hV, rfl, hfz, hnd⟩ := hW
  have hA : DataW.TrodAll enc Try.prog W 0 (fun _ => true) true Try.f5.params.toList args.toList ds p := hA0
  rw [Try.params5] at hA hval hsz
  obtain ⟨v0, vs0, d0, ds0, p0, q0, hargs, rfl, rfl, h0, r0⟩ := trodAll_cons hA
  obtain ⟨v1, vs1, d1, ds1, p1, q1, rfl, rfl, rfl, h1, r1⟩ := trodAll_cons r0
  obtain ⟨rfl, rfl, rfl⟩ := trodAll_nil r1
  obtain rfl : args = #[v0, v1] := by cases args; simp_all
  obtain ⟨rfl, rfl⟩ := trodVars_none hV
  obtain ⟨A0, len0, c0, rfl⟩ := okWide_slice Try.underlying22 (hval 0 22 v0 rfl rfl)
  have k0 := h0
  have lt0 : ∀ x ∈ p0, x.block < W.heap.size := by obtain ⟨m, hm⟩ := k0; exact DataW.trod_lt m _ _ _ hm
  obtain ⟨l0, hr0, rfl, hc0, g0⟩ := OwnFlat.open_rows (dep := 6) (sz := 1) (ls := [.int .u64]) ((Kd.int .u64).K W) (fun x : Int => (Lit.int .u64 x).wf = true) Try.underlying22 (by kernel_rfl) (by kernel_rfl) rfl (fun cs hcs => by obtain ⟨a0, rfl, w0⟩ := opnLintu64 hcs; exact ⟨a0, rfl, w0⟩) h0
  obtain ⟨a1, rfl, rfl, rfl, wa1⟩ := open_int Try.underlying26 (hval 1 26 v1 rfl rfl) h1
  clear hA0 hval0 hsz0 hsz
  refine (MemRaces_walk A0 c0 l0 a1 W hr0 hc0 g0 wa1).mono fun e W' hend => ?_
  obtain ⟨rfl, bel0⟩ := hend
  have bel : Below W.heap.size W W' := bel0
  exact ⟨_, rfl, _, _, _, [], _, [], hW', trodAll_mk1 (shut_bool Try.underlying4 _), (trodAll_cons_mk (Below.trod laidOut (by kernel_rfl) (of_decide_eq_true (by kernel_rfl)) k0 bel lt0) (trodAll_cons_mk (shut_int Try.underlying26 wa1) trodAll_mk0)), rfl, bel.frame _, fun h => by cases h⟩
theorem over : Rows.memRacesRow.holds Try.pinned (OpenSpec.ofChange Rows.memRacesSpec) :=
  OpenClaim.holds_of_wide 5 Try.f5 rfl rfl rfl rfl rfl rfl rfl ⟨rfl, rfl, rfl, rfl, rfl⟩ rfl rfl rfl rfl rfl (by kernel_rfl) Try.func5 (by kernel_rfl)
    (of_decide_eq_true (by kernel_rfl)) (by unfold Func.isWrapper; first | (rw [if_pos (by decide +kernel)]; kernel_rfl) | (rw [if_neg (by decide +kernel)]; exact ⟨rfl, rfl⟩))
    (fun os started H enc _ => lifted os started H enc)
theorem proved : Rows.MemRacesSaid := over
#print axioms proved
end Go.Proofs.Ytlimmmnpcomfjaa.memRaces
namespace Go.Proofs.Ytlimmmnpcomfjaa
/-- The row, under a short name, for the claim. -/
theorem memRaces_holds : Rows.MemRacesSaid := memRaces.proved
end Go.Proofs.Ytlimmmnpcomfjaa
