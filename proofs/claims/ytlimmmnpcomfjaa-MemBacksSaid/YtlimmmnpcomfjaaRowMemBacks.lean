/- The row of the law MemBacks: its statement out of the pure law and the printed walk. No condition. -/
import Derived.Test.YtlimmmnpcomfjaaRows
import Derived.Test.YtlimmmnpcomfjaaOwnMemBacks
import Derived.Test.YtlimmmnpcomfjaaOwnFlat
import Derived.WalkKit
import Derived.ProofKit
import Derived.OpenShut
import Derived.ShutString
import Derived.ChangeOld
import Derived.Below
import Derived.SizedLaws
namespace Go.Proofs.Ytlimmmnpcomfjaa.memBacks
open Go.ChangeShapes Go.WideShapes Go.ChangeAt Go.RowKit Go.Proofs.Ytlimmmnpcomfjaa.Law03 Go.Proofs.Ytlimmmnpcomfjaa.Mem Go.Proofs.Ytlimmmnpcomfjaa.Sep Go.Proofs.YtlimmmnpcomfjaaW.PrintWords Go.Proofs.YtlimmmnpcomfjaaW.PrintLast
open Go.ChangeMaps (open_string shut_string)
set_option linter.unusedVariables false
theorem own : ownKnob Try.prog.godebug = none := by kernel_rfl
theorem laidOut : laidOutB Try.prog = true := by kernel_rfl
theorem opnT39 {cs : List Value} (h0 : OwnFlat.All2 [.int .i64, .int .i64, .int .i64, .int .u64, .int .u64] cs) : ∃ (a0 : Int) (a1 : Int) (a2 : Int) (a3 : Int) (a4 : Int), cs = [.int .i64 a0, .int .i64 a1, .int .i64 a2, .int .u64 a3, .int .u64 a4] ∧ (Lit.int .i64 a0).wf = true ∧ (Lit.int .i64 a1).wf = true ∧ (Lit.int .i64 a2).wf = true ∧ (Lit.int .u64 a3).wf = true ∧ (Lit.int .u64 a4).wf = true := by
  obtain ⟨_, _, rfl, ⟨a0, rfl, w0⟩, h1⟩ := OwnFlat.All2.cons_inv h0
  obtain ⟨_, _, rfl, ⟨a1, rfl, w1⟩, h2⟩ := OwnFlat.All2.cons_inv h1
  obtain ⟨_, _, rfl, ⟨a2, rfl, w2⟩, h3⟩ := OwnFlat.All2.cons_inv h2
  obtain ⟨_, _, rfl, ⟨a3, rfl, w3⟩, h4⟩ := OwnFlat.All2.cons_inv h3
  obtain ⟨_, _, rfl, ⟨a4, rfl, w4⟩, h5⟩ := OwnFlat.All2.cons_inv h4
  obtain rfl := OwnFlat.All2.nil_inv h5
  exact ⟨a0, a1, a2, a3, a4, rfl, w0, w1, w2, w3, w4⟩
set_option maxRecDepth 100000 in
theorem lifted (os : Os) (started : os.Started) (H : Type) (enc : TypeId × Value → H) :
    ReturnsInHanded {} Try.checked os 17 .any (Rows.memBacksSpec.pre6 enc Try.prog Try.f17 Rows.memBacksRow.domain false) (Rows.memBacksSpec.post enc Try.prog Try.f17 false true false false) := by
  refine returnsInHanded_of_change_sized (C := Try.checked) own started (by kernel_rfl) Try.func17
    (ChangeSpec.witness6 (enc := enc) (C := Try.checked) false ⟨#[], #[.int .i64 0, .slice none 0 0], []⟩ 8 (by kernel_rfl) (by kernel_rfl) (by kernel_rfl) (by kernel_rfl)) ?_
  intro W base args ds gs before hval0 hW hcnd hsz0 _
  have hsz : (DataW.weightsEach Try.prog (Try.f17.params.toList ++ Rows.memBacksSpec.plain.varTypes Try.prog) (ds ++ gs)).all (· ≤ reachBytes) = true := hsz0
  have hval : ∀ (j : Nat) t v, Try.f17.params[j]? = some t → args[j]? = some v → Value.okWide Try.prog W .any base t v := hval0
  have hW' := hW
  obtain ⟨p, q, hA0, hV, rfl, hfz, hnd⟩ := hW
  have hA : DataW.TrodAll enc Try.prog W 0 (fun _ => true) true Try.f17.params.toList args.toList ds p := hA0
  rw [Try.params17] at hA hval hsz
  obtain ⟨v0, vs0, d0, ds0, p0, q0, hargs, rfl, rfl, h0, r0⟩ := trodAll_cons hA
  obtain ⟨v1, vs1, d1, ds1, p1, q1, rfl, rfl, rfl, h1, r1⟩ := trodAll_cons r0
  obtain ⟨rfl, rfl, rfl⟩ := trodAll_nil r1
  obtain rfl : args = #[v0, v1] := by cases args; simp_all
  obtain ⟨rfl, rfl⟩ := trodVars_none hV
  obtain ⟨a0, rfl, rfl, rfl, wa0⟩ := open_int Try.underlying3 (hval 0 3 v0 rfl rfl) h0
  obtain ⟨A1, len1, c1, rfl⟩ := okWide_slice Try.underlying36 (hval 1 36 v1 rfl rfl)
  have k1 := h1
  have lt1 : ∀ x ∈ p1, x.block < W.heap.size := by obtain ⟨m, hm⟩ := k1; exact DataW.trod_lt m _ _ _ hm
  obtain ⟨l1, hr1, rfl, hc1, g1⟩ := OwnFlat.open_rows (dep := 6) (sz := kAct.sz) (ls := [.int .i64, .int .i64, .int .i64, .int .u64, .int .u64]) (kAct.K W) (fun x : ActR => (Lit.int .i64 x.who).wf = true ∧ (Lit.int .i64 x.op).wf = true ∧ (Lit.int .i64 x.cell).wf = true ∧ (Lit.int .u64 x.old).wf = true ∧ (Lit.int .u64 x.x).wf = true) Try.underlying36 (by kernel_rfl) (by kernel_rfl) rfl (fun cs hcs => by obtain ⟨a0, a1, a2, a3, a4, rfl, w0, w1, w2, w3, w4⟩ := opnT39 hcs; exact ⟨⟨a0, a1, a2, a3, a4⟩, kAct_mk W ⟨a0, a1, a2, a3, a4⟩, w0, w1, w2, w3, w4⟩) h1
  clear hA0 hval0 hsz0 hsz
  refine (MemBacks_walk a0 A1 c1 l1 W wa0 hr1 hc1 g1).mono fun e W' hend => ?_
  obtain ⟨rfl, bel0⟩ := hend
  have bel : Below W.heap.size W W' := bel0
  exact ⟨_, rfl, _, _, _, [], _, [], hW', trodAll_mk1 (shut_bool Try.underlying4 _), (trodAll_cons_mk (shut_int Try.underlying3 wa0) (trodAll_cons_mk (Below.trod laidOut (by kernel_rfl) (of_decide_eq_true (by kernel_rfl)) k1 bel lt1) trodAll_mk0)), rfl, bel.frame _, fun h => by cases h⟩
theorem over : Rows.memBacksRow.holds Try.pinned (OpenSpec.ofChange Rows.memBacksSpec) :=
  OpenClaim.holds_of_wide 17 Try.f17 rfl rfl rfl rfl rfl rfl rfl ⟨rfl, rfl, rfl, rfl, rfl⟩ rfl rfl rfl rfl rfl (by kernel_rfl) Try.func17 (by kernel_rfl)
    (of_decide_eq_true (by kernel_rfl)) (by unfold Func.isWrapper; first | (rw [if_pos (by decide +kernel)]; kernel_rfl) | (rw [if_neg (by decide +kernel)]; exact ⟨rfl, rfl⟩))
    (fun os started H enc _ => lifted os started H enc)
theorem proved : Rows.MemBacksSaid := over
#print axioms proved
end Go.Proofs.Ytlimmmnpcomfjaa.memBacks
namespace Go.Proofs.Ytlimmmnpcomfjaa
/-- The row, under a short name, for the claim. -/
theorem memBacks_holds : Rows.MemBacksSaid := memBacks.proved
end Go.Proofs.Ytlimmmnpcomfjaa
