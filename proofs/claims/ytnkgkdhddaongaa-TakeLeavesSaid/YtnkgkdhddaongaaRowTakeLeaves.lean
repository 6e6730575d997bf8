/- The row of the law TakeLeaves: its statement out of the walk. No condition. -/
import Derived.Test.YtnkgkdhddaongaaRows
import Derived.Test.YtnkgkdhddaongaaOwnTakeLeaves
import Derived.WalkKit
import Derived.ProofKit
import Derived.OpenShut
import Derived.ShutString
import Derived.ChangeOld
import Derived.Below
import Derived.SizedLaws
namespace Go.Proofs.Ytnkgkdhddaongaa.takeLeaves
open Go.ChangeShapes Go.WideShapes Go.ChangeAt Go.RowKit Go.Proofs.Ytnkgkdhddaongaa.Sy Go.Proofs.Ytnkgkdhddaongaa.KTakeLeaves
open Go.ChangeMaps (open_string shut_string)
set_option linter.unusedVariables false
theorem own : ownKnob Try.prog.godebug = none := by kernel_rfl
theorem laidOut : laidOutB Try.prog = true := by kernel_rfl
set_option maxRecDepth 100000 in
theorem lifted (os : Os) (started : os.Started) (H : Type) (enc : TypeId × Value → H) :
    ReturnsInHanded {} Try.checked os 11 .any (Rows.takeLeavesSpec.pre6 enc Try.prog Try.f11 Rows.takeLeavesRow.domain false) (Rows.takeLeavesSpec.post enc Try.prog Try.f11 false true false false) := by
  refine returnsInHanded_of_change_sized (C := Try.checked) own started (by kernel_rfl) Try.func11
    (ChangeSpec.witness6 (enc := enc) (C := Try.checked) false ⟨#[], #[.int .i64 0, .int .i64 0, .int .i64 0, .int .i64 0, .agg #[.int .i64 0, .int .i64 0, .int .i64 0, .int .i64 0, .int .i64 0], .bool false, .int .u64 0], []⟩ 8 (by kernel_rfl) (by kernel_rfl) (by kernel_rfl) (by kernel_rfl)) ?_
  intro W base args ds gs before hval0 hW hcnd hsz0 _
  have hsz : (DataW.weightsEach Try.prog (Try.f11.params.toList ++ Rows.takeLeavesSpec.plain.varTypes Try.prog) (ds ++ gs)).all (· ≤ reachBytes) = true := hsz0
  have hval : ∀ (j : Nat) t v, Try.f11.params[j]? = some t → args[j]? = some v → Value.okWide Try.prog W .any base t v := hval0
  have hW' := hW
  obtain ⟨p, q, hA0, hV, rfl, hfz, hnd⟩ := hW
  have hA : DataW.TrodAll enc Try.prog W 0 (fun _ => true) true Try.f11.params.toList args.toList ds p := hA0
  rw [Try.params11] at hA hval hsz
  obtain ⟨v0, vs0, d0, ds0, p0, q0, hargs, rfl, rfl, h0, r0⟩ := trodAll_cons hA
  obtain ⟨v1, vs1, d1, ds1, p1, q1, rfl, rfl, rfl, h1, r1⟩ := trodAll_cons r0
  obtain ⟨v2, vs2, d2, ds2, p2, q2, rfl, rfl, rfl, h2, r2⟩ := trodAll_cons r1
  obtain ⟨v3, vs3, d3, ds3, p3, q3, rfl, rfl, rfl, h3, r3⟩ := trodAll_cons r2
  obtain ⟨v4, vs4, d4, ds4, p4, q4, rfl, rfl, rfl, h4, r4⟩ := trodAll_cons r3
  obtain ⟨v5, vs5, d5, ds5, p5, q5, rfl, rfl, rfl, h5, r5⟩ := trodAll_cons r4
  obtain ⟨v6, vs6, d6, ds6, p6, q6, rfl, rfl, rfl, h6, r6⟩ := trodAll_cons r5
  obtain ⟨rfl, rfl, rfl⟩ := trodAll_nil r6
  obtain rfl : args = #[v0, v1, v2, v3, v4, v5, v6] := by cases args; simp_all
  obtain ⟨rfl, rfl⟩ := trodVars_none hV
  obtain ⟨a0, rfl, rfl, rfl, wa0⟩ := open_int Try.underlying3 (hval 0 3 v0 rfl rfl) h0
  obtain ⟨a1, rfl, rfl, rfl, wa1⟩ := open_int Try.underlying3 (hval 1 3 v1 rfl rfl) h1
  obtain ⟨a2, rfl, rfl, rfl, wa2⟩ := open_int Try.underlying3 (hval 2 3 v2 rfl rfl) h2
  obtain ⟨a3, rfl, rfl, rfl, wa3⟩ := open_int Try.underlying3 (hval 3 3 v3 rfl rfl) h3
  have hv4 := (hval 4 57 v4 rfl rfl)
  have k4 := h4
  have lt4 : ∀ x ∈ p4, x.block < W.heap.size := by obtain ⟨m, hm⟩ := k4; exact DataW.trod_lt m _ _ _ hm
  obtain ⟨cs4, rfl, al4_0⟩ := open_struct (dep := 6) (ls := [.int .i64, .int .i64, .int .i64, .int .i64, .int .i64]) Try.underlying57 (by kernel_rfl) hv4 h4
  obtain ⟨y4_0, us4_0, rfl, ⟨n4_0, rfl, wn4_0⟩, al4_1⟩ := al4_0.cons_inv
  obtain ⟨y4_1, us4_1, rfl, ⟨n4_1, rfl, wn4_1⟩, al4_2⟩ := al4_1.cons_inv
  obtain ⟨y4_2, us4_2, rfl, ⟨n4_2, rfl, wn4_2⟩, al4_3⟩ := al4_2.cons_inv
  obtain ⟨y4_3, us4_3, rfl, ⟨n4_3, rfl, wn4_3⟩, al4_4⟩ := al4_3.cons_inv
  obtain ⟨y4_4, us4_4, rfl, ⟨n4_4, rfl, wn4_4⟩, al4_5⟩ := al4_4.cons_inv
  obtain rfl := al4_5.nil_inv
  obtain ⟨a5, rfl, rfl, rfl⟩ := open_bool Try.underlying4 (hval 5 4 v5 rfl rfl) h5
  obtain ⟨a6, rfl, rfl, rfl, wa6⟩ := open_int Try.underlying35 (hval 6 35 v6 rfl rfl) h6
  clear hA0 hval0 hsz0 hsz
  refine (TakeLeaves_walk a0 a1 a2 a3 n4_0 n4_1 n4_2 n4_3 n4_4 a5 a6 W wa0 wa1 wa2 wa3 wn4_0 wn4_1 wn4_2 wn4_3 wn4_4 wa6).mono fun e W' hend => ?_
  obtain ⟨rfl, bel0⟩ := hend
  have bel : Below W.heap.size W W' := bel0
  exact ⟨_, rfl, _, _, _, [], _, [], hW', trodAll_mk1 (shut_bool Try.underlying4 _), (trodAll_cons_mk (shut_int Try.underlying3 wa0) (trodAll_cons_mk (shut_int Try.underlying3 wa1) (trodAll_cons_mk (shut_int Try.underlying3 wa2) (trodAll_cons_mk (shut_int Try.underlying3 wa3) (trodAll_cons_mk (Below.trod laidOut (by kernel_rfl) (of_decide_eq_true (by kernel_rfl)) k4 bel lt4) (trodAll_cons_mk (shut_bool Try.underlying4 _) (trodAll_cons_mk (shut_int Try.underlying35 wa6) trodAll_mk0))))))), rfl, bel.frame _, fun h => by cases h⟩
theorem over : Rows.takeLeavesRow.holds Try.pinned (OpenSpec.ofChange Rows.takeLeavesSpec) :=
  OpenClaim.holds_of_wide 11 Try.f11 rfl rfl rfl rfl rfl rfl rfl ⟨rfl, rfl, rfl, rfl, rfl⟩ rfl rfl rfl rfl rfl (by kernel_rfl) Try.func11 (by kernel_rfl)
    (of_decide_eq_true (by kernel_rfl)) (by unfold Func.isWrapper; first | (rw [if_pos (by decide +kernel)]; kernel_rfl) | (rw [if_neg (by decide +kernel)]; exact ⟨rfl, rfl⟩))
    (fun os started H enc _ => lifted os started H enc)
theorem proved : Rows.TakeLeavesSaid := over
#print axioms proved
end Go.Proofs.Ytnkgkdhddaongaa.takeLeaves
namespace Go.Proofs.Ytnkgkdhddaongaa
/-- The row, under a short name, for the claim. -/
theorem takeLeaves_holds : Rows.TakeLeavesSaid := takeLeaves.proved
end Go.Proofs.Ytnkgkdhddaongaa
