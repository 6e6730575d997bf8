/- The pure law of StampPairs, over numbers and lists alone: the printed Lean function of the law answers true for every argument. No condition. -/
import Derived.Test.YtlimmmnpcomfjaaOwnStampPairs5
import Derived.Laws.BitsLemmas
namespace Go.Proofs.Ytlimmmnpcomfjaa.Pure
open Go.RowKit Go.Proofs.Ytlimmmnpcomfjaa.PStampPairs Go.Proofs.YtlimmmnpcomfjaaW.PrintWords Go.Proofs.YtlimmmnpcomfjaaW.PrintLast Go.Proofs.YtlimmmnpcomfjaaW.PrintMore
set_option linter.unusedVariables false
set_option linter.unusedSimpArgs false

/-! ### numbers -/
theorem wf64 {a : Int} (h : (Lit.int .i64 a).wf = true) : -9223372036854775808 ≤ a ∧ a ≤ 9223372036854775807 := by
  simp only [Lit.wf, IntKind.min, IntKind.max, IntKind.signed, IntKind.bits, Bool.and_eq_true, decide_eq_true_eq, if_true] at h
  omega
theorem wfu {a : Int} (h : (Lit.int .u64 a).wf = true) : 0 ≤ a ∧ a < 18446744073709551616 := by
  simp [Lit.wf, IntKind.min, IntKind.max, IntKind.signed, IntKind.bits] at h
  omega
theorem w64 {a : Int} (h0 : -9223372036854775808 ≤ a) (h1 : a ≤ 9223372036854775807) : wrap64 a = a := by
  unfold wrap64
  omega
theorem wu (a : Int) : IntKind.u64.wrap a = a % 18446744073709551616 := by
  simp [IntKind.wrap, IntKind.bits, IntKind.signed]
theorem wuid {a : Int} (h0 : 0 ≤ a) (h1 : a < 18446744073709551616) : IntKind.u64.wrap a = a := by
  rw [wu]
  omega
theorem wu_pow (n : Int) (h0 : 0 ≤ n) (h1 : n < 2 ^ 64) : IntKind.u64.wrap n = n := by
  rw [wu]
  omega
/-! ### stamps -/
def cmpS (a b c d : Int) : Int := if a < c then -1 else if c < a then 1 else if b < d then -1 else if d < b then 1 else 0
theorem Cmp_eq (a b : Int) : cmp_Compare_int.f a b = some (if a < b then -1 else if b < a then 1 else 0) := by
  unfold cmp_Compare_int.f cmp_isNaN_int.f
  simp only [bne_self_eq_false, Option.bind_some, Bool.false_eq_true, if_false]
  repeat' split
  all_goals first | rfl | omega
theorem Or_eq (x y : Int) (k : Nat) (hk : 3 ≤ k) : cmp_Or_int.f k [x, y] = some (if x = 0 then y else x) := by
  obtain ⟨k, rfl⟩ : ∃ m, k = m + 3 := ⟨k - 3, by omega⟩
  unfold cmp_Or_int.f
  have e1 : wrap64 1 = 1 := w64 (by omega) (by omega)
  have e2 : wrap64 2 = 2 := w64 (by omega) (by omega)
  by_cases hx : x = 0
  · subst hx
    by_cases hy : y = 0
    · subst hy
      simp [cmp_Or_int.l0, rd, e1, e2]
    · simp [cmp_Or_int.l0, rd, e1, e2, hy]
  · simp [cmp_Or_int.l0, rd, hx]
theorem Compare_eq (a b c d : Int) (k : Nat) (hk : 3 ≤ k) : stamp_Stamp_Compare.f k a b c d = some (cmpS a b c d) := by
  unfold stamp_Stamp_Compare.f
  simp only [Cmp_eq, Option.bind_some, Or_eq _ _ k hk]
  unfold cmpS
  congr 1
  by_cases h1 : a < c
  · simp [h1]
  · by_cases h2 : c < a
    · simp [h1, h2]
    · simp [h1, h2]
def RightS (a b : Int) : Prop := 0 ≤ a ∧ a ≤ b ∧ b < 16777215
instance (a b : Int) : Decidable (RightS a b) := by unfold RightS; infer_instance
theorem SRight_eq (a b : Int) : stamp_Stamp_Right.f a b = some (decide (RightS a b)) := by
  unfold stamp_Stamp_Right.f RightS
  repeat' split
  all_goals (congr 1; first | (symm; apply decide_eq_false; omega) | (apply decide_eq_decide.2; omega))
theorem head_true (k : Nat) (hk : 10 ≤ k) : stackyardlaw01_head.f k = some true := at_rounds (g := fun k => stackyardlaw01_head.f k) (fun k => stackyardlaw01_head.mono k) hk (by decide +kernel)
theorem LCompare_eq (a b c d : Int) (k : Nat) (hk : 1 ≤ k) : stackyardlaw01_Compare.f k a b c d = some (cmpS a b c d) := by
  obtain ⟨k, rfl⟩ : ∃ m, k = m + 1 := ⟨k - 1, by omega⟩
  unfold stackyardlaw01_Compare.f cmpS
  simp only [stackyardlaw01_Compare.j0, if_true, Bool.false_eq_true, if_false, Bool.and_eq_true, beq_iff_eq, decide_eq_true_eq]
  repeat' split
  all_goals first | rfl | omega
theorem StampPairs : ∀ (a0_0 : Int) (a0_1 : Int) (a1_0 : Int) (a1_1 : Int), ((Lit.int .i64 a0_0).wf = true) → ((Lit.int .i64 a0_1).wf = true) → ((Lit.int .i64 a1_0).wf = true) → ((Lit.int .i64 a1_1).wf = true) → ∃ k, stackyardlaw01_StampPairs.f k a0_0 a0_1 a1_0 a1_1 = some true := by
  intro a b c d w0 w1 w2 w3
  refine ⟨20, ?_⟩
  unfold stackyardlaw01_StampPairs.f
  rw [head_true _ (by omega)]
  simp only [Option.bind_some, if_true, stamp_Stamp_Join.f]
  have ea : ∀ x y z u : Int, stamp_Stamp_Apart.f x y z u = some (decide (y < z) || decide (u < x)) := fun x y z u => by
    unfold stamp_Stamp_Apart.f stamp_Stamp_Before.f
    by_cases h : y < z <;> simp [h]
  have ej : ∀ lo hi, stackyardlaw01_StampPairs.j1 19 lo hi a b c d (mn a c) (mx b d) = some (mn a c == lo && mx b d == hi) := fun lo hi => by
    simp only [stackyardlaw01_StampPairs.j1, stamp_Stamp_Before.f, ea, Option.bind_some, beq_self_eq_true, if_true, Compare_eq _ _ _ _ 18 (by omega), LCompare_eq _ _ _ _ 18 (by omega)]
    by_cases h : b < c <;> simp [h]
  simp only [stackyardlaw01_StampPairs.j0, ej]
  unfold mn mx
  by_cases h1 : c < a <;> by_cases h2 : b < d <;> simp [h1, h2]

end Go.Proofs.Ytlimmmnpcomfjaa.Pure
