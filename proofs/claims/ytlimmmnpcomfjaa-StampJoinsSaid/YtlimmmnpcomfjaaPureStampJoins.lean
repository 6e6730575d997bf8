/- The pure law of StampJoins, over numbers and lists alone: the printed Lean function of the law answers true for every argument. No condition. -/
import Derived.Test.YtlimmmnpcomfjaaOwnStampJoins4
import Derived.Laws.BitsLemmas
namespace Go.Proofs.Ytlimmmnpcomfjaa.Pure
open Go.RowKit Go.Proofs.Ytlimmmnpcomfjaa.PStampJoins Go.Proofs.YtlimmmnpcomfjaaW.PrintWords Go.Proofs.YtlimmmnpcomfjaaW.PrintLast Go.Proofs.YtlimmmnpcomfjaaW.PrintMore
set_option linter.unusedVariables false
set_option linter.unusedSimpArgs false

/-! ### numbers -/
theorem wf64 {a : Int} (h : (Lit.int .i64 a).wf = true) : -9223372036854775808 ≤ a ∧ a ≤ 9223372036854775807 := by
  simp only [Lit.wf, IntKind.min, IntKind.max, IntKind.signed, IntKind.bits, Bool.and_eq_true, decide_eq_true_eq, if_true] at h
  omega
theorem wfu {a : Int} (h : (Lit.int .u64 a).wf = true) : 0 ≤ a ∧ a < 18446744073709551616 := by
  simp [Lit.wf, IntKind.min, IntKind.max, IntKind.signed, IntKind.bits] at h
  omega
theorem w64 {a : Int} (h0 : -9223372036854775808 ≤ a) (h1 : a ≤ 9223372036854775807) : wrap64 a = a := by
  unfold wrap64
  omega
theorem wu (a : Int) : IntKind.u64.wrap a = a % 18446744073709551616 := by
  simp [IntKind.wrap, IntKind.bits, IntKind.signed]
theorem wuid {a : Int} (h0 : 0 ≤ a) (h1 : a < 18446744073709551616) : IntKind.u64.wrap a = a := by
  rw [wu]
  omega
theorem wu_pow (n : Int) (h0 : 0 ≤ n) (h1 : n < 2 ^ 64) : IntKind.u64.wrap n = n := by
  rw [wu]
  omega
/-! ### stamps -/
def cmpS (a b c d : Int) : Int := if a < c then -1 else if c < a then 1 else if b < d then -1 else if d < b then 1 else 0
theorem Cmp_eq (a b : Int) : cmp_Compare_int.f a b = some (if a < b then -1 else if b < a then 1 else 0) := by
  unfold cmp_Compare_int.f cmp_isNaN_int.f
  simp only [bne_self_eq_false, Option.bind_some, Bool.false_eq_true, if_false]
  repeat' split
  all_goals first | rfl | omega
theorem Or_eq (x y : Int) (k : Nat) (hk : 3 ≤ k) : cmp_Or_int.f k [x, y] = some (if x = 0 then y else x) := by
  obtain ⟨k, rfl⟩ : ∃ m, k = m + 3 := ⟨k - 3, by omega⟩
  unfold cmp_Or_int.f
  have e1 : wrap64 1 = 1 := w64 (by omega) (by omega)
  have e2 : wrap64 2 = 2 := w64 (by omega) (by omega)
  by_cases hx : x = 0
  · subst hx
    by_cases hy : y = 0
    · subst hy
      simp [cmp_Or_int.l0, rd, e1, e2]
    · simp [cmp_Or_int.l0, rd, e1, e2, hy]
  · simp [cmp_Or_int.l0, rd, hx]
theorem Compare_eq (a b c d : Int) (k : Nat) (hk : 3 ≤ k) : stamp_Stamp_Compare.f k a b c d = some (cmpS a b c d) := by
  unfold stamp_Stamp_Compare.f
  simp only [Cmp_eq, Option.bind_some, Or_eq _ _ k hk]
  unfold cmpS
  congr 1
  by_cases h1 : a < c
  · simp [h1]
  · by_cases h2 : c < a
    · simp [h1, h2]
    · simp [h1, h2]
def RightS (a b : Int) : Prop := 0 ≤ a ∧ a ≤ b ∧ b < 16777215
instance (a b : Int) : Decidable (RightS a b) := by unfold RightS; infer_instance
theorem SRight_eq (a b : Int) : stamp_Stamp_Right.f a b = some (decide (RightS a b)) := by
  unfold stamp_Stamp_Right.f RightS
  repeat' split
  all_goals (congr 1; first | (symm; apply decide_eq_false; omega) | (apply decide_eq_decide.2; omega))
theorem head_true (k : Nat) (hk : 10 ≤ k) : stackyardlaw01_head.f k = some true := at_rounds (g := fun k => stackyardlaw01_head.f k) (fun k => stackyardlaw01_head.mono k) hk (by decide +kernel)
theorem mn_eq (a b : Int) : mn a b = if b < a then b else a := rfl
theorem mx_eq (a b : Int) : mx a b = if a < b then b else a := rfl
theorem StampJoins : ∀ (a0_0 : Int) (a0_1 : Int) (a1_0 : Int) (a1_1 : Int) (a2_0 : Int) (a2_1 : Int), ((Lit.int .i64 a0_0).wf = true) → ((Lit.int .i64 a0_1).wf = true) → ((Lit.int .i64 a1_0).wf = true) → ((Lit.int .i64 a1_1).wf = true) → ((Lit.int .i64 a2_0).wf = true) → ((Lit.int .i64 a2_1).wf = true) → ∃ k, stackyardlaw01_StampJoins.f k a0_0 a0_1 a1_0 a1_1 a2_0 a2_1 = some true := by
  intro a b c d e f w0 w1 w2 w3 w4 w5
  refine ⟨20, ?_⟩
  unfold stackyardlaw01_StampJoins.f
  rw [head_true _ (by omega)]
  have m1 : mn a c = mn c a := by unfold mn; split <;> split <;> omega
  have m2 : mx b d = mx d b := by unfold mx; split <;> split <;> omega
  have m3 : mn (mn a c) a = mn a c := by unfold mn; repeat' split <;> omega
  have m4 : mx (mx b d) b = mx b d := by unfold mx; repeat' split <;> omega
  have m5 : mn (mn a c) e = mn a (mn c e) := by unfold mn; repeat' split <;> omega
  have m6 : mx (mx b d) f = mx b (mx d f) := by unfold mx; repeat' split <;> omega
  have m7 : mn a a = a := by unfold mn; split <;> rfl
  have m8 : mx b b = b := by unfold mx; split <;> rfl
  simp only [Option.bind_some, if_true, stamp_Stamp_Join.f, ← m1, ← m2, m3, m4, m5, m6, m7, m8, beq_self_eq_true, Bool.not_true, Bool.or_self, Bool.false_eq_true, if_false, stackyardlaw01_StampJoins.j0, stamp_Stamp_Before.f]
  have k1 : (mx b d < e) ↔ (b < e ∧ d < e) := by unfold mx; split <;> omega
  have k2 : (f < mn a c) ↔ (f < a ∧ f < c) := by unfold mn; split <;> omega
  have d1 : decide (mx b d < e) = (decide (b < e) && decide (d < e)) := by
    rw [Bool.eq_iff_iff]
    simp only [Bool.and_eq_true, decide_eq_true_eq]
    exact k1
  have d2 : decide (f < mn a c) = (decide (f < a) && decide (f < c)) := by
    rw [Bool.eq_iff_iff]
    simp only [Bool.and_eq_true, decide_eq_true_eq]
    exact k2
  rw [d1, d2]
  by_cases h1 : b < e <;> by_cases h2 : d < e <;> by_cases h3 : f < a <;> by_cases h4 : f < c <;> simp [h1, h2, h3, h4]

end Go.Proofs.Ytlimmmnpcomfjaa.Pure
