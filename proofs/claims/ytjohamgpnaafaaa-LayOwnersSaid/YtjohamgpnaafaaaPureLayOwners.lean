/- The pure law of LayOwners, over numbers and lists alone: the printed Lean function of the law answers true for every argument. No condition. -/
import Derived.Test.YtjohamgpnaafaaaPLayOwnersx2
import Derived.Laws.BitsLemmas
namespace Go.Proofs.Ytjohamgpnaafaaa.Pure
open Go.RowKit Go.Proofs.Ytjohamgpnaafaaa.PLayOwners Go.Proofs.YtjohamgpnaafaaaW.PrintWords Go.Proofs.YtjohamgpnaafaaaW.PrintLast Go.Proofs.YtjohamgpnaafaaaW.PrintMore
set_option linter.unusedVariables false
set_option linter.unusedSimpArgs false

/-! ### numbers -/
theorem wf64 {a : Int} (h : (Lit.int .i64 a).wf = true) : -9223372036854775808 ≤ a ∧ a ≤ 9223372036854775807 := by
  simp only [Lit.wf, IntKind.min, IntKind.max, IntKind.signed, IntKind.bits, Bool.and_eq_true, decide_eq_true_eq, if_true] at h
  omega
theorem wfu {a : Int} (h : (Lit.int .u64 a).wf = true) : 0 ≤ a ∧ a < 18446744073709551616 := by
  simp [Lit.wf, IntKind.min, IntKind.max, IntKind.signed, IntKind.bits] at h
  omega
theorem w64 {a : Int} (h0 : -9223372036854775808 ≤ a) (h1 : a ≤ 9223372036854775807) : wrap64 a = a := by
  unfold wrap64
  omega
theorem wu (a : Int) : IntKind.u64.wrap a = a % 18446744073709551616 := by
  simp [IntKind.wrap, IntKind.bits, IntKind.signed]
theorem wuid {a : Int} (h0 : 0 ≤ a) (h1 : a < 18446744073709551616) : IntKind.u64.wrap a = a := by
  rw [wu]
  omega
theorem wu_pow (n : Int) (h0 : 0 ≤ n) (h1 : n < 2 ^ 64) : IntKind.u64.wrap n = n := by
  rw [wu]
  omega
/-! ### layouts -/
def RightC (t s src d : Int) : Prop := 1 ≤ t ∧ t ≤ 64 ∧ 1 ≤ s ∧ s ≤ 64 ∧ 0 ≤ src ∧ src ≤ 4 ∧ 0 ≤ d ∧ d ≤ 100
instance (t s src d : Int) : Decidable (RightC t s src d) := by unfold RightC; infer_instance
theorem CRight_eq (t s src d : Int) : lay_Conf_Right.f t s src d = some (decide (RightC t s src d)) := by
  unfold lay_Conf_Right.f RightC
  repeat' split
  all_goals (congr 1; first | (symm; apply decide_eq_false; omega) | (apply decide_eq_decide.2; omega))
theorem all_bd {t s : Int} (ht : 1 ≤ t) (ht' : t ≤ 64) (hs : 1 ≤ s) (hs' : s ≤ 64) : t * s ≤ 4096 ∧ t ≤ t * s ∧ s ≤ t * s ∧ 1 ≤ t * s := by
  have h1 : t * s ≤ 64 * s := Int.mul_le_mul_of_nonneg_right ht' (by omega)
  have h2 : 1 * s ≤ t * s := Int.mul_le_mul_of_nonneg_right ht (by omega)
  have h3 : t * 1 ≤ t * s := Int.mul_le_mul_of_nonneg_left hs (by omega)
  omega
theorem All_eq {t s src d : Int} (h : RightC t s src d) : lay_Conf_All.f t s src d = some (t * s) := by
  unfold lay_Conf_All.f
  obtain ⟨h0, h1, h2, h3, _⟩ := h
  have := all_bd h0 h1 h2 h3
  rw [w64 (by omega) (by omega)]
theorem Owner_out {t s src d x : Int} (h : RightC t s src d) (hx : x < 0 ∨ t * s ≤ x) : lay_Conf_Owner.f t s src d x = some (-1) := by
  unfold lay_Conf_Owner.f
  rw [All_eq h]
  by_cases h0 : x < 0
  · rw [if_pos h0]
  · rw [if_neg h0]
    simp only [Option.bind_some]
    rw [if_pos (by omega)]
theorem Owner_in {t s src d x : Int} (h : RightC t s src d) (h0 : 0 ≤ x) (h1 : x < t * s) : lay_Conf_Owner.f t s src d x = some (x / s) := by
  unfold lay_Conf_Owner.f
  rw [All_eq h, if_neg (by omega)]
  simp only [Option.bind_some]
  obtain ⟨c0, c1, c2, c3, _⟩ := h
  have hb := all_bd c0 c1 c2 c3
  rw [if_neg (by omega), if_neg (by omega), Int.tdiv_eq_ediv_of_nonneg h0]
  have d0 : 0 ≤ x / s := Int.ediv_nonneg h0 (by omega)
  have d1 : x / s ≤ x := Int.ediv_le_self _ h0
  rw [w64 (by omega) (by omega)]
theorem head_true : stackyardlaw04_head.f = some true := by decide +kernel
theorem mul_lt_all {t s i : Int} (hs : 1 ≤ s) (h : i < t) : i * s + s ≤ t * s := by
  have : (i + 1) * s ≤ t * s := Int.mul_le_mul_of_nonneg_right (by omega) (by omega)
  rw [Int.add_mul, Int.one_mul] at this
  exact this
theorem LayOwners_l0 {t s src d x n : Int} (h : RightC t s src d) (hn : n = t * s) : ∀ (m : Nat) (i : Int), 0 ≤ i → i ≤ t → t - i = m →
    Ev (fun k => stackyardlaw04_LayOwners.l0 k x n i t s src d) true := by
  have hh := h
  obtain ⟨c0, c1, c2, c3, c4, c5, c6, c7⟩ := hh
  have hb := all_bd c0 c1 c2 c3
  intro m
  induction m with
  | zero =>
    intro i h0 h1 hm
    refine ⟨2, fun k hk => ?_⟩
    obtain ⟨k, rfl⟩ : ∃ m, k = m + 2 := ⟨k - 2, by omega⟩
    simp only [stackyardlaw04_LayOwners.l0]
    rw [if_neg (by omega)]
    by_cases hx : x < 0 ∨ t * s ≤ x
    · have e : (if x < 0 then stackyardlaw04_LayOwners.j1 (k + 1) x true t s src d else stackyardlaw04_LayOwners.j1 (k + 1) x (decide (x ≥ n)) t s src d) = stackyardlaw04_LayOwners.j1 (k + 1) x true t s src d := by
        by_cases hx0 : x < 0
        · rw [if_pos hx0]
        · rw [if_neg hx0, decide_eq_true (by omega)]
      rw [e]
      simp only [stackyardlaw04_LayOwners.j1]
      rw [if_pos trivial, Owner_out h hx]
      rfl
    · rw [if_neg (by omega), decide_eq_false (by omega)]
      simp only [stackyardlaw04_LayOwners.j1]
      rw [if_neg (by decide), Owner_in h (by omega) (by omega)]
      simp only [Option.bind_some]
      have q0 : 0 ≤ x / s := Int.ediv_nonneg (by omega) (by omega)
      have q1 : x / s < t := Int.ediv_lt_of_lt_mul (by omega) (by omega)
      have q2 : x / s * s ≤ x := Int.ediv_mul_le x (by omega)
      have q3 : x < (x / s + 1) * s := Int.lt_ediv_add_one_mul_self x (by omega)
      have q4 := mul_lt_all c2 q1
      have q5 : 0 ≤ x / s * s := Int.mul_nonneg q0 (by omega)
      have q6 : (x / s + 1) * s = x / s * s + s := by rw [Int.add_mul, Int.one_mul]
      rw [if_pos q0, if_pos q1, w64 (by omega) (by omega), if_pos q2, w64 (a := x / s + 1) (by omega) (by omega), w64 (by omega) (by omega), decide_eq_true q3]
  | succ m ih =>
    intro i h0 h1 hm
    obtain ⟨K, hK⟩ := ih (i + 1) (by omega) (by omega) (by omega)
    refine ⟨K + 1, fun k hk => ?_⟩
    obtain ⟨k, rfl⟩ : ∃ m, k = m + 1 := ⟨k - 1, by omega⟩
    have hi : i < t := by omega
    have q4 := mul_lt_all c2 hi
    have q5 : 0 ≤ i * s := Int.mul_nonneg h0 (by omega)
    simp only [stackyardlaw04_LayOwners.l0, lay_Conf_First.f]
    rw [if_pos hi]
    simp only [Option.bind_some]
    rw [if_pos trivial, w64 (a := i * s) (by omega) (by omega), Owner_in h q5 (by omega)]
    simp only [Option.bind_some]
    rw [Int.mul_ediv_cancel _ (by omega), if_pos rfl, w64 (a := i * s + s) (by omega) (by omega), w64 (a := i * s + s - 1) (by omega) (by omega), Owner_in h (by omega) (by omega)]
    simp only [Option.bind_some]
    have e : (i * s + s - 1) / s = i := by
      rw [show i * s + s - 1 = (s - 1) + i * s by omega, Int.add_mul_ediv_right _ _ (by omega), Int.ediv_eq_zero_of_lt (by omega) (by omega)]
      omega
    rw [e, if_pos rfl, w64 (a := i + 1) (by omega) (by omega)]
    exact hK k (by omega)
theorem LayOwners : ∀ (a0_0 : Int) (a0_1 : Int) (a0_2 : Int) (a0_3 : Int) (a1 : Int), ((Lit.int .i64 a0_0).wf = true) → ((Lit.int .i64 a0_1).wf = true) → ((Lit.int .i64 a0_2).wf = true) → ((Lit.int .i64 a0_3).wf = true) → ((Lit.int .i64 a1).wf = true) → ∃ k, stackyardlaw04_LayOwners.f k a0_0 a0_1 a0_2 a0_3 a1 = some true := by
  intro t s src d x w0 w1 w2 w3 w4
  by_cases h : RightC t s src d
  · have hh := h
    obtain ⟨c0, c1, c2, c3, c4, c5, c6, c7⟩ := hh
    have hb := all_bd c0 c1 c2 c3
    obtain ⟨K, hK⟩ := LayOwners_l0 (x := x) h (n := t * s) rfl t.toNat 0 (by omega) (by omega) (by omega)
    refine ⟨K, ?_⟩
    unfold stackyardlaw04_LayOwners.f
    rw [head_true]
    simp only [Option.bind_some, if_true, CRight_eq, decide_eq_true h]
    rw [w64 (a := t * s) (by omega) (by omega)]
    exact hK K (Nat.le_refl _)
  · refine ⟨0, ?_⟩
    unfold stackyardlaw04_LayOwners.f
    rw [head_true]
    simp only [Option.bind_some, if_true, CRight_eq, decide_eq_false h, Bool.false_eq_true, if_false]

end Go.Proofs.Ytjohamgpnaafaaa.Pure
