/- The pure law of LayCells, over numbers and lists alone: the printed Lean function of the law answers true for every argument. No condition. -/
import Derived.Test.YtjohamgpnaafaaaPLayCellsx2
import Derived.Laws.BitsLemmas
namespace Go.Proofs.Ytjohamgpnaafaaa.Pure
open Go.RowKit Go.Proofs.Ytjohamgpnaafaaa.PLayCells Go.Proofs.YtjohamgpnaafaaaW.PrintWords Go.Proofs.YtjohamgpnaafaaaW.PrintLast Go.Proofs.YtjohamgpnaafaaaW.PrintMore
set_option linter.unusedVariables false
set_option linter.unusedSimpArgs false

/-! ### numbers -/
theorem wf64 {a : Int} (h : (Lit.int .i64 a).wf = true) : -9223372036854775808 ≤ a ∧ a ≤ 9223372036854775807 := by
  simp only [Lit.wf, IntKind.min, IntKind.max, IntKind.signed, IntKind.bits, Bool.and_eq_true, decide_eq_true_eq, if_true] at h
  omega
theorem wfu {a : Int} (h : (Lit.int .u64 a).wf = true) : 0 ≤ a ∧ a < 18446744073709551616 := by
  simp [Lit.wf, IntKind.min, IntKind.max, IntKind.signed, IntKind.bits] at h
  omega
theorem w64 {a : Int} (h0 : -9223372036854775808 ≤ a) (h1 : a ≤ 9223372036854775807) : wrap64 a = a := by
  unfold wrap64
  omega
theorem wu (a : Int) : IntKind.u64.wrap a = a % 18446744073709551616 := by
  simp [IntKind.wrap, IntKind.bits, IntKind.signed]
theorem wuid {a : Int} (h0 : 0 ≤ a) (h1 : a < 18446744073709551616) : IntKind.u64.wrap a = a := by
  rw [wu]
  omega
theorem wu_pow (n : Int) (h0 : 0 ≤ n) (h1 : n < 2 ^ 64) : IntKind.u64.wrap n = n := by
  rw [wu]
  omega
/-! ### layouts -/
def RightC (t s src d : Int) : Prop := 1 ≤ t ∧ t ≤ 64 ∧ 1 ≤ s ∧ s ≤ 64 ∧ 0 ≤ src ∧ src ≤ 4 ∧ 0 ≤ d ∧ d ≤ 100
instance (t s src d : Int) : Decidable (RightC t s src d) := by unfold RightC; infer_instance
theorem CRight_eq (t s src d : Int) : lay_Conf_Right.f t s src d = some (decide (RightC t s src d)) := by
  unfold lay_Conf_Right.f RightC
  repeat' split
  all_goals (congr 1; first | (symm; apply decide_eq_false; omega) | (apply decide_eq_decide.2; omega))
theorem all_bd {t s : Int} (ht : 1 ≤ t) (ht' : t ≤ 64) (hs : 1 ≤ s) (hs' : s ≤ 64) : t * s ≤ 4096 ∧ t ≤ t * s ∧ s ≤ t * s ∧ 1 ≤ t * s := by
  have h1 : t * s ≤ 64 * s := Int.mul_le_mul_of_nonneg_right ht' (by omega)
  have h2 : 1 * s ≤ t * s := Int.mul_le_mul_of_nonneg_right ht (by omega)
  have h3 : t * 1 ≤ t * s := Int.mul_le_mul_of_nonneg_left hs (by omega)
  omega
theorem All_eq {t s src d : Int} (h : RightC t s src d) : lay_Conf_All.f t s src d = some (t * s) := by
  unfold lay_Conf_All.f
  obtain ⟨h0, h1, h2, h3, _⟩ := h
  have := all_bd h0 h1 h2 h3
  rw [w64 (by omega) (by omega)]
theorem Cells_eq {t s src d : Int} (h : RightC t s src d) : lay_Conf_Cells.f t s src d = some (2 * (t * s) + 2 * t) := by
  unfold lay_Conf_Cells.f
  rw [All_eq h]
  obtain ⟨c0, c1, c2, c3, _⟩ := h
  have hb := all_bd c0 c1 c2 c3
  simp only [Option.bind_some]
  rw [w64 (a := 2 * (t * s)) (by omega) (by omega), w64 (a := 2 * t) (by omega) (by omega), w64 (by omega) (by omega)]
theorem Value_eq {t s src d x : Int} (h : RightC t s src d) (h0 : -1048576 ≤ x) (h1 : x ≤ 1048576) : lay_Conf_Value.f t s src d x = some (t * s + x) := by
  unfold lay_Conf_Value.f
  rw [All_eq h]
  obtain ⟨c0, c1, c2, c3, _⟩ := h
  have hb := all_bd c0 c1 c2 c3
  simp only [Option.bind_some]
  rw [w64 (by omega) (by omega)]
theorem Hazard_eq {t s src d x : Int} (h : RightC t s src d) (h0 : -1048576 ≤ x) (h1 : x ≤ 1048576) : lay_Conf_Hazard.f t s src d x = some (2 * (t * s) + x) := by
  unfold lay_Conf_Hazard.f
  rw [All_eq h]
  obtain ⟨c0, c1, c2, c3, _⟩ := h
  have hb := all_bd c0 c1 c2 c3
  simp only [Option.bind_some]
  rw [w64 (a := 2 * (t * s)) (by omega) (by omega), w64 (by omega) (by omega)]
theorem Number_eq {t s src d x : Int} (h : RightC t s src d) (h0 : -1048576 ≤ x) (h1 : x ≤ 1048576) : lay_Conf_Number.f t s src d x = some (2 * (t * s) + t + x) := by
  unfold lay_Conf_Number.f
  rw [All_eq h]
  obtain ⟨c0, c1, c2, c3, _⟩ := h
  have hb := all_bd c0 c1 c2 c3
  simp only [Option.bind_some]
  rw [w64 (a := 2 * (t * s)) (by omega) (by omega), w64 (a := 2 * (t * s) + t) (by omega) (by omega), w64 (by omega) (by omega)]
theorem Kind_none {t s src d x : Int} (h : RightC t s src d) (hx : x < 0 ∨ 2 * (t * s) + 2 * t ≤ x) (k : Nat) (hk : 1 ≤ k) : lay_Conf_Kind.f k t s src d x = some (0, 0) := by
  obtain ⟨k, rfl⟩ : ∃ m, k = m + 1 := ⟨k - 1, by omega⟩
  unfold lay_Conf_Kind.f
  rw [All_eq h, Cells_eq h]
  simp only [Option.bind_some, lay_Conf_Kind.j0]
  by_cases h0 : x < 0
  · rw [if_pos h0, if_pos trivial]
  · rw [if_neg h0, decide_eq_true (by omega), if_pos rfl]
theorem Kind_some {t s src d x : Int} (h : RightC t s src d) (h0 : 0 ≤ x) (h1 : x < 2 * (t * s) + 2 * t) (k : Nat) (hk : 1 ≤ k) :
    lay_Conf_Kind.f k t s src d x = some (if x < t * s then (1, x) else if x < 2 * (t * s) then (2, x - t * s) else if x < 2 * (t * s) + t then (3, x - 2 * (t * s)) else (4, x - 2 * (t * s) - t)) := by
  obtain ⟨k, rfl⟩ : ∃ m, k = m + 1 := ⟨k - 1, by omega⟩
  unfold lay_Conf_Kind.f
  rw [All_eq h, Cells_eq h]
  obtain ⟨c0, c1, c2, c3, _⟩ := h
  have hb := all_bd c0 c1 c2 c3
  simp only [Option.bind_some, lay_Conf_Kind.j0]
  rw [if_neg (by omega), decide_eq_false (by omega), if_neg (by decide)]
  rw [w64 (a := 2 * (t * s)) (by omega) (by omega), w64 (a := 2 * (t * s) + t) (by omega) (by omega), w64 (a := x - t * s) (by omega) (by omega), w64 (a := x - 2 * (t * s)) (by omega) (by omega), w64 (a := x - 2 * (t * s) - t) (by omega) (by omega)]
  repeat' split
  all_goals rfl
theorem head_true : stackyardlaw04_head.f = some true := by decide +kernel
section
variable {t s src d : Int}
theorem LC3 (h : RightC t s src d) : ∀ (m : Nat) (i : Int), 0 ≤ i → i ≤ t → t - i = m → Ev (fun k => stackyardlaw04_LayCells.l3 k (t * s) (2 * (t * s) + t + i) i t s src d) true := by
  have hh := h
  obtain ⟨c0, c1, c2, c3, c4, c5, c6, c7⟩ := hh
  have hb := all_bd c0 c1 c2 c3
  intro m
  induction m with
  | zero =>
    intro i h0 h1 hm
    refine ⟨2, fun k hk => ?_⟩
    obtain ⟨k, rfl⟩ : ∃ m, k = m + 1 := ⟨k - 1, by omega⟩
    simp only [stackyardlaw04_LayCells.l3]
    rw [if_neg (by omega), Kind_none h (by omega) k (by omega), Kind_none h (by omega) k (by omega), Cells_eq h, All_eq h]
    simp only [Option.bind_some]
    rw [if_pos (by omega)]
    simp
  | succ m ih =>
    intro i h0 h1 hm
    obtain ⟨K, hK⟩ := ih (i + 1) (by omega) (by omega) (by omega)
    refine ⟨K + 2, fun k hk => ?_⟩
    obtain ⟨k, rfl⟩ : ∃ m, k = m + 1 := ⟨k - 1, by omega⟩
    simp only [stackyardlaw04_LayCells.l3]
    rw [if_pos (by omega), Kind_some h (by omega) (by omega) k (by omega), if_neg (by omega), if_neg (by omega), if_neg (by omega), Number_eq h (by omega) (by omega)]
    simp only [Option.bind_some]
    rw [if_pos trivial, if_pos trivial, if_pos (by omega), w64 (a := 2 * (t * s) + t + i + 1) (by omega) (by omega), w64 (a := i + 1) (by omega) (by omega), Int.add_assoc _ i 1]
    exact hK k (by omega)
theorem LC2 (h : RightC t s src d) : ∀ (m : Nat) (i : Int), 0 ≤ i → i ≤ t → t - i = m → Ev (fun k => stackyardlaw04_LayCells.l2 k (t * s) (2 * (t * s) + i) i t s src d) true := by
  have hh := h
  obtain ⟨c0, c1, c2, c3, c4, c5, c6, c7⟩ := hh
  have hb := all_bd c0 c1 c2 c3
  intro m
  induction m with
  | zero =>
    intro i h0 h1 hm
    obtain ⟨K, hK⟩ := LC3 h t.toNat 0 (by omega) (by omega) (by omega)
    refine ⟨K + 1, fun k hk => ?_⟩
    obtain ⟨k, rfl⟩ : ∃ m, k = m + 1 := ⟨k - 1, by omega⟩
    simp only [stackyardlaw04_LayCells.l2]
    rw [if_neg (by omega), show 2 * (t * s) + i = 2 * (t * s) + t + 0 by omega]
    exact hK k (by omega)
  | succ m ih =>
    intro i h0 h1 hm
    obtain ⟨K, hK⟩ := ih (i + 1) (by omega) (by omega) (by omega)
    refine ⟨K + 2, fun k hk => ?_⟩
    obtain ⟨k, rfl⟩ : ∃ m, k = m + 1 := ⟨k - 1, by omega⟩
    simp only [stackyardlaw04_LayCells.l2]
    rw [if_pos (by omega), Kind_some h (by omega) (by omega) k (by omega), if_neg (by omega), if_neg (by omega), if_pos (by omega), Hazard_eq h (by omega) (by omega)]
    simp only [Option.bind_some]
    rw [if_pos trivial, if_pos trivial, if_pos (by omega), w64 (a := 2 * (t * s) + i + 1) (by omega) (by omega), w64 (a := i + 1) (by omega) (by omega), Int.add_assoc _ i 1]
    exact hK k (by omega)
theorem LC1 (h : RightC t s src d) : ∀ (m : Nat) (i : Int), 0 ≤ i → i ≤ t * s → t * s - i = m → Ev (fun k => stackyardlaw04_LayCells.l1 k (t * s) (t * s + i) i t s src d) true := by
  have hh := h
  obtain ⟨c0, c1, c2, c3, c4, c5, c6, c7⟩ := hh
  have hb := all_bd c0 c1 c2 c3
  intro m
  induction m with
  | zero =>
    intro i h0 h1 hm
    obtain ⟨K, hK⟩ := LC2 h t.toNat 0 (by omega) (by omega) (by omega)
    refine ⟨K + 1, fun k hk => ?_⟩
    obtain ⟨k, rfl⟩ : ∃ m, k = m + 1 := ⟨k - 1, by omega⟩
    simp only [stackyardlaw04_LayCells.l1]
    rw [if_neg (by omega), show t * s + i = 2 * (t * s) + 0 by omega]
    exact hK k (by omega)
  | succ m ih =>
    intro i h0 h1 hm
    obtain ⟨K, hK⟩ := ih (i + 1) (by omega) (by omega) (by omega)
    refine ⟨K + 2, fun k hk => ?_⟩
    obtain ⟨k, rfl⟩ : ∃ m, k = m + 1 := ⟨k - 1, by omega⟩
    simp only [stackyardlaw04_LayCells.l1]
    rw [if_pos (by omega), Kind_some h (by omega) (by omega) k (by omega), if_neg (by omega), if_pos (by omega), Value_eq h (by omega) (by omega)]
    simp only [Option.bind_some]
    rw [if_pos trivial, if_pos trivial, if_pos (by omega), w64 (a := t * s + i + 1) (by omega) (by omega), w64 (a := i + 1) (by omega) (by omega), Int.add_assoc _ i 1]
    exact hK k (by omega)
theorem LC0 (h : RightC t s src d) : ∀ (m : Nat) (i : Int), 0 ≤ i → i ≤ t * s → t * s - i = m → Ev (fun k => stackyardlaw04_LayCells.l0 k (t * s) i i t s src d) true := by
  have hh := h
  obtain ⟨c0, c1, c2, c3, c4, c5, c6, c7⟩ := hh
  have hb := all_bd c0 c1 c2 c3
  intro m
  induction m with
  | zero =>
    intro i h0 h1 hm
    obtain ⟨K, hK⟩ := LC1 h (t * s).toNat 0 (by omega) (by omega) (by omega)
    refine ⟨K + 1, fun k hk => ?_⟩
    obtain ⟨k, rfl⟩ : ∃ m, k = m + 1 := ⟨k - 1, by omega⟩
    simp only [stackyardlaw04_LayCells.l0]
    rw [if_neg (by omega)]
    have e : i = t * s + 0 := by omega
    rw [e]
    exact hK k (by omega)
  | succ m ih =>
    intro i h0 h1 hm
    obtain ⟨K, hK⟩ := ih (i + 1) (by omega) (by omega) (by omega)
    refine ⟨K + 2, fun k hk => ?_⟩
    obtain ⟨k, rfl⟩ : ∃ m, k = m + 1 := ⟨k - 1, by omega⟩
    simp only [stackyardlaw04_LayCells.l0, lay_Conf_Word.f]
    rw [if_pos (by omega), Kind_some h (by omega) (by omega) k (by omega), if_pos (by omega)]
    simp only [Option.bind_some]
    rw [if_pos trivial, if_pos trivial, if_pos trivial, w64 (a := i + 1) (by omega) (by omega)]
    exact hK k (by omega)
end
theorem LayCells : ∀ (a0_0 : Int) (a0_1 : Int) (a0_2 : Int) (a0_3 : Int), ((Lit.int .i64 a0_0).wf = true) → ((Lit.int .i64 a0_1).wf = true) → ((Lit.int .i64 a0_2).wf = true) → ((Lit.int .i64 a0_3).wf = true) → ∃ k, stackyardlaw04_LayCells.f k a0_0 a0_1 a0_2 a0_3 = some true := by
  intro t s src d w0 w1 w2 w3
  by_cases h : RightC t s src d
  · have hh := h
    obtain ⟨c0, c1, c2, c3, c4, c5, c6, c7⟩ := hh
    have hb := all_bd c0 c1 c2 c3
    obtain ⟨K, hK⟩ := LC0 h (t * s).toNat 0 (by omega) (by omega) (by omega)
    refine ⟨K + 1, ?_⟩
    unfold stackyardlaw04_LayCells.f
    rw [head_true]
    simp only [Option.bind_some, if_true, CRight_eq, decide_eq_true h]
    simp only [stackyardlaw04_LayCells.j0]
    by_cases h8 : t > 8
    · rw [if_pos h8, if_pos trivial]
    · rw [if_neg h8]
      by_cases s8 : s > 8
      · rw [decide_eq_true s8, if_pos rfl]
      · rw [decide_eq_false s8, if_neg (by decide), w64 (a := t * s) (by omega) (by omega)]
        exact hK K (Nat.le_refl _)
  · refine ⟨1, ?_⟩
    unfold stackyardlaw04_LayCells.f
    rw [head_true]
    simp only [Option.bind_some, if_true, CRight_eq, decide_eq_false h]
    simp [stackyardlaw04_LayCells.j0]

end Go.Proofs.Ytjohamgpnaafaaa.Pure
