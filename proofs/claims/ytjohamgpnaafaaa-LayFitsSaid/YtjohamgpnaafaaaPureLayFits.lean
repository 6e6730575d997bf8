/- The pure law of LayFits, over numbers and lists alone: the printed Lean function of the law answers true for every argument. No condition. -/
import Derived.Test.YtjohamgpnaafaaaOwnLayFits2
import Derived.Laws.BitsLemmas
namespace Go.Proofs.Ytjohamgpnaafaaa.Pure
open Go.RowKit Go.Proofs.Ytjohamgpnaafaaa.PLayFits Go.Proofs.YtjohamgpnaafaaaW.PrintWords Go.Proofs.YtjohamgpnaafaaaW.PrintLast Go.Proofs.YtjohamgpnaafaaaW.PrintMore
set_option linter.unusedVariables false
set_option linter.unusedSimpArgs false

/-! ### numbers -/
theorem wf64 {a : Int} (h : (Lit.int .i64 a).wf = true) : -9223372036854775808 ≤ a ∧ a ≤ 9223372036854775807 := by
  simp only [Lit.wf, IntKind.min, IntKind.max, IntKind.signed, IntKind.bits, Bool.and_eq_true, decide_eq_true_eq, if_true] at h
  omega
theorem wfu {a : Int} (h : (Lit.int .u64 a).wf = true) : 0 ≤ a ∧ a < 18446744073709551616 := by
  simp [Lit.wf, IntKind.min, IntKind.max, IntKind.signed, IntKind.bits] at h
  omega
theorem w64 {a : Int} (h0 : -9223372036854775808 ≤ a) (h1 : a ≤ 9223372036854775807) : wrap64 a = a := by
  unfold wrap64
  omega
theorem wu (a : Int) : IntKind.u64.wrap a = a % 18446744073709551616 := by
  simp [IntKind.wrap, IntKind.bits, IntKind.signed]
theorem wuid {a : Int} (h0 : 0 ≤ a) (h1 : a < 18446744073709551616) : IntKind.u64.wrap a = a := by
  rw [wu]
  omega
theorem wu_pow (n : Int) (h0 : 0 ≤ n) (h1 : n < 2 ^ 64) : IntKind.u64.wrap n = n := by
  rw [wu]
  omega
/-! ### layouts -/
def RightC (t s src d : Int) : Prop := 1 ≤ t ∧ t ≤ 64 ∧ 1 ≤ s ∧ s ≤ 64 ∧ 0 ≤ src ∧ src ≤ 4 ∧ 0 ≤ d ∧ d ≤ 100
instance (t s src d : Int) : Decidable (RightC t s src d) := by unfold RightC; infer_instance
theorem CRight_eq (t s src d : Int) : lay_Conf_Right.f t s src d = some (decide (RightC t s src d)) := by
  unfold lay_Conf_Right.f RightC
  repeat' split
  all_goals (congr 1; first | (symm; apply decide_eq_false; omega) | (apply decide_eq_decide.2; omega))
theorem all_bd {t s : Int} (ht : 1 ≤ t) (ht' : t ≤ 64) (hs : 1 ≤ s) (hs' : s ≤ 64) : t * s ≤ 4096 ∧ t ≤ t * s ∧ s ≤ t * s ∧ 1 ≤ t * s := by
  have h1 : t * s ≤ 64 * s := Int.mul_le_mul_of_nonneg_right ht' (by omega)
  have h2 : 1 * s ≤ t * s := Int.mul_le_mul_of_nonneg_right ht (by omega)
  have h3 : t * 1 ≤ t * s := Int.mul_le_mul_of_nonneg_left hs (by omega)
  omega
theorem All_eq {t s src d : Int} (h : RightC t s src d) : lay_Conf_All.f t s src d = some (t * s) := by
  unfold lay_Conf_All.f
  obtain ⟨h0, h1, h2, h3, _⟩ := h
  have := all_bd h0 h1 h2 h3
  rw [w64 (by omega) (by omega)]
theorem Cells_eq {t s src d : Int} (h : RightC t s src d) : lay_Conf_Cells.f t s src d = some (2 * (t * s) + 2 * t) := by
  unfold lay_Conf_Cells.f
  rw [All_eq h]
  obtain ⟨c0, c1, c2, c3, _⟩ := h
  have hb := all_bd c0 c1 c2 c3
  simp only [Option.bind_some]
  rw [w64 (a := 2 * (t * s)) (by omega) (by omega), w64 (a := 2 * t) (by omega) (by omega), w64 (by omega) (by omega)]
theorem Value_eq {t s src d x : Int} (h : RightC t s src d) (h0 : -1048576 ≤ x) (h1 : x ≤ 1048576) : lay_Conf_Value.f t s src d x = some (t * s + x) := by
  unfold lay_Conf_Value.f
  rw [All_eq h]
  obtain ⟨c0, c1, c2, c3, _⟩ := h
  have hb := all_bd c0 c1 c2 c3
  simp only [Option.bind_some]
  rw [w64 (by omega) (by omega)]
theorem Hazard_eq {t s src d x : Int} (h : RightC t s src d) (h0 : -1048576 ≤ x) (h1 : x ≤ 1048576) : lay_Conf_Hazard.f t s src d x = some (2 * (t * s) + x) := by
  unfold lay_Conf_Hazard.f
  rw [All_eq h]
  obtain ⟨c0, c1, c2, c3, _⟩ := h
  have hb := all_bd c0 c1 c2 c3
  simp only [Option.bind_some]
  rw [w64 (a := 2 * (t * s)) (by omega) (by omega), w64 (by omega) (by omega)]
theorem Number_eq {t s src d x : Int} (h : RightC t s src d) (h0 : -1048576 ≤ x) (h1 : x ≤ 1048576) : lay_Conf_Number.f t s src d x = some (2 * (t * s) + t + x) := by
  unfold lay_Conf_Number.f
  rw [All_eq h]
  obtain ⟨c0, c1, c2, c3, _⟩ := h
  have hb := all_bd c0 c1 c2 c3
  simp only [Option.bind_some]
  rw [w64 (a := 2 * (t * s)) (by omega) (by omega), w64 (a := 2 * (t * s) + t) (by omega) (by omega), w64 (by omega) (by omega)]
theorem head_true : stackyardlaw04_head.f = some true := by decide +kernel
theorem LayFits : ∀ (a0_0 : Int) (a0_1 : Int) (a0_2 : Int) (a0_3 : Int), ((Lit.int .i64 a0_0).wf = true) → ((Lit.int .i64 a0_1).wf = true) → ((Lit.int .i64 a0_2).wf = true) → ((Lit.int .i64 a0_3).wf = true) → stackyardlaw04_LayFits.f a0_0 a0_1 a0_2 a0_3 = some true := by
  intro t s src d w0 w1 w2 w3
  unfold stackyardlaw04_LayFits.f
  rw [head_true]
  simp only [Option.bind_some, if_true, CRight_eq]
  by_cases h : RightC t s src d
  · rw [decide_eq_true h, if_pos rfl]
    have hh := h
    obtain ⟨c0, c1, c2, c3, c4, c5, c6, c7⟩ := hh
    have hb := all_bd c0 c1 c2 c3
    simp only [Cells_eq h, Option.bind_some, lay_Conf_Word.f, lay_Conf_First.f]
    rw [w64 (a := t * s) (by omega) (by omega), w64 (a := t - 1) (by omega) (by omega)]
    rw [Number_eq h (x := t - 1) (by omega) (by omega), Value_eq h (x := 0) (by omega) (by omega), Hazard_eq h (x := 0) (by omega) (by omega), Number_eq h (x := 0) (by omega) (by omega)]
    simp only [Option.bind_some]
    rw [w64 (a := 2 * (t * s)) (by omega) (by omega), w64 (a := 2 * t) (by omega) (by omega), w64 (a := 2 * (t * s) + 2 * t) (by omega) (by omega), w64 (a := 2 * (t * s) + 2 * t - 1) (by omega) (by omega), w64 (a := 2 * (t * s) + t) (by omega) (by omega)]
    rw [if_pos (by first | exact trivial | omega), if_pos (by first | exact trivial | omega), if_pos (by first | exact trivial | omega), if_pos (by first | exact trivial | omega), if_pos (by first | exact trivial | omega), if_pos (by first | exact trivial | omega), if_pos (by first | exact trivial | omega), Int.zero_mul, w64 (a := 0) (by omega) (by omega)]
    rfl
  · rw [decide_eq_false h]
    rfl

end Go.Proofs.Ytjohamgpnaafaaa.Pure
