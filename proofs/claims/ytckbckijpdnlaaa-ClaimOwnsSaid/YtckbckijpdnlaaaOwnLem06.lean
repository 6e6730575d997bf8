/- What the model of a claim's steps does. A lemma file: it claims nothing of the program. -/
import Derived.Test.YtckbckijpdnlaaaOwnMdl
set_option linter.unusedVariables false
set_option linter.unusedSimpArgs false
namespace Go.Proofs.Ytckbckijpdnlaaa.Sy
open Go
theorem setLen (r : Row) (n : Nat) (x : List Int) : ((r.set n x).length : Int) = (r.length : Int) := by rw [List.length_set]
theorem wwho {T S who k : Int} (h0 : 0 ≤ who) (h1 : who < T) (hT : T ≤ 4) (hk : 0 ≤ k) (hS : k < S) : 0 ≤ who * S + k ∧ who * S + k < T * S ∧ (who * S + k) / S = who := by
  have e : (who * S + k) / S = who := by
    rw [Int.add_comm, Int.add_mul_ediv_right _ _ (by omega), Int.ediv_eq_zero_of_lt hk hS]; omega
  refine ⟨?_, ?_, e⟩
  · have := Int.mul_nonneg h0 (show 0 ≤ S by omega); omega
  · have : (who + 1) * S ≤ T * S := Int.mul_le_mul_of_nonneg_right (by omega) (by omega)
    rw [Int.add_mul] at this
    omega
/-- A claim, as it may stand. -/
def CB (T S : Int) (c : CSt) : Prop := 0 ≤ c.k ∧ c.k < S ∧ -1 ≤ c.g ∧ c.g ≤ T ∧ 0 ≤ c.ph ∧ c.ph ≤ 2 ∧ (c.ph = 0 → c.g < T)
/-- So many steps are left, at most. -/
def cpot (T S : Int) (c : CSt) : Int := if c.ph = 0 then (S - c.k) * (T + 1) - (c.g + 1) else 0
theorem CB.step {T S who : Int} {r : Row} {c : CSt} (h1 : 1 ≤ T ∧ T ≤ 4 ∧ 1 ≤ S ∧ S ≤ 4) (h : CB T S c) : CB T S (claimStep T S who r c) := by
  obtain ⟨k, g, ws, we, wg, wl, wh, ph⟩ := c
  unfold CB at h ⊢
  unfold claimStep claimLook claimGuard claimPass
  dsimp only at h ⊢
  repeat' split
  all_goals (dsimp only at *; omega)
theorem cpot_nn {T S : Int} {c : CSt} (h1 : 1 ≤ T ∧ T ≤ 4 ∧ 1 ≤ S ∧ S ≤ 4) (h : CB T S c) : 0 ≤ cpot T S c ∧ (c.ph = 0 → 1 ≤ cpot T S c) := by
  obtain ⟨k, g, ws, we, wg, wl, wh, ph⟩ := c
  unfold CB at h
  unfold cpot
  dsimp only at h ⊢
  split
  · rcases (by omega : T = 1 ∨ T = 2 ∨ T = 3 ∨ T = 4) with rfl | rfl | rfl | rfl <;> (constructor <;> omega)
  · constructor <;> omega
theorem cpot_step {T S who : Int} {r : Row} {c : CSt} (h1 : 1 ≤ T ∧ T ≤ 4 ∧ 1 ≤ S ∧ S ≤ 4) (h : CB T S c) : (c.ph = 0 → cpot T S (claimStep T S who r c) + 1 ≤ cpot T S c) ∧ (c.ph ≠ 0 → claimStep T S who r c = c) := by
  obtain ⟨k, g, ws, we, wg, wl, wh, ph⟩ := c
  unfold CB at h
  dsimp only at h
  refine ⟨fun hp => ?_, fun hp => ?_⟩
  · dsimp only at hp
    subst hp
    unfold cpot claimStep claimLook claimGuard claimPass
    dsimp only
    rcases (by omega : T = 1 ∨ T = 2 ∨ T = 3 ∨ T = 4) with rfl | rfl | rfl | rfl <;> (repeat' split) <;> (try dsimp only at *) <;> omega
  · unfold claimStep
    exact if_neg hp
end Go.Proofs.Ytckbckijpdnlaaa.Sy
