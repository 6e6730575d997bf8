/- What the model of a claim's steps does. A lemma file: it claims nothing of the program. -/
import Derived.Test.YtckbckijpdnlaaaOwnMdl
set_option linter.unusedVariables false
set_option linter.unusedSimpArgs false
namespace Go.Proofs.Ytckbckijpdnlaaa.Sy
open Go
theorem setLen (r : Row) (n : Nat) (x : List Int) : ((r.set n x).length : Int) = (r.length : Int) := by rw [List.length_set]
theorem wwho {T S who k : Int} (h0 : 0 ≤ who) (h1 : who < T) (hT : T ≤ 4) (hk : 0 ≤ k) (hS : k < S) : 0 ≤ who * S + k ∧ who * S + k < T * S ∧ (who * S + k) / S = who := by
  have e : (who * S + k) / S = who := by
    rw [Int.add_comm, Int.add_mul_ediv_right _ _ (by omega), Int.ediv_eq_zero_of_lt hk hS]; omega
  refine ⟨?_, ?_, e⟩
  · have := Int.mul_nonneg h0 (show 0 ≤ S by omega); omega
  · have : (who + 1) * S ≤ T * S := Int.mul_le_mul_of_nonneg_right (by omega) (by omega)
    rw [Int.add_mul] at this
    omega
/-- A claim, as it may stand. -/
def CB (T S : Int) (c : CSt) : Prop := 0 ≤ c.k ∧ c.k < S ∧ -1 ≤ c.g ∧ c.g ≤ T ∧ 0 ≤ c.ph ∧ c.ph ≤ 2 ∧ (c.ph = 0 → c.g < T)
/-- So many steps are left, at most. -/
def cpot (T S : Int) (c : CSt) : Int := if c.ph = 0 then (S - c.k) * (T + 1) - (c.g + 1) else 0
theorem CB.step {T S who : Int} {r : Row} {c : CSt} (h1 : 1 ≤ T ∧ T ≤ 4 ∧ 1 ≤ S ∧ S ≤ 4) (h : CB T S c) : CB T S (claimStep T S who r c) := by
  obtain ⟨k, g, ws, we, wg, wl, wh, ph⟩ := c
  unfold CB at h ⊢
  unfold claimStep claimLook claimGuard claimPass
  dsimp only at h ⊢
  repeat' split
  all_goals (dsimp only at *; omega)
theorem cpot_nn {T S : Int} {c : CSt} (h1 : 1 ≤ T ∧ T ≤ 4 ∧ 1 ≤ S ∧ S ≤ 4) (h : CB T S c) : 0 ≤ cpot T S c ∧ (c.ph = 0 → 1 ≤ cpot T S c) := by
  obtain ⟨k, g, ws, we, wg, wl, wh, ph⟩ := c
  unfold CB at h
  unfold cpot
  dsimp only at h ⊢
  split
  · rcases (by omega : T = 1 ∨ T = 2 ∨ T = 3 ∨ T = 4) with rfl | rfl | rfl | rfl <;> (constructor <;> omega)
  · constructor <;> omega
theorem cpot_step {T S who : Int} {r : Row} {c : CSt} (h1 : 1 ≤ T ∧ T ≤ 4 ∧ 1 ≤ S ∧ S ≤ 4) (h : CB T S c) : (c.ph = 0 → cpot T S (claimStep T S who r c) + 1 ≤ cpot T S c) ∧ (c.ph ≠ 0 → claimStep T S who r c = c) := by
  obtain ⟨k, g, ws, we, wg, wl, wh, ph⟩ := c
  unfold CB at h
  dsimp only at h
  refine ⟨fun hp => ?_, fun hp => ?_⟩
  · dsimp only at hp
    subst hp
    unfold cpot claimStep claimLook claimGuard claimPass
    dsimp only
    rcases (by omega : T = 1 ∨ T = 2 ∨ T = 3 ∨ T = 4) with rfl | rfl | rfl | rfl <;> (repeat' split) <;> (try dsimp only at *) <;> omega
  · unfold claimStep
    exact if_neg hp
theorem cl_load_fun (r : Row) (i : Int) : cl (r.set i.toNat [cl r i]) = cl r := funext fun j => cl_load r i j
/-- A place of one's own that may be used. -/
def Qual (F : Int → Int) (T S who j : Int) : Prop := wG (F (who * S + j)) < 8191 ∧ (wS (F (who * S + j)) = 0 ∨ (wS (F (who * S + j)) = 2 ∧ ∀ t, 0 ≤ t → t < T → F (2 * (T * S) + t) ≠ who * S + j + 1))
def WordIs (x : Int) (c : CSt) : Prop := c.ws = wS x ∧ c.we = wE x ∧ c.wg = wG x ∧ c.wl = wL x ∧ c.wh = wH x
/-- A claim, as it stands over cells that nobody turns. -/
def CF (F : Int → Int) (T S who : Int) (c : CSt) : Prop :=
  (∀ j, 0 ≤ j → j < c.k → ¬ Qual F T S who j) ∧
  (c.ph = 0 → 0 ≤ c.g → WordIs (F (who * S + c.k)) c ∧ wG (F (who * S + c.k)) < 8191 ∧ wS (F (who * S + c.k)) = 2 ∧ ∀ t, 0 ≤ t → t < c.g → F (2 * (T * S) + t) ≠ who * S + c.k + 1) ∧
  (c.ph = 1 → Qual F T S who c.k ∧ WordIs (F (who * S + c.k)) c) ∧ (c.ph = 2 → c.k + 1 = S ∧ ¬ Qual F T S who c.k)
theorem CF.pass {F : Int → Int} {T S who : Int} {c : CSt} (h0 : c.ph = 0) (h1 : ∀ j, 0 ≤ j → j < c.k → ¬ Qual F T S who j) (h2 : ¬ Qual F T S who c.k) : CF F T S who (claimPass S c) := by
  unfold claimPass
  split
  · rename_i e
    exact ⟨h1, fun g => (by cases g), fun g => (by cases g), fun _ => ⟨e, h2⟩⟩
  · refine ⟨fun j g1 g2 => ?_, fun _ g => (by dsimp only at g; omega), fun g => (by dsimp only at g; omega), fun g => (by dsimp only at g; omega)⟩
    dsimp only at g2
    rcases (by omega : j < c.k ∨ j = c.k) with z | z
    · exact h1 j g1 z
    · rw [z]; exact h2
theorem CF.step {T S who : Int} {r : Row} {c : CSt} (hb : CB T S c) (h : CF (cl r) T S who c) : CF (cl r) T S who (claimStep T S who r c) := by
  unfold CB at hb
  unfold claimStep
  split
  · rename_i h0
    obtain ⟨h1, h2, h3, h4⟩ := h
    split
    · rename_i hg
      unfold claimLook
      dsimp only
      split
      · rename_i e
        refine CF.pass h0 h1 fun q => ?_
        have := q.1
        dsimp only at this
        omega
      · split
        · rename_i e1 e2
          exact ⟨h1, fun g => (by cases g), fun _ => ⟨⟨by dsimp only; omega, .inl e2⟩, ⟨rfl, rfl, rfl, rfl, rfl⟩⟩, fun g => (by cases g)⟩
        · split
          · rename_i e1 e2 e3
            refine ⟨h1, fun _ _ => ⟨⟨rfl, rfl, rfl, rfl, rfl⟩, by dsimp only; omega, e3, fun t g1 g2 => (by dsimp only at g2; omega)⟩, fun g => (by dsimp only at g; omega), fun g => (by dsimp only at g; omega)⟩
          · rename_i e1 e2 e3
            refine CF.pass h0 h1 fun q => ?_
            rcases q.2 with z | z
            · exact e2 z
            · exact e3 z.1
    · rename_i hg
      obtain ⟨g1, g2, g3, g4⟩ := h2 h0 (by omega)
      unfold claimGuard
      split
      · rename_i e
        refine CF.pass h0 h1 fun q => ?_
        rcases q.2 with z | z
        · omega
        · exact z.2 c.g (by omega) (by omega) e
      · rename_i e
        have g5 : ∀ t, 0 ≤ t → t < c.g + 1 → cl r (2 * (T * S) + t) ≠ who * S + c.k + 1 := fun t e1 e2 => by
          rcases (by omega : t < c.g ∨ t = c.g) with z | z
          · exact g4 t e1 z
          · rw [z]; exact e
        split
        · rename_i e2
          exact ⟨h1, fun g => (by cases g), fun _ => ⟨⟨g2, .inr ⟨g3, fun t z1 z2 => g5 t z1 (by omega)⟩⟩, g1⟩, fun g => (by cases g)⟩
        · exact ⟨h1, fun _ _ => ⟨g1, g2, g3, g5⟩, fun g => (by dsimp only at g; omega), fun g => (by dsimp only at g; omega)⟩
  · exact h
end Go.Proofs.Ytckbckijpdnlaaa.Sy
