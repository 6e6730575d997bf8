/- What comes behind a put, case by case. A lemma file: it claims nothing of the program. -/
import Derived.Test.YtckbckijpdnlaaaOwnLem10
set_option linter.unusedVariables false
set_option linter.unusedSimpArgs false
namespace Go.Proofs.Ytckbckijpdnlaaa.Sy
open Go Go.Lib Go.Proofs.Ytckbckijpdnlaaa.Eng Go.RowKit
/-- A stamp's numbers, whatever it is. -/
def LH (t : TSt) : Prop := 0 ≤ t.lo ∧ t.lo ≤ 16777215 ∧ 0 ≤ t.hi ∧ t.hi ≤ 16777215
theorem LH.step {T S src dl who now : Int} {r : Row} {t : TSt} (hb : TB T src dl t) (h : LH t) : LH (tickStep T S src dl who r now t) := by
  unfold tickStep
  split
  · unfold TB at hb
    unfold LH at h ⊢
    unfold tickGo tickDone
    dsimp only
    repeat' split
    all_goals (dsimp only at *; omega)
  · exact h
def NextOk (T S src dl : Int) (p p' : PSt) : Prop := (LH p.t → LH p'.t) ∧ PB T S src dl p' ∧ (p'.ph = 0 → p.ph = 0 ∧ ppot T S src dl p' + 1 ≤ ppot T S src dl p) ∧ (p.c.ph ≠ 0 → p'.c.ph ≠ 0)
section
variable {T S src dl who now : Int} {r : Row} {p : PSt}
theorem next_gen (hL : LB T S src dl who) (hr : RowB r) (hn : 0 ≤ now) (h : PB T S src dl p) (hp : p.ph = 0) {p' : PSt} (e : putStep T S src dl who r now p = p') (hc : p.c.ph ≠ 0 → p'.c.ph ≠ 0) : NextOk T S src dl p p' := by
  subst e
  refine ⟨fun z => ?_, ?_⟩
  · unfold putStep
    rw [if_pos hp]
    split
    · exact z
    · split
      · exact LH.step h.2.2.1 z
      · split <;> exact z
  exact ⟨h.step hL hr hn, fun _ => ⟨hp, (ppot_step hL hr hn h).1 hp⟩, hc⟩
theorem next_claim2 (hL : LB T S src dl who) (hr : RowB r) (hn : 0 ≤ now) (h : PB T S src dl p) (hp : p.ph = 0) (hc : p.c.ph = 0) (h2 : (claimStep T S who r p.c).ph = 2) : NextOk T S src dl p ⟨claimStep T S who r p.c, p.t, p.st, 2⟩ :=
  next_gen hL hr hn h hp (by unfold putStep fullB; rw [if_pos hp, if_pos hc, if_pos h2]) (fun z => absurd hc z)
theorem next_claim0 (hL : LB T S src dl who) (hr : RowB r) (hn : 0 ≤ now) (h : PB T S src dl p) (hp : p.ph = 0) (hc : p.c.ph = 0) (h2 : ¬ (claimStep T S who r p.c).ph = 2) : NextOk T S src dl p ⟨claimStep T S who r p.c, p.t, p.st, p.ph⟩ :=
  next_gen hL hr hn h hp (by unfold putStep fullB; rw [if_pos hp, if_pos hc, if_neg h2]) (fun z => absurd hc z)
theorem next_tick2 (hL : LB T S src dl who) (hr : RowB r) (hn : 0 ≤ now) (h : PB T S src dl p) (hp : p.ph = 0) (hc : ¬ p.c.ph = 0) (ht : p.t.ph = 0) (h2 : (tickStep T S src dl who r now p.t).ph = 2) : NextOk T S src dl p ⟨p.c, tickStep T S src dl who r now p.t, p.st, 2⟩ :=
  next_gen hL hr hn h hp (by unfold putStep fullB; rw [if_pos hp, if_neg hc, if_pos ht, if_pos h2]) (fun z => z)
theorem next_tick0 (hL : LB T S src dl who) (hr : RowB r) (hn : 0 ≤ now) (h : PB T S src dl p) (hp : p.ph = 0) (hc : ¬ p.c.ph = 0) (ht : p.t.ph = 0) (h2 : ¬ (tickStep T S src dl who r now p.t).ph = 2) : NextOk T S src dl p ⟨p.c, tickStep T S src dl who r now p.t, p.st, p.ph⟩ :=
  next_gen hL hr hn h hp (by unfold putStep fullB; rw [if_pos hp, if_neg hc, if_pos ht, if_neg h2]) (fun z => z)
theorem next_word (hL : LB T S src dl who) (hr : RowB r) (hn : 0 ≤ now) (h : PB T S src dl p) (hp : p.ph = 0) (hc : ¬ p.c.ph = 0) (ht : ¬ p.t.ph = 0) (h2 : p.st = true) : NextOk T S src dl p ⟨p.c, p.t, p.st, 1⟩ :=
  next_gen hL hr hn h hp (by unfold putStep; rw [if_pos hp, if_neg hc, if_neg ht, if_pos h2]) (fun z => z)
theorem next_value (hL : LB T S src dl who) (hr : RowB r) (hn : 0 ≤ now) (h : PB T S src dl p) (hp : p.ph = 0) (hc : ¬ p.c.ph = 0) (ht : ¬ p.t.ph = 0) (h2 : ¬ p.st = true) : NextOk T S src dl p ⟨p.c, p.t, true, p.ph⟩ :=
  next_gen hL hr hn h hp (by unfold putStep; rw [if_pos hp, if_neg hc, if_neg ht, if_neg h2]) (fun z => z)
theorem next_same (h : PB T S src dl p) (hp : ¬ p.ph = 0) : NextOk T S src dl p p := ⟨fun z => z, h, fun z => absurd z hp, fun z => z⟩
theorem claimT_cell (hL : LB T S src dl who) (h : CB T S p.c) (hc : p.c.ph = 0) : ¬ (claimT T S who r p.c).cell < 0 := by
  unfold LB at hL; unfold CB at h
  unfold claimT claimCell
  rw [if_pos hc]
  have b1 : 0 ≤ who * S := Int.mul_nonneg (by omega) (by omega)
  have b2 : 0 ≤ T * S := Int.mul_nonneg (by omega) (by omega)
  dsimp only
  split <;> omega
end
theorem or_in (x y : Int) : 0 ≤ Go.bits .or .u64 x y ∧ Go.bits .or .u64 x y < 18446744073709551616 := u64_in _
theorem rowB_cells {T S a b : Int} {list haz : Row} : RowB (cellsN T S list haz a b) := fun j => by
  unfold cl
  rw [List.getD_eq_getElem?_getD]
  cases h : (cellsN T S list haz a b)[j.toNat]? with
  | none => exact ⟨by decide, by decide⟩
  | some x =>
    unfold cellsN at h
    rw [List.getElem?_map] at h
    cases h2 : (List.range (2 * (T * S) + 2 * T).toNat)[j.toNat]? with
    | none => rw [h2] at h; cases h
    | some q =>
      rw [h2] at h
      cases h
      show 0 ≤ cellAt T S list haz a b q ∧ cellAt T S list haz a b q < _
      unfold cellAt
      split
      · exact or_in _ _
      · split
        · have := and_in (k := .i64) (nth 0 (haz.getD (q - (2 * (T * S)).toNat) []) 0) (m := 31) (by decide) (by decide)
          omega
        · omega
/-- Numbers of 64 bits in the second column. -/
def Good1 (r : Row) : Prop := ∀ j : Nat, 0 ≤ nth 0 (r.getD j []) 1 ∧ nth 0 (r.getD j []) 1 < 18446744073709551616
theorem good1 {w : World} {A : Option Addr} {n c : Nat} {l : Row} (h : ArgRow w [.i .i64, .i .u64, .b, .i .i64] A n c l) : Good1 l := fun j => by
  rw [List.getD_eq_getElem?_getD]
  cases hj : l[j]? with
  | none => exact ⟨by decide, by decide⟩
  | some x =>
    have hx := h.good x (List.mem_of_getElem? hj)
    match x, hx with
    | [a, b, c, d], hx =>
      have := lit_u64 hx.2.1
      show 0 ≤ b ∧ b < _
      omega
end Go.Proofs.Ytckbckijpdnlaaa.Sy
