/- A put for which there is no place, or no stamp: it turns no word and no value. A lemma file: it claims nothing of the program. -/
import Derived.Test.YtckbckijpdnlaaaOwnNxt10
set_option linter.unusedVariables false
set_option linter.unusedSimpArgs false
set_option maxHeartbeats 4000000
namespace Go.Proofs.Ytckbckijpdnlaaa.Sy
open Go Go.Lib Go.Proofs.Ytckbckijpdnlaaa.Eng Go.RowKit
/-- All words live. -/
def FW (T S : Int) (r : Row) : Prop := ∀ j, 0 ≤ j → j < T * S → cl r j = 9
/-- All numbers at the end. -/
def FN (T S : Int) (r : Row) : Prop := ∀ t, 0 ≤ t → t < T → cl r (2 * (T * S) + T + t) = 16777215
def FP (T S src : Int) (r : Row) (p : PSt) : Prop := (FW T S r ∧ p.c.ph ≠ 1 ∧ p.c.g < 0) ∨ (p.t.ph ≠ 1 ∧ (p.t.ph = 0 → FN T S r ∧ (src = 1 → p.t.n = 0 ∨ 16777215 ≤ p.t.a) ∧ (src = 2 → p.t.n = 0)))
/-- What is noted behind a place: loads, and what is done to numbers. -/
def LP (T S was : Int) (l : Row) : Prop := ∀ j : Int, was ≤ j → j < (l.length : Int) → nth 0 (l.getD j.toNat []) 1 = 0 ∨ (2 * (T * S) + T ≤ nth 0 (l.getD j.toNat []) 2 ∧ nth 0 (l.getD j.toNat []) 2 < 2 * (T * S) + 2 * T)
theorem LP.app {T S was : Int} {l : Row} (h : LP T S was l) (hw : 0 ≤ was) {a op c x y z : Int} (g : op = 0 ∨ (2 * (T * S) + T ≤ c ∧ c < 2 * (T * S) + 2 * T)) : LP T S was (l ++ [[a, op, c, x, y, z]]) := fun j h1 h2 => by
  rw [List.length_append, List.length_singleton] at h2
  by_cases e : j < (l.length : Int)
  · have e2 : (l ++ [[a, op, c, x, y, z]]).getD j.toNat [] = l.getD j.toNat [] := by
      rw [List.getD_eq_getElem?_getD, List.getD_eq_getElem?_getD, List.getElem?_append_left (by omega)]
    rw [e2]; exact h j h1 e
  · have e2 : (l ++ [[a, op, c, x, y, z]]).getD j.toNat [] = [a, op, c, x, y, z] := by
      have e3 : j.toNat = l.length := by omega
      rw [List.getD_eq_getElem?_getD, e3, List.getElem?_append_right (Nat.le_refl _)]
      simp
    rw [e2]; exact g
theorem fp_step {T S src who en val : Int} {r : Row} {p : PSt} (hL : LB T S src 0 who) (hs : src ≤ 2) (hP : PB T S src 0 p) (h : FP T S src r p) :
    FP T S src ((putT T S src 0 who en val r 0 p).row r) (putStep T S src 0 who r 0 p) ∧ ((putT T S src 0 who en val r 0 p).cell < 0 ∨ (putT T S src 0 who en val r 0 p).op = 0 ∨ (2 * (T * S) + T ≤ (putT T S src 0 who en val r 0 p).cell ∧ (putT T S src 0 who en val r 0 p).cell < 2 * (T * S) + 2 * T)) := by
  unfold LB at hL
  obtain ⟨h1, h2, h3, h4, h5, h6, h7, h8, h9, h10⟩ := hP
  have hTS : 0 ≤ T * S := Int.mul_nonneg (by omega) (by omega)
  have lw : lowN 16777215 = 16777215 := (lowN_b (by decide)).2.2.2 (by decide)
  unfold CB at h1; unfold TB at h3
  by_cases hp : p.ph = 0
  · have q := h6 hp
    by_cases hc : p.c.ph = 0
    · have e1 : putT T S src 0 who en val r 0 p = claimT T S who r p.c := by unfold putT; rw [if_pos hp, if_pos hc]
      have e2 : (putStep T S src 0 who r 0 p).t = p.t := by unfold putStep; rw [if_pos hp, if_pos hc]
      have e3 : (putStep T S src 0 who r 0 p).c = claimStep T S who r p.c := by unfold putStep; rw [if_pos hp, if_pos hc]
      have e4 : claimT T S who r p.c = ⟨claimCell T S who p.c, 0, cl r (claimCell T S who p.c), 1⟩ := by unfold claimT; rw [if_pos hc]
      have e5 : cl ((claimT T S who r p.c).row r) = cl r := by
        rw [e4]; unfold Tch.row; dsimp only
        split
        · rfl
        · exact cl_load_fun _ _
      rw [e1]
      refine ⟨?_, .inr (.inl (by rw [e4]))⟩
      unfold FP FW FN
      rw [e2, e3, e5]
      rcases h with ⟨a1, a2, a3⟩ | b
      · have w := wwho (T := T) (S := S) (who := who) (k := p.c.k) (by omega) (by omega) (by omega) (by omega) (by omega)
        refine .inl ⟨a1, ?_⟩
        have w1 : ¬ 8191 ≤ wG 9 := by decide
        have w2 : ¬ wS 9 = 0 := by decide
        have w3 : ¬ wS 9 = 2 := by decide
        unfold claimStep
        rw [if_pos hc, if_pos a3, a1 _ w.1 w.2.1]
        unfold claimLook claimPass
        dsimp only
        rw [if_neg w1, if_neg w2, if_neg w3]
        split <;> dsimp only <;> omega
      · exact .inr b
    · by_cases ht : p.t.ph = 0
      · rcases h with ⟨a1, a2, a3⟩ | ⟨b1, b2⟩
        · exfalso; omega
        · obtain ⟨n1, n2, n3⟩ := b2 ht
          have e1 : putT T S src 0 who en val r 0 p = (tickGo T S src 0 who r 0 p.t).2 := by unfold putT tickT; rw [if_pos hp, if_neg hc, if_pos ht, if_pos ht]
          have e2 : (putStep T S src 0 who r 0 p).t = { (tickGo T S src 0 who r 0 p.t).1 with n := p.t.n + 1 } := by unfold putStep tickStep; rw [if_pos hp, if_neg hc, if_pos ht, if_pos ht]
          have x0 : cl r (2 * (T * S) + T) = 16777215 := by have := n1 0 (by omega) (by omega); rwa [Int.add_zero] at this
          rw [e1]
          unfold FP
          rw [e2]
          rcases (by omega : src = 0 ∨ src = 1 ∨ src = 2) with rfl | rfl | rfl
          · have g : tickGo T S 0 0 who r 0 p.t = ({ p.t with ph := 2 }, ⟨2 * (T * S) + T, 3, IntKind.u64.wrap (16777215 + 1), 1⟩) := by
              unfold tickGo; dsimp only; rw [if_pos rfl, x0, lw]; unfold tickDone; rw [if_neg (by decide)]
            rw [g]
            exact ⟨.inr ⟨by dsimp only; decide, fun z => (by cases z)⟩, .inr (.inr (by dsimp only; omega))⟩
          · by_cases hn : p.t.n < T
            · have g : tickGo T S 1 0 who r 0 p.t = ({ p.t with a := imax p.t.a (lowN (cl r (2 * (T * S) + T + p.t.n))) }, ⟨2 * (T * S) + T + p.t.n, 0, cl r (2 * (T * S) + T + p.t.n), 1⟩) := by
                unfold tickGo; dsimp only; rw [if_neg (by decide), if_pos rfl, if_pos hn]
              rw [g]
              refine ⟨.inr ⟨b1, fun z => ⟨?_, fun _ => .inr ?_, fun z => (by cases z)⟩⟩, .inr (.inl rfl)⟩
              · unfold FN Tch.row; dsimp only
                rw [if_neg (by omega), cl_load_fun]; exact n1
              · dsimp only
                rw [n1 _ (by omega) hn, lw]; unfold imax; split <;> omega
            · have ha : ¬ p.t.a + 1 < 16777215 := by rcases n2 rfl with z | z <;> omega
              have g : tickGo T S 1 0 who r 0 p.t = ({ p.t with ph := 2 }, noT) := by
                unfold tickGo; dsimp only; rw [if_neg (by decide), if_pos rfl, if_neg hn, if_neg ha]
              rw [g]
              exact ⟨.inr ⟨by dsimp only; decide, fun z => (by cases z)⟩, .inl (by dsimp only [noT]; decide)⟩
          · have hn := n3 rfl
            have g : tickGo T S 2 0 who r 0 p.t = ({ p.t with a := 16777215, ph := 2 }, ⟨2 * (T * S) + T, 0, 16777215, 1⟩) := by
              unfold tickGo; dsimp only; rw [if_neg (by decide), if_neg (by decide), if_pos rfl, if_pos hn, x0, lw, if_pos (by decide)]
            rw [g]
            exact ⟨.inr ⟨by dsimp only; decide, fun z => (by cases z)⟩, .inr (.inl rfl)⟩
      · exfalso
        rcases h with ⟨a1, a2, a3⟩ | ⟨b1, b2⟩ <;> omega
  · have e1 : putT T S src 0 who en val r 0 p = noT := by unfold putT; rw [if_neg hp]
    have e2 : putStep T S src 0 who r 0 p = p := by unfold putStep; rw [if_neg hp]
    rw [e1, e2]
    exact ⟨h, .inl (by decide)⟩
/-- At the end it is not done. -/
theorem fp_end {T S src : Int} {r : Row} {p : PSt} (hP : PB T S src 0 p) (h : FP T S src r p) (hp : ¬ p.ph = 0) : p.ph = 2 := by
  obtain ⟨h1, h2, h3, h4, h5, h6, h7, h8, h9, h10⟩ := hP
  rcases (by omega : p.ph = 1 ∨ p.ph = 2) with z | z
  · exfalso
    have := h7 (h8 z)
    rcases h with ⟨a1, a2, a3⟩ | ⟨b1, b2⟩ <;> omega
  · exact z
end Go.Proofs.Ytckbckijpdnlaaa.Sy
