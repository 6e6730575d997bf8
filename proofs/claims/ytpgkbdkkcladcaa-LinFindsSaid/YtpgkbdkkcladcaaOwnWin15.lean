/- Plain lemmas on windows of rows and on one step of a row (layer 15). A lemma file: it claims nothing of the program. -/
import Derived.Test.YtpgkbdkkcladcaaOwnLem15
set_option linter.unusedVariables false
set_option linter.unusedSimpArgs false
namespace Go.Proofs.Ytpgkbdkkcladcaa.Sy
open Go
theorem wr_len {e n : Int} {r : Row} (h0 : 0 ≤ e) (h1 : 0 ≤ n) (h2 : e + n ≤ (r.length : Int)) : ((winR e n r).length : Int) = n := by
  unfold winR; rw [List.length_take, List.length_drop]; omega
theorem wr_cl {e n j : Int} {r : Row} (h0 : 0 ≤ e) (h1 : 0 ≤ j) (h2 : j < n) : cl (winR e n r) j = cl r (e + j) := by
  unfold cl winR
  rw [List.getD_eq_getElem?_getD, List.getD_eq_getElem?_getD, List.getElem?_take_of_lt (by omega), List.getElem?_drop, show (e + j).toNat = e.toNat + j.toNat by omega]
theorem wr_drop {e n : Int} {r : Row} (h0 : 0 ≤ e) (h1 : 1 ≤ n) : (winR e n r).drop 1 = winR (e + 1) (n + -1) r := by
  unfold winR
  rw [List.drop_take, List.drop_drop, show (e + 1).toNat = e.toNat + 1 by omega, show (n + -1).toNat = n.toNat - 1 by omega]
theorem wr_take {e n : Int} {r : Row} (h0 : 0 ≤ e) (h1 : 1 ≤ n) (h2 : e + n ≤ (r.length : Int)) : (winR e n r).take ((winR e n r).length - 1) = winR e (n + -1) r := by
  have := wr_len h0 (by omega) h2
  rw [show (winR e n r).length - 1 = n.toNat - 1 by omega]
  unfold winR
  rw [List.take_take, show (n + -1).toNat = n.toNat - 1 by omega, Nat.min_eq_left (by omega)]
theorem wr_all (r : Row) {n : Int} (h : n = (r.length : Int)) : winR 0 n r = r := by
  unfold winR
  rw [h]
  simp
/-! one step, by the call and what it was answered -/
section
variable {d : List Int} {e n : Int} {r W : Row}
theorem okz : nbz (okI d) = nbz (nth 0 d 7) := by unfold okI b2i; cases nbz (nth 0 d 7) <;> rfl
theorem nbz_b2i (x : Bool) : nbz (b2i x) = x := by cases x <;> rfl
theorem sp_put0 (h1 : nth 0 d 1 = 0) (h7 : nbz (nth 0 d 7) = false) : stepO d W = true ∧ stepR d W = W := by simp [stepO, stepR, doOk, doRow, okI, b2i, *]
theorem sp_putL (h1 : nth 0 d 1 = 0) (h7 : nbz (nth 0 d 7) = true) (h2 : nth 0 d 2 = 0) : stepO d W = true ∧ stepR d W = [nth 0 d 3] :: W := by simp [stepO, stepR, doOk, doRow, okI, b2i, *]
theorem sp_putR (h1 : nth 0 d 1 = 0) (h7 : nbz (nth 0 d 7) = true) (h2 : ¬ nth 0 d 2 = 0) : stepO d W = true ∧ stepR d W = W ++ [[nth 0 d 3]] := by simp [stepO, stepR, doOk, doRow, okI, b2i, *]
theorem sp_get0 (h1 : ¬ nth 0 d 1 = 0) (h7 : nbz (nth 0 d 7) = false) : stepO d W = decide ((W.length : Int) = 0) ∧ stepR d W = [] := by simp [stepO, stepR, doOk, doRow, okI, b2i, *]
theorem sp_ok1 (h7 : nbz (nth 0 d 7) = true) : ¬ okI d = 0 := by unfold okI; rw [h7]; decide
theorem sp_getE (h1 : ¬ nth 0 d 1 = 0) (h7 : nbz (nth 0 d 7) = true) (hW : (W.length : Int) = 0) : stepO d W = false := by simp only [stepO, doOk]; rw [if_neg h1, if_neg (sp_ok1 h7), if_pos hW]
theorem sp_getL (h1 : ¬ nth 0 d 1 = 0) (h7 : nbz (nth 0 d 7) = true) (hW : ¬ (W.length : Int) = 0) (h2 : nth 0 d 2 = 0) : stepO d W = decide (cl W 0 = nth 0 d 8) ∧ stepR d W = W.drop 1 := by
  simp only [stepO, stepR, doOk, doRow]; rw [if_neg h1, if_neg (sp_ok1 h7), if_neg hW, if_neg (by omega), if_neg h1, if_neg (sp_ok1 h7), if_neg (by omega)]
  exact ⟨rfl, rfl⟩
theorem sp_getR (h1 : ¬ nth 0 d 1 = 0) (h7 : nbz (nth 0 d 7) = true) (hW : ¬ (W.length : Int) = 0) (h2 : nth 0 d 2 = 1) : stepO d W = decide (cl W ((W.length : Int) + -1) = nth 0 d 8) ∧ stepR d W = W.take (W.length - 1) := by
  simp only [stepO, stepR, doOk, doRow]; rw [if_neg h1, if_neg (sp_ok1 h7), if_neg hW, if_pos h2, if_neg h1, if_neg (sp_ok1 h7), if_pos h2]
  refine ⟨?_, rfl⟩
  simp only [cl, show ((W.length : Int) + -1).toNat = W.length - 1 by omega]
theorem rt2 (hr : rightD d = true) (h : ¬ nth 0 d 2 = 0) : nth 0 d 2 = 1 := by unfold rightD at hr; simp at hr; omega
theorem rt01 (hr : rightD d = true) : 0 ≤ nth 0 d 1 ∧ nth 0 d 1 ≤ 1 ∧ 0 ≤ nth 0 d 2 ∧ nth 0 d 2 ≤ 1 := by unfold rightD at hr; simp at hr; omega
theorem rt_at {L : Row} {i : Int} (h : rightsF L = true) (h0 : 0 ≤ i) (hn : i < (L.length : Int)) : rightD (L.getD i.toNat []) = true := by
  unfold rightsF at h
  rw [List.all_eq_true] at h
  rw [List.getD_eq_getElem?_getD, List.getElem?_eq_getElem (by omega : i.toNat < L.length)]
  exact h _ (List.getElem_mem _)
/-! the answer that a call gets that is not over -/
/-- Its value, as the contract of 'answered' tells it. -/
def vOf (d : List Int) (e n : Int) (r : Row) : Int := if 0 ≤ nth 0 d 6 then nth 0 d 8 else if nth 0 d 1 = 0 then 0 else if 0 < n then (if nth 0 d 2 = 1 then cl r (e + n + -1) else cl r e) else 0
theorem an1 : nth 0 (ansD d W) 1 = nth 0 d 1 := by unfold ansD; split <;> rfl
theorem an2 : nth 0 (ansD d W) 2 = nth 0 d 2 := by unfold ansD; split <;> rfl
theorem an3 : nth 0 (ansD d W) 3 = nth 0 d 3 := by unfold ansD; split <;> rfl
theorem an7 : nbz (nth 0 (ansD d W) 7) = (decide (¬ 0 ≤ nth 0 d 6) || nbz (nth 0 d 7)) := by
  unfold ansD
  split
  · rename_i h
    rw [decide_eq_false (by omega : ¬ ¬ 0 ≤ nth 0 d 6), Bool.false_or]
    exact nbz_b2i _
  · rename_i h
    rw [decide_eq_true h, Bool.true_or]
    rfl
theorem an8 (h0 : 0 ≤ e) (h1 : 0 ≤ n) (h2 : e + n ≤ (r.length : Int)) : nth 0 (ansD d (winR e n r)) 8 = vOf d e n r := by
  have wl := wr_len h0 h1 h2
  unfold ansD vOf
  split
  · rfl
  · show (if nth 0 d 1 = 0 then (0 : Int) else _) = _
    split
    · rfl
    · rw [wl]
      split
      · rename_i h3
        rw [wr_cl h0 (by omega) (by omega : n + -1 < n), wr_cl h0 (by omega) (by omega : (0 : Int) < n), show e + (n + -1) = e + n + -1 by omega, Int.add_zero]
      · rfl
end
/-! calls that are not done yet -/
theorem cl_at {D : Row} {i : Int} (h0 : 0 ≤ i) (h1 : i < (D.length : Int)) (x : Int) : cntZ (D.set i.toNat [x]) + (if cl D i = 0 then 1 else 0) = cntZ D + (if x = 0 then 1 else 0) := by
  have : ∀ (D : Row) (n : Nat), n < D.length → cntZ (D.set n [x]) + (if nth 0 (D.getD n []) 0 = 0 then 1 else 0) = cntZ D + (if x = 0 then 1 else 0) := by
    intro D
    induction D with
    | nil => intro n h; simp at h
    | cons y D ih =>
      intro n h
      cases n with
      | zero =>
        simp only [List.set_cons_zero, cntZ, List.countP_cons, List.getD_cons_zero]
        rw [show nth 0 [x] 0 = x from rfl]
        by_cases a : x = 0 <;> by_cases b : nth 0 y 0 = 0 <;> simp [a, b]
      | succ n =>
        have := ih n (by simpa using h)
        simp only [List.set_cons_succ, List.getD_cons_succ]
        unfold cntZ at *
        simp only [List.countP_cons]
        omega
  exact this D i.toNat (by omega)
theorem cntZ_set {D : Row} {i : Int} (h0 : 0 ≤ i) (h1 : i < (D.length : Int)) (hc : cl D i = 0) : cntZ (D.set i.toNat [1]) + 1 = cntZ D := by
  have := cl_at h0 h1 (x := 1)
  rw [if_pos hc, if_neg (by decide)] at this
  omega
section
variable {d : List Int} {e n : Int} {r W : Row}
abbrev okA (d : List Int) : Bool := decide (¬ 0 ≤ nth 0 d 6) || nbz (nth 0 d 7)
theorem aq_put0 (h1 : nth 0 d 1 = 0) (h7 : okA d = false) : stepO (ansD d W) W = true ∧ stepR (ansD d W) W = W := sp_put0 (an1.trans h1) (an7.trans h7)
theorem aq_putL (h1 : nth 0 d 1 = 0) (h7 : okA d = true) (h2 : nth 0 d 2 = 0) : stepO (ansD d W) W = true ∧ stepR (ansD d W) W = [nth 0 d 3] :: W := by
  have := sp_putL (d := ansD d W) (W := W) (an1.trans h1) (an7.trans h7) (an2.trans h2)
  rwa [an3] at this
theorem aq_putR (h1 : nth 0 d 1 = 0) (h7 : okA d = true) (h2 : ¬ nth 0 d 2 = 0) : stepO (ansD d W) W = true ∧ stepR (ansD d W) W = W ++ [[nth 0 d 3]] := by
  have := sp_putR (d := ansD d W) (W := W) (an1.trans h1) (an7.trans h7) (by rw [an2]; exact h2)
  rwa [an3] at this
theorem aq_get0 (h1 : ¬ nth 0 d 1 = 0) (h7 : okA d = false) : stepO (ansD d W) W = decide ((W.length : Int) = 0) ∧ stepR (ansD d W) W = [] := sp_get0 (by rw [an1]; exact h1) (an7.trans h7)
theorem aq_getE (h1 : ¬ nth 0 d 1 = 0) (h7 : okA d = true) (hW : (W.length : Int) = 0) : stepO (ansD d W) W = false := sp_getE (by rw [an1]; exact h1) (an7.trans h7) hW
theorem aq_getL (h0 : 0 ≤ e) (h3 : 0 < n) (h4 : e + n ≤ (r.length : Int)) (h1 : ¬ nth 0 d 1 = 0) (h7 : okA d = true) (h2 : nth 0 d 2 = 0) : stepO (ansD d (winR e n r)) (winR e n r) = decide (cl r e = vOf d e n r) ∧ stepR (ansD d (winR e n r)) (winR e n r) = winR (e + 1) (n + -1) r := by
  have wl := wr_len h0 (by omega) h4
  have := sp_getL (d := ansD d (winR e n r)) (W := winR e n r) (by rw [an1]; exact h1) (an7.trans h7) (by omega) (an2.trans h2)
  rwa [an8 h0 (by omega) h4, wr_cl h0 (by omega) h3, Int.add_zero, wr_drop h0 (by omega)] at this
theorem aq_getR (h0 : 0 ≤ e) (h3 : 0 < n) (h4 : e + n ≤ (r.length : Int)) (h1 : ¬ nth 0 d 1 = 0) (h7 : okA d = true) (h2 : nth 0 d 2 = 1) : stepO (ansD d (winR e n r)) (winR e n r) = decide (cl r (e + (n + -1)) = vOf d e n r) ∧ stepR (ansD d (winR e n r)) (winR e n r) = winR e (n + -1) r := by
  have wl := wr_len h0 (by omega) h4
  have := sp_getR (d := ansD d (winR e n r)) (W := winR e n r) (by rw [an1]; exact h1) (an7.trans h7) (by omega) (an2.trans h2)
  rwa [an8 h0 (by omega) h4, wr_take h0 (by omega) h4, wl, wr_cl h0 (by omega) (by omega)] at this
theorem aw_getL (h3 : 0 < (r.length : Int)) (h1 : ¬ nth 0 d 1 = 0) (h7 : okA d = true) (h2 : nth 0 d 2 = 0) : stepO (ansD d r) r = decide (cl r 0 = vOf d 0 r.length r) ∧ stepR (ansD d r) r = winR 1 ((r.length : Int) + -1) r := by
  have := aq_getL (e := 0) (n := r.length) (r := r) (by omega) h3 (by omega) h1 h7 h2
  rwa [wr_all r rfl] at this
theorem aw_getR (h3 : 0 < (r.length : Int)) (h1 : ¬ nth 0 d 1 = 0) (h7 : okA d = true) (h2 : nth 0 d 2 = 1) : stepO (ansD d r) r = decide (cl r ((r.length : Int) + -1) = vOf d 0 r.length r) ∧ stepR (ansD d r) r = winR 0 ((r.length : Int) + -1) r := by
  have := aq_getR (e := 0) (n := r.length) (r := r) (by omega) h3 (by omega) h1 h7 h2
  rwa [wr_all r rfl, Int.zero_add] at this
end
end Go.Proofs.Ytpgkbdkkcladcaa.Sy
