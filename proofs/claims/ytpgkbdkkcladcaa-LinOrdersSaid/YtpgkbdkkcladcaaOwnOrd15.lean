/- Plain lemmas on the finder's model: calls of one thread, one behind the other. A lemma file: it claims nothing of the program. -/
import Derived.Test.YtpgkbdkkcladcaaOwnLem15
set_option linter.unusedVariables false
set_option linter.unusedSimpArgs false
namespace Go.Proofs.Ytpgkbdkkcladcaa.Sy
open Go
theorem findL_skip {rec : FS → Row → Bool × FS} {L row : Row} {st : FS} : ∀ (m : Nat) (i : Int), 0 ≤ i → i + m ≤ (L.length : Int) → (∀ k : Int, i ≤ k → k < i + m → freeF k L st.d = false) → findL rec L row (L.length - i.toNat) i st = findL rec L row (L.length - (i + m).toNat) (i + m) st
  | 0, i, h0, h1, h => by rw [show i + ((0 : Nat) : Int) = i by omega]
  | m + 1, i, h0, h1, h => by
    rw [findL_no h0 (by omega) (h i (by omega) (by omega)), findL_skip m (i + 1) (by omega) (by omega) (fun k h2 h3 => h k (by omega) (by omega)), show i + 1 + (m : Int) = i + ((m + 1 : Nat) : Int) by omega]
def onz (i m : Nat) : Row := List.replicate i [1] ++ List.replicate m [0]
theorem onz_len (i m : Nat) : (onz i m).length = i + m := by simp [onz]
theorem cl_onz1 {i m : Nat} {k : Int} (h0 : 0 ≤ k) (h : k < (i : Int)) : cl (onz i m) k = 1 := by
  unfold cl onz
  rw [List.getD_eq_getElem?_getD, List.getElem?_append_left (by simp; omega), List.getElem?_replicate, if_pos (by omega)]
  rfl
theorem cl_onz0 {i m : Nat} {k : Int} (h0 : (i : Int) ≤ k) (h : k < ((i + m : Nat) : Int)) : cl (onz i m) k = 0 := by
  unfold cl onz
  rw [List.getD_eq_getElem?_getD, List.getElem?_append_right (by simp; omega), List.getElem?_replicate, if_pos (by simp; omega)]
  rfl
theorem onz_set (i m : Nat) : (onz i (m + 1)).set i [1] = onz (i + 1) m := by
  unfold onz
  rw [List.set_append_right _ _ (by simp), List.length_replicate, Nat.sub_self, List.replicate_succ, List.set_cons_zero, List.replicate_succ' (n := i), List.append_assoc]
  rfl
theorem onz_back (i m : Nat) : (onz (i + 1) m).set i [0] = onz i (m + 1) := by
  rw [← onz_set, List.set_set]
  unfold onz
  rw [List.set_append_right _ _ (by simp), List.length_replicate, Nat.sub_self, List.replicate_succ, List.set_cons_zero]
theorem onz_cnt (i m : Nat) : cnt0 (onz i m) = m := by
  unfold cnt0 onz
  rw [List.countP_append, List.countP_replicate, List.countP_replicate, if_neg (by decide), if_pos (by decide)]
  omega
theorem onz_all (i m : Nat) : All01 (onz i m) := fun x hx => by
  unfold onz at hx
  rcases List.mem_append.1 hx with g | g
  · exact .inr (List.mem_replicate.1 g).2
  · exact .inl (List.mem_replicate.1 g).2
def idx (i : Nat) : Row := (List.range i).map fun (j : Nat) => [(j : Int)]
theorem idx_succ (i : Nat) : idx (i + 1) = idx i ++ [[(i : Int)]] := by unfold idx; rw [List.range_succ, List.map_append]; rfl
theorem idx_len (i : Nat) : (idx i).length = i := by simp [idx]
theorem cl_idx {i : Nat} {k : Int} (h0 : 0 ≤ k) (h : k < (i : Int)) : cl (idx i) k = k := by
  unfold cl idx
  rw [List.getD_eq_getElem?_getD, List.getElem?_map, List.getElem?_range (by omega)]
  show ((k.toNat : Nat) : Int) = k
  omega
theorem okI_nbz {d e : List Int} (h : nth 0 e 7 = b2i (nbz (nth 0 d 7))) : okI e = okI d := by
  unfold okI; rw [h]; cases nbz (nth 0 d 7) <;> rfl
theorem step_ans {d : List Int} {row : Row} (h : 0 ≤ nth 0 d 6) : stepO (ansD d row) row = stepO d row ∧ stepR (ansD d row) row = stepR d row := by
  have e : ansD d row = [nth 0 d 0, nth 0 d 1, nth 0 d 2, nth 0 d 3, nth 0 d 4, nth 0 d 5, nth 0 d 6, b2i (nbz (nth 0 d 7)), nth 0 d 8, nth 0 d 9, nth 0 d 10] := by unfold ansD; rw [if_pos h]
  have e2 : okI (ansD d row) = okI d := okI_nbz (by rw [e]; rfl)
  unfold stepO stepR
  rw [e2, e]
  exact ⟨rfl, rfl⟩
/-- Calls of one thread: each begins behind the one ahead. -/
def Seq (W : Row) : Prop := ∀ k : Nat, k < W.length → nth 0 (W.getD k []) 5 = 2 * (k : Int) ∧ nth 0 (W.getD k []) 6 = 2 * (k : Int) + 1
theorem seq_free {W : Row} (h : Seq W) {i m : Nat} (hl : i + (m + 1) = W.length) : freeF (i : Int) W (onz i (m + 1)) = true := by
  unfold freeF
  rw [Bool.and_eq_true, decide_eq_true_eq, cl_onz0 (by omega) (by omega)]
  refine ⟨?_, rfl⟩
  rw [Bool.not_eq_true', Bool.eq_false_iff]
  intro hb
  rw [List.any_eq_true] at hb
  obtain ⟨k, hk, hb⟩ := hb
  rw [List.mem_range] at hk
  unfold blkF at hb
  simp only [Bool.and_eq_true, decide_eq_true_eq] at hb
  obtain ⟨⟨b1, b2⟩, b3⟩ := hb
  have h1 := h k hk
  have h2 := h i (by omega)
  rw [show ((i : Int)).toNat = i by omega, h1.2, h2.1] at b3
  rw [cl_onz1 (by omega) (by omega)] at b1
  cases b1
theorem seq_not {W : Row} (h : Seq W) {i m : Nat} (hl : i + (m + 1) = W.length) {k : Int} (h0 : 0 ≤ k) (h1 : k < (W.length : Int)) (hk : k ≠ (i : Int)) : freeF k W (onz i (m + 1)) = false := by
  unfold freeF
  by_cases hlt : k < (i : Int)
  · rw [cl_onz1 h0 hlt]; simp
  · have hb : (List.range W.length).any (blkF W (onz i (m + 1)) k) = true := by
      rw [List.any_eq_true]
      refine ⟨i, List.mem_range.2 (by omega), ?_⟩
      have e1 := h i (by omega)
      have e2 := h k.toNat (by omega)
      unfold blkF
      simp only [Bool.and_eq_true, decide_eq_true_eq]
      rw [cl_onz0 (by omega) (by omega), e1.2, e2.1]
      refine ⟨⟨rfl, by omega⟩, by omega⟩
    rw [hb]; rfl
theorem seq_left {W : Row} (h : Seq W) {i m : Nat} (hl : i + m = W.length) : (leftN W (onz i m) W.length = 0) ↔ m = 0 := by
  unfold leftN
  rw [List.countP_eq_zero]
  constructor
  · intro hc
    rcases Nat.eq_zero_or_pos m with g | g
    · exact g
    · exfalso
      apply hc i (List.mem_range.2 (by omega))
      unfold lefF
      rw [(h i (by omega)).2, cl_onz0 (by omega) (by omega), Bool.and_eq_true, decide_eq_true_eq, decide_eq_true_eq]
      exact ⟨by omega, rfl⟩
  · rintro rfl k hk
    rw [List.mem_range] at hk
    unfold lefF
    rw [cl_onz1 (by omega) (by omega)]
    simp
theorem seq_find {W : Row} (h : Seq W) : ∀ (m i f : Nat) (st : FS) (row : Row), i + m = W.length → m < f → st.d = onz i m → st.n = (i : Int) → st.o.take i = idx i →
    (findF W f st row).1 = legalF (W.drop i) row ∧ ((findF W f st row).1 = true → (findF W f st row).2.n = (W.length : Int) ∧ (findF W f st row).2.o.take W.length = idx W.length)
  | m, i, 0, st, row, h1, h2, _, _, _ => absurd h2 (by omega)
  | 0, i, f + 1, st, row, h1, h2, h3, h4, h5 => by
    have e : i = W.length := by omega
    subst e
    unfold findF
    rw [h3, if_pos ((seq_left h (by omega)).2 rfl), List.drop_length]
    exact ⟨rfl, fun _ => ⟨h4, h5⟩⟩
  | m + 1, i, f + 1, st, row, h1, h2, h3, h4, h5 => by
    unfold findF
    rw [if_neg (by rw [h3, seq_left h h1]; omega)]
    have ew : findL (findF W f) W row W.length 0 st = findL (findF W f) W row (W.length - (i : Int).toNat) (i : Int) st := by
      have := findL_skip (rec := findF W f) (L := W) (row := row) (st := st) i 0 (by omega) (by omega) (fun k z1 z2 => by rw [h3]; exact seq_not h h1 z1 (by omega) (by omega))
      simpa using this
    rw [ew]
    have hf : freeF (i : Int) W st.d = true := by rw [h3]; exact seq_free h h1
    have hd : W.drop i = W.getD i [] :: W.drop (i + 1) := by
      rw [List.drop_eq_getElem_cons (by omega : i < W.length), List.getD_eq_getElem?_getD, List.getElem?_eq_getElem (by omega)]
      rfl
    obtain ⟨a1, a2⟩ := step_ans (row := row) (d := W.getD i []) (by rw [(h i (by omega)).2]; omega)
    have i0 : ((i : Nat) : Int).toNat = i := by omega
    rw [hd]
    simp only [legalF]
    have rest : ∀ s : FS, s.d = onz i (m + 1) → (findL (findF W f) W row (W.length - ((i : Int) + 1).toNat) ((i : Int) + 1) s).1 = false := by
      intro s hs
      have := findL_skip (rec := findF W f) (L := W) (row := row) (st := s) m ((i : Int) + 1) (by omega) (by omega) (fun k z1 z2 => by rw [hs]; exact seq_not h h1 (by omega) (by omega) (by omega))
      rw [this, findL_end (by omega) (by omega)]
    cases ho : stepO (W.getD i []) row with
    | false =>
      rw [findL_not (by omega) (by omega) hf (by rw [i0, a1]; exact ho), rest st h3, if_neg (by decide)]
      exact ⟨rfl, fun z => by cases z⟩
    | true =>
      rw [if_pos rfl]
      have hin : (fsIn st (i : Int)).d = onz (i + 1) m := by show st.d.set (i : Int).toNat [1] = _; rw [h3, i0, onz_set]
      have ih := seq_find h m (i + 1) f (fsIn st (i : Int)) (stepR (W.getD i []) row) (by omega) (by omega) hin (by show st.n + 1 = _; rw [h4]; omega) (by
        show (st.o.take st.n.toNat ++ [[(i : Int)]]).take (i + 1) = _
        rw [h4, i0, h5, idx_succ, List.take_of_length_le (by simp [idx_len])])
      cases hr : findF W f (fsIn st (i : Int)) (stepR (W.getD i []) row) with
      | mk b q =>
        rw [hr] at ih
        cases b with
        | true =>
          rw [findL_yes (by omega) (by omega) hf (by rw [i0, a1]; exact ho) (by rw [i0, a2]; exact hr)]
          exact ⟨ih.1, fun z => ih.2 z⟩
        | false =>
          have hb := findF_fine W f (fsIn st (i : Int)) (stepR (W.getD i []) row)
          rw [findL_back (by omega) (by omega) hf (by rw [i0, a1]; exact ho) (by rw [i0, a2]; exact hr)]
          have hg : G0 W (fsIn st (i : Int)) := by
            refine ⟨?_, by rw [hin, onz_len]; omega, ?_, ?_, ?_⟩
            · rw [hin]; exact onz_all _ _
            · show 0 ≤ st.n + 1; omega
            · show st.n + 1 ≤ ((st.o.take st.n.toNat ++ [[(i : Int)]]).length : Int)
              rw [h4, i0, h5, List.length_append, idx_len]; simp
            · rw [hin, onz_cnt]; show st.n + 1 + _ ≤ _; omega
          have hq := hb hg
          rw [hr] at hq
          have hqd : (fsOut q (i : Int)).d = onz i (m + 1) := by
            show q.d.set (i : Int).toNat [0] = _
            rw [(hq.2 rfl).1, hin, i0, onz_back]
          rw [rest _ hqd]
          exact ⟨ih.1, fun z => by cases z⟩
theorem seq_all {W : Row} (h : Seq W) : (findM W ⟨List.replicate W.length [0], 0, [], false⟩ []).1 = legalF W [] ∧ ((findM W ⟨List.replicate W.length [0], 0, [], false⟩ []).1 = true → (findM W ⟨List.replicate W.length [0], 0, [], false⟩ []).2.n = (W.length : Int) ∧ (findM W ⟨List.replicate W.length [0], 0, [], false⟩ []).2.o.take W.length = idx W.length) := by
  have e : List.replicate W.length [0] = onz 0 W.length := by simp [onz]
  have := seq_find h W.length 0 (cnt0 (List.replicate W.length [(0 : Int)]) + 1) ⟨List.replicate W.length [0], 0, [], false⟩ [] (by omega) (by rw [e, onz_cnt]; omega) e rfl rfl
  unfold findM
  simpa using this
theorem seq_good (W : Row) : goodF 0 (List.replicate W.length [0]) W = true := by
  rw [good_iff]
  have e : List.replicate W.length [0] = onz 0 W.length := by simp [onz]
  refine ⟨fun x hx => ?_, by rw [e, onz_cnt]; omega⟩
  rw [List.mem_replicate] at hx
  exact .inl hx.2
end Go.Proofs.Ytpgkbdkkcladcaa.Sy
