/- The contract of stackyardlaw06.Cells: the cells that it makes, and what is noted of that. A lemma file: conditions are those of the contract's 'kn'. -/
import Derived.Test.YtckbckijpdnlaaaOwnCellsS
set_option linter.unusedVariables false
set_option linter.unusedSimpArgs false
set_option maxRecDepth 100000
set_option maxHeartbeats 4000000
namespace Go.Proofs.Ytckbckijpdnlaaa.FCells
open Go Go.Lib Go.Proofs.Ytckbckijpdnlaaa.Eng Go.Proofs.Ytckbckijpdnlaaa.Sy

section
variable {T S a b : Int} {list haz : Row}
theorem cellsN_len : ((cellsN T S list haz a b).length : Int) = ((2 * (T * S) + 2 * T).toNat : Int) := by simp [cellsN]
theorem cellsN_get {j : Nat} (h : (j : Int) < 2 * (T * S) + 2 * T) : (cellsN T S list haz a b)[j]? = some [cellAt T S list haz a b j] := by
  have : j < (2 * (T * S) + 2 * T).toNat := by omega
  simp [cellsN, this]
theorem cl_cellsN {j : Int} (h0 : 0 ≤ j) (h : j < 2 * (T * S) + 2 * T) : cl (cellsN T S list haz a b) j = cellAt T S list haz a b j.toNat := by
  unfold cl
  rw [List.getD_eq_getElem?_getD, cellsN_get (by omega)]
  rfl
theorem cellsN_A (h0 : 0 ≤ a) (h1 : a < T * S) (hT : 0 ≤ T) : cellsN T S list haz (a + 1) b = (cellsN T S list haz a b).set a.toNat [placeW (list.getD a.toNat [])] := by
  apply List.ext_getElem?
  intro j
  rcases Nat.lt_or_ge j (2 * (T * S) + 2 * T).toNat with h | h
  · rw [cellsN_get (by omega), List.getElem?_set]
    by_cases e : a.toNat = j
    · subst e
      rw [if_pos rfl, if_pos (by have := @cellsN_len T S a b list haz; omega)]
      simp only [cellAt]
      rw [if_pos (by omega)]
    · rw [if_neg e, cellsN_get (by omega)]
      simp only [cellAt]
      by_cases g : (j : Int) < a
      · rw [if_pos (by omega), if_pos g]
      · rw [if_neg (by omega), if_neg g]
  · rw [List.getElem?_eq_none (by have := @cellsN_len T S (a + 1) b list haz; omega), List.getElem?_eq_none (by rw [List.length_set]; have := @cellsN_len T S a b list haz; omega)]
theorem cellsN_B (h0 : 0 ≤ b) (h1 : b < T) (ha : a ≤ T * S) (hTS : 0 ≤ T * S) : cellsN T S list haz a (b + 1) = (cellsN T S list haz a b).set (2 * (T * S) + b).toNat [Go.bits .and .i64 (nth 0 (haz.getD b.toNat []) 0) 31] := by
  apply List.ext_getElem?
  intro j
  rcases Nat.lt_or_ge j (2 * (T * S) + 2 * T).toNat with h | h
  · rw [cellsN_get (by omega), List.getElem?_set]
    by_cases e : (2 * (T * S) + b).toNat = j
    · subst e
      rw [if_pos rfl, if_pos (by have := @cellsN_len T S a b list haz; omega)]
      simp only [cellAt]
      rw [if_neg (by omega), if_pos (by omega), show (2 * (T * S) + b).toNat - (2 * (T * S)).toNat = b.toNat by omega]
    · rw [if_neg e, cellsN_get (by omega)]
      simp only [cellAt]
      by_cases g : (j : Int) < a
      · rw [if_pos g, if_pos g]
      · rw [if_neg g, if_neg g]
        by_cases k : 2 * (T * S) ≤ (j : Int) ∧ (j : Int) < 2 * (T * S) + b
        · rw [if_pos (by omega), if_pos k]
        · rw [if_neg (by omega), if_neg k]
  · rw [List.getElem?_eq_none (by have := @cellsN_len T S a (b + 1) list haz; omega), List.getElem?_eq_none (by rw [List.length_set]; have := @cellsN_len T S a b list haz; omega)]
theorem logN_A (h0 : 0 ≤ a) : logN T S list haz (a + 1) 0 = logN T S list haz a 0 ++ [[-1, 1, a, 0, placeW (list.getD a.toNat []), 1]] := by
  unfold logN
  rw [show (a + 1).toNat = a.toNat + 1 by omega, List.range_succ, List.map_append]
  simp only [Int.toNat_zero, List.range_zero, List.map_nil, List.append_nil, List.map_cons]
  rw [Int.toNat_of_nonneg h0]
theorem logN_B (h0 : 0 ≤ b) : logN T S list haz a (b + 1) = logN T S list haz a b ++ [[-1, 1, 2 * (T * S) + b, 0, Go.bits .and .i64 (nth 0 (haz.getD b.toNat []) 0) 31, 1]] := by
  unfold logN
  rw [show (b + 1).toNat = b.toNat + 1 by omega, List.range_succ, List.map_append, List.append_assoc]
  simp only [List.map_cons, List.map_nil]
  rw [Int.toNat_of_nonneg h0]
theorem logN_len : ((logN T S list haz a b).length : Int) = (a.toNat : Int) + (b.toNat : Int) := by simp [logN]
theorem cells0 : cellsN T S list haz 0 0 = List.replicate (2 * (T * S) + 2 * T).toNat [0] := by
  apply List.ext_getElem?
  intro j
  rcases Nat.lt_or_ge j (2 * (T * S) + 2 * T).toNat with h | h
  · rw [cellsN_get (by omega), List.getElem?_replicate, if_pos h]
    simp only [cellAt]
    rw [if_neg (by omega), if_neg (by omega)]
  · rw [List.getElem?_eq_none (by have := @cellsN_len T S 0 0 list haz; omega), List.getElem?_eq_none (by simp; omega)]
end
abbrev V (i : List Int) (r : List Row) : Val := ⟨i, [], r, [], Φ⟩
def Inv (T S s d : Int) (l z : Row) (p : Nat) (v : Val) : Prop :=
  (p = 0 ∧ ∃ i, v = V [i, T, S, s, d] [l, z, cellsN T S l z i 0, logN T S l z i 0] ∧ 0 ≤ i ∧ i ≤ cntA T S l) ∨
  (p = 1 ∧ ∃ i, v = V [i, T, S, s, d] [l, z, cellsN T S l z (cntA T S l) i, logN T S l z (cntA T S l) i] ∧ 0 ≤ i ∧ i ≤ cntB T z)
def μ (q : Nat × Val) : Nat × Nat := match q.1 with
  | 0 => (2, (100 - nth 0 q.2.i 0).toNat)
  | _ => (1, (100 - nth 0 q.2.i 0).toNat)
theorem dec (q : Nat) (i : Int) (l l' : List Int) (r r' : List Row) (hq : q = 0 ∨ q = 1) (h0 : 0 ≤ i) (h : i < 100) : lt2 μ (q, V ((i + 1) :: l) r) (q, V (i :: l') r') := by
  rcases hq with rfl | rfl <;> exact .inr ⟨rfl, by show (100 - (i + 1)).toNat < (100 - i).toNat; omega⟩
theorem ok (u : Val) (hu : u.f = Φ) : FC.Ok P0 u fc := by
  refine mk u (Inv (nth 0 u.i 0) (nth 0 u.i 1) (nth 0 u.i 2) (nth 0 u.i 3) (nth [] u.r 0) (nth [] u.r 1)) μ hu ?_ (fun hk k σ po hs => ?_) ?_ ?_ (fun hk => ?_) ?_ ?_
  · rintro k v (⟨_, i, rfl, _⟩ | ⟨_, i, rfl, _⟩) <;> rfl
  · cases hs; exact KV.nil
  · intro hk v hv
    unfold tm0
    exact KV.nil
  · intro hk v hv
    unfold tm1
    exact KV.nil
  · unfold trS
    unfold KV fc at hk
    simp only [List.forall_mem_cons, d_vi, d_vb, d_vr, d_ci, d_cb, d_nr, d_nl, d_add, d_sub, d_mul, d_rem, d_quo, d_bit, d_mn2, d_mx2, d_w, d_nn, d_bn2, d_len, d_neg, d_cl, d_at1, d_at2, d_at3, d_at4, d_at5, d_at6, d_at7, d_set, d_app, d_cat, d_take, d_drop, d_rep, d_cons, d_lt_t, d_lt_f, d_le_t, d_le_f, d_eqi_t, d_eqi_f, d_eqb_t, d_eqb_f, d_nb_t, d_nb_f, nth0, nthS, d_api, d_apr, D_cons, D_nl, D_nr, D_vr, D_set, mkL_l, mkR_r, mkI_i, d_shr2, d_shr3, d_shr16, d_shr40, d_shl2, d_shl3, d_shl16, d_shl40, d_apb, mkB_b] at hk
    have e1 := prod4 (T := nth 0 u.i 0) (S := nth 0 u.i 1) (by omega) (by omega) (by omega) (by omega)
    refine TOK.leaf' (show Inv _ _ _ _ _ _ 0 _ from .inl ⟨rfl, 0, ?_, by omega, by unfold cntA; split <;> omega⟩)
    simp only [Sb.val, List.map_cons, List.map_nil, d_vi, d_vb, d_vr, d_ci, d_cb, d_nr, d_nl, d_add, d_sub, d_mul, d_rem, d_quo, d_bit, d_mn2, d_mx2, d_w, d_nn, d_bn2, d_len, d_neg, d_cl, d_at1, d_at2, d_at3, d_at4, d_at5, d_at6, d_at7, d_set, d_app, d_cat, d_take, d_drop, d_rep, d_cons, d_lt_t, d_lt_f, d_le_t, d_le_f, d_eqi_t, d_eqi_f, d_eqb_t, d_eqb_f, d_nb_t, d_nb_f, nth0, nthS, d_api, d_apr, D_cons, D_nl, D_nr, D_vr, D_set, mkL_l, mkR_r, mkI_i, d_shr2, d_shr3, d_shr16, d_shr40, d_shl2, d_shl3, d_shl16, d_shl40, d_apb, mkB_b, hu, cells0]
    rfl
  · intro hk v hv
    unfold KV fc at hk
    simp only [List.forall_mem_cons, d_vi, d_vb, d_vr, d_ci, d_cb, d_nr, d_nl, d_add, d_sub, d_mul, d_rem, d_quo, d_bit, d_mn2, d_mx2, d_w, d_nn, d_bn2, d_len, d_neg, d_cl, d_at1, d_at2, d_at3, d_at4, d_at5, d_at6, d_at7, d_set, d_app, d_cat, d_take, d_drop, d_rep, d_cons, d_lt_t, d_lt_f, d_le_t, d_le_f, d_eqi_t, d_eqi_f, d_eqb_t, d_eqb_f, d_nb_t, d_nb_f, nth0, nthS, d_api, d_apr, D_cons, D_nl, D_nr, D_vr, D_set, mkL_l, mkR_r, mkI_i, d_shr2, d_shr3, d_shr16, d_shr40, d_shl2, d_shl3, d_shl16, d_shl40, d_apb, mkB_b] at hk
    have e1 := prod4 (T := nth 0 u.i 0) (S := nth 0 u.i 1) (by omega) (by omega) (by omega) (by omega)
    rcases hv with ⟨_, i, rfl, h0, h1⟩ | ⟨h, _⟩
    · generalize nth 0 u.i 0 = T at *
      generalize nth 0 u.i 1 = S at *
      generalize nth [] u.r 0 = l at *
      generalize nth [] u.r 1 = z at *
      have hc : i < T * S → i < (l.length : Int) → i + 1 ≤ cntA T S l := fun a b => by unfold cntA; split <;> omega
      have hd : cntA T S l ≤ T * S ∧ cntA T S l ≤ l.length := by unfold cntA; split <;> omega
      have hlen := @cellsN_len T S i 0 l z
      have hlog := @logN_len T S i 0 l z
      unfold tr0
      repeat' (first
        | (refine TOK.br' (fun h => ?_) (fun h => ?_) <;> simp (disch := omega) only [d_vi, d_vb, d_vr, d_ci, d_cb, d_nr, d_nl, d_add, d_sub, d_mul, d_rem, d_quo, d_bit, d_mn2, d_mx2, d_w, d_nn, d_bn2, d_len, d_neg, d_cl, d_at1, d_at2, d_at3, d_at4, d_at5, d_at6, d_at7, d_set, d_app, d_cat, d_take, d_drop, d_rep, d_cons, d_lt_t, d_lt_n, d_le_t, d_le_n, d_eqi_t, d_eqi_f, d_eqb_t, d_eqb_f, d_nb_t, d_nb_f, nth0, nthS, d_api, d_apr, D_cons, D_nl, D_nr, D_vr, D_set, mkL_l, mkR_r, mkI_i, d_shr2, d_shr3, d_shr16, d_shr40, d_shl2, d_shl3, d_shl16, d_shl40, d_apb, mkB_b, w64] at h <;> (try (exfalso; omega)))
        | (with_reducible refine TOK.leaf' ?_))
      all_goals first
        | (refine ⟨.inl ⟨rfl, i + 1, ?_, by omega, hc (by omega) (by omega)⟩, ?_⟩
           · simp (disch := omega) only [Sb.val, List.map_cons, List.map_nil, d_vi, d_vb, d_vr, d_ci, d_cb, d_nr, d_nl, d_add, d_sub, d_mul, d_rem, d_quo, d_bit, d_mn2, d_mx2, d_w, d_nn, d_bn2, d_len, d_neg, d_cl, d_at1, d_at2, d_at3, d_at4, d_at5, d_at6, d_at7, d_set, d_app, d_cat, d_take, d_drop, d_rep, d_cons, d_lt_t, d_lt_f, d_le_t, d_le_f, d_eqi_t, d_eqi_f, d_eqb_t, d_eqb_f, d_nb_t, d_nb_f, nth0, nthS, d_api, d_apr, D_cons, D_nl, D_nr, D_vr, D_set, mkL_l, mkR_r, mkI_i, d_shr2, d_shr3, d_shr16, d_shr40, d_shl2, d_shl3, d_shl16, d_shl40, d_apb, mkB_b, w64]
             rw [cellsN_A h0 (by omega) (by omega), logN_A h0, cl_cellsN h0 (by omega)]
             simp only [cellAt, placeW]
             rw [if_neg (by omega), if_neg (by omega), if_pos (by assumption)]
             try rfl
           · simp (disch := omega) only [Sb.val, List.map_cons, List.map_nil, d_vi, d_vb, d_vr, d_ci, d_cb, d_nr, d_nl, d_add, d_sub, d_mul, d_rem, d_quo, d_bit, d_mn2, d_mx2, d_w, d_nn, d_bn2, d_len, d_neg, d_cl, d_at1, d_at2, d_at3, d_at4, d_at5, d_at6, d_at7, d_set, d_app, d_cat, d_take, d_drop, d_rep, d_cons, d_lt_t, d_lt_f, d_le_t, d_le_f, d_eqi_t, d_eqi_f, d_eqb_t, d_eqb_f, d_nb_t, d_nb_f, nth0, nthS, d_api, d_apr, D_cons, D_nl, D_nr, D_vr, D_set, mkL_l, mkR_r, mkI_i, d_shr2, d_shr3, d_shr16, d_shr40, d_shl2, d_shl3, d_shl16, d_shl40, d_apb, mkB_b, w64]; exact dec _ i _ _ _ _ (by decide) h0 (by omega))
        | (refine ⟨.inl ⟨rfl, i + 1, ?_, by omega, hc (by omega) (by omega)⟩, ?_⟩
           · simp (disch := omega) only [Sb.val, List.map_cons, List.map_nil, d_vi, d_vb, d_vr, d_ci, d_cb, d_nr, d_nl, d_add, d_sub, d_mul, d_rem, d_quo, d_bit, d_mn2, d_mx2, d_w, d_nn, d_bn2, d_len, d_neg, d_cl, d_at1, d_at2, d_at3, d_at4, d_at5, d_at6, d_at7, d_set, d_app, d_cat, d_take, d_drop, d_rep, d_cons, d_lt_t, d_lt_f, d_le_t, d_le_f, d_eqi_t, d_eqi_f, d_eqb_t, d_eqb_f, d_nb_t, d_nb_f, nth0, nthS, d_api, d_apr, D_cons, D_nl, D_nr, D_vr, D_set, mkL_l, mkR_r, mkI_i, d_shr2, d_shr3, d_shr16, d_shr40, d_shl2, d_shl3, d_shl16, d_shl40, d_apb, mkB_b, w64]
             rw [cellsN_A h0 (by omega) (by omega), logN_A h0, cl_cellsN h0 (by omega)]
             simp only [cellAt, placeW]
             rw [if_neg (by omega), if_neg (by omega), if_neg (by assumption)]
             try rfl
           · simp (disch := omega) only [Sb.val, List.map_cons, List.map_nil, d_vi, d_vb, d_vr, d_ci, d_cb, d_nr, d_nl, d_add, d_sub, d_mul, d_rem, d_quo, d_bit, d_mn2, d_mx2, d_w, d_nn, d_bn2, d_len, d_neg, d_cl, d_at1, d_at2, d_at3, d_at4, d_at5, d_at6, d_at7, d_set, d_app, d_cat, d_take, d_drop, d_rep, d_cons, d_lt_t, d_lt_f, d_le_t, d_le_f, d_eqi_t, d_eqi_f, d_eqb_t, d_eqb_f, d_nb_t, d_nb_f, nth0, nthS, d_api, d_apr, D_cons, D_nl, D_nr, D_vr, D_set, mkL_l, mkR_r, mkI_i, d_shr2, d_shr3, d_shr16, d_shr40, d_shl2, d_shl3, d_shl16, d_shl40, d_apb, mkB_b, w64]; exact dec _ i _ _ _ _ (by decide) h0 (by omega))
        | (refine ⟨.inr ⟨rfl, 0, ?_, by omega, by unfold cntB; split <;> omega⟩, .inl (by simp [μ])⟩
           have hi : i = cntA T S l := by unfold cntA at hd h1 ⊢; split at h1 <;> (split <;> omega)
           simp (disch := omega) only [Sb.val, List.map_cons, List.map_nil, d_vi, d_vb, d_vr, d_ci, d_cb, d_nr, d_nl, d_add, d_sub, d_mul, d_rem, d_quo, d_bit, d_mn2, d_mx2, d_w, d_nn, d_bn2, d_len, d_neg, d_cl, d_at1, d_at2, d_at3, d_at4, d_at5, d_at6, d_at7, d_set, d_app, d_cat, d_take, d_drop, d_rep, d_cons, d_lt_t, d_lt_f, d_le_t, d_le_f, d_eqi_t, d_eqi_f, d_eqb_t, d_eqb_f, d_nb_t, d_nb_f, nth0, nthS, d_api, d_apr, D_cons, D_nl, D_nr, D_vr, D_set, mkL_l, mkR_r, mkI_i, d_shr2, d_shr3, d_shr16, d_shr40, d_shl2, d_shl3, d_shl16, d_shl40, d_apb, mkB_b, w64, hi])
    · cases h
  · intro hk v hv
    unfold KV fc at hk
    simp only [List.forall_mem_cons, d_vi, d_vb, d_vr, d_ci, d_cb, d_nr, d_nl, d_add, d_sub, d_mul, d_rem, d_quo, d_bit, d_mn2, d_mx2, d_w, d_nn, d_bn2, d_len, d_neg, d_cl, d_at1, d_at2, d_at3, d_at4, d_at5, d_at6, d_at7, d_set, d_app, d_cat, d_take, d_drop, d_rep, d_cons, d_lt_t, d_lt_f, d_le_t, d_le_f, d_eqi_t, d_eqi_f, d_eqb_t, d_eqb_f, d_nb_t, d_nb_f, nth0, nthS, d_api, d_apr, D_cons, D_nl, D_nr, D_vr, D_set, mkL_l, mkR_r, mkI_i, d_shr2, d_shr3, d_shr16, d_shr40, d_shl2, d_shl3, d_shl16, d_shl40, d_apb, mkB_b] at hk
    have e1 := prod4 (T := nth 0 u.i 0) (S := nth 0 u.i 1) (by omega) (by omega) (by omega) (by omega)
    rcases hv with ⟨h, _⟩ | ⟨_, i, rfl, h0, h1⟩
    · cases h
    · have hd : cntB (nth 0 u.i 0) (nth [] u.r 1) ≤ nth 0 u.i 0 ∧ cntB (nth 0 u.i 0) (nth [] u.r 1) ≤ (nth [] u.r 1).length := by unfold cntB; split <;> omega
      have hA : cntA (nth 0 u.i 0) (nth 0 u.i 1) (nth [] u.r 0) ≤ nth 0 u.i 0 * nth 0 u.i 1 ∧ 0 ≤ cntA (nth 0 u.i 0) (nth 0 u.i 1) (nth [] u.r 0) := by unfold cntA; split <;> omega
      have hc : i < nth 0 u.i 0 → i < ((nth [] u.r 1).length : Int) → i + 1 ≤ cntB (nth 0 u.i 0) (nth [] u.r 1) := fun a b => by unfold cntB; split <;> omega
      have hlen := @cellsN_len (nth 0 u.i 0) (nth 0 u.i 1) (cntA (nth 0 u.i 0) (nth 0 u.i 1) (nth [] u.r 0)) i (nth [] u.r 0) (nth [] u.r 1)
      have hlog := @logN_len (nth 0 u.i 0) (nth 0 u.i 1) (cntA (nth 0 u.i 0) (nth 0 u.i 1) (nth [] u.r 0)) i (nth [] u.r 0) (nth [] u.r 1)
      have hA2 : cntA (nth 0 u.i 0) (nth 0 u.i 1) (nth [] u.r 0) ≤ (nth [] u.r 0).length := by unfold cntA; split <;> omega
      have hi : ¬ (i < nth 0 u.i 0 ∧ i < ((nth [] u.r 1).length : Int)) → i = cntB (nth 0 u.i 0) (nth [] u.r 1) := fun g => by unfold cntB at h1 ⊢; split at h1 <;> (split <;> omega)
      unfold tr1
      repeat' (first
        | (refine TOK.br' (fun h => ?_) (fun h => ?_) <;> simp (disch := omega) only [d_vi, d_vb, d_vr, d_ci, d_cb, d_nr, d_nl, d_add, d_sub, d_mul, d_rem, d_quo, d_bit, d_mn2, d_mx2, d_w, d_nn, d_bn2, d_len, d_neg, d_cl, d_at1, d_at2, d_at3, d_at4, d_at5, d_at6, d_at7, d_set, d_app, d_cat, d_take, d_drop, d_rep, d_cons, d_lt_t, d_lt_n, d_le_t, d_le_n, d_eqi_t, d_eqi_f, d_eqb_t, d_eqb_f, d_nb_t, d_nb_f, nth0, nthS, d_api, d_apr, D_cons, D_nl, D_nr, D_vr, D_set, mkL_l, mkR_r, mkI_i, d_shr2, d_shr3, d_shr16, d_shr40, d_shl2, d_shl3, d_shl16, d_shl40, d_apb, mkB_b, w64] at h <;> (try (exfalso; omega)))
        | (with_reducible refine TOK.leaf' ?_))
      all_goals first
        | (refine (⟨_, _, rfl, ?_⟩ : ∃ σ po, Sel u fc.out (0, σ, po) ∧ _)
           have hi := hi (by omega)
           simp (disch := omega) only [Sb.val, List.map_cons, List.map_nil, d_vi, d_vb, d_vr, d_ci, d_cb, d_nr, d_nl, d_add, d_sub, d_mul, d_rem, d_quo, d_bit, d_mn2, d_mx2, d_w, d_nn, d_bn2, d_len, d_neg, d_cl, d_at1, d_at2, d_at3, d_at4, d_at5, d_at6, d_at7, d_set, d_app, d_cat, d_take, d_drop, d_rep, d_cons, d_lt_t, d_lt_f, d_le_t, d_le_f, d_eqi_t, d_eqi_f, d_eqb_t, d_eqb_f, d_nb_t, d_nb_f, nth0, nthS, d_api, d_apr, D_cons, D_nl, D_nr, D_vr, D_set, mkL_l, mkR_r, mkI_i, d_shr2, d_shr3, d_shr16, d_shr40, d_shl2, d_shl3, d_shl16, d_shl40, d_apb, mkB_b, Φ100, Φ101, Φ102, Φ103, Φ104, Φ105, Φ106, Φ107, Φ108, Φ200, Φ201, Φ202, Φ203, Φ204, Φ205, Φ206, Φ207, Φ208, Φ209, Φ0, Φ1, Φ10, Φ300, Φ301, Φ302, Φ303, Φ304, Φ305, Φ306, Φ307, Φ308, Φ309, Φ310, Φ311, Φ312, Φ313, Φ314, Φ315, Φ316, Φ317, Φ318, Φ319, Φ20, hu, hi])
        | (refine ⟨.inr ⟨rfl, i + 1, ?_, by omega, hc (by omega) (by omega)⟩, ?_⟩
           · simp (disch := omega) only [Sb.val, List.map_cons, List.map_nil, d_vi, d_vb, d_vr, d_ci, d_cb, d_nr, d_nl, d_add, d_sub, d_mul, d_rem, d_quo, d_bit, d_mn2, d_mx2, d_w, d_nn, d_bn2, d_len, d_neg, d_cl, d_at1, d_at2, d_at3, d_at4, d_at5, d_at6, d_at7, d_set, d_app, d_cat, d_take, d_drop, d_rep, d_cons, d_lt_t, d_lt_f, d_le_t, d_le_f, d_eqi_t, d_eqi_f, d_eqb_t, d_eqb_f, d_nb_t, d_nb_f, nth0, nthS, d_api, d_apr, D_cons, D_nl, D_nr, D_vr, D_set, mkL_l, mkR_r, mkI_i, d_shr2, d_shr3, d_shr16, d_shr40, d_shl2, d_shl3, d_shl16, d_shl40, d_apb, mkB_b, w64]
             rw [cellsN_B h0 (by omega) (by omega) (by omega), logN_B h0, cl_cellsN (by omega) (by omega)]
             simp only [cellAt]
             rw [if_neg (by omega), if_neg (by omega)]
             try rfl
           · simp (disch := omega) only [Sb.val, List.map_cons, List.map_nil, d_vi, d_vb, d_vr, d_ci, d_cb, d_nr, d_nl, d_add, d_sub, d_mul, d_rem, d_quo, d_bit, d_mn2, d_mx2, d_w, d_nn, d_bn2, d_len, d_neg, d_cl, d_at1, d_at2, d_at3, d_at4, d_at5, d_at6, d_at7, d_set, d_app, d_cat, d_take, d_drop, d_rep, d_cons, d_lt_t, d_lt_f, d_le_t, d_le_f, d_eqi_t, d_eqi_f, d_eqb_t, d_eqb_f, d_nb_t, d_nb_f, nth0, nthS, d_api, d_apr, D_cons, D_nl, D_nr, D_vr, D_set, mkL_l, mkR_r, mkI_i, d_shr2, d_shr3, d_shr16, d_shr40, d_shl2, d_shl3, d_shl16, d_shl40, d_apb, mkB_b, w64]; exact dec _ i _ _ _ _ (by decide) h0 (by omega))
end Go.Proofs.Ytckbckijpdnlaaa.FCells
