/- The contract of stackyardlaw06.guarded: does a thread look at a place? A lemma file: conditions are those of the contract's 'kn'. -/
import Derived.Test.YtckbckijpdnlaaaOwnGuardedS
set_option linter.unusedVariables false
set_option linter.unusedSimpArgs false
set_option maxRecDepth 100000
set_option maxHeartbeats 4000000
namespace Go.Proofs.Ytckbckijpdnlaaa.FGuarded
open Go Go.Lib Go.Proofs.Ytckbckijpdnlaaa.Eng Go.Proofs.Ytckbckijpdnlaaa.Sy

abbrev V (i : List Int) (r : List Row) : Val := ⟨i, [], r, [], Φ⟩
def Inv (T S s d slot ll : Int) (r : Row) (p : Nat) (v : Val) : Prop := p = 0 ∧ ∃ t, v = V [slot, t, ll, T, S, s, d] [r] ∧ 0 ≤ t ∧ t ≤ T ∧ ∀ j, 0 ≤ j → j < t → cl r (2 * (T * S) + j) ≠ slot + 1
def μ (q : Nat × Val) : Nat × Nat := ((100 - nth 0 q.2.i 1).toNat, 0)
theorem ok (u : Val) (hu : u.f = Φ) : FC.Ok P0 u fc := by
  refine mk u (Inv (nth 0 u.i 0) (nth 0 u.i 1) (nth 0 u.i 2) (nth 0 u.i 3) (nth 0 u.i 4) (nth 0 u.i 5) (nth [] u.r 0)) μ hu ?_ (fun hk k σ po hs => ?_) ?_ (fun hk => ?_) ?_
  · rintro k v ⟨_, t, rfl, _⟩; rfl
  · cases hs; exact KV.nil
  · rintro hk v ⟨_, t, rfl, h0, h1, h2⟩
    unfold KV fc at hk
    simp only [List.forall_mem_cons, d_vi, d_vb, d_vr, d_ci, d_cb, d_nr, d_nl, d_add, d_sub, d_mul, d_rem, d_quo, d_bit, d_mn2, d_mx2, d_w, d_nn, d_bn2, d_len, d_neg, d_cl, d_at1, d_at2, d_at3, d_at4, d_at5, d_at6, d_at7, d_set, d_app, d_cat, d_take, d_drop, d_rep, d_cons, d_lt_t, d_lt_f, d_le_t, d_le_f, d_eqi_t, d_eqi_f, d_eqb_t, d_eqb_f, d_nb_t, d_nb_f, nth0, nthS, d_api, d_apr, D_cons, D_nl, D_nr, D_vr, D_set, mkL_l, mkR_r, mkI_i, d_shr2, d_shr3, d_shr16, d_shr40, d_shl2, d_shl3, d_shl16, d_shl40, d_apb, mkB_b] at hk
    have e1 := prod4 (T := nth 0 u.i 0) (S := nth 0 u.i 1) (by omega) (by omega) (by omega) (by omega)
    unfold tm0 KV
    simp only [List.forall_mem_cons, d_vi, d_vb, d_vr, d_ci, d_cb, d_nr, d_nl, d_add, d_sub, d_mul, d_rem, d_quo, d_bit, d_mn2, d_mx2, d_w, d_nn, d_bn2, d_len, d_neg, d_cl, d_at1, d_at2, d_at3, d_at4, d_at5, d_at6, d_at7, d_set, d_app, d_cat, d_take, d_drop, d_rep, d_cons, d_lt_t, d_lt_f, d_le_t, d_le_f, d_eqi_t, d_eqi_f, d_eqb_t, d_eqb_f, d_nb_t, d_nb_f, nth0, nthS, d_api, d_apr, D_cons, D_nl, D_nr, D_vr, D_set, mkL_l, mkR_r, mkI_i, d_shr2, d_shr3, d_shr16, d_shr40, d_shl2, d_shl3, d_shl16, d_shl40, d_apb, mkB_b]
    simp only [List.not_mem_nil, false_imp_iff, implies_true, and_true]
    clear h2
    omega
  · unfold KV fc at hk
    simp only [List.forall_mem_cons, d_vi, d_vb, d_vr, d_ci, d_cb, d_nr, d_nl, d_add, d_sub, d_mul, d_rem, d_quo, d_bit, d_mn2, d_mx2, d_w, d_nn, d_bn2, d_len, d_neg, d_cl, d_at1, d_at2, d_at3, d_at4, d_at5, d_at6, d_at7, d_set, d_app, d_cat, d_take, d_drop, d_rep, d_cons, d_lt_t, d_lt_f, d_le_t, d_le_f, d_eqi_t, d_eqi_f, d_eqb_t, d_eqb_f, d_nb_t, d_nb_f, nth0, nthS, d_api, d_apr, D_cons, D_nl, D_nr, D_vr, D_set, mkL_l, mkR_r, mkI_i, d_shr2, d_shr3, d_shr16, d_shr40, d_shl2, d_shl3, d_shl16, d_shl40, d_apb, mkB_b] at hk
    unfold trS
    refine TOK.leaf' (show Inv _ _ _ _ _ _ _ 0 _ from ⟨rfl, 0, ?_, by omega, by omega, fun j h1 h2 => by omega⟩)
    simp only [Sb.val, List.map_cons, List.map_nil, d_vi, d_vb, d_vr, d_ci, d_cb, d_nr, d_nl, d_add, d_sub, d_mul, d_rem, d_quo, d_bit, d_mn2, d_mx2, d_w, d_nn, d_bn2, d_len, d_neg, d_cl, d_at1, d_at2, d_at3, d_at4, d_at5, d_at6, d_at7, d_set, d_app, d_cat, d_take, d_drop, d_rep, d_cons, d_lt_t, d_lt_f, d_le_t, d_le_f, d_eqi_t, d_eqi_f, d_eqb_t, d_eqb_f, d_nb_t, d_nb_f, nth0, nthS, d_api, d_apr, D_cons, D_nl, D_nr, D_vr, D_set, mkL_l, mkR_r, mkI_i, d_shr2, d_shr3, d_shr16, d_shr40, d_shl2, d_shl3, d_shl16, d_shl40, d_apb, mkB_b, hu]
  · rintro hk v ⟨_, t, rfl, h0, h1, h2⟩
    unfold KV fc at hk
    simp only [List.forall_mem_cons, d_vi, d_vb, d_vr, d_ci, d_cb, d_nr, d_nl, d_add, d_sub, d_mul, d_rem, d_quo, d_bit, d_mn2, d_mx2, d_w, d_nn, d_bn2, d_len, d_neg, d_cl, d_at1, d_at2, d_at3, d_at4, d_at5, d_at6, d_at7, d_set, d_app, d_cat, d_take, d_drop, d_rep, d_cons, d_lt_t, d_lt_f, d_le_t, d_le_f, d_eqi_t, d_eqi_f, d_eqb_t, d_eqb_f, d_nb_t, d_nb_f, nth0, nthS, d_api, d_apr, D_cons, D_nl, D_nr, D_vr, D_set, mkL_l, mkR_r, mkI_i, d_shr2, d_shr3, d_shr16, d_shr40, d_shl2, d_shl3, d_shl16, d_shl40, d_apb, mkB_b] at hk
    have e1 := prod4 (T := nth 0 u.i 0) (S := nth 0 u.i 1) (by omega) (by omega) (by omega) (by omega)
    unfold tr0
    repeat' (first
      | (refine TOK.br' (fun h => ?_) (fun h => ?_) <;> simp (disch := omega) only [d_vi, d_vb, d_vr, d_ci, d_cb, d_nr, d_nl, d_add, d_sub, d_mul, d_rem, d_quo, d_bit, d_mn2, d_mx2, d_w, d_nn, d_bn2, d_len, d_neg, d_cl, d_at1, d_at2, d_at3, d_at4, d_at5, d_at6, d_at7, d_set, d_app, d_cat, d_take, d_drop, d_rep, d_cons, d_lt_t, d_lt_n, d_le_t, d_le_n, d_eqi_t, d_eqi_f, d_eqb_t, d_eqb_f, d_nb_t, d_nb_f, nth0, nthS, d_api, d_apr, D_cons, D_nl, D_nr, D_vr, D_set, mkL_l, mkR_r, mkI_i, d_shr2, d_shr3, d_shr16, d_shr40, d_shl2, d_shl3, d_shl16, d_shl40, d_apb, mkB_b, w64] at h <;> (try (exfalso; clear h2; omega)))
      | (with_reducible refine TOK.leaf' ?_))
    all_goals first
      | (refine (⟨_, _, rfl, ?_⟩ : ∃ σ po, Sel u fc.out (0, σ, po) ∧ _)
         simp only [Sb.val, List.map_cons, List.map_nil, d_vi, d_vb, d_vr, d_ci, d_cb, d_nr, d_nl, d_add, d_sub, d_mul, d_rem, d_quo, d_bit, d_mn2, d_mx2, d_w, d_nn, d_bn2, d_len, d_neg, d_cl, d_at1, d_at2, d_at3, d_at4, d_at5, d_at6, d_at7, d_set, d_app, d_cat, d_take, d_drop, d_rep, d_cons, d_lt_t, d_lt_f, d_le_t, d_le_f, d_eqi_t, d_eqi_f, d_eqb_t, d_eqb_f, d_nb_t, d_nb_f, nth0, nthS, d_api, d_apr, D_cons, D_nl, D_nr, D_vr, D_set, mkL_l, mkR_r, mkI_i, d_shr2, d_shr3, d_shr16, d_shr40, d_shl2, d_shl3, d_shl16, d_shl40, d_apb, mkB_b, Φ100, Φ101, Φ102, Φ103, Φ104, Φ105, Φ106, Φ107, Φ108, Φ200, Φ201, Φ202, Φ203, Φ204, Φ205, Φ206, Φ207, Φ208, Φ209, Φ0, Φ1, Φ10, hu]
         have hT : guardedB (nth 0 u.i 0) (nth 0 u.i 1) (nth 0 u.i 4) (nth [] u.r 0) = true := guardedB_t.2 ⟨t, h0, by omega, by omega⟩
         rw [hT])
      | (refine (⟨_, _, rfl, ?_⟩ : ∃ σ po, Sel u fc.out (0, σ, po) ∧ _)
         simp only [Sb.val, List.map_cons, List.map_nil, d_vi, d_vb, d_vr, d_ci, d_cb, d_nr, d_nl, d_add, d_sub, d_mul, d_rem, d_quo, d_bit, d_mn2, d_mx2, d_w, d_nn, d_bn2, d_len, d_neg, d_cl, d_at1, d_at2, d_at3, d_at4, d_at5, d_at6, d_at7, d_set, d_app, d_cat, d_take, d_drop, d_rep, d_cons, d_lt_t, d_lt_f, d_le_t, d_le_f, d_eqi_t, d_eqi_f, d_eqb_t, d_eqb_f, d_nb_t, d_nb_f, nth0, nthS, d_api, d_apr, D_cons, D_nl, D_nr, D_vr, D_set, mkL_l, mkR_r, mkI_i, d_shr2, d_shr3, d_shr16, d_shr40, d_shl2, d_shl3, d_shl16, d_shl40, d_apb, mkB_b, Φ100, Φ101, Φ102, Φ103, Φ104, Φ105, Φ106, Φ107, Φ108, Φ200, Φ201, Φ202, Φ203, Φ204, Φ205, Φ206, Φ207, Φ208, Φ209, Φ0, Φ1, Φ10, hu]
         have hT : guardedB (nth 0 u.i 0) (nth 0 u.i 1) (nth 0 u.i 4) (nth [] u.r 0) = false := by
           rw [Bool.eq_false_iff]
           intro z
           obtain ⟨j, g1, g2, g3⟩ := guardedB_t.1 z
           exact h2 j g1 (by omega) g3
         rw [hT])
      | (refine And.intro (?_ : Inv _ _ _ _ _ _ _ 0 _) (?_ : lt2 μ (0, _) _)
         · simp (disch := omega) only [Sb.val, List.map_cons, List.map_nil, d_vi, d_vb, d_vr, d_ci, d_cb, d_nr, d_nl, d_add, d_sub, d_mul, d_rem, d_quo, d_bit, d_mn2, d_mx2, d_w, d_nn, d_bn2, d_len, d_neg, d_cl, d_at1, d_at2, d_at3, d_at4, d_at5, d_at6, d_at7, d_set, d_app, d_cat, d_take, d_drop, d_rep, d_cons, d_lt_t, d_lt_f, d_le_t, d_le_f, d_eqi_t, d_eqi_f, d_eqb_t, d_eqb_f, d_nb_t, d_nb_f, nth0, nthS, d_api, d_apr, D_cons, D_nl, D_nr, D_vr, D_set, mkL_l, mkR_r, mkI_i, d_shr2, d_shr3, d_shr16, d_shr40, d_shl2, d_shl3, d_shl16, d_shl40, d_apb, mkB_b, w64]
           refine ⟨rfl, t + 1, rfl, by omega, by omega, fun j g1 g2 => ?_⟩
           rcases (by omega : j < t ∨ j = t) with z | z
           · exact h2 j g1 z
           · subst z; assumption
         · refine .inl ?_
           simp (disch := omega) only [μ, Sb.val, List.map_cons, List.map_nil, d_vi, d_vb, d_vr, d_ci, d_cb, d_nr, d_nl, d_add, d_sub, d_mul, d_rem, d_quo, d_bit, d_mn2, d_mx2, d_w, d_nn, d_bn2, d_len, d_neg, d_cl, d_at1, d_at2, d_at3, d_at4, d_at5, d_at6, d_at7, d_set, d_app, d_cat, d_take, d_drop, d_rep, d_cons, d_lt_t, d_lt_f, d_le_t, d_le_f, d_eqi_t, d_eqi_f, d_eqb_t, d_eqb_f, d_nb_t, d_nb_f, nth0, nthS, d_api, d_apr, D_cons, D_nl, D_nr, D_vr, D_set, mkL_l, mkR_r, mkI_i, d_shr2, d_shr3, d_shr16, d_shr40, d_shl2, d_shl3, d_shl16, d_shl40, d_apb, mkB_b, w64]; omega)
end Go.Proofs.Ytckbckijpdnlaaa.FGuarded
