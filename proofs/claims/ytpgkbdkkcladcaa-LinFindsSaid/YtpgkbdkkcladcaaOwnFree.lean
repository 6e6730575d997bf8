/- The contract of finder.free: may a call stand next? A lemma file: conditions are those of the contract's 'kn'. -/
import Derived.Test.YtpgkbdkkcladcaaOwnFreeS
set_option linter.unusedVariables false
set_option linter.unusedSimpArgs false
set_option maxRecDepth 100000
set_option maxHeartbeats 4000000
namespace Go.Proofs.Ytpgkbdkkcladcaa.FFree
open Go Go.Lib Go.Proofs.Ytpgkbdkkcladcaa.Eng Go.Proofs.Ytpgkbdkkcladcaa.Sy
def Inv (L D : Row) (i : Int) (p : Nat) (v : Val) : Prop := p = 0 ∧ ∃ k s, v = ⟨[i, k, s], [], [L, D], [], Φ⟩ ∧ 0 ≤ k ∧ k ≤ (L.length : Int) ∧ (List.range k.toNat).any (blkF L D i) = false
def μ (q : Nat × Val) : Nat × Nat := ((1000 - nth 0 q.2.i 1).toNat, 0)
theorem any_lt {n m : Nat} {p : Nat → Bool} (h : n < m) (hp : p n = true) : (List.range m).any p = true := by
  rw [List.any_eq_true]; exact ⟨n, List.mem_range.2 h, hp⟩
theorem any_succ {k : Int} {p : Nat → Bool} (h0 : 0 ≤ k) (h : (List.range k.toNat).any p = false) (hp : p k.toNat = false) : (List.range (k + 1).toNat).any p = false := by
  rw [show (k + 1).toNat = k.toNat + 1 by omega, List.range_succ, List.any_append, h]
  simp [hp]
theorem blk_f {L D : Row} {i k : Int} (h0 : 0 ≤ k) (h : cl D k = 0 → 0 ≤ nth 0 (L.getD k.toNat []) 6 → nth 0 (L.getD k.toNat []) 6 < nth 0 (L.getD i.toNat []) 5 → False) : blkF L D i k.toNat = false := by
  unfold blkF
  rw [show ((k.toNat : Nat) : Int) = k by omega, Bool.eq_false_iff]
  intro g
  simp only [Bool.and_eq_true, decide_eq_true_eq] at g
  exact h g.1.1 g.1.2 g.2
theorem blk_t {L D : Row} {i k : Int} (h0 : 0 ≤ k) (h1 : cl D k = 0) (h2 : 0 ≤ nth 0 (L.getD k.toNat []) 6) (h3 : nth 0 (L.getD k.toNat []) 6 < nth 0 (L.getD i.toNat []) 5) : blkF L D i k.toNat = true := by
  unfold blkF
  rw [show ((k.toNat : Nat) : Int) = k by omega]
  simp only [Bool.and_eq_true, decide_eq_true_eq]
  exact ⟨⟨h1, h2⟩, h3⟩
theorem ok (u : Val) (hu : u.f = Φ) : FC.Ok P0 u fc := by
  refine mk u (Inv (nth [] u.r 0) (nth [] u.r 1) (nth 0 u.i 0)) μ hu ?_ (fun hk k σ po hs => ?_) ?_ (fun hk => ?_) ?_
  · rintro k v ⟨_, i, s, rfl, _⟩; rfl
  · cases hs; exact KV.nil
  · rintro hk v ⟨_, k, s, rfl, h0, h1, h3⟩
    unfold KV fc at hk
    simp only [List.forall_mem_cons, d_vi, d_vb, d_vr, d_ci, d_cb, d_nr, d_nl, d_add, d_sub, d_mul, d_rem, d_quo, d_bit, d_mn2, d_mx2, d_w, d_nn, d_bn2, d_len, d_neg, d_cl, d_at1, d_at2, d_at3, d_at4, d_at5, d_at6, d_at7, d_set, d_app, d_cat, d_take, d_drop, d_rep, d_cons, d_lt_t, d_lt_f, d_le_t, d_le_f, d_eqi_t, d_eqi_f, d_eqb_t, d_eqb_f, d_nb_t, d_nb_f, nth0, nthS, d_api, d_apr, D_cons, D_nl, D_nr, D_vr, D_set, mkL_l, mkR_r, mkI_i, d_shr2, d_shr3, d_shr16, d_shr40, d_shl2, d_shl3, d_shl16, d_shl40, d_apb, mkB_b] at hk
    unfold tm0
    repeat' (first | exact KV.nil | (refine KV.cons ?_ ?_))
    all_goals (simp only [d_vi, d_vb, d_vr, d_ci, d_cb, d_nr, d_nl, d_add, d_sub, d_mul, d_rem, d_quo, d_bit, d_mn2, d_mx2, d_w, d_nn, d_bn2, d_len, d_neg, d_cl, d_at1, d_at2, d_at3, d_at4, d_at5, d_at6, d_at7, d_set, d_app, d_cat, d_take, d_drop, d_rep, d_cons, d_lt_t, d_lt_f, d_le_t, d_le_f, d_eqi_t, d_eqi_f, d_eqb_t, d_eqb_f, d_nb_t, d_nb_f, nth0, nthS, d_api, d_apr, D_cons, D_nl, D_nr, D_vr, D_set, mkL_l, mkR_r, mkI_i, d_shr2, d_shr3, d_shr16, d_shr40, d_shl2, d_shl3, d_shl16, d_shl40, d_apb, mkB_b]; omega)
  · unfold trS
    refine TOK.leaf' (show Inv _ _ _ 0 _ from ⟨rfl, 0, nth 0 u.i 1, ?_, by omega, by omega, rfl⟩)
    simp only [Sb.val, List.map_cons, List.map_nil, d_vi, d_vb, d_vr, d_ci, d_cb, d_nr, d_nl, d_add, d_sub, d_mul, d_rem, d_quo, d_bit, d_mn2, d_mx2, d_w, d_nn, d_bn2, d_len, d_neg, d_cl, d_at1, d_at2, d_at3, d_at4, d_at5, d_at6, d_at7, d_set, d_app, d_cat, d_take, d_drop, d_rep, d_cons, d_lt_t, d_lt_f, d_le_t, d_le_f, d_eqi_t, d_eqi_f, d_eqb_t, d_eqb_f, d_nb_t, d_nb_f, nth0, nthS, d_api, d_apr, D_cons, D_nl, D_nr, D_vr, D_set, mkL_l, mkR_r, mkI_i, d_shr2, d_shr3, d_shr16, d_shr40, d_shl2, d_shl3, d_shl16, d_shl40, d_apb, mkB_b, hu]
  · rintro hk v ⟨_, k, s, rfl, h0, h1, h3⟩
    unfold KV fc at hk
    simp only [List.forall_mem_cons, d_vi, d_vb, d_vr, d_ci, d_cb, d_nr, d_nl, d_add, d_sub, d_mul, d_rem, d_quo, d_bit, d_mn2, d_mx2, d_w, d_nn, d_bn2, d_len, d_neg, d_cl, d_at1, d_at2, d_at3, d_at4, d_at5, d_at6, d_at7, d_set, d_app, d_cat, d_take, d_drop, d_rep, d_cons, d_lt_t, d_lt_f, d_le_t, d_le_f, d_eqi_t, d_eqi_f, d_eqb_t, d_eqb_f, d_nb_t, d_nb_f, nth0, nthS, d_api, d_apr, D_cons, D_nl, D_nr, D_vr, D_set, mkL_l, mkR_r, mkI_i, d_shr2, d_shr3, d_shr16, d_shr40, d_shl2, d_shl3, d_shl16, d_shl40, d_apb, mkB_b] at hk
    generalize hLL : nth [] u.r 0 = L at *
    generalize hDD : nth [] u.r 1 = D at *
    generalize hii : nth 0 u.i 0 = i at *
    have nxt : k < (L.length : Int) → blkF L D i k.toNat = false → Inv L D i 0 ⟨[i, k + 1, s], [], [L, D], [], Φ⟩ ∧ lt2 μ (0, ⟨[i, k + 1, s], [], [L, D], [], Φ⟩) (0, ⟨[i, k, s], [], [L, D], [], Φ⟩) := fun y z =>
      ⟨⟨rfl, k + 1, s, rfl, by omega, by omega, any_succ h0 h3 z⟩, .inl (by show (1000 - (k + 1)).toNat < (1000 - k).toNat; omega)⟩
    have ck : cl D ((k.toNat : Nat) : Int) = cl D k := by rw [show ((k.toNat : Nat) : Int) = k by omega]
    unfold tr0
    repeat' (first
      | (refine TOK.br' (fun g => ?_) (fun g => ?_) <;> simp (disch := omega) only [d_vi, d_vb, d_vr, d_ci, d_cb, d_nr, d_nl, d_add, d_sub, d_mul, d_rem, d_quo, d_bit, d_mn2, d_mx2, d_w, d_nn, d_bn2, d_len, d_neg, d_cl, d_at1, d_at2, d_at3, d_at4, d_at5, d_at6, d_at7, d_set, d_app, d_cat, d_take, d_drop, d_rep, d_cons, d_lt_t, d_lt_n, d_le_t, d_le_n, d_eqi_t, d_eqi_f, d_eqb_t, d_eqb_f, d_nb_t, d_nb_f, nth0, nthS, d_api, d_apr, D_cons, D_nl, D_nr, D_vr, D_set, mkL_l, mkR_r, mkI_i, d_shr2, d_shr3, d_shr16, d_shr40, d_shl2, d_shl3, d_shl16, d_shl40, d_apb, mkB_b] at g <;> (try (exfalso; omega)))
      | (with_reducible refine TOK.leaf' ?_))
    all_goals first
      | (show Inv L D i 0 _ ∧ lt2 μ (0, _) _
         simp (disch := omega) only [Sb.val, List.map_cons, List.map_nil, d_vi, d_vb, d_vr, d_ci, d_cb, d_nr, d_nl, d_add, d_sub, d_mul, d_rem, d_quo, d_bit, d_mn2, d_mx2, d_w, d_nn, d_bn2, d_len, d_neg, d_cl, d_at1, d_at2, d_at3, d_at4, d_at5, d_at6, d_at7, d_set, d_app, d_cat, d_take, d_drop, d_rep, d_cons, d_lt_t, d_lt_f, d_le_t, d_le_f, d_eqi_t, d_eqi_f, d_eqb_t, d_eqb_f, d_nb_t, d_nb_f, nth0, nthS, d_api, d_apr, D_cons, D_nl, D_nr, D_vr, D_set, mkL_l, mkR_r, mkI_i, d_shr2, d_shr3, d_shr16, d_shr40, d_shl2, d_shl3, d_shl16, d_shl40, d_apb, mkB_b, w64]
         exact nxt (by omega) (blk_f h0 fun z1 z2 z3 => by first | exact absurd z1 (by assumption) | exact absurd z2 (by assumption) | exact absurd z3 (by assumption)))
      | (refine (⟨_, _, rfl, ?_⟩ : ∃ σ po, Sel u fc.out (0, σ, po) ∧ _)
         have hb : blkF L D i k.toNat = true := blk_t h0 (by assumption) (by assumption) (by assumption)
         have hf : freeF i L D = false := by unfold freeF; rw [any_lt (n := k.toNat) (m := L.length) (by omega) hb]; rfl
         simp only [Sb.val, List.map_cons, List.map_nil, d_vi, d_vb, d_vr, d_ci, d_cb, d_nr, d_nl, d_add, d_sub, d_mul, d_rem, d_quo, d_bit, d_mn2, d_mx2, d_w, d_nn, d_bn2, d_len, d_neg, d_cl, d_at1, d_at2, d_at3, d_at4, d_at5, d_at6, d_at7, d_set, d_app, d_cat, d_take, d_drop, d_rep, d_cons, d_lt_t, d_lt_f, d_le_t, d_le_f, d_eqi_t, d_eqi_f, d_eqb_t, d_eqb_f, d_nb_t, d_nb_f, nth0, nthS, d_api, d_apr, D_cons, D_nl, D_nr, D_vr, D_set, mkL_l, mkR_r, mkI_i, d_shr2, d_shr3, d_shr16, d_shr40, d_shl2, d_shl3, d_shl16, d_shl40, d_apb, mkB_b, Φ604, hu, hLL, hDD, hii, hf])
      | (refine (⟨_, _, rfl, ?_⟩ : ∃ σ po, Sel u fc.out (0, σ, po) ∧ _)
         have e : k.toNat = L.length := by omega
         rw [e] at h3
         have hf : freeF i L D = decide (cl D i = 0) := by unfold freeF; rw [h3]; rfl
         simp only [Sb.val, List.map_cons, List.map_nil, d_vi, d_vb, d_vr, d_ci, d_cb, d_nr, d_nl, d_add, d_sub, d_mul, d_rem, d_quo, d_bit, d_mn2, d_mx2, d_w, d_nn, d_bn2, d_len, d_neg, d_cl, d_at1, d_at2, d_at3, d_at4, d_at5, d_at6, d_at7, d_set, d_app, d_cat, d_take, d_drop, d_rep, d_cons, d_lt_t, d_lt_f, d_le_t, d_le_f, d_eqi_t, d_eqi_f, d_eqb_t, d_eqb_f, d_nb_t, d_nb_f, nth0, nthS, d_api, d_apr, D_cons, D_nl, D_nr, D_vr, D_set, mkL_l, mkR_r, mkI_i, d_shr2, d_shr3, d_shr16, d_shr40, d_shl2, d_shl3, d_shl16, d_shl40, d_apb, mkB_b, Φ604, hu, hLL, hDD, hii, hf, d_eqi_b]
         rfl)
end Go.Proofs.Ytpgkbdkkcladcaa.FFree
