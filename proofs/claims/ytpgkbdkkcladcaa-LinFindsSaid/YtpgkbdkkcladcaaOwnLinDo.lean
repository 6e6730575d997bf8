/- The contract of lin.Do: the row behind a call, and whether it may be answered so. A lemma file: conditions are those of the contract's 'kn'. -/
import Derived.Test.YtpgkbdkkcladcaaOwnLinDoAS
import Derived.Test.YtpgkbdkkcladcaaOwnLinDoBS
set_option linter.unusedVariables false
set_option linter.unusedSimpArgs false
set_option maxRecDepth 100000
set_option maxHeartbeats 4000000
namespace Go.Proofs.Ytpgkbdkkcladcaa.FLinDo
open Go Go.Lib Go.Proofs.Ytpgkbdkkcladcaa.Eng Go.Proofs.Ytpgkbdkkcladcaa.Sy
noncomputable abbrev P0 : Program := FLinDoA.P0
theorem doRow_len (k e x ok : Int) (r : Row) : ((doRow k e x ok r).length : Int) ≤ (r.length : Int) + 1 := by
  unfold doRow
  split
  · split
    · omega
    · split
      · rw [List.length_cons]; omega
      · rw [List.length_append, List.length_singleton]; omega
  · split
    · simp only [List.length_nil]; omega
    · split
      · rw [List.length_take]; omega
      · rw [List.length_drop]; omega
theorem take_drop1 (r : Row) : (r.drop 1).take (r.length - 1) = r.drop 1 := by
  rw [List.take_of_length_le]; rw [List.length_drop]; exact Nat.le_refl _
theorem toN1 (n : Nat) : ((n : Int) + -1).toNat = n - 1 := by omega
theorem okA (u : Val) (hu : u.f = Φ) : FC.Ok P0 u FLinDoA.fc := by
  refine FLinDoA.mk u hu (fun hk k σ po hs => ?_) (fun hk => ?_)
  · cases hs
    refine KV.cons ?_ KV.nil
    simp only [d_vi, d_vb, d_vr, d_ci, d_cb, d_nr, d_nl, d_add, d_sub, d_mul, d_rem, d_quo, d_bit, d_mn2, d_mx2, d_w, d_nn, d_bn2, d_len, d_neg, d_cl, d_at1, d_at2, d_at3, d_at4, d_at5, d_at6, d_at7, d_set, d_app, d_cat, d_take, d_drop, d_rep, d_cons, d_lt_t, d_lt_f, d_le_t, d_le_f, d_eqi_t, d_eqi_f, d_eqb_t, d_eqb_f, d_nb_t, d_nb_f, nth0, nthS, d_api, d_apr, D_cons, D_nl, D_nr, D_vr, D_set, mkL_l, mkR_r, mkI_i, d_shr2, d_shr3, d_shr16, d_shr40, d_shl2, d_shl3, d_shl16, d_shl40, d_apb, mkB_b, Φ600, hu]
    exact doRow_len _ _ _ _ _
  · unfold FLinDoA.trS
    unfold KV FLinDoA.fc at hk
    simp only [List.forall_mem_cons, d_vi, d_vb, d_vr, d_ci, d_cb, d_nr, d_nl, d_add, d_sub, d_mul, d_rem, d_quo, d_bit, d_mn2, d_mx2, d_w, d_nn, d_bn2, d_len, d_neg, d_cl, d_at1, d_at2, d_at3, d_at4, d_at5, d_at6, d_at7, d_set, d_app, d_cat, d_take, d_drop, d_rep, d_cons, d_lt_t, d_lt_f, d_le_t, d_le_f, d_eqi_t, d_eqi_f, d_eqb_t, d_eqb_f, d_nb_t, d_nb_f, nth0, nthS, d_api, d_apr, D_cons, D_nl, D_nr, D_vr, D_set, mkL_l, mkR_r, mkI_i, d_shr2, d_shr3, d_shr16, d_shr40, d_shl2, d_shl3, d_shl16, d_shl40, d_apb, mkB_b] at hk
    refine ⟨?_, ?_⟩
    all_goals
      repeat' (first
        | (refine TOK.br' (fun h => ?_) (fun h => ?_) <;> simp only [d_vi, d_vb, d_vr, d_ci, d_cb, d_nr, d_nl, d_add, d_sub, d_mul, d_rem, d_quo, d_bit, d_mn2, d_mx2, d_w, d_nn, d_bn2, d_len, d_neg, d_cl, d_at1, d_at2, d_at3, d_at4, d_at5, d_at6, d_at7, d_set, d_app, d_cat, d_take, d_drop, d_rep, d_cons, d_lt_t, d_lt_n, d_le_t, d_le_n, d_eqi_t, d_eqi_f, d_eqb_t, d_eqb_f, d_nb_t, d_nb_f, nth0, nthS, d_api, d_apr, D_cons, D_nl, D_nr, D_vr, D_set, mkL_l, mkR_r, mkI_i, d_shr2, d_shr3, d_shr16, d_shr40, d_shl2, d_shl3, d_shl16, d_shl40, d_apb, mkB_b, Int.toNat_natCast, List.length_take, List.length_drop] at h <;> (try (exfalso; omega)))
        | (with_reducible refine TOK.leaf' ?_))
    all_goals
      refine (⟨_, _, rfl, ?_⟩ : ∃ σ po, Sel u FLinDoA.fc.out (0, σ, po) ∧ _)
    all_goals
      simp only [Sb.val, List.map_cons, List.map_nil, d_eqi_b, d_vi, d_vb, d_vr, d_ci, d_cb, d_nr, d_nl, d_add, d_sub, d_mul, d_rem, d_quo, d_bit, d_mn2, d_mx2, d_w, d_nn, d_bn2, d_len, d_neg, d_cl, d_at1, d_at2, d_at3, d_at4, d_at5, d_at6, d_at7, d_set, d_app, d_cat, d_take, d_drop, d_rep, d_cons, d_lt_t, d_lt_f, d_le_t, d_le_f, d_eqi_t, d_eqi_f, d_eqb_t, d_eqb_f, d_nb_t, d_nb_f, nth0, nthS, d_api, d_apr, D_cons, D_nl, D_nr, D_vr, D_set, mkL_l, mkR_r, mkI_i, d_shr2, d_shr3, d_shr16, d_shr40, d_shl2, d_shl3, d_shl16, d_shl40, d_apb, mkB_b, Φ600, Φ601, hu]
      generalize nth [] u.r 0 = R at *
      first
        | (simp [doRow, doOk, b2i, *]; done)
        | (simp [doRow, doOk, b2i, *] <;> (rw [Bool.eq_iff_iff]; simp); done)
        | (obtain rfl : R = [] := List.length_eq_zero_iff.1 (by omega)
           simp [doRow, doOk, b2i, *]; done)
        | (have e0 : ¬ ((R.length : Int) = 0) := by omega
           have e4 : ¬ (R = []) := fun q => e0 (by rw [q]; rfl)
           have e1 : ((R.length : Int) + -1).toNat = R.length - 1 := by omega
           have e2 : (max ((R.length : Int) + -1) 0).toNat = R.length - 1 := by omega
           have e3 : R.tail.length = R.length - 1 := List.length_tail
           simp only [e1, Int.toNat_natCast, show Int.toNat 1 = 1 from rfl, take_drop1, cl]
           simp [doRow, doOk, b2i, *] <;> (rw [Bool.eq_iff_iff]; simp); done)
theorem okB (u : Val) (hu : u.f = Φ) (h0 : nth [] u.r 0 = []) : FC.Ok P0 u FLinDoB.fc := by
  refine FLinDoB.mk u hu (fun hk k σ po hs => ?_) (fun hk => ?_)
  · cases hs
    refine KV.cons ?_ KV.nil
    simp only [d_vi, d_vb, d_vr, d_ci, d_cb, d_nr, d_nl, d_add, d_sub, d_mul, d_rem, d_quo, d_bit, d_mn2, d_mx2, d_w, d_nn, d_bn2, d_len, d_neg, d_cl, d_at1, d_at2, d_at3, d_at4, d_at5, d_at6, d_at7, d_set, d_app, d_cat, d_take, d_drop, d_rep, d_cons, d_lt_t, d_lt_f, d_le_t, d_le_f, d_eqi_t, d_eqi_f, d_eqb_t, d_eqb_f, d_nb_t, d_nb_f, nth0, nthS, d_api, d_apr, D_cons, D_nl, D_nr, D_vr, D_set, mkL_l, mkR_r, mkI_i, d_shr2, d_shr3, d_shr16, d_shr40, d_shl2, d_shl3, d_shl16, d_shl40, d_apb, mkB_b, Φ600, hu]
    exact doRow_len _ _ _ _ _
  · unfold FLinDoB.trS
    refine ⟨?_, ?_⟩
    all_goals
      repeat' (first
        | (refine TOK.br' (fun h => ?_) (fun h => ?_) <;> simp only [d_vi, d_vb, d_vr, d_ci, d_cb, d_nr, d_nl, d_add, d_sub, d_mul, d_rem, d_quo, d_bit, d_mn2, d_mx2, d_w, d_nn, d_bn2, d_len, d_neg, d_cl, d_at1, d_at2, d_at3, d_at4, d_at5, d_at6, d_at7, d_set, d_app, d_cat, d_take, d_drop, d_rep, d_cons, d_lt_t, d_lt_n, d_le_t, d_le_n, d_eqi_t, d_eqi_f, d_eqb_t, d_eqb_f, d_nb_t, d_nb_f, nth0, nthS, d_api, d_apr, D_cons, D_nl, D_nr, D_vr, D_set, mkL_l, mkR_r, mkI_i, d_shr2, d_shr3, d_shr16, d_shr40, d_shl2, d_shl3, d_shl16, d_shl40, d_apb, mkB_b, Int.toNat_natCast, List.length_take, List.length_drop] at h <;> (try (exfalso; omega)))
        | (with_reducible refine TOK.leaf' ?_))
    all_goals
      refine (⟨_, _, rfl, ?_⟩ : ∃ σ po, Sel u FLinDoB.fc.out (0, σ, po) ∧ _)
    all_goals
      simp only [Sb.val, List.map_cons, List.map_nil, d_vi, d_vb, d_vr, d_ci, d_cb, d_nr, d_nl, d_add, d_sub, d_mul, d_rem, d_quo, d_bit, d_mn2, d_mx2, d_w, d_nn, d_bn2, d_len, d_neg, d_cl, d_at1, d_at2, d_at3, d_at4, d_at5, d_at6, d_at7, d_set, d_app, d_cat, d_take, d_drop, d_rep, d_cons, d_lt_t, d_lt_f, d_le_t, d_le_f, d_eqi_t, d_eqi_f, d_eqb_t, d_eqb_f, d_nb_t, d_nb_f, nth0, nthS, d_api, d_apr, D_cons, D_nl, D_nr, D_vr, D_set, mkL_l, mkR_r, mkI_i, d_shr2, d_shr3, d_shr16, d_shr40, d_shl2, d_shl3, d_shl16, d_shl40, d_apb, mkB_b, Φ600, Φ601, hu]
      simp [doRow, doOk, b2i, *]
def fc : FC := { FLinDoA.fc with H := FLinDoB.fc.H }
theorem ok (u : Val) (hu : u.f = Φ) : FC.Ok P0 u fc :=
  FC.Ok.two (c := fc) (z := 1) (r := .sym (.vr 0) [.i .u64]) (Hs := []) rfl rfl (okA u hu) fun h => okB u hu (by
    simp only [dr, den, mkR] at h
    exact List.map_eq_nil_iff.1 h)
end Go.Proofs.Ytpgkbdkkcladcaa.FLinDo
