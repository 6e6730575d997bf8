/- The contract of text.Cut. A lemma file: conditions are those of the contract's 'kn'. -/
import Derived.Test.YtpgkbdkkcladcaaDoorOwnCutS
set_option linter.unusedVariables false
set_option linter.unusedSimpArgs false
set_option maxRecDepth 100000
set_option maxHeartbeats 4000000
namespace Go.Proofs.YtpgkbdkkcladcaaDoor.FCut
open Go Go.Lib Go.Proofs.YtpgkbdkkcladcaaDoor.Eng Go.Proofs.YtpgkbdkkcladcaaDoor.Sy Go.Proofs.YtpgkbdkkcladcaaDoor.Tx
theorem cut_len (a : Bs) (k n : Int) : (cutR a k n).length ≤ a.length ∧ (cutC a k n).length ≤ a.length := by
  have e := congrArg List.length (sg_flat a)
  have h : sg a = (sg a).take k.toNat ++ (((sg a).drop k.toNat).take n.toNat ++ (sg a).drop (k.toNat + n.toNat)) := by rw [← List.drop_drop, List.take_append_drop, List.take_append_drop]
  rw [h, List.flatten_append, List.flatten_append, List.length_append, List.length_append] at e
  unfold cutR cutC
  constructor
  · split
    · rw [List.length_append]; omega
    · simp
  · split
    · omega
    · simp
theorem ok (u : Val) (hu : u.f = Φ) : FC.Ok P0 u fc := by
  have hil := cut_len (toL (nth ⟨#[]⟩ u.s 0)) (nth 0 u.i 0) (nth 0 u.i 1)
  refine mk u hu (fun hk k σ po hs => ?_) (fun hk => ?_)
  · cases hs
    repeat' (first | exact KV.nil | (refine KV.cons ?_ ?_))
    all_goals (simp only [d_vi, d_vb, d_vr, d_ci, d_cb, d_nr, d_nl, d_add, d_sub, d_mul, d_rem, d_quo, d_bit, d_mn2, d_mx2, d_w, d_nn, d_bn2, d_len, d_neg, d_cl, d_at1, d_at2, d_at3, d_at4, d_at5, d_at6, d_at7, d_set, d_app, d_cat, d_take, d_drop, d_rep, d_cons, d_lt_t, d_lt_f, d_le_t, d_le_f, d_eqi_t, d_eqi_f, d_eqb_t, d_eqb_f, d_nb_t, d_nb_f, nth0, nthS, d_api, d_apr, D_cons, D_nl, D_nr, D_vr, D_set, mkL_l, mkR_r, mkI_i, d_shr2, d_shr3, d_shr16, d_shr40, d_shl2, d_shl3, d_shl16, d_shl40, d_apb, mkB_b, d_vs, d_cs, d_scat, d_sub3, d_slen, d_enc, d_dec, d_rune, d_rlen, d_apt, D_vs, mkS_s, Φ712, Φ713, D_cons, D_nl, hu, size_L, toL_ofL]; omega)
  · unfold KV fc at hk
    simp only [List.forall_mem_cons, d_vi, d_vb, d_vr, d_ci, d_cb, d_nr, d_nl, d_add, d_sub, d_mul, d_rem, d_quo, d_bit, d_mn2, d_mx2, d_w, d_nn, d_bn2, d_len, d_neg, d_cl, d_at1, d_at2, d_at3, d_at4, d_at5, d_at6, d_at7, d_set, d_app, d_cat, d_take, d_drop, d_rep, d_cons, d_lt_t, d_lt_f, d_le_t, d_le_f, d_eqi_t, d_eqi_f, d_eqb_t, d_eqb_f, d_nb_t, d_nb_f, nth0, nthS, d_api, d_apr, D_cons, D_nl, D_nr, D_vr, D_set, mkL_l, mkR_r, mkI_i, d_shr2, d_shr3, d_shr16, d_shr40, d_shl2, d_shl3, d_shl16, d_shl40, d_apb, mkB_b, d_vs, d_cs, d_scat, d_sub3, d_slen, d_enc, d_dec, d_rune, d_rlen, d_apt, D_vs, mkS_s, size_L] at hk
    obtain ⟨i, b, r, s, f⟩ := u
    cases hu
    generalize hss : nth ⟨#[]⟩ s 0 = t at *
    generalize haa : nth 0 i 0 = a at *
    generalize hnn : nth 0 i 1 = n at *
    have hl1 := sg_len (toL t)
    have fin : ∀ (e : Int) (x y : ByteArray), cutE (toL t) a n = e → toL x = cutR (toL t) a n → toL y = cutC (toL t) a n → ∃ σ po, Sel (⟨i, b, r, s, Φ⟩ : Val) fc.out (0, σ, po) ∧ (⟨[e], [], [], [x, y], Φ⟩ : Val) = σ.val ⟨i, b, r, s, Φ⟩ := fun e x y h1 h2 h3 => by
      refine ⟨_, _, rfl, ?_⟩
      have e1 : x = ofL (cutR (toL t) a n) := by rw [← h2]; exact (ofL_toL x).symm
      have e2 : y = ofL (cutC (toL t) a n) := by rw [← h3]; exact (ofL_toL y).symm
      simp only [Sb.val, List.map_cons, List.map_nil, d_vi, d_vb, d_vr, d_ci, d_cb, d_nr, d_nl, d_add, d_sub, d_mul, d_rem, d_quo, d_bit, d_mn2, d_mx2, d_w, d_nn, d_bn2, d_len, d_neg, d_cl, d_at1, d_at2, d_at3, d_at4, d_at5, d_at6, d_at7, d_set, d_app, d_cat, d_take, d_drop, d_rep, d_cons, d_lt_t, d_lt_f, d_le_t, d_le_f, d_eqi_t, d_eqi_f, d_eqb_t, d_eqb_f, d_nb_t, d_nb_f, nth0, nthS, d_api, d_apr, D_cons, D_nl, D_nr, D_vr, D_set, mkL_l, mkR_r, mkI_i, d_shr2, d_shr3, d_shr16, d_shr40, d_shl2, d_shl3, d_shl16, d_shl40, d_apb, mkB_b, d_vs, d_cs, d_scat, d_sub3, d_slen, d_enc, d_dec, d_rune, d_rlen, d_apt, D_vs, mkS_s, Φ712, Φ713, Φ714, D_cons, D_nl, hss, haa, hnn, h1]
      rw [e1, e2]
    have fail : ∀ e : Int, e ≠ 0 → cutE (toL t) a n = e → ∃ σ po, Sel (⟨i, b, r, s, Φ⟩ : Val) fc.out (0, σ, po) ∧ (⟨[e], [], [], [⟨#[]⟩, ⟨#[]⟩], Φ⟩ : Val) = σ.val ⟨i, b, r, s, Φ⟩ := fun e he h => fin e ⟨#[]⟩ ⟨#[]⟩ h (by unfold cutR; rw [h, if_neg he]; rfl) (by unfold cutC; rw [h, if_neg he]; rfl)
    unfold trS
    cases hA : validD (toL t)
    case true =>
      by_cases hr : 0 ≤ a ∧ a ≤ ((sg (toL t)).length : Int)
      · have hp := place_in hr
        have ho := off_le (toL t) a.toNat
        have k1 := take_off (toL t) a.toNat
        have k2 := drop_off (toL t) a.toNat
        have hd : sg ((toL t).drop (off (toL t) a.toNat)) = (sg (toL t)).drop a.toNat := by rw [k2, sg_flat' (mem_drop (valid_all _ hA) _)]
        have hdl : ((sg ((toL t).drop (off (toL t) a.toNat))).length : Int) = ((sg (toL t)).length : Int) - a := by rw [hd, List.length_drop]; omega
        by_cases hq : 0 ≤ n ∧ n ≤ ((sg ((toL t).drop (off (toL t) a.toNat))).length : Int)
        · have hp2 := place_in hq
          have e0 : cutE (toL t) a n = 0 := by unfold cutE; rw [if_pos hA, if_pos ⟨hr, hq.1, by rw [← hdl]; exact hq.2⟩]
          rw [hdl] at hq
          have ho2 := off_le ((toL t).drop (off (toL t) a.toNat)) n.toNat
          rw [List.length_drop] at ho2
          generalize hO : off ((toL t).drop (off (toL t) a.toNat)) n.toNat = O2 at *
          have e3 : (((off (toL t) a.toNat : Nat) : Int) + (O2 : Int)).toNat = off (toL t) a.toNat + O2 := by omega
          have k3 := take_off ((toL t).drop (off (toL t) a.toNat)) n.toNat
          have k4 := drop_off ((toL t).drop (off (toL t) a.toNat)) n.toNat
          rw [hO, hd] at k3 k4
          rw [List.drop_drop, List.drop_drop] at k4
          have k5 : List.drop (off (toL t) a.toNat) (List.take (off (toL t) a.toNat + O2) (toL t)) = (List.take n.toNat (List.drop a.toNat (sg (toL t)))).flatten := by rw [← k3, List.drop_take, Nat.add_sub_cancel_left]
          have hm : min (off (toL t) a.toNat) (toL t).length = off (toL t) a.toNat := Nat.min_eq_left ho
          repeat' (first
            | (refine TOK.br' (fun h => ?_) (fun h => ?_) <;> simp (disch := omega) only [d_vi, d_vb, d_vr, d_ci, d_cb, d_nr, d_nl, d_add, d_sub, d_mul, d_rem, d_quo, d_bit, d_mn2, d_mx2, d_w, d_nn, d_bn2, d_len, d_neg, d_cl, d_at1, d_at2, d_at3, d_at4, d_at5, d_at6, d_at7, d_set, d_app, d_cat, d_take, d_drop, d_rep, d_cons, d_lt_t, d_lt_n, d_le_t, d_le_n, d_eqi_t, d_eqi_f, d_eqb_t, d_eqb_f, d_nb_t, d_nb_f, nth0, nthS, d_api, d_apr, D_cons, D_nl, D_nr, D_vr, D_set, mkL_l, mkR_r, mkI_i, d_shr2, d_shr3, d_shr16, d_shr40, d_shl2, d_shl3, d_shl16, d_shl40, d_apb, mkB_b, d_vs, d_cs, d_scat, d_sub3, d_slen, d_enc, d_dec, d_rune, d_rlen, d_apt, D_vs, mkS_s, hss, haa, hnn, Φ700, Φ703, Φ704, size_L, toL_app, toL_ext, hA, hp, hp2, List.length_append, List.length_take, List.length_drop, Int.toNat_natCast, Int.toNat_zero, List.drop_zero, w64, List.take_length, hm, e3] at h <;> (try exact Bool.noConfusion h) <;> (try (exfalso; omega)))
            | (with_reducible refine TOK.leaf' ?_))
          refine (show ∃ σ po, Sel (⟨i, b, r, s, Φ⟩ : Val) fc.out (0, σ, po) ∧ _ from ?_)
          simp (disch := omega) only [Sb.val, List.map_cons, List.map_nil, d_vi, d_vb, d_vr, d_ci, d_cb, d_nr, d_nl, d_add, d_sub, d_mul, d_rem, d_quo, d_bit, d_mn2, d_mx2, d_w, d_nn, d_bn2, d_len, d_neg, d_cl, d_at1, d_at2, d_at3, d_at4, d_at5, d_at6, d_at7, d_set, d_app, d_cat, d_take, d_drop, d_rep, d_cons, d_lt_t, d_lt_f, d_le_t, d_le_f, d_eqi_t, d_eqi_f, d_eqb_t, d_eqb_f, d_nb_t, d_nb_f, nth0, nthS, d_api, d_apr, D_cons, D_nl, D_nr, D_vr, D_set, mkL_l, mkR_r, mkI_i, d_shr2, d_shr3, d_shr16, d_shr40, d_shl2, d_shl3, d_shl16, d_shl40, d_apb, mkB_b, d_vs, d_cs, d_scat, d_sub3, d_slen, d_enc, d_dec, d_rune, d_rlen, d_apt, D_vs, mkS_s, hss, haa, hnn, Φ704, size_L, toL_ext, hp, hp2, Int.toNat_natCast, List.take_length, w64, e3]
          refine fin 0 _ _ e0 ?_ ?_
          · unfold cutR
            rw [if_pos e0]
            simp only [toL_app, toL_ext, Int.toNat_zero, List.drop_zero, List.take_length, k1, k4]
          · unfold cutC
            rw [if_pos e0]
            simp only [toL_ext, k5]
        · have hp2 := place_out hq
          have e0 : cutE (toL t) a n = 4 := by unfold cutE; rw [if_pos hA, if_neg (fun z => hq ⟨z.2.1, by rw [hdl]; exact z.2.2⟩)]
          rw [hdl] at hq
          repeat' (first
            | (refine TOK.br' (fun h => ?_) (fun h => ?_) <;> simp (disch := omega) only [d_vi, d_vb, d_vr, d_ci, d_cb, d_nr, d_nl, d_add, d_sub, d_mul, d_rem, d_quo, d_bit, d_mn2, d_mx2, d_w, d_nn, d_bn2, d_len, d_neg, d_cl, d_at1, d_at2, d_at3, d_at4, d_at5, d_at6, d_at7, d_set, d_app, d_cat, d_take, d_drop, d_rep, d_cons, d_lt_t, d_lt_n, d_le_t, d_le_n, d_eqi_t, d_eqi_f, d_eqb_t, d_eqb_f, d_nb_t, d_nb_f, nth0, nthS, d_api, d_apr, D_cons, D_nl, D_nr, D_vr, D_set, mkL_l, mkR_r, mkI_i, d_shr2, d_shr3, d_shr16, d_shr40, d_shl2, d_shl3, d_shl16, d_shl40, d_apb, mkB_b, d_vs, d_cs, d_scat, d_sub3, d_slen, d_enc, d_dec, d_rune, d_rlen, d_apt, D_vs, mkS_s, hss, haa, hnn, Φ700, Φ703, Φ704, size_L, toL_ext, hA, hp, hp2, Int.toNat_natCast, List.take_length, List.length_drop, w64] at h <;> (try exact Bool.noConfusion h) <;> (try (exfalso; omega)))
            | (with_reducible refine TOK.leaf' ?_))
          all_goals exact fail 4 (by decide) e0
      · have hp := place_out hr
        have e0 : cutE (toL t) a n = 4 := by unfold cutE; rw [if_pos hA, if_neg (fun z => hr z.1)]
        repeat' (first
          | (refine TOK.br' (fun h => ?_) (fun h => ?_) <;> simp (disch := omega) only [d_vi, d_vb, d_vr, d_ci, d_cb, d_nr, d_nl, d_add, d_sub, d_mul, d_rem, d_quo, d_bit, d_mn2, d_mx2, d_w, d_nn, d_bn2, d_len, d_neg, d_cl, d_at1, d_at2, d_at3, d_at4, d_at5, d_at6, d_at7, d_set, d_app, d_cat, d_take, d_drop, d_rep, d_cons, d_lt_t, d_lt_n, d_le_t, d_le_n, d_eqi_t, d_eqi_f, d_eqb_t, d_eqb_f, d_nb_t, d_nb_f, nth0, nthS, d_api, d_apr, D_cons, D_nl, D_nr, D_vr, D_set, mkL_l, mkR_r, mkI_i, d_shr2, d_shr3, d_shr16, d_shr40, d_shl2, d_shl3, d_shl16, d_shl40, d_apb, mkB_b, d_vs, d_cs, d_scat, d_sub3, d_slen, d_enc, d_dec, d_rune, d_rlen, d_apt, D_vs, mkS_s, hss, haa, hnn, Φ700, Φ703, Φ704, hA, hp, w64] at h <;> (try exact Bool.noConfusion h) <;> (try (exfalso; omega)))
          | (with_reducible refine TOK.leaf' ?_))
        all_goals exact fail 4 (by decide) e0
    case false =>
      have e0 : cutE (toL t) a n = 3 := by unfold cutE; rw [hA]; rfl
      repeat' (first
        | (refine TOK.br' (fun h => ?_) (fun h => ?_) <;> simp (disch := omega) only [d_vi, d_vb, d_vr, d_ci, d_cb, d_nr, d_nl, d_add, d_sub, d_mul, d_rem, d_quo, d_bit, d_mn2, d_mx2, d_w, d_nn, d_bn2, d_len, d_neg, d_cl, d_at1, d_at2, d_at3, d_at4, d_at5, d_at6, d_at7, d_set, d_app, d_cat, d_take, d_drop, d_rep, d_cons, d_lt_t, d_lt_n, d_le_t, d_le_n, d_eqi_t, d_eqi_f, d_eqb_t, d_eqb_f, d_nb_t, d_nb_f, nth0, nthS, d_api, d_apr, D_cons, D_nl, D_nr, D_vr, D_set, mkL_l, mkR_r, mkI_i, d_shr2, d_shr3, d_shr16, d_shr40, d_shl2, d_shl3, d_shl16, d_shl40, d_apb, mkB_b, d_vs, d_cs, d_scat, d_sub3, d_slen, d_enc, d_dec, d_rune, d_rlen, d_apt, D_vs, mkS_s, hss, haa, hnn, Φ700, hA] at h <;> (try exact Bool.noConfusion h))
        | (with_reducible refine TOK.leaf' ?_))
      exact fail 3 (by decide) e0
end Go.Proofs.YtpgkbdkkcladcaaDoor.FCut
