/- The contract of text.Insert. A lemma file: conditions are those of the contract's 'kn'. -/
import Derived.Test.YtpgkbdkkcladcaaDoorOwnInsertS
set_option linter.unusedVariables false
set_option linter.unusedSimpArgs false
set_option maxRecDepth 100000
set_option maxHeartbeats 4000000
namespace Go.Proofs.YtpgkbdkkcladcaaDoor.FInsert
open Go Go.Lib Go.Proofs.YtpgkbdkkcladcaaDoor.Eng Go.Proofs.YtpgkbdkkcladcaaDoor.Sy Go.Proofs.YtpgkbdkkcladcaaDoor.Tx
theorem ins_len (a : Bs) (k : Int) (b : Bs) : (insT a k b).length ≤ a.length + b.length := by
  unfold insT
  split
  · have e := congrArg List.length (sg_flat a)
    have h : sg a = (sg a).take k.toNat ++ (sg a).drop k.toNat := (List.take_append_drop _ _).symm
    rw [h, List.flatten_append, List.length_append] at e
    simp only [List.length_append]
    omega
  · simp
theorem ok (u : Val) (hu : u.f = Φ) : FC.Ok P0 u fc := by
  have hil := ins_len (toL (nth ⟨#[]⟩ u.s 0)) (nth 0 u.i 0) (toL (nth ⟨#[]⟩ u.s 1))
  refine mk u hu (fun hk k σ po hs => ?_) (fun hk => ?_)
  · cases hs
    repeat' (first | exact KV.nil | (refine KV.cons ?_ ?_))
    simp only [d_vi, d_vb, d_vr, d_ci, d_cb, d_nr, d_nl, d_add, d_sub, d_mul, d_rem, d_quo, d_bit, d_mn2, d_mx2, d_w, d_nn, d_bn2, d_len, d_neg, d_cl, d_at1, d_at2, d_at3, d_at4, d_at5, d_at6, d_at7, d_set, d_app, d_cat, d_take, d_drop, d_rep, d_cons, d_lt_t, d_lt_f, d_le_t, d_le_f, d_eqi_t, d_eqi_f, d_eqb_t, d_eqb_f, d_nb_t, d_nb_f, nth0, nthS, d_api, d_apr, D_cons, D_nl, D_nr, D_vr, D_set, mkL_l, mkR_r, mkI_i, d_shr2, d_shr3, d_shr16, d_shr40, d_shl2, d_shl3, d_shl16, d_shl40, d_apb, mkB_b, d_vs, d_cs, d_scat, d_sub3, d_slen, d_enc, d_dec, d_rune, d_rlen, d_apt, D_vs, mkS_s, Φ710, D_bus, D_cons, D_nl, hu, size_L, toL_ofL]; omega
  · unfold KV fc at hk
    simp only [List.forall_mem_cons, d_vi, d_vb, d_vr, d_ci, d_cb, d_nr, d_nl, d_add, d_sub, d_mul, d_rem, d_quo, d_bit, d_mn2, d_mx2, d_w, d_nn, d_bn2, d_len, d_neg, d_cl, d_at1, d_at2, d_at3, d_at4, d_at5, d_at6, d_at7, d_set, d_app, d_cat, d_take, d_drop, d_rep, d_cons, d_lt_t, d_lt_f, d_le_t, d_le_f, d_eqi_t, d_eqi_f, d_eqb_t, d_eqb_f, d_nb_t, d_nb_f, nth0, nthS, d_api, d_apr, D_cons, D_nl, D_nr, D_vr, D_set, mkL_l, mkR_r, mkI_i, d_shr2, d_shr3, d_shr16, d_shr40, d_shl2, d_shl3, d_shl16, d_shl40, d_apb, mkB_b, d_vs, d_cs, d_scat, d_sub3, d_slen, d_enc, d_dec, d_rune, d_rlen, d_apt, D_vs, mkS_s, size_L] at hk
    obtain ⟨i, b, r, s, f⟩ := u
    cases hu
    generalize ha : nth ⟨#[]⟩ s 0 = a at *
    generalize hb : nth ⟨#[]⟩ s 1 = t at *
    generalize hn : nth 0 i 0 = n at *
    have hl1 := sg_len (toL a)
    have hl2 := sg_len (toL t)
    have ho := off_le (toL a) n.toNat
    have k1 := take_off (toL a) n.toNat
    have k2 := drop_off (toL a) n.toNat
    unfold trS
    have fin : ∀ (e : Int) (x : ByteArray), insE (toL a) n (toL t) = e → toL x = insT (toL a) n (toL t) → ∃ σ po, Sel (⟨i, b, r, s, Φ⟩ : Val) fc.out (0, σ, po) ∧ (⟨[e], [], [], [x], Φ⟩ : Val) = σ.val ⟨i, b, r, s, Φ⟩ := fun e x h1 h2 => by
      refine ⟨_, _, rfl, ?_⟩
      have e1 : x = ofL (insT (toL a) n (toL t)) := by rw [← h2]; exact (ofL_toL x).symm
      simp only [Sb.val, List.map_cons, List.map_nil, d_vi, d_vb, d_vr, d_ci, d_cb, d_nr, d_nl, d_add, d_sub, d_mul, d_rem, d_quo, d_bit, d_mn2, d_mx2, d_w, d_nn, d_bn2, d_len, d_neg, d_cl, d_at1, d_at2, d_at3, d_at4, d_at5, d_at6, d_at7, d_set, d_app, d_cat, d_take, d_drop, d_rep, d_cons, d_lt_t, d_lt_f, d_le_t, d_le_f, d_eqi_t, d_eqi_f, d_eqb_t, d_eqb_f, d_nb_t, d_nb_f, nth0, nthS, d_api, d_apr, D_cons, D_nl, D_nr, D_vr, D_set, mkL_l, mkR_r, mkI_i, d_shr2, d_shr3, d_shr16, d_shr40, d_shl2, d_shl3, d_shl16, d_shl40, d_apb, mkB_b, d_vs, d_cs, d_scat, d_sub3, d_slen, d_enc, d_dec, d_rune, d_rlen, d_apt, D_vs, mkS_s, Φ710, Φ711, D_bus, D_cons, D_nl, ha, hb, hn, h1]
      rw [e1]
    cases hA : validD (toL a) <;> cases hB : validD (toL t)
    case true.true =>
      by_cases hr : 0 ≤ n ∧ n ≤ ((sg (toL a)).length : Int)
      · have hp := place_in hr
        have hm : min (off (toL a) n.toNat) (toL a).length = off (toL a) n.toNat := Nat.min_eq_left ho
        repeat' (first
          | (refine TOK.br' (fun h => ?_) (fun h => ?_) <;> simp (disch := omega) only [d_vi, d_vb, d_vr, d_ci, d_cb, d_nr, d_nl, d_add, d_sub, d_mul, d_rem, d_quo, d_bit, d_mn2, d_mx2, d_w, d_nn, d_bn2, d_len, d_neg, d_cl, d_at1, d_at2, d_at3, d_at4, d_at5, d_at6, d_at7, d_set, d_app, d_cat, d_take, d_drop, d_rep, d_cons, d_lt_t, d_lt_n, d_le_t, d_le_n, d_eqi_t, d_eqi_f, d_eqb_t, d_eqb_f, d_nb_t, d_nb_f, nth0, nthS, d_api, d_apr, D_cons, D_nl, D_nr, D_vr, D_set, mkL_l, mkR_r, mkI_i, d_shr2, d_shr3, d_shr16, d_shr40, d_shl2, d_shl3, d_shl16, d_shl40, d_apb, mkB_b, d_vs, d_cs, d_scat, d_sub3, d_slen, d_enc, d_dec, d_rune, d_rlen, d_apt, D_vs, mkS_s, ha, hb, hn, Φ700, Φ703, Φ704, size_L, toL_app, toL_ext, hA, hB, hp, List.length_append, List.length_take, List.length_drop, Int.toNat_natCast, Int.toNat_zero, List.drop_zero, List.take_length, hm, w64] at h <;> (try exact Bool.noConfusion h) <;> (try (exfalso; omega)))
          | (with_reducible refine TOK.leaf' ?_))
        · refine (show ∃ σ po, Sel (⟨i, b, r, s, Φ⟩ : Val) fc.out (0, σ, po) ∧ _ from ?_)
          rename_i h
          have e1 : insE (toL a) n (toL t) = 6 := by unfold insE; rw [if_pos ⟨hA, hB⟩, if_pos hr, if_pos h]
          refine fin 6 ⟨#[]⟩ e1 ?_
          unfold insT; rw [e1]; rfl
        · refine (show ∃ σ po, Sel (⟨i, b, r, s, Φ⟩ : Val) fc.out (0, σ, po) ∧ _ from ?_)
          have e1 : insE (toL a) n (toL t) = 0 := by unfold insE; rw [if_pos ⟨hA, hB⟩, if_pos hr, if_neg (by assumption)]
          simp only [Sb.val, List.map_cons, List.map_nil, d_vi, d_vb, d_vr, d_ci, d_cb, d_nr, d_nl, d_add, d_sub, d_mul, d_rem, d_quo, d_bit, d_mn2, d_mx2, d_w, d_nn, d_bn2, d_len, d_neg, d_cl, d_at1, d_at2, d_at3, d_at4, d_at5, d_at6, d_at7, d_set, d_app, d_cat, d_take, d_drop, d_rep, d_cons, d_lt_t, d_lt_f, d_le_t, d_le_f, d_eqi_t, d_eqi_f, d_eqb_t, d_eqb_f, d_nb_t, d_nb_f, nth0, nthS, d_api, d_apr, D_cons, D_nl, D_nr, D_vr, D_set, mkL_l, mkR_r, mkI_i, d_shr2, d_shr3, d_shr16, d_shr40, d_shl2, d_shl3, d_shl16, d_shl40, d_apb, mkB_b, d_vs, d_cs, d_scat, d_sub3, d_slen, d_enc, d_dec, d_rune, d_rlen, d_apt, D_vs, mkS_s, ha, hb, hn, Φ704, hp]
          refine fin 0 _ e1 ?_
          unfold insT
          rw [if_pos e1]
          simp only [toL_app, toL_ext, Int.toNat_natCast, Int.toNat_zero, List.drop_zero, size_L, List.take_length, k1, k2]
      · have hp := place_out hr
        have e1 : insE (toL a) n (toL t) = 4 := by unfold insE; rw [if_pos ⟨hA, hB⟩, if_neg hr]
        repeat' (first
          | (refine TOK.br' (fun h => ?_) (fun h => ?_) <;> simp (disch := omega) only [d_vi, d_vb, d_vr, d_ci, d_cb, d_nr, d_nl, d_add, d_sub, d_mul, d_rem, d_quo, d_bit, d_mn2, d_mx2, d_w, d_nn, d_bn2, d_len, d_neg, d_cl, d_at1, d_at2, d_at3, d_at4, d_at5, d_at6, d_at7, d_set, d_app, d_cat, d_take, d_drop, d_rep, d_cons, d_lt_t, d_lt_n, d_le_t, d_le_n, d_eqi_t, d_eqi_f, d_eqb_t, d_eqb_f, d_nb_t, d_nb_f, nth0, nthS, d_api, d_apr, D_cons, D_nl, D_nr, D_vr, D_set, mkL_l, mkR_r, mkI_i, d_shr2, d_shr3, d_shr16, d_shr40, d_shl2, d_shl3, d_shl16, d_shl40, d_apb, mkB_b, d_vs, d_cs, d_scat, d_sub3, d_slen, d_enc, d_dec, d_rune, d_rlen, d_apt, D_vs, mkS_s, ha, hb, hn, Φ700, Φ703, Φ704, hA, hB, hp] at h <;> (try exact Bool.noConfusion h) <;> (try (exfalso; omega)))
          | (with_reducible refine TOK.leaf' ?_))
        exact fin 4 ⟨#[]⟩ e1 (by unfold insT; rw [e1]; rfl)
    all_goals
      have e1 : insE (toL a) n (toL t) = 3 := by unfold insE; rw [if_neg (by rw [hA, hB]; simp)]
      repeat' (first
        | (refine TOK.br' (fun h => ?_) (fun h => ?_) <;> simp (disch := omega) only [d_vi, d_vb, d_vr, d_ci, d_cb, d_nr, d_nl, d_add, d_sub, d_mul, d_rem, d_quo, d_bit, d_mn2, d_mx2, d_w, d_nn, d_bn2, d_len, d_neg, d_cl, d_at1, d_at2, d_at3, d_at4, d_at5, d_at6, d_at7, d_set, d_app, d_cat, d_take, d_drop, d_rep, d_cons, d_lt_t, d_lt_n, d_le_t, d_le_n, d_eqi_t, d_eqi_f, d_eqb_t, d_eqb_f, d_nb_t, d_nb_f, nth0, nthS, d_api, d_apr, D_cons, D_nl, D_nr, D_vr, D_set, mkL_l, mkR_r, mkI_i, d_shr2, d_shr3, d_shr16, d_shr40, d_shl2, d_shl3, d_shl16, d_shl40, d_apb, mkB_b, d_vs, d_cs, d_scat, d_sub3, d_slen, d_enc, d_dec, d_rune, d_rlen, d_apt, D_vs, mkS_s, ha, hb, hn, Φ700, hA, hB] at h <;> (try exact Bool.noConfusion h))
        | (with_reducible refine TOK.leaf' ?_))
      exact fin 3 ⟨#[]⟩ e1 (by unfold insT; rw [e1]; rfl)
end Go.Proofs.YtpgkbdkkcladcaaDoor.FInsert
