/- The law TextInserts: the one text in the other, or why not. A lemma file. -/
import Derived.Test.YtpgkbdkkcladcaaDoorOwnTextInsertsS
set_option linter.unusedVariables false
set_option linter.unusedSimpArgs false
set_option maxRecDepth 100000
set_option maxHeartbeats 4000000
namespace Go.Proofs.YtpgkbdkkcladcaaDoor.KTextInserts
open Go Go.Lib Go.Proofs.YtpgkbdkkcladcaaDoor.Eng Go.Proofs.YtpgkbdkkcladcaaDoor.Sy Go.Proofs.YtpgkbdkkcladcaaDoor.Tx Go.RowKit Go.WideShapes Go.ChangeShapes
theorem sS (a : Int) (s t : ByteArray) : TOK (⟨[a], [], [], [s, t], Φ⟩ : Val) (fun _ g => LgOK (⟨[a], [], [], [s, t], Φ⟩ : Val) (fun _ _ => False) g) trS := by
  have hl1 := sg_len (toL s)
  have hl2 := sg_len (toL t)
  unfold trS
  refine TOK.br' (fun h => TOK.leaf' rfl) (fun h1 => ?_)
  refine TOK.br' (fun h => TOK.leaf' rfl) (fun h2 => ?_)
  simp only [d_vi, d_vb, d_vr, d_ci, d_cb, d_nr, d_nl, d_add, d_sub, d_mul, d_rem, d_quo, d_bit, d_mn2, d_mx2, d_w, d_nn, d_bn2, d_len, d_neg, d_cl, d_at1, d_at2, d_at3, d_at4, d_at5, d_at6, d_at7, d_set, d_app, d_cat, d_take, d_drop, d_rep, d_cons, d_lt_t, d_lt_n, d_le_t, d_le_n, d_eqi_t, d_eqi_f, d_eqb_t, d_eqb_f, d_nb_t, d_nb_f, nth0, nthS, d_api, d_apr, D_cons, D_nl, D_nr, D_vr, D_set, mkL_l, mkR_r, mkI_i, d_shr2, d_shr3, d_shr16, d_shr40, d_shl2, d_shl3, d_shl16, d_shl40, d_apb, mkB_b, d_vs, d_cs, d_scat, d_sub3, d_slen, d_enc, d_dec, d_rune, d_rlen, d_apt, D_vs, mkS_s, size_L] at h1 h2
  cases hA : validD (toL s) <;> cases hB : validD (toL t)
  case true.true =>
    by_cases hr : 0 ≤ a ∧ a ≤ ((sg (toL s)).length : Int)
    · have hp := place_in hr
      have ho := off_le (toL s) a.toNat
      have b1 := part_len (toL s) 0 a.toNat
      have b2 := part_len (toL s) a.toNat ((sg (toL s)).length - a.toNat)
      rw [List.drop_zero] at b1
      have hm : min (off (toL s) a.toNat) (toL s).length = off (toL s) a.toNat := Nat.min_eq_left ho
      have e1 : (((sg (toL s)).length : Int) - a).toNat = (sg (toL s)).length - a.toNat := by omega
      have e2 : List.take ((sg (toL s)).length - a.toNat) (List.drop a.toNat (sg (toL s))) = List.drop a.toNat (sg (toL s)) := List.take_of_length_le (by rw [List.length_drop]; omega)
      rw [e2] at b2
      have k1 := take_off (toL s) a.toNat
      have k2 := drop_off (toL s) a.toNat
      repeat' (first
        | (refine TOK.br' (fun h => ?_) (fun h => ?_) <;> simp (disch := omega) only [d_vi, d_vb, d_vr, d_ci, d_cb, d_nr, d_nl, d_add, d_sub, d_mul, d_rem, d_quo, d_bit, d_mn2, d_mx2, d_w, d_nn, d_bn2, d_len, d_neg, d_cl, d_at1, d_at2, d_at3, d_at4, d_at5, d_at6, d_at7, d_set, d_app, d_cat, d_take, d_drop, d_rep, d_cons, d_lt_t, d_lt_n, d_le_t, d_le_n, d_eqi_t, d_eqi_f, d_eqb_t, d_eqb_f, d_nb_t, d_nb_f, nth0, nthS, d_api, d_apr, D_cons, D_nl, D_nr, D_vr, D_set, mkL_l, mkR_r, mkI_i, d_shr2, d_shr3, d_shr16, d_shr40, d_shl2, d_shl3, d_shl16, d_shl40, d_apb, mkB_b, d_vs, d_cs, d_scat, d_sub3, d_slen, d_enc, d_dec, d_rune, d_rlen, d_apt, D_vs, mkS_s, d_eqs_t, d_eqs_f, toL_inj', Φ700, Φ703, Φ704, Φ705, Φ707, size_L, toL_app, toL_ext, toL_ofL, hA, hB, hp, List.length_append, List.length_take, List.length_drop, rowS_len, join_row, join_row0, Int.toNat_natCast, Int.toNat_zero, List.drop_zero, w64, List.take_length, hm, e1, e2] at h <;> (try exact Bool.noConfusion h) <;> (try (exfalso; omega)))
        | (with_reducible refine TOK.leaf' ?_))
      · show (den _ _).b = true
        rw [d_eqi_t]
        simp (disch := omega) only [d_vi, d_vb, d_vr, d_ci, d_cb, d_nr, d_nl, d_add, d_sub, d_mul, d_rem, d_quo, d_bit, d_mn2, d_mx2, d_w, d_nn, d_bn2, d_len, d_neg, d_cl, d_at1, d_at2, d_at3, d_at4, d_at5, d_at6, d_at7, d_set, d_app, d_cat, d_take, d_drop, d_rep, d_cons, d_lt_t, d_lt_n, d_le_t, d_le_n, d_eqi_t, d_eqi_f, d_eqb_t, d_eqb_f, d_nb_t, d_nb_f, nth0, nthS, d_api, d_apr, D_cons, D_nl, D_nr, D_vr, D_set, mkL_l, mkR_r, mkI_i, d_shr2, d_shr3, d_shr16, d_shr40, d_shl2, d_shl3, d_shl16, d_shl40, d_apb, mkB_b, d_vs, d_cs, d_scat, d_sub3, d_slen, d_enc, d_dec, d_rune, d_rlen, d_apt, D_vs, mkS_s, Φ700, Φ703, Φ704, Φ705, Φ707, size_L, toL_app, toL_ext, hp, rowS_len, Int.toNat_natCast, Int.toNat_zero, List.drop_zero, w64, List.take_length]
        rw [k1, k2, List.append_assoc, sg_join (mem_take (valid_all _ hA) _), sg_cat hB, sg_flat' (mem_drop (valid_all _ hA) _), List.length_append, List.length_append, List.length_take, List.length_drop]
        omega
      · rename_i h
        exact absurd (by rw [k1, k2]) h
    · have hp := place_out hr
      repeat' (first
        | (refine TOK.br' (fun h => ?_) (fun h => ?_) <;> simp (disch := omega) only [d_vi, d_vb, d_vr, d_ci, d_cb, d_nr, d_nl, d_add, d_sub, d_mul, d_rem, d_quo, d_bit, d_mn2, d_mx2, d_w, d_nn, d_bn2, d_len, d_neg, d_cl, d_at1, d_at2, d_at3, d_at4, d_at5, d_at6, d_at7, d_set, d_app, d_cat, d_take, d_drop, d_rep, d_cons, d_lt_t, d_lt_n, d_le_t, d_le_n, d_eqi_t, d_eqi_f, d_eqb_t, d_eqb_f, d_nb_t, d_nb_f, nth0, nthS, d_api, d_apr, D_cons, D_nl, D_nr, D_vr, D_set, mkL_l, mkR_r, mkI_i, d_shr2, d_shr3, d_shr16, d_shr40, d_shl2, d_shl3, d_shl16, d_shl40, d_apb, mkB_b, d_vs, d_cs, d_scat, d_sub3, d_slen, d_enc, d_dec, d_rune, d_rlen, d_apt, D_vs, mkS_s, Φ700, Φ703, Φ704, Φ705, hA, hB, hp, rowS_len] at h <;> (try exact Bool.noConfusion h) <;> (try (exfalso; omega)))
        | (with_reducible refine TOK.leaf' ?_))
      all_goals first
        | (show (den _ _).b = true
           rw [d_eqs_t])
        | rfl
        | (exfalso; omega)
  all_goals
    repeat' (first
      | (refine TOK.br' (fun h => ?_) (fun h => ?_) <;> simp (disch := omega) only [d_vi, d_vb, d_vr, d_ci, d_cb, d_nr, d_nl, d_add, d_sub, d_mul, d_rem, d_quo, d_bit, d_mn2, d_mx2, d_w, d_nn, d_bn2, d_len, d_neg, d_cl, d_at1, d_at2, d_at3, d_at4, d_at5, d_at6, d_at7, d_set, d_app, d_cat, d_take, d_drop, d_rep, d_cons, d_lt_t, d_lt_n, d_le_t, d_le_n, d_eqi_t, d_eqi_f, d_eqb_t, d_eqb_f, d_nb_t, d_nb_f, nth0, nthS, d_api, d_apr, D_cons, D_nl, D_nr, D_vr, D_set, mkL_l, mkR_r, mkI_i, d_shr2, d_shr3, d_shr16, d_shr40, d_shl2, d_shl3, d_shl16, d_shl40, d_apb, mkB_b, d_vs, d_cs, d_scat, d_sub3, d_slen, d_enc, d_dec, d_rune, d_rlen, d_apt, D_vs, mkS_s, Φ700, hA, hB] at h <;> (try exact Bool.noConfusion h) <;> (try exact absurd trivial h))
      | (with_reducible refine TOK.leaf' ?_))
    all_goals first
      | rfl
      | (show (den _ _).b = true
         rw [d_eqb_t]
         simp only [d_vi, d_vb, d_vr, d_ci, d_cb, d_nr, d_nl, d_add, d_sub, d_mul, d_rem, d_quo, d_bit, d_mn2, d_mx2, d_w, d_nn, d_bn2, d_len, d_neg, d_cl, d_at1, d_at2, d_at3, d_at4, d_at5, d_at6, d_at7, d_set, d_app, d_cat, d_take, d_drop, d_rep, d_cons, d_lt_t, d_lt_n, d_le_t, d_le_n, d_eqi_t, d_eqi_f, d_eqb_t, d_eqb_f, d_nb_t, d_nb_f, nth0, nthS, d_api, d_apr, D_cons, D_nl, D_nr, D_vr, D_set, mkL_l, mkR_r, mkI_i, d_shr2, d_shr3, d_shr16, d_shr40, d_shl2, d_shl3, d_shl16, d_shl40, d_apb, mkB_b, d_vs, d_cs, d_scat, d_sub3, d_slen, d_enc, d_dec, d_rune, d_rlen, d_apt, D_vs, mkS_s, Φ700, hA, hB])
theorem TextInserts_walk (a0 : ByteArray) (a1 : ByteArray) (a2 : Int) (w : World) (wa2 : (Lit.int .i64 a2).wf = true) (hB : Base w) :
    Calls Tryd.prog 13 #[.string a0, .string a1, .int .i64 a2] w fun e w' => e = .returned (.bool true) ∧ Below w.heap.size w w' :=
  law_calls (v := ⟨[a2], [], [], [a0, a1], Φ⟩) (l := []) (args := args) (args' := [.string a0, .string a1, .int .i64 a2]) hI0 hfn hbod (by decide) rfl (by simp)
    (.cons (.str _) (.cons (.str _) (.cons (.int _ _) (.nil _))))
    (aw ⟨[a2], [], [], [a0, a1], Φ⟩ (fun _ _ => False) (fun _ => (0, 0)) rfl (fun _ _ h => h.elim) KV.nil  (sS a2 a0 a1) ) hB
end Go.Proofs.YtpgkbdkkcladcaaDoor.KTextInserts
