/- The law TextCuts: what is left, and what is taken out. A lemma file. -/
import Derived.Test.YtpgkbdkkcladcaaDoorOwnTextCutsS
set_option linter.unusedVariables false
set_option linter.unusedSimpArgs false
set_option maxRecDepth 100000
set_option maxHeartbeats 4000000
namespace Go.Proofs.YtpgkbdkkcladcaaDoor.KTextCuts
open Go Go.Lib Go.Proofs.YtpgkbdkkcladcaaDoor.Eng Go.Proofs.YtpgkbdkkcladcaaDoor.Sy Go.Proofs.YtpgkbdkkcladcaaDoor.Tx Go.RowKit Go.WideShapes Go.ChangeShapes
theorem sS (a n : Int) (s : ByteArray) (hn : n ≤ 9223372036854775807) (ha : a ≤ 9223372036854775807) : TOK (⟨[a, n], [], [], [s], Φ⟩ : Val) (fun _ g => LgOK (⟨[a, n], [], [], [s], Φ⟩ : Val) (fun _ _ => False) g) trS := by
  have hl1 := sg_len (toL s)
  unfold trS
  refine TOK.br' (fun h => TOK.leaf' rfl) (fun h1 => ?_)
  simp only [d_vi, d_vb, d_vr, d_ci, d_cb, d_nr, d_nl, d_add, d_sub, d_mul, d_rem, d_quo, d_bit, d_mn2, d_mx2, d_w, d_nn, d_bn2, d_len, d_neg, d_cl, d_at1, d_at2, d_at3, d_at4, d_at5, d_at6, d_at7, d_set, d_app, d_cat, d_take, d_drop, d_rep, d_cons, d_lt_t, d_lt_n, d_le_t, d_le_n, d_eqi_t, d_eqi_f, d_eqb_t, d_eqb_f, d_nb_t, d_nb_f, nth0, nthS, d_api, d_apr, D_cons, D_nl, D_nr, D_vr, D_set, mkL_l, mkR_r, mkI_i, d_shr2, d_shr3, d_shr16, d_shr40, d_shl2, d_shl3, d_shl16, d_shl40, d_apb, mkB_b, d_vs, d_cs, d_scat, d_sub3, d_slen, d_enc, d_dec, d_rune, d_rlen, d_apt, D_vs, mkS_s, size_L] at h1
  cases hA : validD (toL s)
  case true =>
    by_cases hr : 0 ≤ a ∧ a ≤ ((sg (toL s)).length : Int)
    · have hp := place_in hr
      have ho := off_le (toL s) a.toNat
      have k1 := take_off (toL s) a.toNat
      have k2 := drop_off (toL s) a.toNat
      have hd : sg ((toL s).drop (off (toL s) a.toNat)) = (sg (toL s)).drop a.toNat := by rw [k2, sg_flat' (mem_drop (valid_all _ hA) _)]
      have hdl : ((sg ((toL s).drop (off (toL s) a.toNat))).length : Int) = ((sg (toL s)).length : Int) - a := by rw [hd, List.length_drop]; omega
      by_cases hq : 0 ≤ n ∧ n ≤ ((sg ((toL s).drop (off (toL s) a.toNat))).length : Int)
      · have hp2 := place_in hq
        rw [hdl] at hq
        have ho2 := off_le ((toL s).drop (off (toL s) a.toNat)) n.toNat
        rw [List.length_drop] at ho2
        generalize hO : off ((toL s).drop (off (toL s) a.toNat)) n.toNat = O2 at *
        have b1 := part_len (toL s) 0 a.toNat
        have b2 := part_len (toL s) (a.toNat + n.toNat) ((sg (toL s)).length - (a.toNat + n.toNat))
        rw [List.drop_zero] at b1
        have e1 : (((sg (toL s)).length : Int) - (a + n)).toNat = (sg (toL s)).length - (a.toNat + n.toNat) := by omega
        have e2 : List.take ((sg (toL s)).length - (a.toNat + n.toNat)) (List.drop (a.toNat + n.toNat) (sg (toL s))) = List.drop (a.toNat + n.toNat) (sg (toL s)) := List.take_of_length_le (by rw [List.length_drop]; omega)
        rw [e2] at b2
        have e3 : (((off (toL s) a.toNat : Nat) : Int) + (O2 : Int)).toNat = off (toL s) a.toNat + O2 := by omega
        have e4 : (a + n).toNat = a.toNat + n.toNat := by omega
        have e5 : (a + n - a).toNat = n.toNat := by omega
        have k3 := take_off ((toL s).drop (off (toL s) a.toNat)) n.toNat
        have k4 := drop_off ((toL s).drop (off (toL s) a.toNat)) n.toNat
        rw [hO, hd] at k3 k4
        rw [List.drop_drop, List.drop_drop] at k4
        have k5 : List.drop (off (toL s) a.toNat) (List.take (off (toL s) a.toNat + O2) (toL s)) = (List.take n.toNat (List.drop a.toNat (sg (toL s)))).flatten := by rw [← k3, List.drop_take, Nat.add_sub_cancel_left]
        have hm : min (off (toL s) a.toNat) (toL s).length = off (toL s) a.toNat := Nat.min_eq_left ho
        repeat' (first
          | (refine TOK.br' (fun h => ?_) (fun h => ?_) <;> simp (disch := omega) only [d_vi, d_vb, d_vr, d_ci, d_cb, d_nr, d_nl, d_add, d_sub, d_mul, d_rem, d_quo, d_bit, d_mn2, d_mx2, d_w, d_nn, d_bn2, d_len, d_neg, d_cl, d_at1, d_at2, d_at3, d_at4, d_at5, d_at6, d_at7, d_set, d_app, d_cat, d_take, d_drop, d_rep, d_cons, d_lt_t, d_lt_n, d_le_t, d_le_n, d_eqi_t, d_eqi_f, d_eqb_t, d_eqb_f, d_nb_t, d_nb_f, nth0, nthS, d_api, d_apr, D_cons, D_nl, D_nr, D_vr, D_set, mkL_l, mkR_r, mkI_i, d_shr2, d_shr3, d_shr16, d_shr40, d_shl2, d_shl3, d_shl16, d_shl40, d_apb, mkB_b, d_vs, d_cs, d_scat, d_sub3, d_slen, d_enc, d_dec, d_rune, d_rlen, d_apt, D_vs, mkS_s, d_eqs_t, d_eqs_f, toL_inj', Φ700, Φ703, Φ704, Φ705, Φ707, size_L, toL_app, toL_ext, toL_ofL, hA, hp, hp2, List.length_append, List.length_take, List.length_drop, rowS_len, join_row, join_row0, Int.toNat_natCast, Int.toNat_zero, List.drop_zero, w64, List.take_length, hm, e1, e2, e3, e4, e5] at h <;> (try exact Bool.noConfusion h) <;> (try (exfalso; omega)))
          | (with_reducible refine TOK.leaf' ?_))
        all_goals first
          | (show (den _ _).b = true
             rw [d_eqi_t]
             simp only [d_vi, d_vb, d_vr, d_ci, d_cb, d_nr, d_nl, d_add, d_sub, d_mul, d_rem, d_quo, d_bit, d_mn2, d_mx2, d_w, d_nn, d_bn2, d_len, d_neg, d_cl, d_at1, d_at2, d_at3, d_at4, d_at5, d_at6, d_at7, d_set, d_app, d_cat, d_take, d_drop, d_rep, d_cons, d_lt_t, d_lt_n, d_le_t, d_le_n, d_eqi_t, d_eqi_f, d_eqb_t, d_eqb_f, d_nb_t, d_nb_f, nth0, nthS, d_api, d_apr, D_cons, D_nl, D_nr, D_vr, D_set, mkL_l, mkR_r, mkI_i, d_shr2, d_shr3, d_shr16, d_shr40, d_shl2, d_shl3, d_shl16, d_shl40, d_apb, mkB_b, d_vs, d_cs, d_scat, d_sub3, d_slen, d_enc, d_dec, d_rune, d_rlen, d_apt, D_vs, mkS_s, Φ703, Φ705, rowS_len])
          | (rename_i h
             exact absurd (by rw [k1, k4]) h)
          | (rename_i h
             exact absurd k5 h)
      · have hp2 := place_out hq
        rw [hdl] at hq
        repeat' (first
          | (refine TOK.br' (fun h => ?_) (fun h => ?_) <;> simp (disch := omega) only [d_vi, d_vb, d_vr, d_ci, d_cb, d_nr, d_nl, d_add, d_sub, d_mul, d_rem, d_quo, d_bit, d_mn2, d_mx2, d_w, d_nn, d_bn2, d_len, d_neg, d_cl, d_at1, d_at2, d_at3, d_at4, d_at5, d_at6, d_at7, d_set, d_app, d_cat, d_take, d_drop, d_rep, d_cons, d_lt_t, d_lt_n, d_le_t, d_le_n, d_eqi_t, d_eqi_f, d_eqb_t, d_eqb_f, d_nb_t, d_nb_f, nth0, nthS, d_api, d_apr, D_cons, D_nl, D_nr, D_vr, D_set, mkL_l, mkR_r, mkI_i, d_shr2, d_shr3, d_shr16, d_shr40, d_shl2, d_shl3, d_shl16, d_shl40, d_apb, mkB_b, d_vs, d_cs, d_scat, d_sub3, d_slen, d_enc, d_dec, d_rune, d_rlen, d_apt, D_vs, mkS_s, Φ700, Φ703, Φ704, Φ705, size_L, toL_ext, hA, hp, hp2, rowS_len, Int.toNat_natCast, List.take_length, List.length_drop, w64] at h <;> (try exact Bool.noConfusion h) <;> (try (exfalso; omega)))
          | (with_reducible refine TOK.leaf' ?_))
        all_goals first
          | (show (den _ _).b = true
             rw [d_eqs_t])
          | rfl
          | (exfalso; omega)
    · have hp := place_out hr
      repeat' (first
        | (refine TOK.br' (fun h => ?_) (fun h => ?_) <;> simp (disch := omega) only [d_vi, d_vb, d_vr, d_ci, d_cb, d_nr, d_nl, d_add, d_sub, d_mul, d_rem, d_quo, d_bit, d_mn2, d_mx2, d_w, d_nn, d_bn2, d_len, d_neg, d_cl, d_at1, d_at2, d_at3, d_at4, d_at5, d_at6, d_at7, d_set, d_app, d_cat, d_take, d_drop, d_rep, d_cons, d_lt_t, d_lt_n, d_le_t, d_le_n, d_eqi_t, d_eqi_f, d_eqb_t, d_eqb_f, d_nb_t, d_nb_f, nth0, nthS, d_api, d_apr, D_cons, D_nl, D_nr, D_vr, D_set, mkL_l, mkR_r, mkI_i, d_shr2, d_shr3, d_shr16, d_shr40, d_shl2, d_shl3, d_shl16, d_shl40, d_apb, mkB_b, d_vs, d_cs, d_scat, d_sub3, d_slen, d_enc, d_dec, d_rune, d_rlen, d_apt, D_vs, mkS_s, Φ700, Φ703, Φ704, Φ705, hA, hp, rowS_len, w64] at h <;> (try exact Bool.noConfusion h) <;> (try (exfalso; omega)))
        | (with_reducible refine TOK.leaf' ?_))
      all_goals first
        | (show (den _ _).b = true
           rw [d_eqs_t])
        | rfl
        | (exfalso; omega)
  all_goals
    repeat' (first
      | (refine TOK.br' (fun h => ?_) (fun h => ?_) <;> simp (disch := omega) only [d_vi, d_vb, d_vr, d_ci, d_cb, d_nr, d_nl, d_add, d_sub, d_mul, d_rem, d_quo, d_bit, d_mn2, d_mx2, d_w, d_nn, d_bn2, d_len, d_neg, d_cl, d_at1, d_at2, d_at3, d_at4, d_at5, d_at6, d_at7, d_set, d_app, d_cat, d_take, d_drop, d_rep, d_cons, d_lt_t, d_lt_n, d_le_t, d_le_n, d_eqi_t, d_eqi_f, d_eqb_t, d_eqb_f, d_nb_t, d_nb_f, nth0, nthS, d_api, d_apr, D_cons, D_nl, D_nr, D_vr, D_set, mkL_l, mkR_r, mkI_i, d_shr2, d_shr3, d_shr16, d_shr40, d_shl2, d_shl3, d_shl16, d_shl40, d_apb, mkB_b, d_vs, d_cs, d_scat, d_sub3, d_slen, d_enc, d_dec, d_rune, d_rlen, d_apt, D_vs, mkS_s, Φ700, hA] at h <;> (try exact Bool.noConfusion h) <;> (try exact absurd trivial h))
      | (with_reducible refine TOK.leaf' ?_))
    all_goals first
      | (show (den _ _).b = true
         rw [d_eqs_t])
      | rfl
theorem TextCuts_walk (a0 : ByteArray) (a1 : Int) (a2 : Int) (w : World) (wa1 : (Lit.int .i64 a1).wf = true) (wa2 : (Lit.int .i64 a2).wf = true) (hB : Base w) :
    Calls Tryd.prog 5 #[.string a0, .int .i64 a1, .int .i64 a2] w fun e w' => e = .returned (.bool true) ∧ Below w.heap.size w w' :=
  law_calls (v := ⟨[a1, a2], [], [], [a0], Φ⟩) (l := []) (args := args) (args' := [.string a0, .int .i64 a1, .int .i64 a2]) hI0 hfn hbod (by decide) rfl (by simp)
    (.cons (.str _) (.cons (.int _ _) (.cons (.int _ _) (.nil _))))
    (aw ⟨[a1, a2], [], [], [a0], Φ⟩ (fun _ _ => False) (fun _ => (0, 0)) rfl (fun _ _ h => h.elim) KV.nil  (sS a1 a2 a0 (lit_i64 wa2).2 (lit_i64 wa1).2) ) hB
end Go.Proofs.YtpgkbdkkcladcaaDoor.KTextCuts
