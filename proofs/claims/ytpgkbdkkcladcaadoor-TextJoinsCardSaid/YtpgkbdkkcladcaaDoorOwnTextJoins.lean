/- The law TextJoins: two texts put in at one place stand side by side. A lemma file. -/
import Derived.Test.YtpgkbdkkcladcaaDoorOwnTextJoinsS
import Derived.Test.YtpgkbdkkcladcaaDoorOwnLem20
set_option linter.unusedVariables false
set_option linter.unusedSimpArgs false
set_option maxRecDepth 100000
set_option maxHeartbeats 4000000
namespace Go.Proofs.YtpgkbdkkcladcaaDoor.KTextJoins
open Go Go.Lib Go.Proofs.YtpgkbdkkcladcaaDoor.Eng Go.Proofs.YtpgkbdkkcladcaaDoor.Sy Go.Proofs.YtpgkbdkkcladcaaDoor.Tx Go.RowKit Go.WideShapes Go.ChangeShapes
theorem sS (a : Int) (s t u : ByteArray) : TOK (⟨[a], [], [], [s, t, u], Φ⟩ : Val) (fun _ g => LgOK (⟨[a], [], [], [s, t, u], Φ⟩ : Val) (fun _ _ => False) g) trS := by
  have hl1 := sg_len (toL s)
  have hl2 := sg_len (toL t)
  have hl3 := sg_len (toL u)
  unfold trS
  refine TOK.br' (fun h => TOK.leaf' rfl) (fun h1 => ?_)
  refine TOK.br' (fun h => TOK.leaf' rfl) (fun h2 => ?_)
  refine TOK.br' (fun h => TOK.leaf' rfl) (fun h3 => ?_)
  simp only [d_vi, d_vb, d_vr, d_ci, d_cb, d_nr, d_nl, d_add, d_sub, d_mul, d_rem, d_quo, d_bit, d_mn2, d_mx2, d_w, d_nn, d_bn2, d_len, d_neg, d_cl, d_at1, d_at2, d_at3, d_at4, d_at5, d_at6, d_at7, d_set, d_app, d_cat, d_take, d_drop, d_rep, d_cons, d_lt_t, d_lt_n, d_le_t, d_le_n, d_eqi_t, d_eqi_f, d_eqb_t, d_eqb_f, d_nb_t, d_nb_f, nth0, nthS, d_api, d_apr, D_cons, D_nl, D_nr, D_vr, D_set, mkL_l, mkR_r, mkI_i, d_shr2, d_shr3, d_shr16, d_shr40, d_shl2, d_shl3, d_shl16, d_shl40, d_apb, mkB_b, d_vs, d_cs, d_scat, d_sub3, d_slen, d_enc, d_dec, d_rune, d_rlen, d_apt, D_vs, mkS_s, size_L] at h1 h2 h3
  refine TOK.br' (fun v1 => ?_) (fun h => TOK.leaf' rfl)
  refine TOK.br' (fun v2 => ?_) (fun h => TOK.leaf' rfl)
  refine TOK.br' (fun v3 => ?_) (fun h => TOK.leaf' rfl)
  simp only [d_vi, d_vb, d_vr, d_ci, d_cb, d_nr, d_nl, d_add, d_sub, d_mul, d_rem, d_quo, d_bit, d_mn2, d_mx2, d_w, d_nn, d_bn2, d_len, d_neg, d_cl, d_at1, d_at2, d_at3, d_at4, d_at5, d_at6, d_at7, d_set, d_app, d_cat, d_take, d_drop, d_rep, d_cons, d_lt_t, d_lt_n, d_le_t, d_le_n, d_eqi_t, d_eqi_f, d_eqb_t, d_eqb_f, d_nb_t, d_nb_f, nth0, nthS, d_api, d_apr, D_cons, D_nl, D_nr, D_vr, D_set, mkL_l, mkR_r, mkI_i, d_shr2, d_shr3, d_shr16, d_shr40, d_shl2, d_shl3, d_shl16, d_shl40, d_apb, mkB_b, d_vs, d_cs, d_scat, d_sub3, d_slen, d_enc, d_dec, d_rune, d_rlen, d_apt, D_vs, mkS_s, Φ700] at v1 v2 v3
  have w0 : 0 ≤ IntKind.u64.wrap a := by rw [wu64']; omega
  have e0 : IntKind.u64.wrap (IntKind.i64.wrap (((sg (toL s)).length : Int) + 1)) = ((sg (toL s)).length : Int) + 1 := by rw [w64 (by omega) (by omega), wu64 (by omega) (by omega)]
  have q0 : 0 ≤ (IntKind.u64.wrap a).tmod (((sg (toL s)).length : Int) + 1) ∧ (IntKind.u64.wrap a).tmod (((sg (toL s)).length : Int) + 1) ≤ ((sg (toL s)).length : Int) := by
    rw [Int.tmod_eq_emod_of_nonneg w0]
    have c1 := Int.emod_lt_of_pos (IntKind.u64.wrap a) (show (0 : Int) < ((sg (toL s)).length : Int) + 1 by omega)
    have c2 := Int.emod_nonneg (IntKind.u64.wrap a) (show ((sg (toL s)).length : Int) + 1 ≠ 0 by omega)
    omega
  generalize hk : (IntKind.u64.wrap a).tmod (((sg (toL s)).length : Int) + 1) = k at *
  have ek : IntKind.i64.wrap k = k := w64 (by omega) (by omega)
  have ek2 : IntKind.i64.wrap (k + ((sg (toL t)).length : Int)) = k + ((sg (toL t)).length : Int) := w64 (by omega) (by omega)
  obtain ⟨f1, f2, f3, f4, f5, f6, f7⟩ := ins_two v1 v2 v3 q0.1 q0.2 (by omega)
  have il : (insT (toL s) k (toL t)).length ≤ 300 := by
    rw [ins_t f1]
    have e := congrArg List.length (sg_parts (toL s) k.toNat)
    simp only [List.length_append] at e ⊢
    omega
  repeat' (first
    | (refine TOK.br' (fun h => ?_) (fun h => ?_) <;> simp (disch := omega) only [d_vi, d_vb, d_vr, d_ci, d_cb, d_nr, d_nl, d_add, d_sub, d_mul, d_rem, d_quo, d_bit, d_mn2, d_mx2, d_w, d_nn, d_bn2, d_len, d_neg, d_cl, d_at1, d_at2, d_at3, d_at4, d_at5, d_at6, d_at7, d_set, d_app, d_cat, d_take, d_drop, d_rep, d_cons, d_lt_t, d_lt_n, d_le_t, d_le_n, d_eqi_t, d_eqi_f, d_eqb_t, d_eqb_f, d_nb_t, d_nb_f, nth0, nthS, d_api, d_apr, D_cons, D_nl, D_nr, D_vr, D_set, mkL_l, mkR_r, mkI_i, d_shr2, d_shr3, d_shr16, d_shr40, d_shl2, d_shl3, d_shl16, d_shl40, d_apb, mkB_b, d_vs, d_cs, d_scat, d_sub3, d_slen, d_enc, d_dec, d_rune, d_rlen, d_apt, D_vs, mkS_s, d_eqs_t, d_eqs_f, toL_inj', Φ703, Φ705, Φ710, Φ711, D_bus, D_cons, D_nl, size_L, toL_ofL, toL_app, rowS_len, e0, hk, ek, ek2, f1, f2, f3, f4, f5, f6, f7, List.length_append] at h <;> (try exact absurd trivial h) <;> (try (exfalso; omega)))
    | (with_reducible refine TOK.leaf' ?_))
  all_goals first
    | (show (den _ _).b = true
       rw [d_eqs_t, toL_inj']
       simp only [d_vi, d_vb, d_vr, d_ci, d_cb, d_nr, d_nl, d_add, d_sub, d_mul, d_rem, d_quo, d_bit, d_mn2, d_mx2, d_w, d_nn, d_bn2, d_len, d_neg, d_cl, d_at1, d_at2, d_at3, d_at4, d_at5, d_at6, d_at7, d_set, d_app, d_cat, d_take, d_drop, d_rep, d_cons, d_lt_t, d_lt_n, d_le_t, d_le_n, d_eqi_t, d_eqi_f, d_eqb_t, d_eqb_f, d_nb_t, d_nb_f, nth0, nthS, d_api, d_apr, D_cons, D_nl, D_nr, D_vr, D_set, mkL_l, mkR_r, mkI_i, d_shr2, d_shr3, d_shr16, d_shr40, d_shl2, d_shl3, d_shl16, d_shl40, d_apb, mkB_b, d_vs, d_cs, d_scat, d_sub3, d_slen, d_enc, d_dec, d_rune, d_rlen, d_apt, D_vs, mkS_s, Φ703, Φ705, Φ710, D_bus, D_cons, D_nl, toL_ofL, toL_app, rowS_len, e0, hk, ek, ek2, f7])
    | (rename_i h; exact absurd rfl h)
theorem TextJoins_walk (a0 : ByteArray) (a1 : ByteArray) (a2 : ByteArray) (a3 : Int) (w : World) (wa3 : (Lit.int .i64 a3).wf = true) (hB : Base w) :
    Calls Tryd.prog 14 #[.string a0, .string a1, .string a2, .int .i64 a3] w fun e w' => e = .returned (.bool true) ∧ Below w.heap.size w w' :=
  law_calls (v := ⟨[a3], [], [], [a0, a1, a2], Φ⟩) (l := []) (args := args) (args' := [.string a0, .string a1, .string a2, .int .i64 a3]) hI0 hfn hbod (by decide) rfl (by simp)
    (.cons (.str _) (.cons (.str _) (.cons (.str _) (.cons (.int _ _) (.nil _)))))
    (aw ⟨[a3], [], [], [a0, a1, a2], Φ⟩ (fun _ _ => False) (fun _ => (0, 0)) rfl (fun _ _ h => h.elim) KV.nil  (sS a3 a0 a1 a2) ) hB
end Go.Proofs.YtpgkbdkkcladcaaDoor.KTextJoins
