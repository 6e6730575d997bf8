/- The law TextBacks: what is put in, and cut out again, leaves the text. A lemma file. -/
import Derived.Test.YtpgkbdkkcladcaaDoorOwnTextBacksS
import Derived.Test.YtpgkbdkkcladcaaDoorOwnLem20
set_option linter.unusedVariables false
set_option linter.unusedSimpArgs false
set_option maxRecDepth 100000
set_option maxHeartbeats 4000000
namespace Go.Proofs.YtpgkbdkkcladcaaDoor.KTextBacks
open Go Go.Lib Go.Proofs.YtpgkbdkkcladcaaDoor.Eng Go.Proofs.YtpgkbdkkcladcaaDoor.Sy Go.Proofs.YtpgkbdkkcladcaaDoor.Tx Go.RowKit Go.WideShapes Go.ChangeShapes
theorem sS (a n : Int) (s t : ByteArray) : TOK (⟨[a, n], [], [], [s, t], Φ⟩ : Val) (fun _ g => LgOK (⟨[a, n], [], [], [s, t], Φ⟩ : Val) (fun _ _ => False) g) trS := by
  have hl1 := sg_len (toL s)
  have hl2 := sg_len (toL t)
  unfold trS
  refine TOK.br' (fun h => TOK.leaf' rfl) (fun h1 => ?_)
  refine TOK.br' (fun h => TOK.leaf' rfl) (fun h2 => ?_)
  simp only [d_vi, d_vb, d_vr, d_ci, d_cb, d_nr, d_nl, d_add, d_sub, d_mul, d_rem, d_quo, d_bit, d_mn2, d_mx2, d_w, d_nn, d_bn2, d_len, d_neg, d_cl, d_at1, d_at2, d_at3, d_at4, d_at5, d_at6, d_at7, d_set, d_app, d_cat, d_take, d_drop, d_rep, d_cons, d_lt_t, d_lt_n, d_le_t, d_le_n, d_eqi_t, d_eqi_f, d_eqb_t, d_eqb_f, d_nb_t, d_nb_f, nth0, nthS, d_api, d_apr, D_cons, D_nl, D_nr, D_vr, D_set, mkL_l, mkR_r, mkI_i, d_shr2, d_shr3, d_shr16, d_shr40, d_shl2, d_shl3, d_shl16, d_shl40, d_apb, mkB_b, d_vs, d_cs, d_scat, d_sub3, d_slen, d_enc, d_dec, d_rune, d_rlen, d_apt, D_vs, mkS_s, size_L] at h1 h2
  have b1 : insE (toL s) a (toL t) = 0 → _ := back1
  have b2 : cutE (toL s) a n = 0 → _ := fun h => back2 h (by omega)
  have il : (insT (toL s) a (toL t)).length ≤ 600 := by
    unfold insT
    split
    · have e := congrArg List.length (sg_parts (toL s) a.toNat)
      simp only [List.length_append] at e ⊢
      omega
    · simp
  have cl1 : (cutR (toL s) a n).length ≤ 300 ∧ (cutC (toL s) a n).length ≤ 300 := by
    have e := congrArg List.length (sg_flat (toL s))
    have h : sg (toL s) = (sg (toL s)).take a.toNat ++ (((sg (toL s)).drop a.toNat).take n.toNat ++ (sg (toL s)).drop (a.toNat + n.toNat)) := by rw [← List.drop_drop, List.take_append_drop, List.take_append_drop]
    rw [h, List.flatten_append, List.flatten_append, List.length_append, List.length_append] at e
    unfold cutR cutC
    constructor
    · split
      · rw [List.length_append]; omega
      · simp
    · split
      · omega
      · simp
  have hv : validD (toL s) = false → insE (toL s) a (toL t) = 3 ∧ cutE (toL s) a n = 3 := fun h => ⟨ins3 h, cut3 h⟩
  repeat' (first
    | (refine TOK.br' (fun h => ?_) (fun h => ?_) <;> simp (disch := omega) only [d_vi, d_vb, d_vr, d_ci, d_cb, d_nr, d_nl, d_add, d_sub, d_mul, d_rem, d_quo, d_bit, d_mn2, d_mx2, d_w, d_nn, d_bn2, d_len, d_neg, d_cl, d_at1, d_at2, d_at3, d_at4, d_at5, d_at6, d_at7, d_set, d_app, d_cat, d_take, d_drop, d_rep, d_cons, d_lt_t, d_lt_n, d_le_t, d_le_n, d_eqi_t, d_eqi_f, d_eqb_t, d_eqb_f, d_nb_t, d_nb_f, nth0, nthS, d_api, d_apr, D_cons, D_nl, D_nr, D_vr, D_set, mkL_l, mkR_r, mkI_i, d_shr2, d_shr3, d_shr16, d_shr40, d_shl2, d_shl3, d_shl16, d_shl40, d_apb, mkB_b, d_vs, d_cs, d_scat, d_sub3, d_slen, d_enc, d_dec, d_rune, d_rlen, d_apt, D_vs, mkS_s, d_eqs_t, d_eqs_f, toL_inj', Φ700, Φ703, Φ710, Φ711, Φ712, Φ713, Φ714, D_bus, D_cons, D_nl, size_L, toL_ofL] at h <;> (try (exfalso; omega)))
    | (with_reducible refine TOK.leaf' ?_))
  all_goals first
    | exact rfl
    | (show (den _ _).b = true
       rw [d_eqi_t]
       simp only [d_vi, d_vb, d_vr, d_ci, d_cb, d_nr, d_nl, d_add, d_sub, d_mul, d_rem, d_quo, d_bit, d_mn2, d_mx2, d_w, d_nn, d_bn2, d_len, d_neg, d_cl, d_at1, d_at2, d_at3, d_at4, d_at5, d_at6, d_at7, d_set, d_app, d_cat, d_take, d_drop, d_rep, d_cons, d_lt_t, d_lt_n, d_le_t, d_le_n, d_eqi_t, d_eqi_f, d_eqb_t, d_eqb_f, d_nb_t, d_nb_f, nth0, nthS, d_api, d_apr, D_cons, D_nl, D_nr, D_vr, D_set, mkL_l, mkR_r, mkI_i, d_shr2, d_shr3, d_shr16, d_shr40, d_shl2, d_shl3, d_shl16, d_shl40, d_apb, mkB_b, d_vs, d_cs, d_scat, d_sub3, d_slen, d_enc, d_dec, d_rune, d_rlen, d_apt, D_vs, mkS_s, Φ714, D_cons, D_nl]
       exact (hv (by assumption)).2)
    | (exfalso; have z := hv (by assumption); omega)
    | (exfalso; have z := b1 (by assumption); obtain ⟨z1, z2, z3⟩ := z; contradiction)
    | (exfalso; have z := b2 (by assumption); obtain ⟨z1, z2⟩ := z; contradiction)
theorem TextBacks_walk (a0 : ByteArray) (a1 : ByteArray) (a2 : Int) (a3 : Int) (w : World) (wa2 : (Lit.int .i64 a2).wf = true) (wa3 : (Lit.int .i64 a3).wf = true) (hB : Base w) :
    Calls Tryd.prog 3 #[.string a0, .string a1, .int .i64 a2, .int .i64 a3] w fun e w' => e = .returned (.bool true) ∧ Below w.heap.size w w' :=
  law_calls (v := ⟨[a2, a3], [], [], [a0, a1], Φ⟩) (l := []) (args := args) (args' := [.string a0, .string a1, .int .i64 a2, .int .i64 a3]) hI0 hfn hbod (by decide) rfl (by simp)
    (.cons (.str _) (.cons (.str _) (.cons (.int _ _) (.cons (.int _ _) (.nil _)))))
    (aw ⟨[a2, a3], [], [], [a0, a1], Φ⟩ (fun _ _ => False) (fun _ => (0, 0)) rfl (fun _ _ h => h.elim) KV.nil  (sS a2 a3 a0 a1) ) hB
end Go.Proofs.YtpgkbdkkcladcaaDoor.KTextBacks
