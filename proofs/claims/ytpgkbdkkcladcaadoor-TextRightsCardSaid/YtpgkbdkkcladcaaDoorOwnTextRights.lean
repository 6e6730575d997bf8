/- The law TextRights: texts of signs side by side are one. A lemma file. -/
import Derived.Test.YtpgkbdkkcladcaaDoorOwnTextRightsS
set_option linter.unusedVariables false
set_option linter.unusedSimpArgs false
set_option maxRecDepth 100000
set_option maxHeartbeats 4000000
namespace Go.Proofs.YtpgkbdkkcladcaaDoor.KTextRights
open Go Go.Lib Go.Proofs.YtpgkbdkkcladcaaDoor.Eng Go.Proofs.YtpgkbdkkcladcaaDoor.Sy Go.Proofs.YtpgkbdkkcladcaaDoor.Tx Go.RowKit Go.WideShapes Go.ChangeShapes
def Inv (k : Nat) (v : Val) : Prop := k = 0 ∧ ∃ n i b R all, v = ⟨[n, i], [b], [R], [all], Φ⟩ ∧ 0 ≤ i ∧ i ≤ (R.length : Int) ∧ (R.length : Int) ≤ 20 ∧ 0 ≤ n ∧ n ≤ 100 * i ∧ ((toL all).length : Int) ≤ 101 * i ∧ (∀ t, validD (toL all ++ t) = (b && validD t)) ∧ (b = true → ((sg (toL all)).length : Int) = n + i)
def μ (q : Nat × Val) : Nat × Nat := ((2000 - nth 0 q.2.i 1).toNat, 0)
theorem hΦ : ∀ k v, Inv k v → v.f = Φ := by
  rintro k v ⟨_, _, _, _, _, _, rfl, _⟩; rfl
theorem k0 : ∀ v, Inv 0 v → KV v tm0.kn := fun v h => KV.nil
theorem s0 : ∀ v, Inv 0 v → TOK v (fun _ g => LgOK v (fun q u => Inv q u ∧ lt2 μ (q, u) (0, v)) g) tr0 := by
  rintro v ⟨_, n, i, b, R, all, rfl, h0, h1, h2, h3, h4, h5, h6, h7⟩
  have hb : validD (toL all) = b := by have := h6 []; rw [List.append_nil, validD_nil, Bool.and_true] at this; exact this
  unfold tr0
  refine TOK.br' (fun h => ?_) (fun h => ?_) <;> simp (disch := omega) only [d_vi, d_vb, d_vr, d_ci, d_cb, d_nr, d_nl, d_add, d_sub, d_mul, d_rem, d_quo, d_bit, d_mn2, d_mx2, d_w, d_nn, d_bn2, d_len, d_neg, d_cl, d_at1, d_at2, d_at3, d_at4, d_at5, d_at6, d_at7, d_set, d_app, d_cat, d_take, d_drop, d_rep, d_cons, d_lt_t, d_lt_n, d_le_t, d_le_n, d_eqi_t, d_eqi_f, d_eqb_t, d_eqb_f, d_nb_t, d_nb_f, nth0, nthS, d_api, d_apr, D_cons, D_nl, D_nr, D_vr, D_set, mkL_l, mkR_r, mkI_i, d_shr2, d_shr3, d_shr16, d_shr40, d_shl2, d_shl3, d_shl16, d_shl40, d_apb, mkB_b, d_vs, d_cs, d_scat, d_sub3, d_slen, d_enc, d_dec, d_rune, d_rlen, d_apt, D_vs, mkS_s] at h
  · refine TOK.br' (fun g => ?_) (fun g => ?_) <;> simp (disch := omega) only [d_vi, d_vb, d_vr, d_ci, d_cb, d_nr, d_nl, d_add, d_sub, d_mul, d_rem, d_quo, d_bit, d_mn2, d_mx2, d_w, d_nn, d_bn2, d_len, d_neg, d_cl, d_at1, d_at2, d_at3, d_at4, d_at5, d_at6, d_at7, d_set, d_app, d_cat, d_take, d_drop, d_rep, d_cons, d_lt_t, d_lt_n, d_le_t, d_le_n, d_eqi_t, d_eqi_f, d_eqb_t, d_eqb_f, d_nb_t, d_nb_f, nth0, nthS, d_api, d_apr, D_cons, D_nl, D_nr, D_vr, D_set, mkL_l, mkR_r, mkI_i, d_shr2, d_shr3, d_shr16, d_shr40, d_shl2, d_shl3, d_shl16, d_shl40, d_apb, mkB_b, d_vs, d_cs, d_scat, d_sub3, d_slen, d_enc, d_dec, d_rune, d_rlen, d_apt, D_vs, mkS_s] at g <;> (try (exfalso; omega))
    refine TOK.br' (fun g2 => TOK.leaf' rfl) (fun g2 => ?_)
    simp (disch := omega) only [d_vi, d_vb, d_vr, d_ci, d_cb, d_nr, d_nl, d_add, d_sub, d_mul, d_rem, d_quo, d_bit, d_mn2, d_mx2, d_w, d_nn, d_bn2, d_len, d_neg, d_cl, d_at1, d_at2, d_at3, d_at4, d_at5, d_at6, d_at7, d_set, d_app, d_cat, d_take, d_drop, d_rep, d_cons, d_lt_t, d_lt_n, d_le_t, d_le_n, d_eqi_t, d_eqi_f, d_eqb_t, d_eqb_f, d_nb_t, d_nb_f, nth0, nthS, d_api, d_apr, D_cons, D_nl, D_nr, D_vr, D_set, mkL_l, mkR_r, mkI_i, d_shr2, d_shr3, d_shr16, d_shr40, d_shl2, d_shl3, d_shl16, d_shl40, d_apb, mkB_b, d_vs, d_cs, d_scat, d_sub3, d_slen, d_enc, d_dec, d_rune, d_rlen, d_apt, D_vs, mkS_s, size_L] at g2
    generalize hx : decS (cl R i) = x at *
    have hl := sg_len (toL x)
    have nxt : ∀ (n' : Int) (b' : Bool) (a : ByteArray), toL a = toL all ++ toL x ++ [124] → b' = (b && validD (toL x)) → 0 ≤ n' → n' ≤ n + 100 → (b' = true → n' = n + ((sg (toL x)).length : Int)) → Inv 0 ⟨[n', i + 1], [b'], [R], [a], Φ⟩ ∧ lt2 μ (0, ⟨[n', i + 1], [b'], [R], [a], Φ⟩) (0, ⟨[n, i], [b], [R], [all], Φ⟩) := fun n' b' a ha hb' z1 z2 z3 => by
      refine ⟨⟨rfl, n', i + 1, b', R, a, rfl, by omega, by omega, h2, z1, by omega, ?_, fun t => ?_, fun hbt => ?_⟩, .inl (by show (2000 - (i + 1)).toNat < (2000 - i).toNat; omega)⟩
      · rw [ha]; simp only [List.length_append, List.length_cons, List.length_nil]; omega
      · rw [ha, List.append_assoc, List.append_assoc, h6, hb']
        show (b && validD (toL x ++ 124 :: t)) = _
        rw [valid_bar, Bool.and_assoc]
      · have hbt' := hbt
        rw [hb', Bool.and_eq_true] at hbt
        rw [ha, List.append_assoc, sg_cat (by rw [hb]; exact hbt.1), sg_cat hbt.2, List.length_append, List.length_append, z3 hbt']
        have := h7 hbt.1
        show (((sg (toL all)).length + ((sg (toL x)).length + (sg [124]).length) : Nat) : Int) = _
        rw [show (sg [124]).length = 1 by decide]
        omega
    cases hv : validD (toL x) <;> cases b
    all_goals
      repeat' (first
        | (refine TOK.br' (fun g => ?_) (fun g => ?_) <;> simp (disch := omega) only [d_vi, d_vb, d_vr, d_ci, d_cb, d_nr, d_nl, d_add, d_sub, d_mul, d_rem, d_quo, d_bit, d_mn2, d_mx2, d_w, d_nn, d_bn2, d_len, d_neg, d_cl, d_at1, d_at2, d_at3, d_at4, d_at5, d_at6, d_at7, d_set, d_app, d_cat, d_take, d_drop, d_rep, d_cons, d_lt_t, d_lt_n, d_le_t, d_le_n, d_eqi_t, d_eqi_f, d_eqb_t, d_eqb_f, d_nb_t, d_nb_f, nth0, nthS, d_api, d_apr, D_cons, D_nl, D_nr, D_vr, D_set, mkL_l, mkR_r, mkI_i, d_shr2, d_shr3, d_shr16, d_shr40, d_shl2, d_shl3, d_shl16, d_shl40, d_apb, mkB_b, d_vs, d_cs, d_scat, d_sub3, d_slen, d_enc, d_dec, d_rune, d_rlen, d_apt, D_vs, mkS_s, hx, size_L, toL_app, toL_ofL, List.length_append, List.length_cons, List.length_nil, Φ700, hv] at g <;> (try exact Bool.noConfusion g) <;> (try exact absurd trivial g) <;> (try (exfalso; omega)))
        | (with_reducible refine TOK.leaf' ?_))
      refine (show Inv 0 _ ∧ lt2 μ (0, _) _ from ?_)
      simp (disch := omega) only [Sb.val, List.map_cons, List.map_nil, d_vi, d_vb, d_vr, d_ci, d_cb, d_nr, d_nl, d_add, d_sub, d_mul, d_rem, d_quo, d_bit, d_mn2, d_mx2, d_w, d_nn, d_bn2, d_len, d_neg, d_cl, d_at1, d_at2, d_at3, d_at4, d_at5, d_at6, d_at7, d_set, d_app, d_cat, d_take, d_drop, d_rep, d_cons, d_lt_t, d_lt_f, d_le_t, d_le_f, d_eqi_t, d_eqi_f, d_eqb_t, d_eqb_f, d_nb_t, d_nb_f, nth0, nthS, d_api, d_apr, D_cons, D_nl, D_nr, D_vr, D_set, mkL_l, mkR_r, mkI_i, d_shr2, d_shr3, d_shr16, d_shr40, d_shl2, d_shl3, d_shl16, d_shl40, d_apb, mkB_b, d_vs, d_cs, d_scat, d_sub3, d_slen, d_enc, d_dec, d_rune, d_rlen, d_apt, D_vs, mkS_s, hx, Φ705, rowS_len, w64]
      refine nxt _ _ _ (by rw [toL_app, toL_app]; rfl) (by rw [hv]; rfl) (by omega) (by omega) (fun z => by first | (cases z; done) | omega)
  · have e : i = (R.length : Int) := by omega
    cases b
    all_goals
      repeat' (first
        | (refine TOK.br' (fun g => ?_) (fun g => ?_) <;> simp (disch := omega) only [d_vi, d_vb, d_vr, d_ci, d_cb, d_nr, d_nl, d_add, d_sub, d_mul, d_rem, d_quo, d_bit, d_mn2, d_mx2, d_w, d_nn, d_bn2, d_len, d_neg, d_cl, d_at1, d_at2, d_at3, d_at4, d_at5, d_at6, d_at7, d_set, d_app, d_cat, d_take, d_drop, d_rep, d_cons, d_lt_t, d_lt_n, d_le_t, d_le_n, d_eqi_t, d_eqi_f, d_eqb_t, d_eqb_f, d_nb_t, d_nb_f, nth0, nthS, d_api, d_apr, D_cons, D_nl, D_nr, D_vr, D_set, mkL_l, mkR_r, mkI_i, d_shr2, d_shr3, d_shr16, d_shr40, d_shl2, d_shl3, d_shl16, d_shl40, d_apb, mkB_b, d_vs, d_cs, d_scat, d_sub3, d_slen, d_enc, d_dec, d_rune, d_rlen, d_apt, D_vs, mkS_s, size_L, Φ700, hb] at g <;> (try exact Bool.noConfusion g) <;> (try exact absurd trivial g) <;> (try (exfalso; omega)))
        | (with_reducible refine TOK.leaf' ?_))
    · exact rfl
    · show (den _ _).b = true
      rw [d_eqi_t]
      simp (disch := omega) only [d_vi, d_vb, d_vr, d_ci, d_cb, d_nr, d_nl, d_add, d_sub, d_mul, d_rem, d_quo, d_bit, d_mn2, d_mx2, d_w, d_nn, d_bn2, d_len, d_neg, d_cl, d_at1, d_at2, d_at3, d_at4, d_at5, d_at6, d_at7, d_set, d_app, d_cat, d_take, d_drop, d_rep, d_cons, d_lt_t, d_lt_n, d_le_t, d_le_n, d_eqi_t, d_eqi_f, d_eqb_t, d_eqb_f, d_nb_t, d_nb_f, nth0, nthS, d_api, d_apr, D_cons, D_nl, D_nr, D_vr, D_set, mkL_l, mkR_r, mkI_i, d_shr2, d_shr3, d_shr16, d_shr40, d_shl2, d_shl3, d_shl16, d_shl40, d_apb, mkB_b, d_vs, d_cs, d_scat, d_sub3, d_slen, d_enc, d_dec, d_rune, d_rlen, d_apt, D_vs, mkS_s, Φ703, w64, h7 rfl]
      omega
theorem sS (l : Row) : TOK (⟨[], [], [l], [], Φ⟩ : Val) (fun _ g => LgOK (⟨[], [], [l], [], Φ⟩ : Val) Inv g) trS := by
  unfold trS
  refine TOK.br' (fun h => TOK.leaf' rfl) (fun h1 => TOK.leaf' (show Inv 0 _ from ?_))
  simp only [d_vi, d_vb, d_vr, d_ci, d_cb, d_nr, d_nl, d_add, d_sub, d_mul, d_rem, d_quo, d_bit, d_mn2, d_mx2, d_w, d_nn, d_bn2, d_len, d_neg, d_cl, d_at1, d_at2, d_at3, d_at4, d_at5, d_at6, d_at7, d_set, d_app, d_cat, d_take, d_drop, d_rep, d_cons, d_lt_t, d_lt_n, d_le_t, d_le_n, d_eqi_t, d_eqi_f, d_eqb_t, d_eqb_f, d_nb_t, d_nb_f, nth0, nthS, d_api, d_apr, D_cons, D_nl, D_nr, D_vr, D_set, mkL_l, mkR_r, mkI_i, d_shr2, d_shr3, d_shr16, d_shr40, d_shl2, d_shl3, d_shl16, d_shl40, d_apb, mkB_b, d_vs, d_cs, d_scat, d_sub3, d_slen, d_enc, d_dec, d_rune, d_rlen, d_apt, D_vs, mkS_s] at h1
  simp only [Sb.val, List.map_cons, List.map_nil, d_vi, d_vb, d_vr, d_ci, d_cb, d_nr, d_nl, d_add, d_sub, d_mul, d_rem, d_quo, d_bit, d_mn2, d_mx2, d_w, d_nn, d_bn2, d_len, d_neg, d_cl, d_at1, d_at2, d_at3, d_at4, d_at5, d_at6, d_at7, d_set, d_app, d_cat, d_take, d_drop, d_rep, d_cons, d_lt_t, d_lt_f, d_le_t, d_le_f, d_eqi_t, d_eqi_f, d_eqb_t, d_eqb_f, d_nb_t, d_nb_f, nth0, nthS, d_api, d_apr, D_cons, D_nl, D_nr, D_vr, D_set, mkL_l, mkR_r, mkI_i, d_shr2, d_shr3, d_shr16, d_shr40, d_shl2, d_shl3, d_shl16, d_shl40, d_apb, mkB_b, d_vs, d_cs, d_scat, d_sub3, d_slen, d_enc, d_dec, d_rune, d_rlen, d_apt, D_vs, mkS_s]
  exact ⟨rfl, 0, 0, true, l, _, rfl, by omega, by omega, by omega, by omega, by omega, by decide, fun t => by simp [toL_ofL], fun _ => by decide⟩
theorem TextRights_walk (A0 : Option Addr) (n0 c0 : Nat) (l0 : List (List Int)) (w : World) (hr0 : ArgRow w [.s] A0 n0 c0 l0) (hB : Base w) :
    Calls Tryd.prog 7 #[.slice A0 n0 c0] w fun e w' => e = .returned (.bool true) ∧ Below w.heap.size w w' :=
  law_calls (v := ⟨[], [], [l0], [], Φ⟩) (l := [⟨A0, n0, c0, [.s], l0⟩]) (args := args) (args' := [.slice A0 n0 c0]) hI0 hfn hbod (by decide) rfl (by simpa using hr0)
    (.cons (arg_slice (id := 0) (s := ⟨A0, n0, c0, [.s], l0⟩) (l := [⟨A0, n0, c0, [.s], l0⟩]) rfl rfl hr0) (.nil _))
    (aw ⟨[], [], [l0], [], Φ⟩ Inv μ rfl hΦ KV.nil k0 (sS l0) s0) hB
end Go.Proofs.YtpgkbdkkcladcaaDoor.KTextRights
