/- The law LinMany: of more calls than nine no order is looked for. A lemma file. -/
import Derived.Test.YtpgkbdkkcladcaaOwnLinManyS
set_option linter.unusedVariables false
set_option linter.unusedSimpArgs false
set_option maxRecDepth 100000
set_option maxHeartbeats 4000000
namespace Go.Proofs.Ytpgkbdkkcladcaa.KLinMany
open Go Go.Lib Go.Proofs.Ytpgkbdkkcladcaa.Eng Go.Proofs.Ytpgkbdkkcladcaa.Sy Go.RowKit Go.WideShapes Go.ChangeShapes
theorem D_rep {v : Val} {a b : E} : den v (.o2 .rep a b) = mkR (List.replicate (den v a).i.toNat (den v b).l) := rfl
def mkD (i : Nat) : List Int := [0, 0, 0, (i : Int), 0, 2 * (i : Int), 2 * (i : Int) + 1, 1, 0, 0, 0]
def lst (n : Nat) : Row := (List.range n).map mkD
theorem len_lst (n : Nat) : (lst n).length = n := by simp [lst]
theorem lst_succ {i : Int} (h : 0 ≤ i) : lst (i + 1).toNat = lst i.toNat ++ [[0, 0, 0, i, 0, 2 * i, 2 * i + 1, 1, 0, 0, 0]] := by
  unfold lst
  rw [show (i + 1).toNat = i.toNat + 1 by omega, List.range_succ, List.map_append]
  simp only [List.map_cons, List.map_nil, mkD, show ((i.toNat : Nat) : Int) = i by omega]
theorem leg : ∀ n : Fin 16, legalF (lst n.1) [] = true := by decide
theorem fnd : ∀ n : Fin 10, goodF 0 (List.replicate n.1 [0]) (lst n.1) = true ∧ (findM (lst n.1) ⟨List.replicate n.1 [0], 0, [], false⟩ []).1 = true ∧ (findM (lst n.1) ⟨List.replicate n.1 [0], 0, [], false⟩ []).2.n = (n.1 : Int) := by decide +kernel
def Inv (k : Nat) (v : Val) : Prop := k = 0 ∧ ∃ n i, v = ⟨[n, i], [], [lst i.toNat], [], Φ⟩ ∧ 0 ≤ i ∧ i ≤ n ∧ n ≤ 15
def μ (q : Nat × Val) : Nat × Nat := ((2000 - nth 0 q.2.i 1).toNat, 0)
theorem hΦ : ∀ k v, Inv k v → v.f = Φ := by
  rintro k v ⟨_, _, _, rfl, _⟩; rfl
theorem k0 : ∀ v, Inv 0 v → KV v tm0.kn := fun v h => KV.nil
theorem s0 : ∀ v, Inv 0 v → TOK v (fun _ g => LgOK v (fun q u => Inv q u ∧ lt2 μ (q, u) (0, v)) g) tr0 := by
  rintro v ⟨_, n, i, rfl, h1, h2, h3⟩
  have hlen : ((lst i.toNat).length : Int) = i := by rw [len_lst]; omega
  have ii : ((i.toNat : Nat) : Int) = i := by omega
  have hleg : legalF (lst i.toNat) [] = true := leg ⟨i.toNat, by omega⟩
  unfold tr0
  refine TOK.br' (fun h => ?_) (fun h => ?_) <;> simp (disch := omega) only [d_vi, d_vb, d_vr, d_ci, d_cb, d_nr, d_nl, d_add, d_sub, d_mul, d_rem, d_quo, d_bit, d_mn2, d_mx2, d_w, d_nn, d_bn2, d_len, d_neg, d_cl, d_at1, d_at2, d_at3, d_at4, d_at5, d_at6, d_at7, d_set, d_app, d_cat, d_take, d_drop, d_rep, d_cons, d_lt_t, d_lt_n, d_le_t, d_le_n, d_eqi_t, d_eqi_f, d_eqb_t, d_eqb_f, d_nb_t, d_nb_f, nth0, nthS, d_api, d_apr, D_cons, D_nl, D_nr, D_vr, D_set, mkL_l, mkR_r, mkI_i, d_shr2, d_shr3, d_shr16, d_shr40, d_shl2, d_shl3, d_shl16, d_shl40, d_apb, mkB_b, hlen] at h
  · refine TOK.br' (fun g => ?_) (fun g => ?_) <;> simp (disch := omega) only [d_vi, d_vb, d_vr, d_ci, d_cb, d_nr, d_nl, d_add, d_sub, d_mul, d_rem, d_quo, d_bit, d_mn2, d_mx2, d_w, d_nn, d_bn2, d_len, d_neg, d_cl, d_at1, d_at2, d_at3, d_at4, d_at5, d_at6, d_at7, d_set, d_app, d_cat, d_take, d_drop, d_rep, d_cons, d_lt_t, d_lt_n, d_le_t, d_le_n, d_eqi_t, d_eqi_f, d_eqb_t, d_eqb_f, d_nb_t, d_nb_f, nth0, nthS, d_api, d_apr, D_cons, D_nl, D_nr, D_vr, D_set, mkL_l, mkR_r, mkI_i, d_shr2, d_shr3, d_shr16, d_shr40, d_shl2, d_shl3, d_shl16, d_shl40, d_apb, mkB_b, hlen] at g
    · refine TOK.leaf' (And.intro (?_ : Inv 0 _) (?_ : lt2 μ (0, _) _))
      · simp (disch := omega) only [Sb.val, List.map_cons, List.map_nil, d_vi, d_vb, d_vr, d_ci, d_cb, d_nr, d_nl, d_add, d_sub, d_mul, d_rem, d_quo, d_bit, d_mn2, d_mx2, d_w, d_nn, d_bn2, d_len, d_neg, d_cl, d_at1, d_at2, d_at3, d_at4, d_at5, d_at6, d_at7, d_set, d_app, d_cat, d_take, d_drop, d_rep, d_cons, d_lt_t, d_lt_f, d_le_t, d_le_f, d_eqi_t, d_eqi_f, d_eqb_t, d_eqb_f, d_nb_t, d_nb_f, nth0, nthS, d_api, d_apr, D_cons, D_nl, D_nr, D_vr, D_set, mkL_l, mkR_r, mkI_i, d_shr2, d_shr3, d_shr16, d_shr40, d_shl2, d_shl3, d_shl16, d_shl40, d_apb, mkB_b, w64, wu64]
        exact ⟨rfl, n, i + 1, by rw [lst_succ h1], by omega, by omega, h3⟩
      · refine .inl ?_
        simp (disch := omega) only [μ, Sb.val, List.map_cons, List.map_nil, d_vi, d_vb, d_vr, d_ci, d_cb, d_nr, d_nl, d_add, d_sub, d_mul, d_rem, d_quo, d_bit, d_mn2, d_mx2, d_w, d_nn, d_bn2, d_len, d_neg, d_cl, d_at1, d_at2, d_at3, d_at4, d_at5, d_at6, d_at7, d_set, d_app, d_cat, d_take, d_drop, d_rep, d_cons, d_lt_t, d_lt_f, d_le_t, d_le_f, d_eqi_t, d_eqi_f, d_eqb_t, d_eqb_f, d_nb_t, d_nb_f, nth0, nthS, d_api, d_apr, D_cons, D_nl, D_nr, D_vr, D_set, mkL_l, mkR_r, mkI_i, d_shr2, d_shr3, d_shr16, d_shr40, d_shl2, d_shl3, d_shl16, d_shl40, d_apb, mkB_b, w64]; omega
    · exfalso; omega
  · have e : n = i := by omega
    subst e
    refine TOK.br' (fun g => ?_) (fun g => ?_) <;> simp (disch := omega) only [d_vi, d_vb, d_vr, d_ci, d_cb, d_nr, d_nl, d_add, d_sub, d_mul, d_rem, d_quo, d_bit, d_mn2, d_mx2, d_w, d_nn, d_bn2, d_len, d_neg, d_cl, d_at1, d_at2, d_at3, d_at4, d_at5, d_at6, d_at7, d_set, d_app, d_cat, d_take, d_drop, d_rep, d_cons, d_lt_t, d_lt_n, d_le_t, d_le_n, d_eqi_t, d_eqi_f, d_eqb_t, d_eqb_f, d_nb_t, d_nb_f, nth0, nthS, d_api, d_apr, D_cons, D_nl, D_nr, D_vr, D_set, mkL_l, mkR_r, mkI_i, d_shr2, d_shr3, d_shr16, d_shr40, d_shl2, d_shl3, d_shl16, d_shl40, d_apb, mkB_b, hlen] at g
    · refine TOK.br' (fun g2 => ?_) (fun g2 => ?_)
      · refine TOK.br' (fun g3 => TOK.leaf' ?_) (fun g3 => ?_) <;> simp (disch := omega) only [d_vi, d_vb, d_vr, d_ci, d_cb, d_nr, d_nl, d_add, d_sub, d_mul, d_rem, d_quo, d_bit, d_mn2, d_mx2, d_w, d_nn, d_bn2, d_len, d_neg, d_cl, d_at1, d_at2, d_at3, d_at4, d_at5, d_at6, d_at7, d_set, d_app, d_cat, d_take, d_drop, d_rep, d_cons, d_lt_t, d_lt_n, d_le_t, d_le_n, d_eqi_t, d_eqi_f, d_eqb_t, d_eqb_f, d_nb_t, d_nb_f, nth0, nthS, d_api, d_apr, D_cons, D_nl, D_nr, D_vr, D_set, mkL_l, mkR_r, mkI_i, d_shr2, d_shr3, d_shr16, d_shr40, d_shl2, d_shl3, d_shl16, d_shl40, d_apb, mkB_b, hlen] at g3
        · show (den _ _).b = true
          simp only [d_vi, d_vb, d_vr, d_ci, d_cb, d_nr, d_nl, d_add, d_sub, d_mul, d_rem, d_quo, d_bit, d_mn2, d_mx2, d_w, d_nn, d_bn2, d_len, d_neg, d_cl, d_at1, d_at2, d_at3, d_at4, d_at5, d_at6, d_at7, d_set, d_app, d_cat, d_take, d_drop, d_rep, d_cons, d_lt_t, d_lt_n, d_le_t, d_le_n, d_eqi_t, d_eqi_f, d_eqb_t, d_eqb_f, d_nb_t, d_nb_f, nth0, nthS, d_api, d_apr, D_cons, D_nl, D_nr, D_vr, D_set, mkL_l, mkR_r, mkI_i, d_shr2, d_shr3, d_shr16, d_shr40, d_shl2, d_shl3, d_shl16, d_shl40, d_apb, mkB_b, Φ602, mkR_r, hlen, ii]
          rw [List.take_of_length_le (by rw [len_lst]; exact Nat.le_refl _)]; exact hleg
        · exfalso; omega
      · exfalso
        simp only [d_vi, d_vb, d_vr, d_ci, d_cb, d_nr, d_nl, d_add, d_sub, d_mul, d_rem, d_quo, d_bit, d_mn2, d_mx2, d_w, d_nn, d_bn2, d_len, d_neg, d_cl, d_at1, d_at2, d_at3, d_at4, d_at5, d_at6, d_at7, d_set, d_app, d_cat, d_take, d_drop, d_rep, d_cons, d_lt_t, d_lt_n, d_le_t, d_le_n, d_eqi_t, d_eqi_f, d_eqb_t, d_eqb_f, d_nb_t, d_nb_f, nth0, nthS, d_api, d_apr, D_cons, D_nl, D_nr, D_vr, D_set, mkL_l, mkR_r, mkI_i, d_shr2, d_shr3, d_shr16, d_shr40, d_shl2, d_shl3, d_shl16, d_shl40, d_apb, mkB_b, d_le_b] at g2
        apply g2
        exact (decide_eq_false (by omega)).symm
    · obtain ⟨f1, f2, f3⟩ := fnd ⟨n.toNat, by omega⟩
      simp only at f1 f2 f3
      repeat' (first
        | (refine TOK.br' (fun g2 => ?_) (fun g2 => ?_) <;> simp (disch := omega) only [d_vi, d_vb, d_vr, d_ci, d_cb, d_nr, d_nl, d_add, d_sub, d_mul, d_rem, d_quo, d_bit, d_mn2, d_mx2, d_w, d_nn, d_bn2, d_len, d_neg, d_cl, d_at1, d_at2, d_at3, d_at4, d_at5, d_at6, d_at7, d_set, d_app, d_cat, d_take, d_drop, d_rep, d_cons, d_lt_t, d_lt_n, d_le_t, d_le_n, d_eqi_t, d_eqi_f, d_eqb_t, d_eqb_f, d_nb_t, d_nb_f, nth0, nthS, d_api, d_apr, D_cons, D_nl, D_nr, D_vr, D_set, mkL_l, mkR_r, mkI_i, d_shr2, d_shr3, d_shr16, d_shr40, d_shl2, d_shl3, d_shl16, d_shl40, d_apb, mkB_b, d_le_b, Φ614, Φ615, Φ616, Φ610, fArg, D_bun, D_cat, D_cons, D_nl, D_nr, D_rep, hlen, ii, List.append_nil, List.take_nil, List.drop_nil, f1, f2, f3] at g2 <;> (try (exact Bool.noConfusion g2)) <;> (try (exfalso; omega)) <;> (try (exact absurd trivial g2)) <;> (try (exact absurd (decide_eq_true (by omega : n ≤ 9)).symm g2)))
        | (with_reducible refine TOK.leaf' ?_))
      all_goals
        show (den _ _).b = true
        simp only [d_vi, d_vb, d_vr, d_ci, d_cb, d_nr, d_nl, d_add, d_sub, d_mul, d_rem, d_quo, d_bit, d_mn2, d_mx2, d_w, d_nn, d_bn2, d_len, d_neg, d_cl, d_at1, d_at2, d_at3, d_at4, d_at5, d_at6, d_at7, d_set, d_app, d_cat, d_take, d_drop, d_rep, d_cons, d_lt_t, d_lt_n, d_le_t, d_le_n, d_eqi_t, d_eqi_f, d_eqb_t, d_eqb_f, d_nb_t, d_nb_f, nth0, nthS, d_api, d_apr, D_cons, D_nl, D_nr, D_vr, D_set, mkL_l, mkR_r, mkI_i, d_shr2, d_shr3, d_shr16, d_shr40, d_shl2, d_shl3, d_shl16, d_shl40, d_apb, mkB_b, Φ602, mkR_r, hlen, ii]
        rw [List.take_of_length_le (by rw [len_lst]; exact Nat.le_refl _)]; exact hleg
theorem sS (a : Int) : TOK (⟨[a], [], [], [], Φ⟩ : Val) (fun _ g => LgOK (⟨[a], [], [], [], Φ⟩ : Val) Inv g) trS := by
  unfold trS
  have hb := and_in (k := .i64) a (m := 15) (by decide) (by decide)
  refine TOK.leaf' (show Inv 0 _ from ?_)
  simp only [Sb.val, List.map_cons, List.map_nil, d_vi, d_vb, d_vr, d_ci, d_cb, d_nr, d_nl, d_add, d_sub, d_mul, d_rem, d_quo, d_bit, d_mn2, d_mx2, d_w, d_nn, d_bn2, d_len, d_neg, d_cl, d_at1, d_at2, d_at3, d_at4, d_at5, d_at6, d_at7, d_set, d_app, d_cat, d_take, d_drop, d_rep, d_cons, d_lt_t, d_lt_f, d_le_t, d_le_f, d_eqi_t, d_eqi_f, d_eqb_t, d_eqb_f, d_nb_t, d_nb_f, nth0, nthS, d_api, d_apr, D_cons, D_nl, D_nr, D_vr, D_set, mkL_l, mkR_r, mkI_i, d_shr2, d_shr3, d_shr16, d_shr40, d_shl2, d_shl3, d_shl16, d_shl40, d_apb, mkB_b]
  exact ⟨rfl, _, 0, rfl, by omega, hb.1, hb.2⟩

theorem LinMany_walk (a0 : Int) (w : World) (wa0 : (Lit.int .i64 a0).wf = true) :
    Calls Try.prog 3 #[.int .i64 a0] w fun e w' => e = .returned (.bool true) ∧ Below w.heap.size w w' :=
  law_calls (v := ⟨[a0], [], [], [], Φ⟩) (l := []) (args := args) (args' := [.int .i64 a0]) hI0 hfn hbod (by decide) rfl (by simp)
    (.cons (.int _ _) (.nil _))
    (aw ⟨[a0], [], [], [], Φ⟩ Inv μ rfl hΦ KV.nil k0 (sS a0) s0)
end Go.Proofs.Ytpgkbdkkcladcaa.KLinMany
