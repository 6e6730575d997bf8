/- The law LinDoes: lin.Do gives what the law's own way gives. A lemma file. -/
import Derived.Test.YtpgkbdkkcladcaaOwnLinDoesS
set_option linter.unusedVariables false
set_option linter.unusedSimpArgs false
set_option maxRecDepth 100000
set_option maxHeartbeats 4000000
namespace Go.Proofs.Ytpgkbdkkcladcaa.KLinDoes
open Go Go.Lib Go.Proofs.Ytpgkbdkkcladcaa.Eng Go.Proofs.Ytpgkbdkkcladcaa.Sy Go.RowKit Go.WideShapes Go.ChangeShapes
theorem cl_drop1 (R : Row) {j : Int} (h : 0 ≤ j) : cl (R.drop 1) j = cl R (1 + j) := by
  unfold cl
  rw [List.getD_eq_getElem?_getD, List.getD_eq_getElem?_getD, List.getElem?_drop, show (1 + j).toNat = 1 + j.toNat by omega]
theorem cl_take1 (R : Row) {j : Int} (h : 0 ≤ j) (h2 : j < (R.length : Int) + -1) : cl (R.take (R.length - 1)) j = cl R (0 + j) := by
  unfold cl
  rw [List.getD_eq_getElem?_getD, List.getD_eq_getElem?_getD, List.getElem?_take_of_lt (by omega), show (0 + j).toNat = j.toNat by omega]
theorem tboth {v : Val} {α : Type} {ψ : Kn → α → Prop} {t e : Tree α} (h1 : TOK v ψ t) (h2 : TOK v ψ e) : TOK v ψ (.both t e) := ⟨h1, h2⟩
def Inv (k : Nat) (v : Val) : Prop :=
  (k = 0 ∧ ∃ n i r q, v = ⟨[n, i], [], [r, q, q], [], Φ⟩ ∧ 0 ≤ i ∧ n = (q.length : Int) ∧ n ≤ 1000) ∨
  (k = 1 ∧ ∃ n i q, v = ⟨[n, i], [], [q, q], [], Φ⟩ ∧ 0 ≤ i ∧ n = (q.length : Int) ∧ n ≤ 1000) ∨
  (k = 2 ∧ ∃ i r q, v = ⟨[0, i], [], [r, q], [], Φ⟩ ∧ 0 ≤ i) ∨
  (k = 3 ∧ ∃ e m i r q, v = ⟨[e, m, m, i], [], [r, q], [], Φ⟩ ∧ 0 ≤ i ∧ m = (q.length : Int) ∧ m ≤ 1000 ∧ 0 ≤ e ∧ e + m ≤ (r.length : Int) ∧ ∀ j, 0 ≤ j → j < m → cl q j = cl r (e + j))
def μ (q : Nat × Val) : Nat × Nat := ((2000 - (if q.1 = 3 then nth 0 q.2.i 3 else nth 0 q.2.i 1)).toNat, 0)
theorem hΦ : ∀ k v, Inv k v → v.f = Φ := by
  rintro k v (⟨_, _, _, _, _, rfl, _⟩ | ⟨_, _, _, _, rfl, _⟩ | ⟨_, _, _, _, rfl, _⟩ | ⟨_, _, _, _, _, _, rfl, _⟩) <;> rfl
theorem s0 : ∀ v, Inv 0 v → TOK v (fun _ g => LgOK v (fun q u => Inv q u ∧ lt2 μ (q, u) (0, v)) g) tr0 := by
  rintro v (⟨_, n, i, r, q, rfl, h1, h2, h3⟩ | ⟨h, _⟩ | ⟨h, _⟩ | ⟨h, _⟩) <;> try cases h
  unfold tr0
  repeat' (first
    | (refine TOK.br' (fun h => ?_) (fun h => ?_) <;> simp (disch := omega) only [d_vi, d_vb, d_vr, d_ci, d_cb, d_nr, d_nl, d_add, d_sub, d_mul, d_rem, d_quo, d_bit, d_mn2, d_mx2, d_w, d_nn, d_bn2, d_len, d_neg, d_cl, d_at1, d_at2, d_at3, d_at4, d_at5, d_at6, d_at7, d_set, d_app, d_cat, d_take, d_drop, d_rep, d_cons, d_lt_t, d_lt_n, d_le_t, d_le_n, d_eqi_t, d_eqi_f, d_eqb_t, d_eqb_f, d_nb_t, d_nb_f, nth0, nthS, d_api, d_apr, D_cons, D_nl, D_nr, D_vr, D_set, mkL_l, mkR_r, mkI_i, d_shr2, d_shr3, d_shr16, d_shr40, d_shl2, d_shl3, d_shl16, d_shl40, d_apb, mkB_b] at h <;> (try (exfalso; omega)))
    | (with_reducible refine TOK.leaf' ?_))
  all_goals first
    | exact rfl
    | exact absurd trivial (by assumption)
    | (refine And.intro (?_ : Inv 0 _) (?_ : lt2 μ (0, _) _)
       · simp (disch := omega) only [Sb.val, List.map_cons, List.map_nil, d_vi, d_vb, d_vr, d_ci, d_cb, d_nr, d_nl, d_add, d_sub, d_mul, d_rem, d_quo, d_bit, d_mn2, d_mx2, d_w, d_nn, d_bn2, d_len, d_neg, d_cl, d_at1, d_at2, d_at3, d_at4, d_at5, d_at6, d_at7, d_set, d_app, d_cat, d_take, d_drop, d_rep, d_cons, d_lt_t, d_lt_f, d_le_t, d_le_f, d_eqi_t, d_eqi_f, d_eqb_t, d_eqb_f, d_nb_t, d_nb_f, nth0, nthS, d_api, d_apr, D_cons, D_nl, D_nr, D_vr, D_set, mkL_l, mkR_r, mkI_i, d_shr2, d_shr3, d_shr16, d_shr40, d_shl2, d_shl3, d_shl16, d_shl40, d_apb, mkB_b, w64]
         exact .inl ⟨rfl, n, i + 1, r, q, rfl, by omega, h2, h3⟩
       · refine .inl ?_
         simp (disch := omega) only [μ, Sb.val, List.map_cons, List.map_nil, d_vi, d_vb, d_vr, d_ci, d_cb, d_nr, d_nl, d_add, d_sub, d_mul, d_rem, d_quo, d_bit, d_mn2, d_mx2, d_w, d_nn, d_bn2, d_len, d_neg, d_cl, d_at1, d_at2, d_at3, d_at4, d_at5, d_at6, d_at7, d_set, d_app, d_cat, d_take, d_drop, d_rep, d_cons, d_lt_t, d_lt_f, d_le_t, d_le_f, d_eqi_t, d_eqi_f, d_eqb_t, d_eqb_f, d_nb_t, d_nb_f, nth0, nthS, d_api, d_apr, D_cons, D_nl, D_nr, D_vr, D_set, mkL_l, mkR_r, mkI_i, d_shr2, d_shr3, d_shr16, d_shr40, d_shl2, d_shl3, d_shl16, d_shl40, d_apb, mkB_b, w64]; simp; omega)
theorem s1 : ∀ v, Inv 1 v → TOK v (fun _ g => LgOK v (fun q u => Inv q u ∧ lt2 μ (q, u) (1, v)) g) tr1 := by
  rintro v (⟨h, _⟩ | ⟨_, n, i, q, rfl, h1, h2, h3⟩ | ⟨h, _⟩ | ⟨h, _⟩) <;> try cases h
  unfold tr1
  repeat' (first
    | (refine TOK.br' (fun h => ?_) (fun h => ?_) <;> simp (disch := omega) only [d_vi, d_vb, d_vr, d_ci, d_cb, d_nr, d_nl, d_add, d_sub, d_mul, d_rem, d_quo, d_bit, d_mn2, d_mx2, d_w, d_nn, d_bn2, d_len, d_neg, d_cl, d_at1, d_at2, d_at3, d_at4, d_at5, d_at6, d_at7, d_set, d_app, d_cat, d_take, d_drop, d_rep, d_cons, d_lt_t, d_lt_n, d_le_t, d_le_n, d_eqi_t, d_eqi_f, d_eqb_t, d_eqb_f, d_nb_t, d_nb_f, nth0, nthS, d_api, d_apr, D_cons, D_nl, D_nr, D_vr, D_set, mkL_l, mkR_r, mkI_i, d_shr2, d_shr3, d_shr16, d_shr40, d_shl2, d_shl3, d_shl16, d_shl40, d_apb, mkB_b] at h <;> (try (exfalso; omega)))
    | (with_reducible refine TOK.leaf' ?_))
  all_goals first
    | exact rfl
    | exact absurd trivial (by assumption)
    | (refine And.intro (?_ : Inv 1 _) (?_ : lt2 μ (1, _) _)
       · simp (disch := omega) only [Sb.val, List.map_cons, List.map_nil, d_vi, d_vb, d_vr, d_ci, d_cb, d_nr, d_nl, d_add, d_sub, d_mul, d_rem, d_quo, d_bit, d_mn2, d_mx2, d_w, d_nn, d_bn2, d_len, d_neg, d_cl, d_at1, d_at2, d_at3, d_at4, d_at5, d_at6, d_at7, d_set, d_app, d_cat, d_take, d_drop, d_rep, d_cons, d_lt_t, d_lt_f, d_le_t, d_le_f, d_eqi_t, d_eqi_f, d_eqb_t, d_eqb_f, d_nb_t, d_nb_f, nth0, nthS, d_api, d_apr, D_cons, D_nl, D_nr, D_vr, D_set, mkL_l, mkR_r, mkI_i, d_shr2, d_shr3, d_shr16, d_shr40, d_shl2, d_shl3, d_shl16, d_shl40, d_apb, mkB_b, w64]
         exact .inr (.inl ⟨rfl, n, i + 1, q, rfl, by omega, h2, h3⟩)
       · refine .inl ?_
         simp (disch := omega) only [μ, Sb.val, List.map_cons, List.map_nil, d_vi, d_vb, d_vr, d_ci, d_cb, d_nr, d_nl, d_add, d_sub, d_mul, d_rem, d_quo, d_bit, d_mn2, d_mx2, d_w, d_nn, d_bn2, d_len, d_neg, d_cl, d_at1, d_at2, d_at3, d_at4, d_at5, d_at6, d_at7, d_set, d_app, d_cat, d_take, d_drop, d_rep, d_cons, d_lt_t, d_lt_f, d_le_t, d_le_f, d_eqi_t, d_eqi_f, d_eqb_t, d_eqb_f, d_nb_t, d_nb_f, nth0, nthS, d_api, d_apr, D_cons, D_nl, D_nr, D_vr, D_set, mkL_l, mkR_r, mkI_i, d_shr2, d_shr3, d_shr16, d_shr40, d_shl2, d_shl3, d_shl16, d_shl40, d_apb, mkB_b, w64]; simp; omega)
theorem s2 : ∀ v, Inv 2 v → TOK v (fun _ g => LgOK v (fun q u => Inv q u ∧ lt2 μ (q, u) (2, v)) g) tr2 := by
  rintro v (⟨h, _⟩ | ⟨h, _⟩ | ⟨_, i, r, q, rfl, h1⟩ | ⟨h, _⟩) <;> try cases h
  unfold tr2
  refine TOK.br' (fun h => ?_) (fun h => ?_) <;> simp (disch := omega) only [d_vi, d_vb, d_vr, d_ci, d_cb, d_nr, d_nl, d_add, d_sub, d_mul, d_rem, d_quo, d_bit, d_mn2, d_mx2, d_w, d_nn, d_bn2, d_len, d_neg, d_cl, d_at1, d_at2, d_at3, d_at4, d_at5, d_at6, d_at7, d_set, d_app, d_cat, d_take, d_drop, d_rep, d_cons, d_lt_t, d_lt_n, d_le_t, d_le_n, d_eqi_t, d_eqi_f, d_eqb_t, d_eqb_f, d_nb_t, d_nb_f, nth0, nthS, d_api, d_apr, D_cons, D_nl, D_nr, D_vr, D_set, mkL_l, mkR_r, mkI_i, d_shr2, d_shr3, d_shr16, d_shr40, d_shl2, d_shl3, d_shl16, d_shl40, d_apb, mkB_b] at h
  · exfalso; omega
  · exact rfl
theorem s3 : ∀ v, Inv 3 v → TOK v (fun _ g => LgOK v (fun q u => Inv q u ∧ lt2 μ (q, u) (3, v)) g) tr3 := by
  rintro v (⟨h, _⟩ | ⟨h, _⟩ | ⟨h, _⟩ | ⟨_, e, m, i, r, q, rfl, h1, h2, h3, h4, h5, h6⟩) <;> try cases h
  have ee : ((e.toNat : Nat) : Int) = e := by omega
  unfold tr3
  repeat' (first
    | (refine TOK.br' (fun h => ?_) (fun h => ?_) <;> simp (disch := omega) only [d_vi, d_vb, d_vr, d_ci, d_cb, d_nr, d_nl, d_add, d_sub, d_mul, d_rem, d_quo, d_bit, d_mn2, d_mx2, d_w, d_nn, d_bn2, d_len, d_neg, d_cl, d_at1, d_at2, d_at3, d_at4, d_at5, d_at6, d_at7, d_set, d_app, d_cat, d_take, d_drop, d_rep, d_cons, d_lt_t, d_lt_n, d_le_t, d_le_n, d_eqi_t, d_eqi_f, d_eqb_t, d_eqb_f, d_nb_t, d_nb_f, nth0, nthS, d_api, d_apr, D_cons, D_nl, D_nr, D_vr, D_set, mkL_l, mkR_r, mkI_i, d_shr2, d_shr3, d_shr16, d_shr40, d_shl2, d_shl3, d_shl16, d_shl40, d_apb, mkB_b, ee] at h <;> (try (exfalso; omega)))
    | (with_reducible refine TOK.leaf' ?_))
  all_goals first
    | exact rfl
    | (exfalso; have := h6 i (by omega) (by omega); contradiction)
    | (refine And.intro (?_ : Inv 3 _) (?_ : lt2 μ (3, _) _)
       · simp (disch := omega) only [Sb.val, List.map_cons, List.map_nil, d_vi, d_vb, d_vr, d_ci, d_cb, d_nr, d_nl, d_add, d_sub, d_mul, d_rem, d_quo, d_bit, d_mn2, d_mx2, d_w, d_nn, d_bn2, d_len, d_neg, d_cl, d_at1, d_at2, d_at3, d_at4, d_at5, d_at6, d_at7, d_set, d_app, d_cat, d_take, d_drop, d_rep, d_cons, d_lt_t, d_lt_f, d_le_t, d_le_f, d_eqi_t, d_eqi_f, d_eqb_t, d_eqb_f, d_nb_t, d_nb_f, nth0, nthS, d_api, d_apr, D_cons, D_nl, D_nr, D_vr, D_set, mkL_l, mkR_r, mkI_i, d_shr2, d_shr3, d_shr16, d_shr40, d_shl2, d_shl3, d_shl16, d_shl40, d_apb, mkB_b, w64]
         exact .inr (.inr (.inr ⟨rfl, e, m, i + 1, r, q, rfl, by omega, h2, h3, h4, h5, h6⟩))
       · refine .inl ?_
         simp (disch := omega) only [μ, Sb.val, List.map_cons, List.map_nil, d_vi, d_vb, d_vr, d_ci, d_cb, d_nr, d_nl, d_add, d_sub, d_mul, d_rem, d_quo, d_bit, d_mn2, d_mx2, d_w, d_nn, d_bn2, d_len, d_neg, d_cl, d_at1, d_at2, d_at3, d_at4, d_at5, d_at6, d_at7, d_set, d_app, d_cat, d_take, d_drop, d_rep, d_cons, d_lt_t, d_lt_f, d_le_t, d_le_f, d_eqi_t, d_eqi_f, d_eqb_t, d_eqb_f, d_nb_t, d_nb_f, nth0, nthS, d_api, d_apr, D_cons, D_nl, D_nr, D_vr, D_set, mkL_l, mkR_r, mkI_i, d_shr2, d_shr3, d_shr16, d_shr40, d_shl2, d_shl3, d_shl16, d_shl40, d_apb, mkB_b, w64]; simp; omega)
theorem sS (d0 d1 d2 d3 d4 d5 d6 d7 d8 d9 : Int) (ok : Bool) (R : Row) : TOK (⟨[d0, d1, d2, d3, d4, d5, d6, d7, d8, d9], [ok], [R], [], Φ⟩ : Val) (fun _ g => LgOK (⟨[d0, d1, d2, d3, d4, d5, d6, d7, d8, d9], [ok], [R], [], Φ⟩ : Val) Inv g) trS := by
  unfold trS
  repeat' (first
    | (refine TOK.br' (fun h => ?_) (fun h => ?_) <;> (simp (disch := omega) only [d_vi, d_vb, d_vr, d_ci, d_cb, d_nr, d_nl, d_add, d_sub, d_mul, d_rem, d_quo, d_bit, d_mn2, d_mx2, d_w, d_nn, d_bn2, d_len, d_neg, d_cl, d_at1, d_at2, d_at3, d_at4, d_at5, d_at6, d_at7, d_set, d_app, d_cat, d_take, d_drop, d_rep, d_cons, d_lt_t, d_lt_n, d_le_t, d_le_n, d_eqi_t, d_eqi_f, d_eqb_t, d_eqb_f, d_nb_t, d_nb_f, nth0, nthS, d_api, d_apr, D_cons, D_nl, D_nr, D_vr, D_set, mkL_l, mkR_r, mkI_i, d_shr2, d_shr3, d_shr16, d_shr40, d_shl2, d_shl3, d_shl16, d_shl40, d_apb, mkB_b, Φ600, Φ601] at h) <;> (try simp (disch := omega) only [d_eqi_b, d_eqi_t, d_vi, d_vb, d_vr, d_ci, d_cb, d_nr, d_nl, d_add, d_sub, d_mul, d_rem, d_quo, d_bit, d_mn2, d_mx2, d_w, d_nn, d_bn2, d_len, d_neg, d_cl, d_at1, d_at2, d_at3, d_at4, d_at5, d_at6, d_at7, d_set, d_app, d_cat, d_take, d_drop, d_rep, d_cons, d_lt_t, d_lt_f, d_le_t, d_le_f, d_eqi_t, d_eqi_f, d_eqb_t, d_eqb_f, d_nb_t, d_nb_f, nth0, nthS, d_api, d_apr, D_cons, D_nl, D_nr, D_vr, D_set, mkL_l, mkR_r, mkI_i, d_shr2, d_shr3, d_shr16, d_shr40, d_shl2, d_shl3, d_shl16, d_shl40, d_apb, mkB_b, Φ600, Φ601] at h) <;> (try (exfalso; omega)))
    | (with_reducible refine TOK.leaf' ?_)
    | (with_reducible refine tboth ?_ ?_))
  all_goals try exact rfl
  all_goals have hlen := FLinDo.doRow_len d1 d2 d3 (b2i ok) R
  all_goals first
    | (exfalso; simp_all [doOk, doRow, b2i]; done)
    | (exfalso; simp_all [doOk, doRow, b2i]; omega)
    | (exfalso
       have e0 : R.length = 0 := by omega
       obtain rfl := List.length_eq_zero_iff.1 e0
       simp_all [doOk, doRow, b2i]; done)
    | (refine (show Inv 0 _ from ?_)
       simp (disch := omega) only [Sb.val, List.map_cons, List.map_nil, d_vi, d_vb, d_vr, d_ci, d_cb, d_nr, d_nl, d_add, d_sub, d_mul, d_rem, d_quo, d_bit, d_mn2, d_mx2, d_w, d_nn, d_bn2, d_len, d_neg, d_cl, d_at1, d_at2, d_at3, d_at4, d_at5, d_at6, d_at7, d_set, d_app, d_cat, d_take, d_drop, d_rep, d_cons, d_lt_t, d_lt_f, d_le_t, d_le_f, d_eqi_t, d_eqi_f, d_eqb_t, d_eqb_f, d_nb_t, d_nb_f, nth0, nthS, d_api, d_apr, D_cons, D_nl, D_nr, D_vr, D_set, mkL_l, mkR_r, mkI_i, d_shr2, d_shr3, d_shr16, d_shr40, d_shl2, d_shl3, d_shl16, d_shl40, d_apb, mkB_b, Φ600]
       exact .inl ⟨rfl, _, 0, R, doRow d1 d2 d3 (b2i ok) R, by simp_all [doRow, b2i], by omega, rfl, by omega⟩)
    | (refine (show Inv 1 _ from ?_)
       simp (disch := omega) only [Sb.val, List.map_cons, List.map_nil, d_vi, d_vb, d_vr, d_ci, d_cb, d_nr, d_nl, d_add, d_sub, d_mul, d_rem, d_quo, d_bit, d_mn2, d_mx2, d_w, d_nn, d_bn2, d_len, d_neg, d_cl, d_at1, d_at2, d_at3, d_at4, d_at5, d_at6, d_at7, d_set, d_app, d_cat, d_take, d_drop, d_rep, d_cons, d_lt_t, d_lt_f, d_le_t, d_le_f, d_eqi_t, d_eqi_f, d_eqb_t, d_eqb_f, d_nb_t, d_nb_f, nth0, nthS, d_api, d_apr, D_cons, D_nl, D_nr, D_vr, D_set, mkL_l, mkR_r, mkI_i, d_shr2, d_shr3, d_shr16, d_shr40, d_shl2, d_shl3, d_shl16, d_shl40, d_apb, mkB_b, Φ600]
       exact .inr (.inl ⟨rfl, _, 0, R, by first | (simp_all [doRow, b2i]; done) | (obtain rfl : R = [] := List.length_eq_zero_iff.1 (by omega)
                                                                                      simp_all [doRow, b2i]; done), by omega, rfl, by omega⟩))
    | (refine (show Inv 2 _ from ?_)
       simp (disch := omega) only [Sb.val, List.map_cons, List.map_nil, d_vi, d_vb, d_vr, d_ci, d_cb, d_nr, d_nl, d_add, d_sub, d_mul, d_rem, d_quo, d_bit, d_mn2, d_mx2, d_w, d_nn, d_bn2, d_len, d_neg, d_cl, d_at1, d_at2, d_at3, d_at4, d_at5, d_at6, d_at7, d_set, d_app, d_cat, d_take, d_drop, d_rep, d_cons, d_lt_t, d_lt_f, d_le_t, d_le_f, d_eqi_t, d_eqi_f, d_eqb_t, d_eqb_f, d_nb_t, d_nb_f, nth0, nthS, d_api, d_apr, D_cons, D_nl, D_nr, D_vr, D_set, mkL_l, mkR_r, mkI_i, d_shr2, d_shr3, d_shr16, d_shr40, d_shl2, d_shl3, d_shl16, d_shl40, d_apb, mkB_b, Φ600]
       exact .inr (.inr (.inl ⟨rfl, 0, R, _, rfl, by omega⟩)))
    | (refine (show Inv 3 _ from ?_)
       simp (disch := omega) only [Sb.val, List.map_cons, List.map_nil, d_vi, d_vb, d_vr, d_ci, d_cb, d_nr, d_nl, d_add, d_sub, d_mul, d_rem, d_quo, d_bit, d_mn2, d_mx2, d_w, d_nn, d_bn2, d_len, d_neg, d_cl, d_at1, d_at2, d_at3, d_at4, d_at5, d_at6, d_at7, d_set, d_app, d_cat, d_take, d_drop, d_rep, d_cons, d_lt_t, d_lt_f, d_le_t, d_le_f, d_eqi_t, d_eqi_f, d_eqb_t, d_eqb_f, d_nb_t, d_nb_f, nth0, nthS, d_api, d_apr, D_cons, D_nl, D_nr, D_vr, D_set, mkL_l, mkR_r, mkI_i, d_shr2, d_shr3, d_shr16, d_shr40, d_shl2, d_shl3, d_shl16, d_shl40, d_apb, mkB_b, Φ600]
       have e : doRow d1 d2 d3 (b2i ok) R = R.drop 1 := by simp_all [doRow, b2i]
       exact .inr (.inr (.inr ⟨rfl, 1, (R.length : Int) + -1, 0, R, doRow d1 d2 d3 (b2i ok) R, by rw [h], by omega, by omega, by omega, by omega, by omega, fun j h1 h2 => by rw [e]; exact cl_drop1 R h1⟩)))
    | (refine (show Inv 3 _ from ?_)
       simp (disch := omega) only [Sb.val, List.map_cons, List.map_nil, d_vi, d_vb, d_vr, d_ci, d_cb, d_nr, d_nl, d_add, d_sub, d_mul, d_rem, d_quo, d_bit, d_mn2, d_mx2, d_w, d_nn, d_bn2, d_len, d_neg, d_cl, d_at1, d_at2, d_at3, d_at4, d_at5, d_at6, d_at7, d_set, d_app, d_cat, d_take, d_drop, d_rep, d_cons, d_lt_t, d_lt_f, d_le_t, d_le_f, d_eqi_t, d_eqi_f, d_eqb_t, d_eqb_f, d_nb_t, d_nb_f, nth0, nthS, d_api, d_apr, D_cons, D_nl, D_nr, D_vr, D_set, mkL_l, mkR_r, mkI_i, d_shr2, d_shr3, d_shr16, d_shr40, d_shl2, d_shl3, d_shl16, d_shl40, d_apb, mkB_b, Φ600]
       have e : doRow d1 d2 d3 (b2i ok) R = R.take (R.length - 1) := by simp_all [doRow, b2i]
       exact .inr (.inr (.inr ⟨rfl, 0, (R.length : Int) + -1, 0, R, doRow d1 d2 d3 (b2i ok) R, by rw [h], by omega, by omega, by omega, by omega, by omega, fun j h1 h2 => by rw [e]; exact cl_take1 R h1 h2⟩)))
    | (exfalso
       apply h
       have e1 : ((R.length : Int) + -1).toNat = R.length - 1 := by omega
       have e4 : ¬ (R.length : Int) = 0 ∨ (R.length : Int) = 0 := by omega
       try simp only [cl, e1, Int.toNat_zero]
       rw [Bool.eq_iff_iff]
       simp_all [doOk, b2i]; done)
theorem k0 : ∀ v, Inv 0 v → KV v tm0.kn := fun v h => KV.nil
theorem k1 : ∀ v, Inv 1 v → KV v tm1.kn := fun v h => KV.nil
theorem k2 : ∀ v, Inv 2 v → KV v tm2.kn := fun v h => KV.nil
theorem k3 : ∀ v, Inv 3 v → KV v tm3.kn := fun v h => KV.nil
theorem LinDoes_walk (A0 : Option Addr) (n0 c0 : Nat) (R : List (List Int)) (d0 : Int) (d1 : Int) (d2 : Int) (d3 : Int) (d4 : Int) (d5 : Int) (d6 : Int) (ok : Bool) (d7 : Int) (d8 : Int) (d9 : Int) (w : World) (hr0 : ArgRow w [.i .u64] A0 n0 c0 R) (wd0 : (Lit.int .i64 d0).wf = true) (wd1 : (Lit.int .i64 d1).wf = true) (wd2 : (Lit.int .i64 d2).wf = true) (wd3 : (Lit.int .u64 d3).wf = true) (wd4 : (Lit.int .i64 d4).wf = true) (wd5 : (Lit.int .i64 d5).wf = true) (wd6 : (Lit.int .i64 d6).wf = true) (wd7 : (Lit.int .u64 d7).wf = true) (wd8 : (Lit.int .i64 d8).wf = true) (wd9 : (Lit.int .i64 d9).wf = true) :
    Calls Try.prog 5 #[.slice A0 n0 c0, .agg #[.int .i64 d0, .int .i64 d1, .int .i64 d2, .int .u64 d3, .int .i64 d4, .int .i64 d5, .int .i64 d6, .bool ok, .int .u64 d7, .int .i64 d8, .int .i64 d9]] w fun e w' => e = .returned (.bool true) ∧ Below w.heap.size w w' :=
  law_calls (v := ⟨[d0, d1, d2, d3, d4, d5, d6, d7, d8, d9], [ok], [R], [], Φ⟩) (l := [⟨A0, n0, c0, [.i .u64], R⟩]) (args := args) (args' := [.slice A0 n0 c0, .agg #[.int .i64 d0, .int .i64 d1, .int .i64 d2, .int .u64 d3, .int .i64 d4, .int .i64 d5, .int .i64 d6, .bool ok, .int .u64 d7, .int .i64 d8, .int .i64 d9]]) hI0 hfn hbod (by decide) rfl (by simpa using hr0)
    (.cons (arg_slice (id := 0) (s := ⟨A0, n0, c0, [.i .u64], R⟩) (l := [⟨A0, n0, c0, [.i .u64], R⟩]) rfl rfl hr0) (.cons (VRel.ofL (.cons (.int _ _) (.cons (.int _ _) (.cons (.int _ _) (.cons (.int _ _) (.cons (.int _ _) (.cons (.int _ _) (.cons (.int _ _) (.cons (.bool _) (.cons (.int _ _) (.cons (.int _ _) (.cons (.int _ _) (.nil _))))))))))))) (.nil _)))
    (aw ⟨[d0, d1, d2, d3, d4, d5, d6, d7, d8, d9], [ok], [R], [], Φ⟩ Inv μ rfl hΦ KV.nil k0 k1 k2 k3 (sS d0 d1 d2 d3 d4 d5 d6 d7 d8 d9 ok R) s0 s1 s2 s3)
end Go.Proofs.Ytpgkbdkkcladcaa.KLinDoes
