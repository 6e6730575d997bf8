/- The law TakeRaces for 2 threads. A lemma file: conditions: so many threads. -/
import Derived.Test.YtckbckijpdnlaaaOwnTakeRaces2S
import Derived.Test.YtckbckijpdnlaaaOwnRaces9
set_option linter.unusedVariables false
set_option linter.unusedSimpArgs false
set_option maxRecDepth 100000
set_option maxHeartbeats 16000000
namespace Go.Proofs.Ytckbckijpdnlaaa.KTakeRaces2
open Go Go.Lib Go.Proofs.Ytckbckijpdnlaaa.Eng Go.Proofs.Ytckbckijpdnlaaa.Sy Go.RowKit
def Wa (x y : Int) (p0 p1 : KSt) (r0 r1 r2 : Row) : Val := ⟨[x, y, p0.n, p0.val, p0.ph, p1.n, p1.val, p1.ph], [p0.lost, p1.lost], [r0, r1, r2], [], Φ⟩
def Wb (x n d y : Int) (p0 p1 : KSt) (r0 r1 r2 : Row) : Val := ⟨[x, n, d, y, p0.n, p0.val, p0.ph, p1.n, p1.val, p1.ph], [p0.lost, p1.lost], [r0, r1, r2], [], Φ⟩
def Inv0 (v : Val) : Prop := ∃ x idx p0 p1 r0 r1 r2, v = Wa x idx p0 p1 r0 r1 r2 ∧ RCom 2 x r1 ∧ (ROne 2 x r1 0 p0 ∧ ROne 2 x r1 1 p1) ∧ wonI p0 + wonI p1 = gone r1 ∧ (0 ≤ idx ∧ idx ≤ (r0.length : Int)) ∧ (r0.length : Int) ≤ 100 ∧ (r2.length : Int) ≤ 2 + idx ∧ KPot p0 (5) ∧ KPot p1 (5)
def Inv1 (v : Val) : Prop := ∃ x n p0 p1 r0 r1 r2, v = Wa x n p0 p1 r0 r1 r2 ∧ RCom 2 x r1 ∧ (ROne 2 x r1 0 p0 ∧ ROne 2 x r1 1 p1) ∧ wonI p0 + wonI p1 = gone r1 ∧ (0 ≤ n ∧ n ≤ 6) ∧ (r2.length : Int) ≤ 102 + n * 2 ∧ KPot p0 (6 - n) ∧ KPot p1 (6 - n)
def Inv2 (v : Val) : Prop := ∃ x n d idx p0 p1 r0 r1 r2, v = Wb x n d idx p0 p1 r0 r1 r2 ∧ d = 2 ∧ RCom 2 x r1 ∧ (ROne 2 x r1 0 p0 ∧ ROne 2 x r1 1 p1) ∧ wonI p0 + wonI p1 = gone r1 ∧ (0 ≤ n ∧ n < 6) ∧ (0 ≤ idx ∧ idx ≤ 2) ∧ (r2.length : Int) ≤ 102 + n * 2 + idx ∧ (KPot p0 (6 - n) ∧ KPot p1 (6 - n)) ∧ ((0 < idx → KPot p0 (5 - n)) ∧ (1 < idx → KPot p1 (5 - n)))
def Inv3 (v : Val) : Prop := ∃ x n d y p0 p1 r0 r1 r2, v = Wb x n d y p0 p1 r0 r1 r2 ∧ d = 2 ∧ RCom 2 x r1 ∧ (ROne 2 x r1 0 p0 ∧ ROne 2 x r1 1 p1) ∧ wonI p0 + wonI p1 = gone r1 ∧ (0 ≤ y ∧ y ≤ 2) ∧ n = (if 0 < y then wonI p0 else 0) + (if 1 < y then wonI p1 else 0) ∧ (r2.length : Int) ≤ 200 ∧ ¬ p0.ph = 0 ∧ ¬ p1.ph = 0
def Inv (k : Nat) (v : Val) : Prop := (k = 0 ∧ Inv0 v) ∨ (k = 1 ∧ Inv1 v) ∨ (k = 2 ∧ Inv2 v) ∨ (k = 3 ∧ Inv3 v)
theorem inv0 {v : Val} (h : Inv 0 v) : Inv0 v := by rcases h with ⟨_, h⟩ | ⟨h, _⟩ | ⟨h, _⟩ | ⟨h, _⟩ <;> first | exact h | cases h
theorem inv1 {v : Val} (h : Inv 1 v) : Inv1 v := by rcases h with ⟨h, _⟩ | ⟨_, h⟩ | ⟨h, _⟩ | ⟨h, _⟩ <;> first | exact h | cases h
theorem inv2 {v : Val} (h : Inv 2 v) : Inv2 v := by rcases h with ⟨h, _⟩ | ⟨h, _⟩ | ⟨_, h⟩ | ⟨h, _⟩ <;> first | exact h | cases h
theorem inv3 {v : Val} (h : Inv 3 v) : Inv3 v := by rcases h with ⟨h, _⟩ | ⟨h, _⟩ | ⟨h, _⟩ | ⟨_, h⟩ <;> first | exact h | cases h
def μ (q : Nat × Val) : Nat × Nat := match q.1 with
  | 0 => (1000, (300 - nth 0 q.2.i 1).toNat)
  | 1 => ((300 - 2 * nth 0 q.2.i 1).toNat, 0)
  | 2 => ((299 - 2 * nth 0 q.2.i 1).toNat, (10 - nth 0 q.2.i 3).toNat)
  | _ => (0, (10 - nth 0 q.2.i 3).toNat)
theorem hΦ : ∀ k v, Inv k v → v.f = Φ := by
  rintro k v (⟨_, ⟨x, idx, p0, p1, r0, r1, r2, rfl, hC, ⟨h0, h1⟩, hc, g1, g2, g3, q0, q1⟩⟩ | ⟨_, ⟨x, n, p0, p1, r0, r1, r2, rfl, hC, ⟨h0, h1⟩, hc, g1, g2, q0, q1⟩⟩ | ⟨_, ⟨x, n, d, idx, p0, p1, r0, r1, r2, rfl, hd, hC, ⟨h0, h1⟩, hc, g1, g2, g3, ⟨q0, q1⟩, ⟨i0, i1⟩⟩⟩ | ⟨_, ⟨x, n, d, y, p0, p1, r0, r1, r2, rfl, hd, hC, ⟨h0, h1⟩, hc, g1, g2, g3, q0, q1⟩⟩) <;> rfl
theorem won_b (k : KSt) : 0 ≤ wonI k ∧ wonI k ≤ 1 := by unfold wonI; split <;> omega
theorem k0 : ∀ v, Inv 0 v → KV v tm0.kn := by
  intro v hv
  obtain ⟨x, idx, p0, p1, r0, r1, r2, rfl, hC, ⟨h0, h1⟩, hc, g1, g2, g3, q0, q1⟩ := inv0 hv
  have len := hC.len
  clear hC hc q0 q1
  have n0 := h0.n; have f0 := h0.ph; clear h0
  have n1 := h1.n; have f1 := h1.ph; clear h1
  unfold tm0 KV Wa
  simp only [List.forall_mem_cons, d_vi, d_vb, d_vr, d_ci, d_cb, d_nr, d_nl, d_add, d_sub, d_mul, d_rem, d_quo, d_bit, d_mn, d_mx, d_w, d_nn, d_bn, d_len, d_neg, d_at0, d_at1, d_at2, d_at3, d_at4, d_at5, d_at6, d_at7, d_set, d_app, d_cat, d_take, d_drop, d_rep, d_cons, d_lt_t, d_lt_f, d_le_t, d_le_f, d_eqi_t, d_eqi_f, d_eqb_t, d_eqb_f, d_nb_t, d_nb_f, nth0, nthS, d_api, d_apr, D_cons, D_nl, D_nr, D_vr, D_set, mkL_l, mkR_r, mkI_i, d_apb, mkB_b]
  simp only [List.not_mem_nil, false_imp_iff, implies_true, and_true]
  omega
theorem k1 : ∀ v, Inv 1 v → KV v tm1.kn := by
  intro v hv
  obtain ⟨x, n, p0, p1, r0, r1, r2, rfl, hC, ⟨h0, h1⟩, hc, g1, g2, q0, q1⟩ := inv1 hv
  have len := hC.len
  clear hC hc q0 q1
  have n0 := h0.n; have f0 := h0.ph; clear h0
  have n1 := h1.n; have f1 := h1.ph; clear h1
  unfold tm1 KV Wa
  simp only [List.forall_mem_cons, d_vi, d_vb, d_vr, d_ci, d_cb, d_nr, d_nl, d_add, d_sub, d_mul, d_rem, d_quo, d_bit, d_mn, d_mx, d_w, d_nn, d_bn, d_len, d_neg, d_at0, d_at1, d_at2, d_at3, d_at4, d_at5, d_at6, d_at7, d_set, d_app, d_cat, d_take, d_drop, d_rep, d_cons, d_lt_t, d_lt_f, d_le_t, d_le_f, d_eqi_t, d_eqi_f, d_eqb_t, d_eqb_f, d_nb_t, d_nb_f, nth0, nthS, d_api, d_apr, D_cons, D_nl, D_nr, D_vr, D_set, mkL_l, mkR_r, mkI_i, d_apb, mkB_b]
  simp only [List.not_mem_nil, false_imp_iff, implies_true, and_true]
  omega
theorem k2 : ∀ v, Inv 2 v → KV v tm2.kn := by
  intro v hv
  obtain ⟨x, n, d, idx, p0, p1, r0, r1, r2, rfl, hd, hC, ⟨h0, h1⟩, hc, g1, g2, g3, ⟨q0, q1⟩, ⟨i0, i1⟩⟩ := inv2 hv
  have len := hC.len
  clear hC hc q0 q1 i0 i1
  have n0 := h0.n; have f0 := h0.ph; clear h0
  have n1 := h1.n; have f1 := h1.ph; clear h1
  unfold tm2 KV Wb
  simp only [List.forall_mem_cons, d_vi, d_vb, d_vr, d_ci, d_cb, d_nr, d_nl, d_add, d_sub, d_mul, d_rem, d_quo, d_bit, d_mn, d_mx, d_w, d_nn, d_bn, d_len, d_neg, d_at0, d_at1, d_at2, d_at3, d_at4, d_at5, d_at6, d_at7, d_set, d_app, d_cat, d_take, d_drop, d_rep, d_cons, d_lt_t, d_lt_f, d_le_t, d_le_f, d_eqi_t, d_eqi_f, d_eqb_t, d_eqb_f, d_nb_t, d_nb_f, nth0, nthS, d_api, d_apr, D_cons, D_nl, D_nr, D_vr, D_set, mkL_l, mkR_r, mkI_i, d_apb, mkB_b]
  simp only [List.not_mem_nil, false_imp_iff, implies_true, and_true]
  omega
theorem k3 : ∀ v, Inv 3 v → KV v tm3.kn := by
  intro v hv
  obtain ⟨x, n, d, y, p0, p1, r0, r1, r2, rfl, hd, hC, ⟨h0, h1⟩, hc, g1, g2, g3, q0, q1⟩ := inv3 hv
  have len := hC.len
  clear hC hc q0 q1
  have v0 := won_b p0
  have v1 := won_b p1
  have hn : 0 ≤ n ∧ n ≤ 4 := by rw [g2]; (repeat' split) <;> omega
  clear g2
  have n0 := h0.n; have f0 := h0.ph; clear h0
  have n1 := h1.n; have f1 := h1.ph; clear h1
  unfold tm3 KV Wb
  simp only [List.forall_mem_cons, d_vi, d_vb, d_vr, d_ci, d_cb, d_nr, d_nl, d_add, d_sub, d_mul, d_rem, d_quo, d_bit, d_mn, d_mx, d_w, d_nn, d_bn, d_len, d_neg, d_at0, d_at1, d_at2, d_at3, d_at4, d_at5, d_at6, d_at7, d_set, d_app, d_cat, d_take, d_drop, d_rep, d_cons, d_lt_t, d_lt_f, d_le_t, d_le_f, d_eqi_t, d_eqi_f, d_eqb_t, d_eqb_f, d_nb_t, d_nb_f, nth0, nthS, d_api, d_apr, D_cons, D_nl, D_nr, D_vr, D_set, mkL_l, mkR_r, mkI_i, d_apb, mkB_b]
  simp only [List.not_mem_nil, false_imp_iff, implies_true, and_true]
  omega
theorem s0 : ∀ v, Inv 0 v → TOK v (fun _ g => LgOK v (fun q u => Inv q u ∧ lt2 μ (q, u) (0, v)) g) tr0 := by
  intro v hv
  obtain ⟨x, idx, p0, p1, r0, r1, r2, rfl, hC, ⟨h0, h1⟩, hc, g1, g2, g3, q0, q1⟩ := inv0 hv
  have K0 := race_step (w := 0) hC (by decide) (by decide) h0
  have K1 := race_step (w := 1) hC (by decide) (by decide) h1
  have out0 : idx < (r0.length : Int) → ∀ q' l' : Row, q' = ((takeT 2 1 0 0 25 r1 p0).row r1) → (l'.length : Int) ≤ 3 + idx → Inv 0 (Wa x (idx + 1) (takeStep 2 1 0 25 r1 p0) p1 r0 q' l') := fun z q' l' e0 e1 => by
    subst e0
    exact .inl ⟨rfl, x, idx + 1, _, p1, r0, _, l', rfl, K0.com, ⟨K0.own, K0.oth 1 _ (by decide) (by decide) (by decide) h1⟩, by have := K0.cnt; omega, by omega, g2, by omega, (K0.pot _ q0).mono (by omega), q1⟩
  have out1 : idx < (r0.length : Int) → ∀ q' l' : Row, q' = ((takeT 2 1 1 0 25 r1 p1).row r1) → (l'.length : Int) ≤ 3 + idx → Inv 0 (Wa x (idx + 1) p0 (takeStep 2 1 0 25 r1 p1) r0 q' l') := fun z q' l' e0 e1 => by
    subst e0
    exact .inl ⟨rfl, x, idx + 1, p0, _, r0, _, l', rfl, K1.com, ⟨K1.oth 0 _ (by decide) (by decide) (by decide) h0, K1.own⟩, by have := K1.cnt; omega, by omega, g2, by omega, q0, (K1.pot _ q1).mono (by omega)⟩
  have dec : ∀ v : Val, idx < (r0.length : Int) → nth 0 v.i 1 = idx + 1 → True = True → lt2 μ (0, v) (0, Wa x idx p0 p1 r0 r1 r2) := fun v z e _ => .inr ⟨rfl, by
    show (300 - nth 0 v.i 1).toNat < (300 - idx).toNat
    omega⟩
  unfold tr0
  refine TOK.br' (fun hi => ?_) (fun hi => ?_) <;> simp only [Wa, d_vi, d_vb, d_vr, d_ci, d_cb, d_nr, d_nl, d_add, d_sub, d_mul, d_rem, d_quo, d_bit, d_mn2, d_mx2, d_w, d_nn, d_bn2, d_len, d_neg, d_cl, d_at1, d_at2, d_at3, d_at4, d_at5, d_at6, d_at7, d_set, d_app, d_cat, d_take, d_drop, d_rep, d_cons, d_lt_t, d_lt_f, d_le_t, d_le_f, d_eqi_t, d_eqi_f, d_eqb_t, d_eqb_f, d_nb_t, d_nb_f, nth0, nthS, d_api, d_apr, D_cons, D_nl, D_nr, D_vr, D_set, mkL_l, mkR_r, mkI_i, d_shr2, d_shr3, d_shr16, d_shr40, d_shl2, d_shl3, d_shl16, d_shl40, d_apb, mkB_b] at hi
  · refine TOK.br' (fun hx0 => ?_) (fun hx0 => ?_) <;> simp only [Wa, d_vi, d_vb, d_vr, d_ci, d_cb, d_nr, d_nl, d_add, d_sub, d_mul, d_rem, d_quo, d_bit, d_mn2, d_mx2, d_w, d_nn, d_bn2, d_len, d_neg, d_cl, d_at1, d_at2, d_at3, d_at4, d_at5, d_at6, d_at7, d_set, d_app, d_cat, d_take, d_drop, d_rep, d_cons, d_lt_t, d_lt_f, d_le_t, d_le_f, d_eqi_t, d_eqi_f, d_eqb_t, d_eqb_f, d_nb_t, d_nb_f, nth0, nthS, d_api, d_apr, D_cons, D_nl, D_nr, D_vr, D_set, mkL_l, mkR_r, mkI_i, d_shr2, d_shr3, d_shr16, d_shr40, d_shl2, d_shl3, d_shl16, d_shl40, d_apb, mkB_b] at hx0
    · refine TOK.br' (fun hk => ?_) (fun hk => ?_) <;> simp only [Wa, d_vi, d_vb, d_vr, d_ci, d_cb, d_nr, d_nl, d_add, d_sub, d_mul, d_rem, d_quo, d_bit, d_mn2, d_mx2, d_w, d_nn, d_bn2, d_len, d_neg, d_cl, d_at1, d_at2, d_at3, d_at4, d_at5, d_at6, d_at7, d_set, d_app, d_cat, d_take, d_drop, d_rep, d_cons, d_lt_t, d_lt_f, d_le_t, d_le_f, d_eqi_t, d_eqi_f, d_eqb_t, d_eqb_f, d_nb_t, d_nb_f, nth0, nthS, d_api, d_apr, D_cons, D_nl, D_nr, D_vr, D_set, mkL_l, mkR_r, mkI_i, d_shr2, d_shr3, d_shr16, d_shr40, d_shl2, d_shl3, d_shl16, d_shl40, d_apb, mkB_b, Φ100, Φ101, Φ102, Φ103, Φ104, Φ105, Φ106, Φ107, Φ108, Φ200, Φ201, Φ202, Φ203, Φ204, Φ205, Φ206, Φ207, Φ208, Φ209, Φ0, Φ1, Φ10, Φ300, Φ301, Φ302, Φ303, Φ304, Φ305, Φ306, Φ307, Φ308, Φ309, Φ310, Φ311, Φ312, Φ313, Φ314, Φ315, Φ316, Φ317, Φ318, Φ319, Φ20, Φ11, Φ30, Φ31, Φ32, Φ400, Φ401, Φ402, Φ403, Φ404, Φ405, Φ406, Φ407, kst, b2i_dec] at hk <;> refine TOK.leaf' ?_
      · refine And.intro (?_ : Inv 0 _) (?_ : lt2 μ (0, _) _) <;> simp (disch := omega) only [Wa, Sb.val, List.map_cons, List.map_nil, d_vi, d_vb, d_vr, d_ci, d_cb, d_nr, d_nl, d_add, d_sub, d_mul, d_rem, d_quo, d_bit, d_mn2, d_mx2, d_w, d_nn, d_bn2, d_len, d_neg, d_cl, d_at1, d_at2, d_at3, d_at4, d_at5, d_at6, d_at7, d_set, d_app, d_cat, d_take, d_drop, d_rep, d_cons, d_lt_t, d_lt_f, d_le_t, d_le_f, d_eqi_t, d_eqi_f, d_eqb_t, d_eqb_f, d_nb_t, d_nb_f, nth0, nthS, d_api, d_apr, D_cons, D_nl, D_nr, D_vr, D_set, mkL_l, mkR_r, mkI_i, d_shr2, d_shr3, d_shr16, d_shr40, d_shl2, d_shl3, d_shl16, d_shl40, d_apb, mkB_b, Φ100, Φ101, Φ102, Φ103, Φ104, Φ105, Φ106, Φ107, Φ108, Φ200, Φ201, Φ202, Φ203, Φ204, Φ205, Φ206, Φ207, Φ208, Φ209, Φ0, Φ1, Φ10, Φ300, Φ301, Φ302, Φ303, Φ304, Φ305, Φ306, Φ307, Φ308, Φ309, Φ310, Φ311, Φ312, Φ313, Φ314, Φ315, Φ316, Φ317, Φ318, Φ319, Φ20, Φ11, Φ30, Φ31, Φ32, Φ400, Φ401, Φ402, Φ403, Φ404, Φ405, Φ406, Φ407, kst, b2i_dec, w64]
        · exact out0 hi r1 r2 (by unfold Tch.row; rw [if_pos hk]) (by omega)
        · exact dec _ hi rfl rfl
      · refine And.intro (?_ : Inv 0 _) (?_ : lt2 μ (0, _) _) <;> simp (disch := omega) only [Wa, Sb.val, List.map_cons, List.map_nil, d_vi, d_vb, d_vr, d_ci, d_cb, d_nr, d_nl, d_add, d_sub, d_mul, d_rem, d_quo, d_bit, d_mn2, d_mx2, d_w, d_nn, d_bn2, d_len, d_neg, d_cl, d_at1, d_at2, d_at3, d_at4, d_at5, d_at6, d_at7, d_set, d_app, d_cat, d_take, d_drop, d_rep, d_cons, d_lt_t, d_lt_f, d_le_t, d_le_f, d_eqi_t, d_eqi_f, d_eqb_t, d_eqb_f, d_nb_t, d_nb_f, nth0, nthS, d_api, d_apr, D_cons, D_nl, D_nr, D_vr, D_set, mkL_l, mkR_r, mkI_i, d_shr2, d_shr3, d_shr16, d_shr40, d_shl2, d_shl3, d_shl16, d_shl40, d_apb, mkB_b, Φ100, Φ101, Φ102, Φ103, Φ104, Φ105, Φ106, Φ107, Φ108, Φ200, Φ201, Φ202, Φ203, Φ204, Φ205, Φ206, Φ207, Φ208, Φ209, Φ0, Φ1, Φ10, Φ300, Φ301, Φ302, Φ303, Φ304, Φ305, Φ306, Φ307, Φ308, Φ309, Φ310, Φ311, Φ312, Φ313, Φ314, Φ315, Φ316, Φ317, Φ318, Φ319, Φ20, Φ11, Φ30, Φ31, Φ32, Φ400, Φ401, Φ402, Φ403, Φ404, Φ405, Φ406, Φ407, kst, b2i_dec, w64]
        · exact out0 hi _ _ (by unfold Tch.row; rw [if_neg (Int.not_lt.mpr hk)]) (by rw [List.length_append, List.length_singleton]; omega)
        · exact dec _ hi rfl rfl
    · refine TOK.br' (fun hk => ?_) (fun hk => ?_) <;> simp only [Wa, d_vi, d_vb, d_vr, d_ci, d_cb, d_nr, d_nl, d_add, d_sub, d_mul, d_rem, d_quo, d_bit, d_mn2, d_mx2, d_w, d_nn, d_bn2, d_len, d_neg, d_cl, d_at1, d_at2, d_at3, d_at4, d_at5, d_at6, d_at7, d_set, d_app, d_cat, d_take, d_drop, d_rep, d_cons, d_lt_t, d_lt_f, d_le_t, d_le_f, d_eqi_t, d_eqi_f, d_eqb_t, d_eqb_f, d_nb_t, d_nb_f, nth0, nthS, d_api, d_apr, D_cons, D_nl, D_nr, D_vr, D_set, mkL_l, mkR_r, mkI_i, d_shr2, d_shr3, d_shr16, d_shr40, d_shl2, d_shl3, d_shl16, d_shl40, d_apb, mkB_b, Φ100, Φ101, Φ102, Φ103, Φ104, Φ105, Φ106, Φ107, Φ108, Φ200, Φ201, Φ202, Φ203, Φ204, Φ205, Φ206, Φ207, Φ208, Φ209, Φ0, Φ1, Φ10, Φ300, Φ301, Φ302, Φ303, Φ304, Φ305, Φ306, Φ307, Φ308, Φ309, Φ310, Φ311, Φ312, Φ313, Φ314, Φ315, Φ316, Φ317, Φ318, Φ319, Φ20, Φ11, Φ30, Φ31, Φ32, Φ400, Φ401, Φ402, Φ403, Φ404, Φ405, Φ406, Φ407, kst, b2i_dec] at hk <;> refine TOK.leaf' ?_
      · refine And.intro (?_ : Inv 0 _) (?_ : lt2 μ (0, _) _) <;> simp (disch := omega) only [Wa, Sb.val, List.map_cons, List.map_nil, d_vi, d_vb, d_vr, d_ci, d_cb, d_nr, d_nl, d_add, d_sub, d_mul, d_rem, d_quo, d_bit, d_mn2, d_mx2, d_w, d_nn, d_bn2, d_len, d_neg, d_cl, d_at1, d_at2, d_at3, d_at4, d_at5, d_at6, d_at7, d_set, d_app, d_cat, d_take, d_drop, d_rep, d_cons, d_lt_t, d_lt_f, d_le_t, d_le_f, d_eqi_t, d_eqi_f, d_eqb_t, d_eqb_f, d_nb_t, d_nb_f, nth0, nthS, d_api, d_apr, D_cons, D_nl, D_nr, D_vr, D_set, mkL_l, mkR_r, mkI_i, d_shr2, d_shr3, d_shr16, d_shr40, d_shl2, d_shl3, d_shl16, d_shl40, d_apb, mkB_b, Φ100, Φ101, Φ102, Φ103, Φ104, Φ105, Φ106, Φ107, Φ108, Φ200, Φ201, Φ202, Φ203, Φ204, Φ205, Φ206, Φ207, Φ208, Φ209, Φ0, Φ1, Φ10, Φ300, Φ301, Φ302, Φ303, Φ304, Φ305, Φ306, Φ307, Φ308, Φ309, Φ310, Φ311, Φ312, Φ313, Φ314, Φ315, Φ316, Φ317, Φ318, Φ319, Φ20, Φ11, Φ30, Φ31, Φ32, Φ400, Φ401, Φ402, Φ403, Φ404, Φ405, Φ406, Φ407, kst, b2i_dec, w64]
        · exact out1 hi r1 r2 (by unfold Tch.row; rw [if_pos hk]) (by omega)
        · exact dec _ hi rfl rfl
      · refine And.intro (?_ : Inv 0 _) (?_ : lt2 μ (0, _) _) <;> simp (disch := omega) only [Wa, Sb.val, List.map_cons, List.map_nil, d_vi, d_vb, d_vr, d_ci, d_cb, d_nr, d_nl, d_add, d_sub, d_mul, d_rem, d_quo, d_bit, d_mn2, d_mx2, d_w, d_nn, d_bn2, d_len, d_neg, d_cl, d_at1, d_at2, d_at3, d_at4, d_at5, d_at6, d_at7, d_set, d_app, d_cat, d_take, d_drop, d_rep, d_cons, d_lt_t, d_lt_f, d_le_t, d_le_f, d_eqi_t, d_eqi_f, d_eqb_t, d_eqb_f, d_nb_t, d_nb_f, nth0, nthS, d_api, d_apr, D_cons, D_nl, D_nr, D_vr, D_set, mkL_l, mkR_r, mkI_i, d_shr2, d_shr3, d_shr16, d_shr40, d_shl2, d_shl3, d_shl16, d_shl40, d_apb, mkB_b, Φ100, Φ101, Φ102, Φ103, Φ104, Φ105, Φ106, Φ107, Φ108, Φ200, Φ201, Φ202, Φ203, Φ204, Φ205, Φ206, Φ207, Φ208, Φ209, Φ0, Φ1, Φ10, Φ300, Φ301, Φ302, Φ303, Φ304, Φ305, Φ306, Φ307, Φ308, Φ309, Φ310, Φ311, Φ312, Φ313, Φ314, Φ315, Φ316, Φ317, Φ318, Φ319, Φ20, Φ11, Φ30, Φ31, Φ32, Φ400, Φ401, Φ402, Φ403, Φ404, Φ405, Φ406, Φ407, kst, b2i_dec, w64]
        · exact out1 hi _ _ (by unfold Tch.row; rw [if_neg (Int.not_lt.mpr hk)]) (by rw [List.length_append, List.length_singleton]; omega)
        · exact dec _ hi rfl rfl
  · refine TOK.leaf' ?_
    refine And.intro (?_ : Inv 1 _) (?_ : lt2 μ (1, _) _) <;> simp only [Wa, Sb.val, List.map_cons, List.map_nil, d_vi, d_vb, d_vr, d_ci, d_cb, d_nr, d_nl, d_add, d_sub, d_mul, d_rem, d_quo, d_bit, d_mn2, d_mx2, d_w, d_nn, d_bn2, d_len, d_neg, d_cl, d_at1, d_at2, d_at3, d_at4, d_at5, d_at6, d_at7, d_set, d_app, d_cat, d_take, d_drop, d_rep, d_cons, d_lt_t, d_lt_f, d_le_t, d_le_f, d_eqi_t, d_eqi_f, d_eqb_t, d_eqb_f, d_nb_t, d_nb_f, nth0, nthS, d_api, d_apr, D_cons, D_nl, D_nr, D_vr, D_set, mkL_l, mkR_r, mkI_i, d_shr2, d_shr3, d_shr16, d_shr40, d_shl2, d_shl3, d_shl16, d_shl40, d_apb, mkB_b]
    · exact .inr (.inl ⟨rfl, x, 0, p0, p1, r0, r1, r2, rfl, hC, ⟨h0, h1⟩, hc, by decide, by omega, q0.mono (by decide), q1.mono (by decide)⟩)
    · exact .inl (by show (300 - 2 * (0 : Int)).toNat < 1000; decide)
theorem s1 : ∀ v, Inv 1 v → TOK v (fun _ g => LgOK v (fun q u => Inv q u ∧ lt2 μ (q, u) (1, v)) g) tr1 := by
  intro v hv
  obtain ⟨x, n, p0, p1, r0, r1, r2, rfl, hC, ⟨h0, h1⟩, hc, g1, g2, q0, q1⟩ := inv1 hv
  unfold tr1
  refine TOK.br' (fun hi => ?_) (fun hi => ?_) <;> simp only [Wa, d_vi, d_vb, d_vr, d_ci, d_cb, d_nr, d_nl, d_add, d_sub, d_mul, d_rem, d_quo, d_bit, d_mn2, d_mx2, d_w, d_nn, d_bn2, d_len, d_neg, d_cl, d_at1, d_at2, d_at3, d_at4, d_at5, d_at6, d_at7, d_set, d_app, d_cat, d_take, d_drop, d_rep, d_cons, d_lt_t, d_lt_f, d_le_t, d_le_f, d_eqi_t, d_eqi_f, d_eqb_t, d_eqb_f, d_nb_t, d_nb_f, nth0, nthS, d_api, d_apr, D_cons, D_nl, D_nr, D_vr, D_set, mkL_l, mkR_r, mkI_i, d_shr2, d_shr3, d_shr16, d_shr40, d_shl2, d_shl3, d_shl16, d_shl40, d_apb, mkB_b] at hi <;> refine TOK.leaf' ?_
  · refine And.intro (?_ : Inv 2 _) (?_ : lt2 μ (2, _) _) <;> simp only [Wa, Sb.val, List.map_cons, List.map_nil, d_vi, d_vb, d_vr, d_ci, d_cb, d_nr, d_nl, d_add, d_sub, d_mul, d_rem, d_quo, d_bit, d_mn2, d_mx2, d_w, d_nn, d_bn2, d_len, d_neg, d_cl, d_at1, d_at2, d_at3, d_at4, d_at5, d_at6, d_at7, d_set, d_app, d_cat, d_take, d_drop, d_rep, d_cons, d_lt_t, d_lt_f, d_le_t, d_le_f, d_eqi_t, d_eqi_f, d_eqb_t, d_eqb_f, d_nb_t, d_nb_f, nth0, nthS, d_api, d_apr, D_cons, D_nl, D_nr, D_vr, D_set, mkL_l, mkR_r, mkI_i, d_shr2, d_shr3, d_shr16, d_shr40, d_shl2, d_shl3, d_shl16, d_shl40, d_apb, mkB_b]
    · exact .inr (.inr (.inl ⟨rfl, x, n, 2, 0, p0, p1, r0, r1, r2, rfl, rfl, hC, ⟨h0, h1⟩, hc, by omega, by decide, by omega, ⟨q0, q1⟩, ⟨fun z => by omega, fun z => by omega⟩⟩))
    · exact .inl (by show (299 - 2 * n).toNat < (300 - 2 * n).toNat; omega)
  · refine And.intro (?_ : Inv 3 _) (?_ : lt2 μ (3, _) _) <;> simp only [Wa, Sb.val, List.map_cons, List.map_nil, d_vi, d_vb, d_vr, d_ci, d_cb, d_nr, d_nl, d_add, d_sub, d_mul, d_rem, d_quo, d_bit, d_mn2, d_mx2, d_w, d_nn, d_bn2, d_len, d_neg, d_cl, d_at1, d_at2, d_at3, d_at4, d_at5, d_at6, d_at7, d_set, d_app, d_cat, d_take, d_drop, d_rep, d_cons, d_lt_t, d_lt_f, d_le_t, d_le_f, d_eqi_t, d_eqi_f, d_eqb_t, d_eqb_f, d_nb_t, d_nb_f, nth0, nthS, d_api, d_apr, D_cons, D_nl, D_nr, D_vr, D_set, mkL_l, mkR_r, mkI_i, d_shr2, d_shr3, d_shr16, d_shr40, d_shl2, d_shl3, d_shl16, d_shl40, d_apb, mkB_b]
    · exact .inr (.inr (.inr ⟨rfl, x, 0, 2, 0, p0, p1, r0, r1, r2, rfl, rfl, hC, ⟨h0, h1⟩, hc, by decide, rfl, by omega, fun z => by have z1 := q0 z; have z2 := h0.n; have z3 := h0.p0 z; unfold kpot at z1; rw [if_pos z] at z1; split at z1 <;> omega, fun z => by have z1 := q1 z; have z2 := h1.n; have z3 := h1.p0 z; unfold kpot at z1; rw [if_pos z] at z1; split at z1 <;> omega⟩))
    · exact .inl (by show 0 < (300 - 2 * n).toNat; omega)
theorem s2 : ∀ v, Inv 2 v → TOK v (fun _ g => LgOK v (fun q u => Inv q u ∧ lt2 μ (q, u) (2, v)) g) tr2 := by
  intro v hv
  obtain ⟨x, n, d, idx, p0, p1, r0, r1, r2, rfl, hd, hC, ⟨h0, h1⟩, hc, g1, g2, g3, ⟨q0, q1⟩, ⟨i0, i1⟩⟩ := inv2 hv
  subst hd
  have K0 := race_step (w := 0) hC (by decide) (by decide) h0
  have K1 := race_step (w := 1) hC (by decide) (by decide) h1
  have out0 : idx = 0 → ∀ q' l' : Row, q' = ((takeT 2 1 0 0 25 r1 p0).row r1) → (l'.length : Int) ≤ 103 + n * 2 + idx → Inv 2 (Wb x n 2 (idx + 1) (takeStep 2 1 0 25 r1 p0) p1 r0 q' l') := fun z q' l' e0 e1 => by
    subst e0
    exact .inr (.inr (.inl ⟨rfl, x, n, 2, idx + 1, _, p1, r0, _, l', rfl, rfl, K0.com, ⟨K0.own, K0.oth 1 _ (by decide) (by decide) (by decide) h1⟩, by have := K0.cnt; omega, g1, by omega, by omega, ⟨(K0.pot _ q0).mono (by omega), q1⟩, ⟨fun _ => (K0.pot _ q0).mono (by omega), fun y => absurd y (by omega)⟩⟩))
  have out1 : idx = 1 → ∀ q' l' : Row, q' = ((takeT 2 1 1 0 25 r1 p1).row r1) → (l'.length : Int) ≤ 103 + n * 2 + idx → Inv 2 (Wb x n 2 (idx + 1) p0 (takeStep 2 1 0 25 r1 p1) r0 q' l') := fun z q' l' e0 e1 => by
    subst e0
    exact .inr (.inr (.inl ⟨rfl, x, n, 2, idx + 1, p0, _, r0, _, l', rfl, rfl, K1.com, ⟨K1.oth 0 _ (by decide) (by decide) (by decide) h0, K1.own⟩, by have := K1.cnt; omega, g1, by omega, by omega, ⟨q0, (K1.pot _ q1).mono (by omega)⟩, ⟨fun y => i0 (by omega), fun _ => (K1.pot _ q1).mono (by omega)⟩⟩))
  have dec : ∀ v : Val, ∀ {j : Int}, idx = j → j < 2 → nth 0 v.i 3 = idx + 1 → nth 0 v.i 1 = n → lt2 μ (2, v) (2, Wb x n 2 idx p0 p1 r0 r1 r2) := fun v j z z2 e e2 => .inr ⟨by show (299 - 2 * nth 0 v.i 1).toNat = (299 - 2 * n).toNat; rw [e2], by
    show (10 - nth 0 v.i 3).toNat < (10 - idx).toNat
    omega⟩
  unfold tr2
  refine TOK.br' (fun hi => ?_) (fun hi => ?_) <;> simp only [Wb, d_vi, d_vb, d_vr, d_ci, d_cb, d_nr, d_nl, d_add, d_sub, d_mul, d_rem, d_quo, d_bit, d_mn2, d_mx2, d_w, d_nn, d_bn2, d_len, d_neg, d_cl, d_at1, d_at2, d_at3, d_at4, d_at5, d_at6, d_at7, d_set, d_app, d_cat, d_take, d_drop, d_rep, d_cons, d_lt_t, d_lt_f, d_le_t, d_le_f, d_eqi_t, d_eqi_f, d_eqb_t, d_eqb_f, d_nb_t, d_nb_f, nth0, nthS, d_api, d_apr, D_cons, D_nl, D_nr, D_vr, D_set, mkL_l, mkR_r, mkI_i, d_shr2, d_shr3, d_shr16, d_shr40, d_shl2, d_shl3, d_shl16, d_shl40, d_apb, mkB_b] at hi
  · refine TOK.need' (by simp only [Wb, d_vi, d_vb, d_vr, d_ci, d_cb, d_nr, d_nl, d_add, d_sub, d_mul, d_rem, d_quo, d_bit, d_mn2, d_mx2, d_w, d_nn, d_bn2, d_len, d_neg, d_cl, d_at1, d_at2, d_at3, d_at4, d_at5, d_at6, d_at7, d_set, d_app, d_cat, d_take, d_drop, d_rep, d_cons, d_lt_t, d_lt_f, d_le_t, d_le_f, d_eqi_t, d_eqi_f, d_eqb_t, d_eqb_f, d_nb_t, d_nb_f, nth0, nthS, d_api, d_apr, D_cons, D_nl, D_nr, D_vr, D_set, mkL_l, mkR_r, mkI_i, d_shr2, d_shr3, d_shr16, d_shr40, d_shl2, d_shl3, d_shl16, d_shl40, d_apb, mkB_b]; omega) ?_
    refine TOK.br' (fun hx0 => ?_) (fun hx0 => ?_) <;> simp only [Wb, d_vi, d_vb, d_vr, d_ci, d_cb, d_nr, d_nl, d_add, d_sub, d_mul, d_rem, d_quo, d_bit, d_mn2, d_mx2, d_w, d_nn, d_bn2, d_len, d_neg, d_cl, d_at1, d_at2, d_at3, d_at4, d_at5, d_at6, d_at7, d_set, d_app, d_cat, d_take, d_drop, d_rep, d_cons, d_lt_t, d_lt_f, d_le_t, d_le_f, d_eqi_t, d_eqi_f, d_eqb_t, d_eqb_f, d_nb_t, d_nb_f, nth0, nthS, d_api, d_apr, D_cons, D_nl, D_nr, D_vr, D_set, mkL_l, mkR_r, mkI_i, d_shr2, d_shr3, d_shr16, d_shr40, d_shl2, d_shl3, d_shl16, d_shl40, d_apb, mkB_b] at hx0
    · refine TOK.br' (fun hk => ?_) (fun hk => ?_) <;> simp only [Wb, d_vi, d_vb, d_vr, d_ci, d_cb, d_nr, d_nl, d_add, d_sub, d_mul, d_rem, d_quo, d_bit, d_mn2, d_mx2, d_w, d_nn, d_bn2, d_len, d_neg, d_cl, d_at1, d_at2, d_at3, d_at4, d_at5, d_at6, d_at7, d_set, d_app, d_cat, d_take, d_drop, d_rep, d_cons, d_lt_t, d_lt_f, d_le_t, d_le_f, d_eqi_t, d_eqi_f, d_eqb_t, d_eqb_f, d_nb_t, d_nb_f, nth0, nthS, d_api, d_apr, D_cons, D_nl, D_nr, D_vr, D_set, mkL_l, mkR_r, mkI_i, d_shr2, d_shr3, d_shr16, d_shr40, d_shl2, d_shl3, d_shl16, d_shl40, d_apb, mkB_b, Φ100, Φ101, Φ102, Φ103, Φ104, Φ105, Φ106, Φ107, Φ108, Φ200, Φ201, Φ202, Φ203, Φ204, Φ205, Φ206, Φ207, Φ208, Φ209, Φ0, Φ1, Φ10, Φ300, Φ301, Φ302, Φ303, Φ304, Φ305, Φ306, Φ307, Φ308, Φ309, Φ310, Φ311, Φ312, Φ313, Φ314, Φ315, Φ316, Φ317, Φ318, Φ319, Φ20, Φ11, Φ30, Φ31, Φ32, Φ400, Φ401, Φ402, Φ403, Φ404, Φ405, Φ406, Φ407, kst, b2i_dec] at hk <;> refine TOK.leaf' ?_
      · refine And.intro (?_ : Inv 2 _) (?_ : lt2 μ (2, _) _) <;> simp (disch := omega) only [Wb, Sb.val, List.map_cons, List.map_nil, d_vi, d_vb, d_vr, d_ci, d_cb, d_nr, d_nl, d_add, d_sub, d_mul, d_rem, d_quo, d_bit, d_mn2, d_mx2, d_w, d_nn, d_bn2, d_len, d_neg, d_cl, d_at1, d_at2, d_at3, d_at4, d_at5, d_at6, d_at7, d_set, d_app, d_cat, d_take, d_drop, d_rep, d_cons, d_lt_t, d_lt_f, d_le_t, d_le_f, d_eqi_t, d_eqi_f, d_eqb_t, d_eqb_f, d_nb_t, d_nb_f, nth0, nthS, d_api, d_apr, D_cons, D_nl, D_nr, D_vr, D_set, mkL_l, mkR_r, mkI_i, d_shr2, d_shr3, d_shr16, d_shr40, d_shl2, d_shl3, d_shl16, d_shl40, d_apb, mkB_b, Φ100, Φ101, Φ102, Φ103, Φ104, Φ105, Φ106, Φ107, Φ108, Φ200, Φ201, Φ202, Φ203, Φ204, Φ205, Φ206, Φ207, Φ208, Φ209, Φ0, Φ1, Φ10, Φ300, Φ301, Φ302, Φ303, Φ304, Φ305, Φ306, Φ307, Φ308, Φ309, Φ310, Φ311, Φ312, Φ313, Φ314, Φ315, Φ316, Φ317, Φ318, Φ319, Φ20, Φ11, Φ30, Φ31, Φ32, Φ400, Φ401, Φ402, Φ403, Φ404, Φ405, Φ406, Φ407, kst, b2i_dec, w64]
        · exact out0 hx0 r1 r2 (by unfold Tch.row; rw [if_pos hk]) (by omega)
        · exact dec _ hx0 (by decide) rfl rfl
      · refine And.intro (?_ : Inv 2 _) (?_ : lt2 μ (2, _) _) <;> simp (disch := omega) only [Wb, Sb.val, List.map_cons, List.map_nil, d_vi, d_vb, d_vr, d_ci, d_cb, d_nr, d_nl, d_add, d_sub, d_mul, d_rem, d_quo, d_bit, d_mn2, d_mx2, d_w, d_nn, d_bn2, d_len, d_neg, d_cl, d_at1, d_at2, d_at3, d_at4, d_at5, d_at6, d_at7, d_set, d_app, d_cat, d_take, d_drop, d_rep, d_cons, d_lt_t, d_lt_f, d_le_t, d_le_f, d_eqi_t, d_eqi_f, d_eqb_t, d_eqb_f, d_nb_t, d_nb_f, nth0, nthS, d_api, d_apr, D_cons, D_nl, D_nr, D_vr, D_set, mkL_l, mkR_r, mkI_i, d_shr2, d_shr3, d_shr16, d_shr40, d_shl2, d_shl3, d_shl16, d_shl40, d_apb, mkB_b, Φ100, Φ101, Φ102, Φ103, Φ104, Φ105, Φ106, Φ107, Φ108, Φ200, Φ201, Φ202, Φ203, Φ204, Φ205, Φ206, Φ207, Φ208, Φ209, Φ0, Φ1, Φ10, Φ300, Φ301, Φ302, Φ303, Φ304, Φ305, Φ306, Φ307, Φ308, Φ309, Φ310, Φ311, Φ312, Φ313, Φ314, Φ315, Φ316, Φ317, Φ318, Φ319, Φ20, Φ11, Φ30, Φ31, Φ32, Φ400, Φ401, Φ402, Φ403, Φ404, Φ405, Φ406, Φ407, kst, b2i_dec, w64]
        · exact out0 hx0 _ _ (by unfold Tch.row; rw [if_neg (Int.not_lt.mpr hk)]) (by rw [List.length_append, List.length_singleton]; omega)
        · exact dec _ hx0 (by decide) rfl rfl
    · have hx1 : idx = 1 := by omega
      refine TOK.br' (fun hk => ?_) (fun hk => ?_) <;> simp only [Wb, d_vi, d_vb, d_vr, d_ci, d_cb, d_nr, d_nl, d_add, d_sub, d_mul, d_rem, d_quo, d_bit, d_mn2, d_mx2, d_w, d_nn, d_bn2, d_len, d_neg, d_cl, d_at1, d_at2, d_at3, d_at4, d_at5, d_at6, d_at7, d_set, d_app, d_cat, d_take, d_drop, d_rep, d_cons, d_lt_t, d_lt_f, d_le_t, d_le_f, d_eqi_t, d_eqi_f, d_eqb_t, d_eqb_f, d_nb_t, d_nb_f, nth0, nthS, d_api, d_apr, D_cons, D_nl, D_nr, D_vr, D_set, mkL_l, mkR_r, mkI_i, d_shr2, d_shr3, d_shr16, d_shr40, d_shl2, d_shl3, d_shl16, d_shl40, d_apb, mkB_b, Φ100, Φ101, Φ102, Φ103, Φ104, Φ105, Φ106, Φ107, Φ108, Φ200, Φ201, Φ202, Φ203, Φ204, Φ205, Φ206, Φ207, Φ208, Φ209, Φ0, Φ1, Φ10, Φ300, Φ301, Φ302, Φ303, Φ304, Φ305, Φ306, Φ307, Φ308, Φ309, Φ310, Φ311, Φ312, Φ313, Φ314, Φ315, Φ316, Φ317, Φ318, Φ319, Φ20, Φ11, Φ30, Φ31, Φ32, Φ400, Φ401, Φ402, Φ403, Φ404, Φ405, Φ406, Φ407, kst, b2i_dec] at hk <;> refine TOK.leaf' ?_
      · refine And.intro (?_ : Inv 2 _) (?_ : lt2 μ (2, _) _) <;> simp (disch := omega) only [Wb, Sb.val, List.map_cons, List.map_nil, d_vi, d_vb, d_vr, d_ci, d_cb, d_nr, d_nl, d_add, d_sub, d_mul, d_rem, d_quo, d_bit, d_mn2, d_mx2, d_w, d_nn, d_bn2, d_len, d_neg, d_cl, d_at1, d_at2, d_at3, d_at4, d_at5, d_at6, d_at7, d_set, d_app, d_cat, d_take, d_drop, d_rep, d_cons, d_lt_t, d_lt_f, d_le_t, d_le_f, d_eqi_t, d_eqi_f, d_eqb_t, d_eqb_f, d_nb_t, d_nb_f, nth0, nthS, d_api, d_apr, D_cons, D_nl, D_nr, D_vr, D_set, mkL_l, mkR_r, mkI_i, d_shr2, d_shr3, d_shr16, d_shr40, d_shl2, d_shl3, d_shl16, d_shl40, d_apb, mkB_b, Φ100, Φ101, Φ102, Φ103, Φ104, Φ105, Φ106, Φ107, Φ108, Φ200, Φ201, Φ202, Φ203, Φ204, Φ205, Φ206, Φ207, Φ208, Φ209, Φ0, Φ1, Φ10, Φ300, Φ301, Φ302, Φ303, Φ304, Φ305, Φ306, Φ307, Φ308, Φ309, Φ310, Φ311, Φ312, Φ313, Φ314, Φ315, Φ316, Φ317, Φ318, Φ319, Φ20, Φ11, Φ30, Φ31, Φ32, Φ400, Φ401, Φ402, Φ403, Φ404, Φ405, Φ406, Φ407, kst, b2i_dec, w64]
        · exact out1 hx1 r1 r2 (by unfold Tch.row; rw [if_pos hk]) (by omega)
        · exact dec _ hx1 (by decide) rfl rfl
      · refine And.intro (?_ : Inv 2 _) (?_ : lt2 μ (2, _) _) <;> simp (disch := omega) only [Wb, Sb.val, List.map_cons, List.map_nil, d_vi, d_vb, d_vr, d_ci, d_cb, d_nr, d_nl, d_add, d_sub, d_mul, d_rem, d_quo, d_bit, d_mn2, d_mx2, d_w, d_nn, d_bn2, d_len, d_neg, d_cl, d_at1, d_at2, d_at3, d_at4, d_at5, d_at6, d_at7, d_set, d_app, d_cat, d_take, d_drop, d_rep, d_cons, d_lt_t, d_lt_f, d_le_t, d_le_f, d_eqi_t, d_eqi_f, d_eqb_t, d_eqb_f, d_nb_t, d_nb_f, nth0, nthS, d_api, d_apr, D_cons, D_nl, D_nr, D_vr, D_set, mkL_l, mkR_r, mkI_i, d_shr2, d_shr3, d_shr16, d_shr40, d_shl2, d_shl3, d_shl16, d_shl40, d_apb, mkB_b, Φ100, Φ101, Φ102, Φ103, Φ104, Φ105, Φ106, Φ107, Φ108, Φ200, Φ201, Φ202, Φ203, Φ204, Φ205, Φ206, Φ207, Φ208, Φ209, Φ0, Φ1, Φ10, Φ300, Φ301, Φ302, Φ303, Φ304, Φ305, Φ306, Φ307, Φ308, Φ309, Φ310, Φ311, Φ312, Φ313, Φ314, Φ315, Φ316, Φ317, Φ318, Φ319, Φ20, Φ11, Φ30, Φ31, Φ32, Φ400, Φ401, Φ402, Φ403, Φ404, Φ405, Φ406, Φ407, kst, b2i_dec, w64]
        · exact out1 hx1 _ _ (by unfold Tch.row; rw [if_neg (Int.not_lt.mpr hk)]) (by rw [List.length_append, List.length_singleton]; omega)
        · exact dec _ hx1 (by decide) rfl rfl
  · refine TOK.leaf' ?_
    refine And.intro (?_ : Inv 1 _) (?_ : lt2 μ (1, _) _) <;> simp (disch := omega) only [Wb, Sb.val, List.map_cons, List.map_nil, d_vi, d_vb, d_vr, d_ci, d_cb, d_nr, d_nl, d_add, d_sub, d_mul, d_rem, d_quo, d_bit, d_mn2, d_mx2, d_w, d_nn, d_bn2, d_len, d_neg, d_cl, d_at1, d_at2, d_at3, d_at4, d_at5, d_at6, d_at7, d_set, d_app, d_cat, d_take, d_drop, d_rep, d_cons, d_lt_t, d_lt_f, d_le_t, d_le_f, d_eqi_t, d_eqi_f, d_eqb_t, d_eqb_f, d_nb_t, d_nb_f, nth0, nthS, d_api, d_apr, D_cons, D_nl, D_nr, D_vr, D_set, mkL_l, mkR_r, mkI_i, d_shr2, d_shr3, d_shr16, d_shr40, d_shl2, d_shl3, d_shl16, d_shl40, d_apb, mkB_b, w64]
    · exact .inr (.inl ⟨rfl, x, n + 1, p0, p1, r0, r1, r2, rfl, hC, ⟨h0, h1⟩, hc, by omega, by omega, (i0 (by omega)).mono (by omega), (i1 (by omega)).mono (by omega)⟩)
    · exact .inl (by show (300 - 2 * (n + 1)).toNat < (299 - 2 * n).toNat; omega)
theorem s3 : ∀ v, Inv 3 v → TOK v (fun _ g => LgOK v (fun q u => Inv q u ∧ lt2 μ (q, u) (3, v)) g) tr3 := by
  intro v hv
  obtain ⟨x, n, d, y, p0, p1, r0, r1, r2, rfl, hd, hC, ⟨h0, h1⟩, hc, g1, g2, g3, q0, q1⟩ := inv3 hv
  subst hd
  have nxt : y < 2 → ∀ m, m = (if 0 < y + 1 then wonI p0 else 0) + (if 1 < y + 1 then wonI p1 else 0) → Inv 3 (Wb x m 2 (y + 1) p0 p1 r0 r1 r2) ∧ lt2 μ (3, Wb x m 2 (y + 1) p0 p1 r0 r1 r2) (3, Wb x n 2 y p0 p1 r0 r1 r2) := fun z m em => ⟨.inr (.inr (.inr ⟨rfl, x, m, 2, y + 1, p0, p1, r0, r1, r2, rfl, rfl, hC, ⟨h0, h1⟩, hc, by omega, em, g3, q0, q1⟩)), .inr ⟨rfl, by show (10 - (y + 1)).toNat < (10 - y).toNat; omega⟩⟩
  unfold tr3
  refine TOK.br' (fun hi => ?_) (fun hi => ?_) <;> simp only [Wb, d_vi, d_vb, d_vr, d_ci, d_cb, d_nr, d_nl, d_add, d_sub, d_mul, d_rem, d_quo, d_bit, d_mn2, d_mx2, d_w, d_nn, d_bn2, d_len, d_neg, d_cl, d_at1, d_at2, d_at3, d_at4, d_at5, d_at6, d_at7, d_set, d_app, d_cat, d_take, d_drop, d_rep, d_cons, d_lt_t, d_lt_f, d_le_t, d_le_f, d_eqi_t, d_eqi_f, d_eqb_t, d_eqb_f, d_nb_t, d_nb_f, nth0, nthS, d_api, d_apr, D_cons, D_nl, D_nr, D_vr, D_set, mkL_l, mkR_r, mkI_i, d_shr2, d_shr3, d_shr16, d_shr40, d_shl2, d_shl3, d_shl16, d_shl40, d_apb, mkB_b] at hi
  · refine TOK.need' (by simp only [Wb, d_vi, d_vb, d_vr, d_ci, d_cb, d_nr, d_nl, d_add, d_sub, d_mul, d_rem, d_quo, d_bit, d_mn2, d_mx2, d_w, d_nn, d_bn2, d_len, d_neg, d_cl, d_at1, d_at2, d_at3, d_at4, d_at5, d_at6, d_at7, d_set, d_app, d_cat, d_take, d_drop, d_rep, d_cons, d_lt_t, d_lt_f, d_le_t, d_le_f, d_eqi_t, d_eqi_f, d_eqb_t, d_eqb_f, d_nb_t, d_nb_f, nth0, nthS, d_api, d_apr, D_cons, D_nl, D_nr, D_vr, D_set, mkL_l, mkR_r, mkI_i, d_shr2, d_shr3, d_shr16, d_shr40, d_shl2, d_shl3, d_shl16, d_shl40, d_apb, mkB_b]; omega) ?_
    refine TOK.br' (fun hx0 => ?_) (fun hx0 => ?_) <;> simp only [Wb, d_vi, d_vb, d_vr, d_ci, d_cb, d_nr, d_nl, d_add, d_sub, d_mul, d_rem, d_quo, d_bit, d_mn2, d_mx2, d_w, d_nn, d_bn2, d_len, d_neg, d_cl, d_at1, d_at2, d_at3, d_at4, d_at5, d_at6, d_at7, d_set, d_app, d_cat, d_take, d_drop, d_rep, d_cons, d_lt_t, d_lt_f, d_le_t, d_le_f, d_eqi_t, d_eqi_f, d_eqb_t, d_eqb_f, d_nb_t, d_nb_f, nth0, nthS, d_api, d_apr, D_cons, D_nl, D_nr, D_vr, D_set, mkL_l, mkR_r, mkI_i, d_shr2, d_shr3, d_shr16, d_shr40, d_shl2, d_shl3, d_shl16, d_shl40, d_apb, mkB_b] at hx0
    · have hy : y = 0 := by omega
      subst hy
      have hz := h0.hz
      rw [if_neg (fun z => q0 z.1)] at hz
      have hz' : cl r1 (0 + 4) = 0 := hz
      have f1 := h0.p1; have f2 := h0.p2; have vl := h0.vl; have fb := h0.ph
      repeat' (first
        | (refine TOK.br' (fun h => ?_) (fun h => ?_) <;> simp only [Wb, d_vi, d_vb, d_vr, d_ci, d_cb, d_nr, d_nl, d_add, d_sub, d_mul, d_rem, d_quo, d_bit, d_mn2, d_mx2, d_w, d_nn, d_bn2, d_len, d_neg, d_cl, d_at1, d_at2, d_at3, d_at4, d_at5, d_at6, d_at7, d_set, d_app, d_cat, d_take, d_drop, d_rep, d_cons, d_lt_t, d_lt_n, d_le_t, d_le_n, d_eqi_t, d_eqi_f, d_eqb_t, d_eqb_f, d_nb_t, d_nb_f, nth0, nthS, d_api, d_apr, D_cons, D_nl, D_nr, D_vr, D_set, mkL_l, mkR_r, mkI_i, d_shr2, d_shr3, d_shr16, d_shr40, d_shl2, d_shl3, d_shl16, d_shl40, d_apb, mkB_b] at h <;> (try (exfalso; omega)))
        | (with_reducible refine TOK.leaf' ?_))
      all_goals first
        | (exfalso; have b1 := f1 (by assumption); have b2 := vl (by omega) b1.2; contradiction)
        | (have b1 := f1 (by assumption)
           have b3 : wonI p0 = 1 := by unfold wonI; rw [if_pos ⟨b1.2, by omega⟩]
           refine And.intro (?_ : Inv 3 _) (?_ : lt2 μ (3, _) _) <;> simp (disch := omega) only [Wb, Sb.val, List.map_cons, List.map_nil, d_vi, d_vb, d_vr, d_ci, d_cb, d_nr, d_nl, d_add, d_sub, d_mul, d_rem, d_quo, d_bit, d_mn2, d_mx2, d_w, d_nn, d_bn2, d_len, d_neg, d_cl, d_at1, d_at2, d_at3, d_at4, d_at5, d_at6, d_at7, d_set, d_app, d_cat, d_take, d_drop, d_rep, d_cons, d_lt_t, d_lt_f, d_le_t, d_le_f, d_eqi_t, d_eqi_f, d_eqb_t, d_eqb_f, d_nb_t, d_nb_f, nth0, nthS, d_api, d_apr, D_cons, D_nl, D_nr, D_vr, D_set, mkL_l, mkR_r, mkI_i, d_shr2, d_shr3, d_shr16, d_shr40, d_shl2, d_shl3, d_shl16, d_shl40, d_apb, mkB_b, w64]
           · exact (nxt (by decide) (n + 1) (by rw [g2]; simp [b3])).1
           · exact (nxt (by decide) (n + 1) (by rw [g2]; simp [b3])).2)
        | (have b1 := f2 (by omega)
           have b3 : wonI p0 = 0 := by unfold wonI; rw [if_neg (fun z => by rw [b1] at z; exact absurd z.1 (by decide))]
           refine And.intro (?_ : Inv 3 _) (?_ : lt2 μ (3, _) _) <;> simp (disch := omega) only [Wb, Sb.val, List.map_cons, List.map_nil, d_vi, d_vb, d_vr, d_ci, d_cb, d_nr, d_nl, d_add, d_sub, d_mul, d_rem, d_quo, d_bit, d_mn2, d_mx2, d_w, d_nn, d_bn2, d_len, d_neg, d_cl, d_at1, d_at2, d_at3, d_at4, d_at5, d_at6, d_at7, d_set, d_app, d_cat, d_take, d_drop, d_rep, d_cons, d_lt_t, d_lt_f, d_le_t, d_le_f, d_eqi_t, d_eqi_f, d_eqb_t, d_eqb_f, d_nb_t, d_nb_f, nth0, nthS, d_api, d_apr, D_cons, D_nl, D_nr, D_vr, D_set, mkL_l, mkR_r, mkI_i, d_shr2, d_shr3, d_shr16, d_shr40, d_shl2, d_shl3, d_shl16, d_shl40, d_apb, mkB_b, w64]
           · exact (nxt (by decide) n (by rw [g2]; simp [b3])).1
           · exact (nxt (by decide) n (by rw [g2]; simp [b3])).2)
    · have hy : y = 1 := by omega
      subst hy
      have hz := h1.hz
      rw [if_neg (fun z => q1 z.1)] at hz
      have hz' : cl r1 (1 + 4) = 0 := hz
      have f1 := h1.p1; have f2 := h1.p2; have vl := h1.vl; have fb := h1.ph
      repeat' (first
        | (refine TOK.br' (fun h => ?_) (fun h => ?_) <;> simp only [Wb, d_vi, d_vb, d_vr, d_ci, d_cb, d_nr, d_nl, d_add, d_sub, d_mul, d_rem, d_quo, d_bit, d_mn2, d_mx2, d_w, d_nn, d_bn2, d_len, d_neg, d_cl, d_at1, d_at2, d_at3, d_at4, d_at5, d_at6, d_at7, d_set, d_app, d_cat, d_take, d_drop, d_rep, d_cons, d_lt_t, d_lt_n, d_le_t, d_le_n, d_eqi_t, d_eqi_f, d_eqb_t, d_eqb_f, d_nb_t, d_nb_f, nth0, nthS, d_api, d_apr, D_cons, D_nl, D_nr, D_vr, D_set, mkL_l, mkR_r, mkI_i, d_shr2, d_shr3, d_shr16, d_shr40, d_shl2, d_shl3, d_shl16, d_shl40, d_apb, mkB_b] at h <;> (try (exfalso; omega)))
        | (with_reducible refine TOK.leaf' ?_))
      all_goals first
        | (exfalso; have b1 := f1 (by assumption); have b2 := vl (by omega) b1.2; contradiction)
        | (have b1 := f1 (by assumption)
           have b3 : wonI p1 = 1 := by unfold wonI; rw [if_pos ⟨b1.2, by omega⟩]
           refine And.intro (?_ : Inv 3 _) (?_ : lt2 μ (3, _) _) <;> simp (disch := omega) only [Wb, Sb.val, List.map_cons, List.map_nil, d_vi, d_vb, d_vr, d_ci, d_cb, d_nr, d_nl, d_add, d_sub, d_mul, d_rem, d_quo, d_bit, d_mn2, d_mx2, d_w, d_nn, d_bn2, d_len, d_neg, d_cl, d_at1, d_at2, d_at3, d_at4, d_at5, d_at6, d_at7, d_set, d_app, d_cat, d_take, d_drop, d_rep, d_cons, d_lt_t, d_lt_f, d_le_t, d_le_f, d_eqi_t, d_eqi_f, d_eqb_t, d_eqb_f, d_nb_t, d_nb_f, nth0, nthS, d_api, d_apr, D_cons, D_nl, D_nr, D_vr, D_set, mkL_l, mkR_r, mkI_i, d_shr2, d_shr3, d_shr16, d_shr40, d_shl2, d_shl3, d_shl16, d_shl40, d_apb, mkB_b, w64]
           · exact (nxt (by decide) (n + 1) (by rw [g2]; simp [b3])).1
           · exact (nxt (by decide) (n + 1) (by rw [g2]; simp [b3])).2)
        | (have b1 := f2 (by omega)
           have b3 : wonI p1 = 0 := by unfold wonI; rw [if_neg (fun z => by rw [b1] at z; exact absurd z.1 (by decide))]
           refine And.intro (?_ : Inv 3 _) (?_ : lt2 μ (3, _) _) <;> simp (disch := omega) only [Wb, Sb.val, List.map_cons, List.map_nil, d_vi, d_vb, d_vr, d_ci, d_cb, d_nr, d_nl, d_add, d_sub, d_mul, d_rem, d_quo, d_bit, d_mn2, d_mx2, d_w, d_nn, d_bn2, d_len, d_neg, d_cl, d_at1, d_at2, d_at3, d_at4, d_at5, d_at6, d_at7, d_set, d_app, d_cat, d_take, d_drop, d_rep, d_cons, d_lt_t, d_lt_f, d_le_t, d_le_f, d_eqi_t, d_eqi_f, d_eqb_t, d_eqb_f, d_nb_t, d_nb_f, nth0, nthS, d_api, d_apr, D_cons, D_nl, D_nr, D_vr, D_set, mkL_l, mkR_r, mkI_i, d_shr2, d_shr3, d_shr16, d_shr40, d_shl2, d_shl3, d_shl16, d_shl40, d_apb, mkB_b, w64]
           · exact (nxt (by decide) n (by rw [g2]; simp [b3])).1
           · exact (nxt (by decide) n (by rw [g2]; simp [b3])).2)
  · have hy : y = 2 := by omega
    subst hy
    have hg : n = gone r1 := by rw [g2, ← hc]; simp
    have hg2 : cl r1 0 = 26 := by
      rcases hC.wd with z | z
      · exfalso
        have e : gone r1 = 0 := by unfold gone; rw [if_neg (by omega)]
        have b := h0.ph
        rcases (by omega : p0.ph = 1 ∨ p0.ph = 2) with c | c
        · have d := h0.p1 c
          have := h0.wn (by unfold wonI; rw [if_pos ⟨d.2, by omega⟩])
          omega
        · have := (h0.lo (h0.p2 c)).1
          omega
      · exact z
    have hn : n = 1 := by rw [hg]; unfold gone; rw [if_pos hg2]
    refine TOK.br' (fun h => ?_) (fun h => ?_) <;> simp only [Wb, d_vi, d_vb, d_vr, d_ci, d_cb, d_nr, d_nl, d_add, d_sub, d_mul, d_rem, d_quo, d_bit, d_mn2, d_mx2, d_w, d_nn, d_bn2, d_len, d_neg, d_cl, d_at1, d_at2, d_at3, d_at4, d_at5, d_at6, d_at7, d_set, d_app, d_cat, d_take, d_drop, d_rep, d_cons, d_lt_t, d_lt_n, d_le_t, d_le_n, d_eqi_t, d_eqi_f, d_eqb_t, d_eqb_f, d_nb_t, d_nb_f, nth0, nthS, d_api, d_apr, D_cons, D_nl, D_nr, D_vr, D_set, mkL_l, mkR_r, mkI_i, d_shr2, d_shr3, d_shr16, d_shr40, d_shl2, d_shl3, d_shl16, d_shl40, d_apb, mkB_b] at h
    · refine TOK.leaf' ?_
      show (den _ _).b = true
      rw [d_eqi_t]
      simp only [Wb, d_vi, d_vb, d_vr, d_ci, d_cb, d_nr, d_nl, d_add, d_sub, d_mul, d_rem, d_quo, d_bit, d_mn2, d_mx2, d_w, d_nn, d_bn2, d_len, d_neg, d_cl, d_at1, d_at2, d_at3, d_at4, d_at5, d_at6, d_at7, d_set, d_app, d_cat, d_take, d_drop, d_rep, d_cons, d_lt_t, d_lt_f, d_le_t, d_le_f, d_eqi_t, d_eqi_f, d_eqb_t, d_eqb_f, d_nb_t, d_nb_f, nth0, nthS, d_api, d_apr, D_cons, D_nl, D_nr, D_vr, D_set, mkL_l, mkR_r, mkI_i, d_shr2, d_shr3, d_shr16, d_shr40, d_shl2, d_shl3, d_shl16, d_shl40, d_apb, mkB_b]
      exact hg2
    · exact absurd hn h
theorem start (a1 : Int) : RCom 2 a1 [[25], [0], [a1], [0], [0], [0], [0], [0]] ∧ (ROne 2 a1 [[25], [0], [a1], [0], [0], [0], [0], [0]] 0 ⟨0, false, 0, 0⟩ ∧ ROne 2 a1 [[25], [0], [a1], [0], [0], [0], [0], [0]] 1 ⟨0, false, 0, 0⟩) := by
  refine ⟨⟨by decide, rfl, .inl rfl, rfl⟩, ⟨by decide, by decide, rfl, fun z => absurd z (by decide), fun z => (by cases z), fun z => (by cases z), fun z => (by cases z), fun _ => by decide, fun z => absurd z (by decide)⟩, ⟨by decide, by decide, rfl, fun z => absurd z (by decide), fun z => (by cases z), fun z => (by cases z), fun z => (by cases z), fun _ => by decide, fun z => absurd z (by decide)⟩⟩
theorem sS (a0 a1 : Int) (l : Row) : TOK (⟨[a0, a1], [], [l], [], Φ⟩ : Val) (fun _ g => LgOK (⟨[a0, a1], [], [l], [], Φ⟩ : Val) Inv g) trS := by
  unfold trS
  refine TOK.br' (fun h => ?_) (fun h => ?_) <;> simp only [d_vi, d_vb, d_vr, d_ci, d_cb, d_nr, d_nl, d_add, d_sub, d_mul, d_rem, d_quo, d_bit, d_mn2, d_mx2, d_w, d_nn, d_bn2, d_len, d_neg, d_cl, d_at1, d_at2, d_at3, d_at4, d_at5, d_at6, d_at7, d_set, d_app, d_cat, d_take, d_drop, d_rep, d_cons, d_lt_t, d_lt_f, d_le_t, d_le_f, d_eqi_t, d_eqi_f, d_eqb_t, d_eqb_f, d_nb_t, d_nb_f, nth0, nthS, d_api, d_apr, D_cons, D_nl, D_nr, D_vr, D_set, mkL_l, mkR_r, mkI_i, d_shr2, d_shr3, d_shr16, d_shr40, d_shl2, d_shl3, d_shl16, d_shl40, d_apb, mkB_b] at h <;> refine TOK.leaf' ?_
  · exact rfl
  · refine (show Inv 0 _ from ?_)
    simp (disch := omega) only [Sb.val, List.map_cons, List.map_nil, d_vi, d_vb, d_vr, d_ci, d_cb, d_nr, d_nl, d_add, d_sub, d_mul, d_rem, d_quo, d_bit, d_mn2, d_mx2, d_w, d_nn, d_bn2, d_len, d_neg, d_cl, d_at1, d_at2, d_at3, d_at4, d_at5, d_at6, d_at7, d_set, d_app, d_cat, d_take, d_drop, d_rep, d_cons, d_lt_t, d_lt_f, d_le_t, d_le_f, d_eqi_t, d_eqi_f, d_eqb_t, d_eqb_f, d_nb_t, d_nb_f, nth0, nthS, d_api, d_apr, D_cons, D_nl, D_nr, D_vr, D_set, mkL_l, mkR_r, mkI_i, d_shr2, d_shr3, d_shr16, d_shr40, d_shl2, d_shl3, d_shl16, d_shl40, d_apb, mkB_b]
    have hs := start a1
    have hp : KPot ⟨0, false, 0, 0⟩ 5 := fun _ => by decide
    exact .inl ⟨rfl, a1, 0, ⟨0, false, 0, 0⟩, ⟨0, false, 0, 0⟩, l, [[25], [0], [a1], [0], [0], [0], [0], [0]], _, rfl, hs.1, hs.2, rfl, ⟨by decide, by omega⟩, by omega, Int.le_refl 2, hp, hp⟩
theorem hk0 (a0 a1 : Int) (l : Row) (hh : a0 % 4 = 1) : KV (⟨[a0, a1], [], [l], [], Φ⟩ : Val) kn0 := by
  unfold KV kn0
  simp only [List.forall_mem_cons, d_vi, d_vb, d_vr, d_ci, d_cb, d_nr, d_nl, d_add, d_sub, d_mul, d_rem, d_quo, d_bit, d_mn, d_mx, d_w, d_nn, d_bn, d_len, d_neg, d_at0, d_at1, d_at2, d_at3, d_at4, d_at5, d_at6, d_at7, d_set, d_app, d_cat, d_take, d_drop, d_rep, d_cons, d_lt_t, d_lt_f, d_le_t, d_le_f, d_eqi_t, d_eqi_f, d_eqb_t, d_eqb_f, d_nb_t, d_nb_f, nth0, nthS, d_api, d_apr, D_cons, D_nl, D_nr, D_vr, D_set, mkL_l, mkR_r, mkI_i, d_apb, mkB_b, and3, hh]
  simp
theorem all (a0 a1 : Int) (l : Row) (hh : a0 % 4 = 1) : AW P0 fn.ntmps (dH (⟨[a0, a1], [], [l], [], Φ⟩ : Val) h0) bod (dT (⟨[a0, a1], [], [l], [], Φ⟩ : Val) (sargs0 0 args)) (dH (⟨[a0, a1], [], [l], [], Φ⟩ : Val) h0) (Eng.Ends I0 fn fun u _ => u = .bool true) :=
  aw ⟨[a0, a1], [], [l], [], Φ⟩ Inv μ rfl hΦ (hk0 a0 a1 l hh) k0 k1 k2 k3 (sS a0 a1 l) s0 s1 s2 s3
end Go.Proofs.Ytckbckijpdnlaaa.KTakeRaces2
