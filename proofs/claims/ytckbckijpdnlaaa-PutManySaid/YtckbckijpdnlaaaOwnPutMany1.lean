/- The law PutMany for 1 threads. A lemma file: conditions: so many threads. -/
import Derived.Test.YtckbckijpdnlaaaOwnPutMany1S
import Derived.Test.YtckbckijpdnlaaaOwnMany10
set_option linter.unusedVariables false
set_option linter.unusedSimpArgs false
set_option maxRecDepth 100000
set_option maxHeartbeats 16000000
namespace Go.Proofs.Ytckbckijpdnlaaa.KPutMany1
open Go Go.Lib Go.Proofs.Ytckbckijpdnlaaa.Eng Go.Proofs.Ytckbckijpdnlaaa.Sy Go.RowKit
def Wa (x y S src : Int) (p0 : PSt) (r0 r1 r2 : Row) : Val := ⟨[x, y, S, src, p0.ph, p0.c.k, p0.c.g, p0.c.ws, p0.c.we, p0.c.wg, p0.c.wl, p0.c.wh, p0.c.ph, p0.t.n, p0.t.a, p0.t.b, p0.t.lo, p0.t.hi, p0.t.ph], [p0.st], [r0, r1, r2], [], Φ⟩
def Wb (x n d y S src : Int) (p0 : PSt) (r0 r1 r2 : Row) : Val := ⟨[x, n, d, y, S, src, p0.ph, p0.c.k, p0.c.g, p0.c.ws, p0.c.we, p0.c.wg, p0.c.wl, p0.c.wh, p0.c.ph, p0.t.n, p0.t.a, p0.t.b, p0.t.lo, p0.t.hi, p0.t.ph], [p0.st], [r0, r1, r2], [], Φ⟩
def Inv0 (v : Val) : Prop := ∃ now idx S src p0 r0 r1 r2, v = Wa now idx S src p0 r0 r1 r2 ∧ Com 1 S src now r1 ∧ (One 1 S src now r1 0 p0) ∧ (0 ≤ idx ∧ idx ≤ (r0.length : Int)) ∧ (r0.length : Int) ≤ 200 ∧ now = idx ∧ (r2.length : Int) ≤ now ∧ PotB 1 S src p0 (putMost 1 S src 1)
def Inv1 (v : Val) : Prop := ∃ now n S src p0 r0 r1 r2, v = Wa now n S src p0 r0 r1 r2 ∧ Com 1 S src now r1 ∧ (One 1 S src now r1 0 p0) ∧ (0 ≤ n ∧ n ≤ putMost 1 S src 1) ∧ now ≤ 200 + n * 1 ∧ (r2.length : Int) ≤ now ∧ PotB 1 S src p0 (putMost 1 S src 1 - n)
def Inv2 (v : Val) : Prop := ∃ now n d idx S src p0 r0 r1 r2, v = Wb now n d idx S src p0 r0 r1 r2 ∧ d = 1 ∧ Com 1 S src now r1 ∧ (One 1 S src now r1 0 p0) ∧ (0 ≤ n ∧ n < putMost 1 S src 1) ∧ (0 ≤ idx ∧ idx ≤ 1) ∧ now ≤ 200 + n * 1 + idx ∧ (r2.length : Int) ≤ now ∧ (PotB 1 S src p0 (putMost 1 S src 1 - n)) ∧ ((0 < idx → PotB 1 S src p0 (putMost 1 S src 1 - n - 1)))
def Inv3 (v : Val) : Prop := ∃ x y now S src p0 r0 r1 r2, v = Wa x y S src p0 r0 r1 r2 ∧ x = 1 ∧ Com 1 S src now r1 ∧ (One 1 S src now r1 0 p0) ∧ (0 ≤ y ∧ y ≤ 1) ∧ now ≤ 500 ∧ (r2.length : Int) ≤ now ∧ ¬ p0.ph = 0
def Inv (k : Nat) (v : Val) : Prop := (k = 0 ∧ Inv0 v) ∨ (k = 1 ∧ Inv1 v) ∨ (k = 2 ∧ Inv2 v) ∨ (k = 3 ∧ Inv3 v)
theorem inv0 {v : Val} (h : Inv 0 v) : Inv0 v := by rcases h with ⟨_, h⟩ | ⟨h, _⟩ | ⟨h, _⟩ | ⟨h, _⟩ <;> first | exact h | cases h
theorem inv1 {v : Val} (h : Inv 1 v) : Inv1 v := by rcases h with ⟨h, _⟩ | ⟨_, h⟩ | ⟨h, _⟩ | ⟨h, _⟩ <;> first | exact h | cases h
theorem inv2 {v : Val} (h : Inv 2 v) : Inv2 v := by rcases h with ⟨h, _⟩ | ⟨h, _⟩ | ⟨_, h⟩ | ⟨h, _⟩ <;> first | exact h | cases h
theorem inv3 {v : Val} (h : Inv 3 v) : Inv3 v := by rcases h with ⟨h, _⟩ | ⟨h, _⟩ | ⟨h, _⟩ | ⟨_, h⟩ <;> first | exact h | cases h
def μ (q : Nat × Val) : Nat × Nat := match q.1 with
  | 0 => (1000, (300 - nth 0 q.2.i 1).toNat)
  | 1 => ((300 - 2 * nth 0 q.2.i 1).toNat, 0)
  | 2 => ((299 - 2 * nth 0 q.2.i 1).toNat, (10 - nth 0 q.2.i 3).toNat)
  | _ => (0, (10 - nth 0 q.2.i 1).toNat)
theorem hΦ : ∀ k v, Inv k v → v.f = Φ := by
  rintro k v (⟨_, ⟨now, idx, S, src, p0, r0, r1, r2, rfl, hC, h0, g1, g2, g3, g4, q0⟩⟩ | ⟨_, ⟨now, n, S, src, p0, r0, r1, r2, rfl, hC, h0, g1, g2, g3, q0⟩⟩ | ⟨_, ⟨now, n, d, idx, S, src, p0, r0, r1, r2, rfl, hd, hC, h0, g1, g2, g3, g4, q0, i0⟩⟩ | ⟨_, ⟨x, y, now, S, src, p0, r0, r1, r2, rfl, hd, hC, h0, g1, g2, g3, q0⟩⟩) <;> rfl
theorem k0 : ∀ v, Inv 0 v → KV v tm0.kn := by
  intro v hv
  obtain ⟨now, idx, S, src, p0, r0, r1, r2, rfl, hC, h0, g1, g2, g3, g4, q0⟩ := inv0 hv
  have lb := hC.lb; have len := hC.len; have nn := hC.nn
  have hm := most27 (T := 1) (S := S) (src := src) (dl := 1) (who := 0) (by unfold LB; omega) (by decide)
  clear hC q0
  obtain ⟨⟨pc0, pw0, pt0, pp0, pq0, _⟩, ph0, _⟩ := h0
  unfold CB at pc0; unfold CW at pw0; unfold TB at pt0; unfold LH at ph0
  have pw0a := pw0.1; have pw0b := pw0.2.1
  have pt0a : 0 ≤ p0.t.n ∧ p0.t.n ≤ 200 ∧ 0 ≤ p0.t.a ∧ p0.t.a ≤ 16777215 ∧ 0 ≤ p0.t.b ∧ p0.t.b ≤ 16777215 ∧ 0 ≤ p0.t.ph ∧ p0.t.ph ≤ 2 := by omega
  clear pw0 pt0
  unfold tm0 KV Wa
  simp only [List.forall_mem_cons, d_vi, d_vb, d_vr, d_ci, d_cb, d_nr, d_nl, d_add, d_sub, d_mul, d_rem, d_quo, d_bit, d_mn, d_mx, d_w, d_nn, d_bn, d_len, d_neg, d_at0, d_at1, d_at2, d_at3, d_at4, d_at5, d_at6, d_at7, d_set, d_app, d_cat, d_take, d_drop, d_rep, d_cons, d_lt_t, d_lt_f, d_le_t, d_le_f, d_eqi_t, d_eqi_f, d_eqb_t, d_eqb_f, d_nb_t, d_nb_f, nth0, nthS, d_api, d_apr, D_cons, D_nl, D_nr, D_vr, D_set, mkL_l, mkR_r, mkI_i, d_apb, mkB_b]
  simp only [List.not_mem_nil, false_imp_iff, implies_true, and_true]
  omega
theorem k1 : ∀ v, Inv 1 v → KV v tm1.kn := by
  intro v hv
  obtain ⟨now, n, S, src, p0, r0, r1, r2, rfl, hC, h0, g1, g2, g3, q0⟩ := inv1 hv
  have lb := hC.lb; have len := hC.len; have nn := hC.nn
  have hm := most27 (T := 1) (S := S) (src := src) (dl := 1) (who := 0) (by unfold LB; omega) (by decide)
  clear hC q0
  obtain ⟨⟨pc0, pw0, pt0, pp0, pq0, _⟩, ph0, _⟩ := h0
  unfold CB at pc0; unfold CW at pw0; unfold TB at pt0; unfold LH at ph0
  have pw0a := pw0.1; have pw0b := pw0.2.1
  have pt0a : 0 ≤ p0.t.n ∧ p0.t.n ≤ 200 ∧ 0 ≤ p0.t.a ∧ p0.t.a ≤ 16777215 ∧ 0 ≤ p0.t.b ∧ p0.t.b ≤ 16777215 ∧ 0 ≤ p0.t.ph ∧ p0.t.ph ≤ 2 := by omega
  clear pw0 pt0
  unfold tm1 KV Wa
  simp only [List.forall_mem_cons, d_vi, d_vb, d_vr, d_ci, d_cb, d_nr, d_nl, d_add, d_sub, d_mul, d_rem, d_quo, d_bit, d_mn, d_mx, d_w, d_nn, d_bn, d_len, d_neg, d_at0, d_at1, d_at2, d_at3, d_at4, d_at5, d_at6, d_at7, d_set, d_app, d_cat, d_take, d_drop, d_rep, d_cons, d_lt_t, d_lt_f, d_le_t, d_le_f, d_eqi_t, d_eqi_f, d_eqb_t, d_eqb_f, d_nb_t, d_nb_f, nth0, nthS, d_api, d_apr, D_cons, D_nl, D_nr, D_vr, D_set, mkL_l, mkR_r, mkI_i, d_apb, mkB_b]
  simp only [List.not_mem_nil, false_imp_iff, implies_true, and_true]
  omega
theorem k2 : ∀ v, Inv 2 v → KV v tm2.kn := by
  intro v hv
  obtain ⟨now, n, d, idx, S, src, p0, r0, r1, r2, rfl, hd, hC, h0, g1, g2, g3, g4, q0, i0⟩ := inv2 hv
  have lb := hC.lb; have len := hC.len; have nn := hC.nn
  have hm := most27 (T := 1) (S := S) (src := src) (dl := 1) (who := 0) (by unfold LB; omega) (by decide)
  clear hC q0 i0
  obtain ⟨⟨pc0, pw0, pt0, pp0, pq0, _⟩, ph0, _⟩ := h0
  unfold CB at pc0; unfold CW at pw0; unfold TB at pt0; unfold LH at ph0
  have pw0a := pw0.1; have pw0b := pw0.2.1
  have pt0a : 0 ≤ p0.t.n ∧ p0.t.n ≤ 200 ∧ 0 ≤ p0.t.a ∧ p0.t.a ≤ 16777215 ∧ 0 ≤ p0.t.b ∧ p0.t.b ≤ 16777215 ∧ 0 ≤ p0.t.ph ∧ p0.t.ph ≤ 2 := by omega
  clear pw0 pt0
  unfold tm2 KV Wb
  simp only [List.forall_mem_cons, d_vi, d_vb, d_vr, d_ci, d_cb, d_nr, d_nl, d_add, d_sub, d_mul, d_rem, d_quo, d_bit, d_mn, d_mx, d_w, d_nn, d_bn, d_len, d_neg, d_at0, d_at1, d_at2, d_at3, d_at4, d_at5, d_at6, d_at7, d_set, d_app, d_cat, d_take, d_drop, d_rep, d_cons, d_lt_t, d_lt_f, d_le_t, d_le_f, d_eqi_t, d_eqi_f, d_eqb_t, d_eqb_f, d_nb_t, d_nb_f, nth0, nthS, d_api, d_apr, D_cons, D_nl, D_nr, D_vr, D_set, mkL_l, mkR_r, mkI_i, d_apb, mkB_b]
  simp only [List.not_mem_nil, false_imp_iff, implies_true, and_true]
  omega
theorem k3 : ∀ v, Inv 3 v → KV v tm3.kn := by
  intro v hv
  obtain ⟨x, y, now, S, src, p0, r0, r1, r2, rfl, hd, hC, h0, g1, g2, g3, q0⟩ := inv3 hv
  have lb := hC.lb; have len := hC.len; have nn := hC.nn
  have hm := most27 (T := 1) (S := S) (src := src) (dl := 1) (who := 0) (by unfold LB; omega) (by decide)
  clear hC q0
  obtain ⟨⟨pc0, pw0, pt0, pp0, pq0, _⟩, ph0, _⟩ := h0
  unfold CB at pc0; unfold CW at pw0; unfold TB at pt0; unfold LH at ph0
  have pw0a := pw0.1; have pw0b := pw0.2.1
  have pt0a : 0 ≤ p0.t.n ∧ p0.t.n ≤ 200 ∧ 0 ≤ p0.t.a ∧ p0.t.a ≤ 16777215 ∧ 0 ≤ p0.t.b ∧ p0.t.b ≤ 16777215 ∧ 0 ≤ p0.t.ph ∧ p0.t.ph ≤ 2 := by omega
  clear pw0 pt0
  unfold tm3 KV Wa
  simp only [List.forall_mem_cons, d_vi, d_vb, d_vr, d_ci, d_cb, d_nr, d_nl, d_add, d_sub, d_mul, d_rem, d_quo, d_bit, d_mn, d_mx, d_w, d_nn, d_bn, d_len, d_neg, d_at0, d_at1, d_at2, d_at3, d_at4, d_at5, d_at6, d_at7, d_set, d_app, d_cat, d_take, d_drop, d_rep, d_cons, d_lt_t, d_lt_f, d_le_t, d_le_f, d_eqi_t, d_eqi_f, d_eqb_t, d_eqb_f, d_nb_t, d_nb_f, nth0, nthS, d_api, d_apr, D_cons, D_nl, D_nr, D_vr, D_set, mkL_l, mkR_r, mkI_i, d_apb, mkB_b]
  simp only [List.not_mem_nil, false_imp_iff, implies_true, and_true]
  omega
theorem s0 : ∀ v, Inv 0 v → TOK v (fun _ g => LgOK v (fun q u => Inv q u ∧ lt2 μ (q, u) (0, v)) g) tr0 := by
  intro v hv
  obtain ⟨now, idx, S, src, p0, r0, r1, r2, rfl, hC, h0, g1, g2, g3, g4, q0⟩ := inv0 hv
  have lb := hC.lb; have nn := hC.nn
  have K0 := many_step (w := 0) hC (by decide) (by decide) (by omega) h0
  rw [show (100 : Int) + 0 = 100 from rfl] at K0
  have out0 : idx < (r0.length : Int) → ∀ q' l' : Row, q' = ((putT 1 S src 1 0 1 100 r1 now p0).row r1) → (l'.length : Int) ≤ now + 1 → Inv 0 (Wa (now + 1) (idx + 1) S src (putStep 1 S src 1 0 r1 now p0) r0 q' l') := fun z q' l' e0 e1 => by
    subst e0
    exact .inl ⟨rfl, now + 1, idx + 1, S, src, _, r0, _, l', rfl, K0.com, K0.own, by omega, g2, by omega, e1, (K0.pot _ q0).mono (by omega)⟩
  have dec : ∀ x : Val, idx < (r0.length : Int) → nth 0 x.i 1 = idx + 1 → True = True → lt2 μ (0, x) (0, Wa now idx S src p0 r0 r1 r2) := fun x z e _ => .inr ⟨rfl, by
    show (300 - nth 0 x.i 1).toNat < (300 - idx).toNat
    omega⟩
  unfold tr0
  refine TOK.br' (fun hi => ?_) (fun hi => ?_) <;> simp only [Wa, d_vi, d_vb, d_vr, d_ci, d_cb, d_nr, d_nl, d_add, d_sub, d_mul, d_rem, d_quo, d_bit, d_mn2, d_mx2, d_w, d_nn, d_bn2, d_len, d_neg, d_cl, d_at1, d_at2, d_at3, d_at4, d_at5, d_at6, d_at7, d_set, d_app, d_cat, d_take, d_drop, d_rep, d_cons, d_lt_t, d_lt_f, d_le_t, d_le_f, d_eqi_t, d_eqi_f, d_eqb_t, d_eqb_f, d_nb_t, d_nb_f, nth0, nthS, d_api, d_apr, D_cons, D_nl, D_nr, D_vr, D_set, mkL_l, mkR_r, mkI_i, d_shr2, d_shr3, d_shr16, d_shr40, d_shl2, d_shl3, d_shl16, d_shl40, d_apb, mkB_b] at hi
  · refine TOK.br' (fun hc => ?_) (fun hc => ?_) <;> simp only [Wa, d_vi, d_vb, d_vr, d_ci, d_cb, d_nr, d_nl, d_add, d_sub, d_mul, d_rem, d_quo, d_bit, d_mn2, d_mx2, d_w, d_nn, d_bn2, d_len, d_neg, d_cl, d_at1, d_at2, d_at3, d_at4, d_at5, d_at6, d_at7, d_set, d_app, d_cat, d_take, d_drop, d_rep, d_cons, d_lt_t, d_lt_f, d_le_t, d_le_f, d_eqi_t, d_eqi_f, d_eqb_t, d_eqb_f, d_nb_t, d_nb_f, nth0, nthS, d_api, d_apr, D_cons, D_nl, D_nr, D_vr, D_set, mkL_l, mkR_r, mkI_i, d_shr2, d_shr3, d_shr16, d_shr40, d_shl2, d_shl3, d_shl16, d_shl40, d_apb, mkB_b, Φ100, Φ101, Φ102, Φ103, Φ104, Φ105, Φ106, Φ107, Φ108, Φ200, Φ201, Φ202, Φ203, Φ204, Φ205, Φ206, Φ207, Φ208, Φ209, Φ0, Φ1, Φ10, Φ300, Φ301, Φ302, Φ303, Φ304, Φ305, Φ306, Φ307, Φ308, Φ309, Φ310, Φ311, Φ312, Φ313, Φ314, Φ315, Φ316, Φ317, Φ318, Φ319, Φ20, Φ11, Φ30, Φ31, Φ32, Φ400, Φ401, Φ402, Φ403, Φ404, Φ405, Φ406, Φ407, pst, b2i_dec] at hc <;> refine TOK.leaf' ?_
    · refine And.intro (?_ : Inv 0 _) (?_ : lt2 μ (0, _) _) <;> simp (disch := omega) only [Wa, Sb.val, List.map_cons, List.map_nil, d_vi, d_vb, d_vr, d_ci, d_cb, d_nr, d_nl, d_add, d_sub, d_mul, d_rem, d_quo, d_bit, d_mn2, d_mx2, d_w, d_nn, d_bn2, d_len, d_neg, d_cl, d_at1, d_at2, d_at3, d_at4, d_at5, d_at6, d_at7, d_set, d_app, d_cat, d_take, d_drop, d_rep, d_cons, d_lt_t, d_lt_f, d_le_t, d_le_f, d_eqi_t, d_eqi_f, d_eqb_t, d_eqb_f, d_nb_t, d_nb_f, nth0, nthS, d_api, d_apr, D_cons, D_nl, D_nr, D_vr, D_set, mkL_l, mkR_r, mkI_i, d_shr2, d_shr3, d_shr16, d_shr40, d_shl2, d_shl3, d_shl16, d_shl40, d_apb, mkB_b, Φ100, Φ101, Φ102, Φ103, Φ104, Φ105, Φ106, Φ107, Φ108, Φ200, Φ201, Φ202, Φ203, Φ204, Φ205, Φ206, Φ207, Φ208, Φ209, Φ0, Φ1, Φ10, Φ300, Φ301, Φ302, Φ303, Φ304, Φ305, Φ306, Φ307, Φ308, Φ309, Φ310, Φ311, Φ312, Φ313, Φ314, Φ315, Φ316, Φ317, Φ318, Φ319, Φ20, Φ11, Φ30, Φ31, Φ32, Φ400, Φ401, Φ402, Φ403, Φ404, Φ405, Φ406, Φ407, pst, b2i_dec, w64]
      · exact out0 hi r1 r2 (by unfold Tch.row; rw [if_pos hc]) (by omega)
      · exact dec _ hi rfl rfl
    · refine And.intro (?_ : Inv 0 _) (?_ : lt2 μ (0, _) _) <;> simp (disch := omega) only [Wa, Sb.val, List.map_cons, List.map_nil, d_vi, d_vb, d_vr, d_ci, d_cb, d_nr, d_nl, d_add, d_sub, d_mul, d_rem, d_quo, d_bit, d_mn2, d_mx2, d_w, d_nn, d_bn2, d_len, d_neg, d_cl, d_at1, d_at2, d_at3, d_at4, d_at5, d_at6, d_at7, d_set, d_app, d_cat, d_take, d_drop, d_rep, d_cons, d_lt_t, d_lt_f, d_le_t, d_le_f, d_eqi_t, d_eqi_f, d_eqb_t, d_eqb_f, d_nb_t, d_nb_f, nth0, nthS, d_api, d_apr, D_cons, D_nl, D_nr, D_vr, D_set, mkL_l, mkR_r, mkI_i, d_shr2, d_shr3, d_shr16, d_shr40, d_shl2, d_shl3, d_shl16, d_shl40, d_apb, mkB_b, Φ100, Φ101, Φ102, Φ103, Φ104, Φ105, Φ106, Φ107, Φ108, Φ200, Φ201, Φ202, Φ203, Φ204, Φ205, Φ206, Φ207, Φ208, Φ209, Φ0, Φ1, Φ10, Φ300, Φ301, Φ302, Φ303, Φ304, Φ305, Φ306, Φ307, Φ308, Φ309, Φ310, Φ311, Φ312, Φ313, Φ314, Φ315, Φ316, Φ317, Φ318, Φ319, Φ20, Φ11, Φ30, Φ31, Φ32, Φ400, Φ401, Φ402, Φ403, Φ404, Φ405, Φ406, Φ407, pst, b2i_dec, w64]
      · exact out0 hi _ _ (by unfold Tch.row; rw [if_neg (Int.not_lt.mpr hc)]) (by rw [List.length_append, List.length_singleton]; omega)
      · exact dec _ hi rfl rfl
  · refine TOK.leaf' ?_
    refine And.intro (?_ : Inv 1 _) (?_ : lt2 μ (1, _) _) <;> simp only [Wa, Sb.val, List.map_cons, List.map_nil, d_vi, d_vb, d_vr, d_ci, d_cb, d_nr, d_nl, d_add, d_sub, d_mul, d_rem, d_quo, d_bit, d_mn2, d_mx2, d_w, d_nn, d_bn2, d_len, d_neg, d_cl, d_at1, d_at2, d_at3, d_at4, d_at5, d_at6, d_at7, d_set, d_app, d_cat, d_take, d_drop, d_rep, d_cons, d_lt_t, d_lt_f, d_le_t, d_le_f, d_eqi_t, d_eqi_f, d_eqb_t, d_eqb_f, d_nb_t, d_nb_f, nth0, nthS, d_api, d_apr, D_cons, D_nl, D_nr, D_vr, D_set, mkL_l, mkR_r, mkI_i, d_shr2, d_shr3, d_shr16, d_shr40, d_shl2, d_shl3, d_shl16, d_shl40, d_apb, mkB_b]
    · exact .inr (.inl ⟨rfl, now, 0, S, src, p0, r0, r1, r2, rfl, hC, h0, by have := most27 (T := 1) (S := S) (src := src) (dl := 1) (who := 0) (by unfold LB; omega) (by decide); omega, by omega, g4, q0.mono (by omega)⟩)
    · exact .inl (by show (300 - 2 * (0 : Int)).toNat < 1000; decide)
theorem s1 : ∀ v, Inv 1 v → TOK v (fun _ g => LgOK v (fun q u => Inv q u ∧ lt2 μ (q, u) (1, v)) g) tr1 := by
  intro v hv
  obtain ⟨now, n, S, src, p0, r0, r1, r2, rfl, hC, h0, g1, g2, g3, q0⟩ := inv1 hv
  have lb := hC.lb
  have hm := most27 (T := 1) (S := S) (src := src) (dl := 1) (who := 0) (by unfold LB; omega) (by decide)
  unfold tr1
  refine TOK.br' (fun hi => ?_) (fun hi => ?_) <;> simp only [Wa, d_vi, d_vb, d_vr, d_ci, d_cb, d_nr, d_nl, d_add, d_sub, d_mul, d_rem, d_quo, d_bit, d_mn2, d_mx2, d_w, d_nn, d_bn2, d_len, d_neg, d_cl, d_at1, d_at2, d_at3, d_at4, d_at5, d_at6, d_at7, d_set, d_app, d_cat, d_take, d_drop, d_rep, d_cons, d_lt_t, d_lt_f, d_le_t, d_le_f, d_eqi_t, d_eqi_f, d_eqb_t, d_eqb_f, d_nb_t, d_nb_f, nth0, nthS, d_api, d_apr, D_cons, D_nl, D_nr, D_vr, D_set, mkL_l, mkR_r, mkI_i, d_shr2, d_shr3, d_shr16, d_shr40, d_shl2, d_shl3, d_shl16, d_shl40, d_apb, mkB_b, Φ100, Φ101, Φ102, Φ103, Φ104, Φ105, Φ106, Φ107, Φ108, Φ200, Φ201, Φ202, Φ203, Φ204, Φ205, Φ206, Φ207, Φ208, Φ209, Φ0, Φ1, Φ10, Φ300, Φ301, Φ302, Φ303, Φ304, Φ305, Φ306, Φ307, Φ308, Φ309, Φ310, Φ311, Φ312, Φ313, Φ314, Φ315, Φ316, Φ317, Φ318, Φ319, Φ20, Φ11, Φ30, Φ31, Φ32, Φ400, Φ401, Φ402, Φ403, Φ404, Φ405, Φ406, Φ407] at hi <;> refine TOK.leaf' ?_
  · refine And.intro (?_ : Inv 2 _) (?_ : lt2 μ (2, _) _) <;> simp only [Wa, Sb.val, List.map_cons, List.map_nil, d_vi, d_vb, d_vr, d_ci, d_cb, d_nr, d_nl, d_add, d_sub, d_mul, d_rem, d_quo, d_bit, d_mn2, d_mx2, d_w, d_nn, d_bn2, d_len, d_neg, d_cl, d_at1, d_at2, d_at3, d_at4, d_at5, d_at6, d_at7, d_set, d_app, d_cat, d_take, d_drop, d_rep, d_cons, d_lt_t, d_lt_f, d_le_t, d_le_f, d_eqi_t, d_eqi_f, d_eqb_t, d_eqb_f, d_nb_t, d_nb_f, nth0, nthS, d_api, d_apr, D_cons, D_nl, D_nr, D_vr, D_set, mkL_l, mkR_r, mkI_i, d_shr2, d_shr3, d_shr16, d_shr40, d_shl2, d_shl3, d_shl16, d_shl40, d_apb, mkB_b]
    · exact .inr (.inr (.inl ⟨rfl, now, n, 1, 0, S, src, p0, r0, r1, r2, rfl, rfl, hC, h0, by omega, by decide, by omega, g3, q0, fun z => by omega⟩))
    · exact .inl (by show (299 - 2 * n).toNat < (300 - 2 * n).toNat; omega)
  · refine And.intro (?_ : Inv 3 _) (?_ : lt2 μ (3, _) _) <;> simp only [Wa, Sb.val, List.map_cons, List.map_nil, d_vi, d_vb, d_vr, d_ci, d_cb, d_nr, d_nl, d_add, d_sub, d_mul, d_rem, d_quo, d_bit, d_mn2, d_mx2, d_w, d_nn, d_bn2, d_len, d_neg, d_cl, d_at1, d_at2, d_at3, d_at4, d_at5, d_at6, d_at7, d_set, d_app, d_cat, d_take, d_drop, d_rep, d_cons, d_lt_t, d_lt_f, d_le_t, d_le_f, d_eqi_t, d_eqi_f, d_eqb_t, d_eqb_f, d_nb_t, d_nb_f, nth0, nthS, d_api, d_apr, D_cons, D_nl, D_nr, D_vr, D_set, mkL_l, mkR_r, mkI_i, d_shr2, d_shr3, d_shr16, d_shr40, d_shl2, d_shl3, d_shl16, d_shl40, d_apb, mkB_b]
    · exact .inr (.inr (.inr ⟨rfl, 1, 0, now, S, src, p0, r0, r1, r2, rfl, rfl, hC, h0, by decide, by omega, by omega, fun z => by have z1 := q0 z; have z2 := (ppot_nn (who := 0) (by unfold LB; omega) h0.1).2 z; omega⟩))
    · exact .inl (by show 0 < (300 - 2 * n).toNat; omega)
theorem s2 : ∀ v, Inv 2 v → TOK v (fun _ g => LgOK v (fun q u => Inv q u ∧ lt2 μ (q, u) (2, v)) g) tr2 := by
  intro v hv
  obtain ⟨now, n, d, idx, S, src, p0, r0, r1, r2, rfl, hd, hC, h0, g1, g2, g3, g4, q0, i0⟩ := inv2 hv
  subst hd
  have lb := hC.lb; have nn := hC.nn
  have hm := most27 (T := 1) (S := S) (src := src) (dl := 1) (who := 0) (by unfold LB; omega) (by decide)
  have K0 := many_step (w := 0) hC (by decide) (by decide) (by omega) h0
  rw [show (100 : Int) + 0 = 100 from rfl] at K0
  have out0 : idx = 0 → ∀ q' l' : Row, q' = ((putT 1 S src 1 0 1 100 r1 now p0).row r1) → (l'.length : Int) ≤ now + 1 → Inv 2 (Wb (now + 1) n 1 (idx + 1) S src (putStep 1 S src 1 0 r1 now p0) r0 q' l') := fun z q' l' e0 e1 => by
    subst e0
    exact .inr (.inr (.inl ⟨rfl, now + 1, n, 1, idx + 1, S, src, _, r0, _, l', rfl, rfl, K0.com, K0.own, g1, by omega, by omega, e1, (K0.pot _ q0).mono (by omega), fun _ => (K0.pot _ q0).mono (by omega)⟩))
  have dec : ∀ x : Val, ∀ {j : Int}, idx = j → j < 1 → nth 0 x.i 3 = idx + 1 → nth 0 x.i 1 = n → lt2 μ (2, x) (2, Wb now n 1 idx S src p0 r0 r1 r2) := fun x j z z2 e e2 => .inr ⟨by show (299 - 2 * nth 0 x.i 1).toNat = (299 - 2 * n).toNat; rw [e2], by
    show (10 - nth 0 x.i 3).toNat < (10 - idx).toNat
    omega⟩
  unfold tr2
  refine TOK.br' (fun hi => ?_) (fun hi => ?_) <;> simp only [Wb, d_vi, d_vb, d_vr, d_ci, d_cb, d_nr, d_nl, d_add, d_sub, d_mul, d_rem, d_quo, d_bit, d_mn2, d_mx2, d_w, d_nn, d_bn2, d_len, d_neg, d_cl, d_at1, d_at2, d_at3, d_at4, d_at5, d_at6, d_at7, d_set, d_app, d_cat, d_take, d_drop, d_rep, d_cons, d_lt_t, d_lt_f, d_le_t, d_le_f, d_eqi_t, d_eqi_f, d_eqb_t, d_eqb_f, d_nb_t, d_nb_f, nth0, nthS, d_api, d_apr, D_cons, D_nl, D_nr, D_vr, D_set, mkL_l, mkR_r, mkI_i, d_shr2, d_shr3, d_shr16, d_shr40, d_shl2, d_shl3, d_shl16, d_shl40, d_apb, mkB_b] at hi
  · refine TOK.need' (by simp only [Wb, d_vi, d_vb, d_vr, d_ci, d_cb, d_nr, d_nl, d_add, d_sub, d_mul, d_rem, d_quo, d_bit, d_mn2, d_mx2, d_w, d_nn, d_bn2, d_len, d_neg, d_cl, d_at1, d_at2, d_at3, d_at4, d_at5, d_at6, d_at7, d_set, d_app, d_cat, d_take, d_drop, d_rep, d_cons, d_lt_t, d_lt_f, d_le_t, d_le_f, d_eqi_t, d_eqi_f, d_eqb_t, d_eqb_f, d_nb_t, d_nb_f, nth0, nthS, d_api, d_apr, D_cons, D_nl, D_nr, D_vr, D_set, mkL_l, mkR_r, mkI_i, d_shr2, d_shr3, d_shr16, d_shr40, d_shl2, d_shl3, d_shl16, d_shl40, d_apb, mkB_b]; omega) ?_
    have hx0 : idx = 0 := by omega
    refine TOK.br' (fun hc => ?_) (fun hc => ?_) <;> simp only [Wb, d_vi, d_vb, d_vr, d_ci, d_cb, d_nr, d_nl, d_add, d_sub, d_mul, d_rem, d_quo, d_bit, d_mn2, d_mx2, d_w, d_nn, d_bn2, d_len, d_neg, d_cl, d_at1, d_at2, d_at3, d_at4, d_at5, d_at6, d_at7, d_set, d_app, d_cat, d_take, d_drop, d_rep, d_cons, d_lt_t, d_lt_f, d_le_t, d_le_f, d_eqi_t, d_eqi_f, d_eqb_t, d_eqb_f, d_nb_t, d_nb_f, nth0, nthS, d_api, d_apr, D_cons, D_nl, D_nr, D_vr, D_set, mkL_l, mkR_r, mkI_i, d_shr2, d_shr3, d_shr16, d_shr40, d_shl2, d_shl3, d_shl16, d_shl40, d_apb, mkB_b, Φ100, Φ101, Φ102, Φ103, Φ104, Φ105, Φ106, Φ107, Φ108, Φ200, Φ201, Φ202, Φ203, Φ204, Φ205, Φ206, Φ207, Φ208, Φ209, Φ0, Φ1, Φ10, Φ300, Φ301, Φ302, Φ303, Φ304, Φ305, Φ306, Φ307, Φ308, Φ309, Φ310, Φ311, Φ312, Φ313, Φ314, Φ315, Φ316, Φ317, Φ318, Φ319, Φ20, Φ11, Φ30, Φ31, Φ32, Φ400, Φ401, Φ402, Φ403, Φ404, Φ405, Φ406, Φ407, pst, b2i_dec] at hc <;> refine TOK.leaf' ?_
    · refine And.intro (?_ : Inv 2 _) (?_ : lt2 μ (2, _) _) <;> simp (disch := omega) only [Wb, Sb.val, List.map_cons, List.map_nil, d_vi, d_vb, d_vr, d_ci, d_cb, d_nr, d_nl, d_add, d_sub, d_mul, d_rem, d_quo, d_bit, d_mn2, d_mx2, d_w, d_nn, d_bn2, d_len, d_neg, d_cl, d_at1, d_at2, d_at3, d_at4, d_at5, d_at6, d_at7, d_set, d_app, d_cat, d_take, d_drop, d_rep, d_cons, d_lt_t, d_lt_f, d_le_t, d_le_f, d_eqi_t, d_eqi_f, d_eqb_t, d_eqb_f, d_nb_t, d_nb_f, nth0, nthS, d_api, d_apr, D_cons, D_nl, D_nr, D_vr, D_set, mkL_l, mkR_r, mkI_i, d_shr2, d_shr3, d_shr16, d_shr40, d_shl2, d_shl3, d_shl16, d_shl40, d_apb, mkB_b, Φ100, Φ101, Φ102, Φ103, Φ104, Φ105, Φ106, Φ107, Φ108, Φ200, Φ201, Φ202, Φ203, Φ204, Φ205, Φ206, Φ207, Φ208, Φ209, Φ0, Φ1, Φ10, Φ300, Φ301, Φ302, Φ303, Φ304, Φ305, Φ306, Φ307, Φ308, Φ309, Φ310, Φ311, Φ312, Φ313, Φ314, Φ315, Φ316, Φ317, Φ318, Φ319, Φ20, Φ11, Φ30, Φ31, Φ32, Φ400, Φ401, Φ402, Φ403, Φ404, Φ405, Φ406, Φ407, pst, b2i_dec, w64]
      · exact out0 hx0 r1 r2 (by unfold Tch.row; rw [if_pos hc]) (by omega)
      · exact dec _ hx0 (by decide) rfl rfl
    · refine And.intro (?_ : Inv 2 _) (?_ : lt2 μ (2, _) _) <;> simp (disch := omega) only [Wb, Sb.val, List.map_cons, List.map_nil, d_vi, d_vb, d_vr, d_ci, d_cb, d_nr, d_nl, d_add, d_sub, d_mul, d_rem, d_quo, d_bit, d_mn2, d_mx2, d_w, d_nn, d_bn2, d_len, d_neg, d_cl, d_at1, d_at2, d_at3, d_at4, d_at5, d_at6, d_at7, d_set, d_app, d_cat, d_take, d_drop, d_rep, d_cons, d_lt_t, d_lt_f, d_le_t, d_le_f, d_eqi_t, d_eqi_f, d_eqb_t, d_eqb_f, d_nb_t, d_nb_f, nth0, nthS, d_api, d_apr, D_cons, D_nl, D_nr, D_vr, D_set, mkL_l, mkR_r, mkI_i, d_shr2, d_shr3, d_shr16, d_shr40, d_shl2, d_shl3, d_shl16, d_shl40, d_apb, mkB_b, Φ100, Φ101, Φ102, Φ103, Φ104, Φ105, Φ106, Φ107, Φ108, Φ200, Φ201, Φ202, Φ203, Φ204, Φ205, Φ206, Φ207, Φ208, Φ209, Φ0, Φ1, Φ10, Φ300, Φ301, Φ302, Φ303, Φ304, Φ305, Φ306, Φ307, Φ308, Φ309, Φ310, Φ311, Φ312, Φ313, Φ314, Φ315, Φ316, Φ317, Φ318, Φ319, Φ20, Φ11, Φ30, Φ31, Φ32, Φ400, Φ401, Φ402, Φ403, Φ404, Φ405, Φ406, Φ407, pst, b2i_dec, w64]
      · exact out0 hx0 _ _ (by unfold Tch.row; rw [if_neg (Int.not_lt.mpr hc)]) (by rw [List.length_append, List.length_singleton]; omega)
      · exact dec _ hx0 (by decide) rfl rfl
  · refine TOK.leaf' ?_
    refine And.intro (?_ : Inv 1 _) (?_ : lt2 μ (1, _) _) <;> simp (disch := omega) only [Wb, Sb.val, List.map_cons, List.map_nil, d_vi, d_vb, d_vr, d_ci, d_cb, d_nr, d_nl, d_add, d_sub, d_mul, d_rem, d_quo, d_bit, d_mn2, d_mx2, d_w, d_nn, d_bn2, d_len, d_neg, d_cl, d_at1, d_at2, d_at3, d_at4, d_at5, d_at6, d_at7, d_set, d_app, d_cat, d_take, d_drop, d_rep, d_cons, d_lt_t, d_lt_f, d_le_t, d_le_f, d_eqi_t, d_eqi_f, d_eqb_t, d_eqb_f, d_nb_t, d_nb_f, nth0, nthS, d_api, d_apr, D_cons, D_nl, D_nr, D_vr, D_set, mkL_l, mkR_r, mkI_i, d_shr2, d_shr3, d_shr16, d_shr40, d_shl2, d_shl3, d_shl16, d_shl40, d_apb, mkB_b, w64]
    · exact .inr (.inl ⟨rfl, now, n + 1, S, src, p0, r0, r1, r2, rfl, hC, h0, by omega, by omega, g4, (i0 (by omega)).mono (by omega)⟩)
    · exact .inl (by show (300 - 2 * (n + 1)).toNat < (299 - 2 * n).toNat; omega)
theorem s3 : ∀ v, Inv 3 v → TOK v (fun _ g => LgOK v (fun q u => Inv q u ∧ lt2 μ (q, u) (3, v)) g) tr3 := by
  intro v hv
  obtain ⟨x, y, now, S, src, p0, r0, r1, r2, rfl, hd, hC, h0, g1, g2, g3, q0⟩ := inv3 hv
  subst hd
  have lb := hC.lb
  have nxt : y < 1 → Inv 3 (Wa 1 (y + 1) S src p0 r0 r1 r2) ∧ lt2 μ (3, Wa 1 (y + 1) S src p0 r0 r1 r2) (3, Wa 1 y S src p0 r0 r1 r2) := fun z => ⟨.inr (.inr (.inr ⟨rfl, 1, y + 1, now, S, src, p0, r0, r1, r2, rfl, rfl, hC, h0, by omega, g2, g3, q0⟩)), .inr ⟨rfl, by show (10 - (y + 1)).toNat < (10 - y).toNat; omega⟩⟩
  obtain ⟨a0, b0, c0, d0, e0, f0, l0, m0⟩ := one_end (w := 0) hC (by decide) (by decide) h0 q0
  have d0' : cl r1 (S + (0 * S + p0.c.k)) = 100 := (congrArg (cl r1) (by omega)).trans d0
  have e0' : Go.bits .and .u64 (cl r1 (0 * S + p0.c.k)) 3 = 1 := (congrArg (fun z => wS z) (congrArg (cl r1) (by omega))).trans e0
  have f0' : Go.bits .and .u64 ((cl r1 (0 * S + p0.c.k)).fdiv 4) 1 = 1 := (congrArg (fun z => wE z) (congrArg (cl r1) (by omega))).trans f0
  have l0' : Go.bits .and .u64 ((cl r1 (0 * S + p0.c.k)).fdiv 65536) 16777215 = p0.t.lo := (congrArg (fun z => wL z) (congrArg (cl r1) (by omega))).trans l0
  have m0' : Go.bits .and .u64 ((cl r1 (0 * S + p0.c.k)).fdiv 1099511627776) 16777215 = p0.t.hi := (congrArg (fun z => wH z) (congrArg (cl r1) (by omega))).trans m0
  unfold tr3
  refine TOK.br' (fun hi => ?_) (fun hi => ?_) <;> simp only [Wa, d_vi, d_vb, d_vr, d_ci, d_cb, d_nr, d_nl, d_add, d_sub, d_mul, d_rem, d_quo, d_bit, d_mn2, d_mx2, d_w, d_nn, d_bn2, d_len, d_neg, d_cl, d_at1, d_at2, d_at3, d_at4, d_at5, d_at6, d_at7, d_set, d_app, d_cat, d_take, d_drop, d_rep, d_cons, d_lt_t, d_lt_f, d_le_t, d_le_f, d_eqi_t, d_eqi_f, d_eqb_t, d_eqb_f, d_nb_t, d_nb_f, nth0, nthS, d_api, d_apr, D_cons, D_nl, D_nr, D_vr, D_set, mkL_l, mkR_r, mkI_i, d_shr2, d_shr3, d_shr16, d_shr40, d_shl2, d_shl3, d_shl16, d_shl40, d_apb, mkB_b] at hi
  · refine TOK.need' (by simp only [Wa, d_vi, d_vb, d_vr, d_ci, d_cb, d_nr, d_nl, d_add, d_sub, d_mul, d_rem, d_quo, d_bit, d_mn2, d_mx2, d_w, d_nn, d_bn2, d_len, d_neg, d_cl, d_at1, d_at2, d_at3, d_at4, d_at5, d_at6, d_at7, d_set, d_app, d_cat, d_take, d_drop, d_rep, d_cons, d_lt_t, d_lt_f, d_le_t, d_le_f, d_eqi_t, d_eqi_f, d_eqb_t, d_eqb_f, d_nb_t, d_nb_f, nth0, nthS, d_api, d_apr, D_cons, D_nl, D_nr, D_vr, D_set, mkL_l, mkR_r, mkI_i, d_shr2, d_shr3, d_shr16, d_shr40, d_shl2, d_shl3, d_shl16, d_shl40, d_apb, mkB_b]; omega) ?_
    have hy : y = 0 := by omega
    repeat' (first
      | (refine TOK.br' (fun h => ?_) (fun h => ?_) <;> simp only [Wa, d_vi, d_vb, d_vr, d_ci, d_cb, d_nr, d_nl, d_add, d_sub, d_mul, d_rem, d_quo, d_bit, d_mn2, d_mx2, d_w, d_nn, d_bn2, d_len, d_neg, d_cl, d_at1, d_at2, d_at3, d_at4, d_at5, d_at6, d_at7, d_set, d_app, d_cat, d_take, d_drop, d_rep, d_cons, d_lt_t, d_lt_n, d_le_t, d_le_n, d_eqi_t, d_eqi_f, d_eqb_t, d_eqb_f, d_nb_t, d_nb_f, nth0, nthS, d_api, d_apr, D_cons, D_nl, D_nr, D_vr, D_set, mkL_l, mkR_r, mkI_i, d_shr2, d_shr3, d_shr16, d_shr40, d_shl2, d_shl3, d_shl16, d_shl40, d_apb, mkB_b] at h <;> (try rw [hy] at h) <;> (try (exfalso; omega)))
      | (with_reducible refine TOK.leaf' ?_)
      | (with_reducible refine both' ?_ ?_))
    all_goals (show _ ∧ _; exact nxt (by omega))
  · refine TOK.leaf' ?_
    exact rfl
theorem sS (a0 a1 a2 : Int) (l : Row) (h0 : a0 % 4 = 0) : TOK (⟨[a0, a1, a2], [], [l], [], Φ⟩ : Val) (fun _ g => LgOK (⟨[a0, a1, a2], [], [l], [], Φ⟩ : Val) Inv g) trS := by
  unfold trS
  have hU := u64_in a2
  refine TOK.br' (fun h => ?_) (fun h => ?_) <;> simp only [d_vi, d_vb, d_vr, d_ci, d_cb, d_nr, d_nl, d_add, d_sub, d_mul, d_rem, d_quo, d_bit, d_mn2, d_mx2, d_w, d_nn, d_bn2, d_len, d_neg, d_cl, d_at1, d_at2, d_at3, d_at4, d_at5, d_at6, d_at7, d_set, d_app, d_cat, d_take, d_drop, d_rep, d_cons, d_lt_t, d_lt_f, d_le_t, d_le_f, d_eqi_t, d_eqi_f, d_eqb_t, d_eqb_f, d_nb_t, d_nb_f, nth0, nthS, d_api, d_apr, D_cons, D_nl, D_nr, D_vr, D_set, mkL_l, mkR_r, mkI_i, d_shr2, d_shr3, d_shr16, d_shr40, d_shl2, d_shl3, d_shl16, d_shl40, d_apb, mkB_b] at h <;> refine TOK.leaf' ?_
  · exact rfl
  · refine (show Inv 0 _ from ?_)
    simp (disch := omega) only [Sb.val, List.map_cons, List.map_nil, d_vi, d_vb, d_vr, d_ci, d_cb, d_nr, d_nl, d_add, d_sub, d_mul, d_rem, d_quo, d_bit, d_mn2, d_mx2, d_w, d_nn, d_bn2, d_len, d_neg, d_cl, d_at1, d_at2, d_at3, d_at4, d_at5, d_at6, d_at7, d_set, d_app, d_cat, d_take, d_drop, d_rep, d_cons, d_lt_t, d_lt_f, d_le_t, d_le_f, d_eqi_t, d_eqi_f, d_eqb_t, d_eqb_f, d_nb_t, d_nb_f, nth0, nthS, d_api, d_apr, D_cons, D_nl, D_nr, D_vr, D_set, mkL_l, mkR_r, mkI_i, d_shr2, d_shr3, d_shr16, d_shr40, d_shl2, d_shl3, d_shl16, d_shl40, d_apb, mkB_b, Φ100, Φ101, Φ102, Φ103, Φ104, Φ105, Φ106, Φ107, Φ108, Φ200, Φ201, Φ202, Φ203, Φ204, Φ205, Φ206, Φ207, Φ208, Φ209, Φ0, Φ1, Φ10, Φ300, Φ301, Φ302, Φ303, Φ304, Φ305, Φ306, Φ307, Φ308, Φ309, Φ310, Φ311, Φ312, Φ313, Φ314, Φ315, Φ316, Φ317, Φ318, Φ319, Φ20, Φ11, Φ30, Φ31, Φ32, Φ400, Φ401, Φ402, Φ403, Φ404, Φ405, Φ406, Φ407, and3, and65535, tmod_pos]
    have hz : ∀ (n : Nat) (j : Int), cl (List.replicate n [0]) j = 0 := cl_rep
    have hC : ∀ n : Nat, (n : Int) = 2 * (1 * (a1 % 4 + 1)) + 2 * 1 → Com 1 (a1 % 4 + 1) (IntKind.u64.wrap a2 % 5) 0 (List.replicate n [0]) := fun n hn => ⟨by omega, by rw [List.length_replicate]; omega, fun j => by rw [hz]; exact ⟨by decide, by decide⟩, fun j _ _ => by rw [hz]; exact ⟨by decide, by decide⟩, by decide⟩
    have hp : PotB 1 (a1 % 4 + 1) (IntKind.u64.wrap a2 % 5) put0 (putMost 1 (a1 % 4 + 1) (IntKind.u64.wrap a2 % 5) 1) := fun _ => by rw [ppot0]; exact Int.le_refl _
    exact .inl ⟨rfl, 0, 0, _, _, put0, l, _, [], rfl, hC _ (by omega), one0 (hC _ (by omega)) (by decide) (by decide) (hz _), ⟨by decide, by omega⟩, by omega, rfl, by decide, hp⟩
theorem hk0 (a0 a1 a2 : Int) (l : Row) (h0 : a0 % 4 = 0) : KV (⟨[a0, a1, a2], [], [l], [], Φ⟩ : Val) kn0 := by
  unfold KV kn0
  simp only [List.forall_mem_cons, d_vi, d_vb, d_vr, d_ci, d_cb, d_nr, d_nl, d_add, d_sub, d_mul, d_rem, d_quo, d_bit, d_mn, d_mx, d_w, d_nn, d_bn, d_len, d_neg, d_at0, d_at1, d_at2, d_at3, d_at4, d_at5, d_at6, d_at7, d_set, d_app, d_cat, d_take, d_drop, d_rep, d_cons, d_lt_t, d_lt_f, d_le_t, d_le_f, d_eqi_t, d_eqi_f, d_eqb_t, d_eqb_f, d_nb_t, d_nb_f, nth0, nthS, d_api, d_apr, D_cons, D_nl, D_nr, D_vr, D_set, mkL_l, mkR_r, mkI_i, d_apb, mkB_b, and3, h0]
  simp
theorem all (a0 a1 a2 : Int) (l : Row) (h0 : a0 % 4 = 0) : AW P0 fn.ntmps (dH (⟨[a0, a1, a2], [], [l], [], Φ⟩ : Val) KPutMany1.h0) bod (dT (⟨[a0, a1, a2], [], [l], [], Φ⟩ : Val) (sargs0 0 args)) (dH (⟨[a0, a1, a2], [], [l], [], Φ⟩ : Val) KPutMany1.h0) (Eng.Ends I0 fn fun u _ => u = .bool true) :=
  aw ⟨[a0, a1, a2], [], [l], [], Φ⟩ Inv μ rfl hΦ (hk0 a0 a1 a2 l h0) k0 k1 k2 k3 (sS a0 a1 a2 l h0) s0 s1 s2 s3
end Go.Proofs.Ytckbckijpdnlaaa.KPutMany1
