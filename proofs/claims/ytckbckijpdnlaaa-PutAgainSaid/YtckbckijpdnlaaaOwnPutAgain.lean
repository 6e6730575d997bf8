/- The law PutAgain of put: a place whose thing was taken is used again, and counts: it answers true for all numbers. No condition. -/
import Derived.Test.YtckbckijpdnlaaaOwnPutAgainS
import Derived.Test.YtckbckijpdnlaaaOwnPa10
set_option linter.unusedVariables false
set_option linter.unusedSimpArgs false
set_option maxRecDepth 100000
set_option maxHeartbeats 16000000
namespace Go.Proofs.Ytckbckijpdnlaaa.KPutAgain
open Go Go.Lib Go.Proofs.Ytckbckijpdnlaaa.Eng Go.Proofs.Ytckbckijpdnlaaa.Sy Go.RowKit

def W0 (n val now i src : Int) (r0 r1 : Row) : Val := ⟨[n, val, now, i, src], [], [r0, r1], [], Φ⟩
def W1 (n val now i q src : Int) (p : PSt) (r0 r1 : Row) : Val := ⟨[n, val, now, i, q, src, IntKind.u64.wrap (val + i), p.ph, p.c.k, p.c.g, p.c.ws, p.c.we, p.c.wg, p.c.wl, p.c.wh, p.c.ph, p.t.n, p.t.a, p.t.b, p.t.lo, p.t.hi, p.t.ph], [p.st], [r0, r1], [], Φ⟩
/-- The place: used so often; nobody looks at it. -/
def Pl (i : Int) (F : Int → Int) : Prop := wG (F (1 * 1 + 0)) = i - 1 ∧ (wS (F (1 * 1 + 0)) = 0 ∨ wS (F (1 * 1 + 0)) = 2) ∧ ∀ t, 0 ≤ t → t < 2 → F (2 * (2 * 1) + t) = 0
def Com (n now i src : Int) (r0 r1 : Row) : Prop := (0 ≤ src ∧ src ≤ 4) ∧ (0 ≤ n ∧ n ≤ 31) ∧ RowB r0 ∧ (r0.length : Int) = 8 ∧ NumB 2 1 now r0 ∧ 0 ≤ now ∧ (r1.length : Int) ≤ now + i - 1 ∧ 1 ≤ i
def Inv0 (v : Val) : Prop := ∃ n val now i src r0 r1, v = W0 n val now i src r0 r1 ∧ Com n now i src r0 r1 ∧ i ≤ n + 1 ∧ now ≤ (i - 1) * 27 ∧ Pl i (cl r0)
def Inv1 (v : Val) : Prop := ∃ n val now i q src p r0 r1 F0, v = W1 n val now i q src p r0 r1 ∧ Com n now i src r0 r1 ∧ i ≤ n ∧ now ≤ (i - 1) * 27 + q ∧ 0 ≤ q ∧ q ≤ putMost 2 1 src 0 ∧ PB 2 1 src 0 p ∧ LH p.t ∧ (p.ph = 0 → ppot 2 1 src 0 p ≤ putMost 2 1 src 0 - q) ∧ Pl i F0 ∧ PA 2 1 src 1 0 (IntKind.u64.wrap (val + i)) now now (-1) F0 r0 p
def Inv (k : Nat) (v : Val) : Prop := (k = 0 ∧ Inv0 v) ∨ (k = 1 ∧ Inv1 v)
theorem inv0 {v : Val} (h : Inv 0 v) : Inv0 v := by rcases h with ⟨_, h⟩ | ⟨h, _⟩ <;> first | exact h | cases h
theorem inv1 {v : Val} (h : Inv 1 v) : Inv1 v := by rcases h with ⟨h, _⟩ | ⟨_, h⟩ <;> first | exact h | cases h
def μ (q : Nat × Val) : Nat × Nat := match q.1 with
  | 0 => ((80 - 2 * nth 0 q.2.i 3).toNat, 0)
  | _ => ((79 - 2 * nth 0 q.2.i 3).toNat, (1000 - nth 0 q.2.i 4).toNat)
theorem hΦ : ∀ k v, Inv k v → v.f = Φ := by
  rintro k v (⟨_, n, val, now, i, src, r0, r1, rfl, _⟩ | ⟨_, n, val, now, i, q, src, p, r0, r1, F0, rfl, _⟩) <;> rfl
theorem hLB {src : Int} (h : 0 ≤ src ∧ src ≤ 4) : LB 2 1 src 0 1 := by unfold LB; omega
theorem most27 (src : Int) : 4 ≤ putMost 2 1 src 0 ∧ putMost 2 1 src 0 ≤ 27 := by
  unfold putMost tickMost; (repeat' split) <;> omega
theorem k0 : ∀ v, Inv 0 v → KV v tm0.kn := by
  intro v hv
  obtain ⟨n, val, now, i, src, r0, r1, rfl, ⟨c1, c2, c3, c4, c5, c6, c7, c8⟩, h1, h2, h3⟩ := inv0 hv
  clear c3 c5 h3
  unfold tm0 KV W0
  simp only [List.forall_mem_cons, d_vi, d_vb, d_vr, d_ci, d_cb, d_nr, d_nl, d_add, d_sub, d_mul, d_rem, d_quo, d_bit, d_mn, d_mx, d_w, d_nn, d_bn, d_len, d_neg, d_at0, d_at1, d_at2, d_at3, d_at4, d_at5, d_at6, d_at7, d_set, d_app, d_cat, d_take, d_drop, d_rep, d_cons, d_lt_t, d_lt_f, d_le_t, d_le_f, d_eqi_t, d_eqi_f, d_eqb_t, d_eqb_f, d_nb_t, d_nb_f, nth0, nthS, d_api, d_apr, D_cons, D_nl, D_nr, D_vr, D_set, mkL_l, mkR_r, mkI_i, d_apb, mkB_b]
  simp only [List.not_mem_nil, false_imp_iff, implies_true, and_true]
  omega
theorem k1 : ∀ v, Inv 1 v → KV v tm1.kn := by
  intro v hv
  obtain ⟨n, val, now, i, q, src, p, r0, r1, F0, rfl, ⟨c1, c2, c3, c4, c5, c6, c7, c8⟩, h1, h2, h3, h4, hP, hH, h6, h7, h8⟩ := inv1 hv
  have hm := most27 src
  obtain ⟨p1, p2, p3, p4, p5, _⟩ := hP
  unfold CB at p1; unfold CW at p2; unfold TB at p3; unfold LH at hH
  have p2a := p2.1; have p2b := p2.2.1
  have p3a : 0 ≤ p.t.n ∧ p.t.n ≤ 200 ∧ 0 ≤ p.t.a ∧ p.t.a ≤ 16777215 ∧ 0 ≤ p.t.b ∧ p.t.b ≤ 16777215 ∧ 0 ≤ p.t.ph ∧ p.t.ph ≤ 2 := by omega
  clear c3 c5 h7 h8 h6 p2 p3
  unfold tm1 KV W1
  simp only [List.forall_mem_cons, d_vi, d_vb, d_vr, d_ci, d_cb, d_nr, d_nl, d_add, d_sub, d_mul, d_rem, d_quo, d_bit, d_mn, d_mx, d_w, d_nn, d_bn, d_len, d_neg, d_at0, d_at1, d_at2, d_at3, d_at4, d_at5, d_at6, d_at7, d_set, d_app, d_cat, d_take, d_drop, d_rep, d_cons, d_lt_t, d_lt_f, d_le_t, d_le_f, d_eqi_t, d_eqi_f, d_eqb_t, d_eqb_f, d_nb_t, d_nb_f, nth0, nthS, d_api, d_apr, D_cons, D_nl, D_nr, D_vr, D_set, mkL_l, mkR_r, mkI_i, d_apb, mkB_b]
  simp only [List.not_mem_nil, false_imp_iff, implies_true, and_true]
  omega
theorem pastm {T S src nw : Int} {r : Row} (hr : RowB r) (hn : 0 ≤ nw) : Past T S src r nw (-1) := by
  have := (hr (2 * (T * S) + T)).1
  refine ⟨fun _ => by omega, fun _ => .inl (by decide), fun _ => .inl ⟨rfl, by omega⟩, fun _ => by omega, fun _ => .inl ⟨rfl, by omega⟩⟩
theorem s0 : ∀ v, Inv 0 v → TOK v (fun _ g => LgOK v (fun q u => Inv q u ∧ lt2 μ (q, u) (0, v)) g) tr0 := by
  intro v hv
  obtain ⟨n, val, now, i, src, r0, r1, rfl, hC, h1, h2, h3⟩ := inv0 hv
  have hC' := hC
  obtain ⟨c1, c2, c3, c4, c5, c6, c7, c8⟩ := hC
  have hm := most27 src
  unfold tr0
  refine TOK.br' (fun h => ?_) (fun h => ?_) <;> simp only [W0, d_vi, d_vb, d_vr, d_ci, d_cb, d_nr, d_nl, d_add, d_sub, d_mul, d_rem, d_quo, d_bit, d_mn2, d_mx2, d_w, d_nn, d_bn2, d_len, d_neg, d_cl, d_at1, d_at2, d_at3, d_at4, d_at5, d_at6, d_at7, d_set, d_app, d_cat, d_take, d_drop, d_rep, d_cons, d_lt_t, d_lt_f, d_le_t, d_le_f, d_eqi_t, d_eqi_f, d_eqb_t, d_eqb_f, d_nb_t, d_nb_f, nth0, nthS, d_api, d_apr, D_cons, D_nl, D_nr, D_vr, D_set, mkL_l, mkR_r, mkI_i, d_shr2, d_shr3, d_shr16, d_shr40, d_shl2, d_shl3, d_shl16, d_shl40, d_apb, mkB_b] at h <;> refine TOK.leaf' ?_
  · refine And.intro (?_ : Inv 1 _) (?_ : lt2 μ (1, _) _) <;> simp only [W0, Sb.val, List.map_cons, List.map_nil, d_vi, d_vb, d_vr, d_ci, d_cb, d_nr, d_nl, d_add, d_sub, d_mul, d_rem, d_quo, d_bit, d_mn2, d_mx2, d_w, d_nn, d_bn2, d_len, d_neg, d_cl, d_at1, d_at2, d_at3, d_at4, d_at5, d_at6, d_at7, d_set, d_app, d_cat, d_take, d_drop, d_rep, d_cons, d_lt_t, d_lt_f, d_le_t, d_le_f, d_eqi_t, d_eqi_f, d_eqb_t, d_eqb_f, d_nb_t, d_nb_f, nth0, nthS, d_api, d_apr, D_cons, D_nl, D_nr, D_vr, D_set, mkL_l, mkR_r, mkI_i, d_shr2, d_shr3, d_shr16, d_shr40, d_shl2, d_shl3, d_shl16, d_shl40, d_apb, mkB_b]
    · exact .inr ⟨rfl, n, val, now, i, 0, src, put0, r0, r1, cl r0, rfl, hC', h, by omega, by omega, by omega, PB0 (hLB c1), ⟨by decide, by decide, by decide, by decide⟩, fun _ => by rw [ppot0]; omega, h3, PA0 (hLB c1) c6 (pastm c3 c6) (fun _ _ _ => rfl) (fun _ _ _ => rfl)⟩
    · exact .inl (by show (79 - 2 * i).toNat < (80 - 2 * i).toNat; omega)
  · exact rfl
theorem s1 : ∀ v, Inv 1 v → TOK v (fun _ g => LgOK v (fun q u => Inv q u ∧ lt2 μ (q, u) (1, v)) g) tr1 := by
  intro v hv
  obtain ⟨n, val, now, i, q, src, p, r0, r1, F0, rfl, ⟨c1, c2, c3, c4, c5, c6, c7, c8⟩, h1, h2, h3, h4, hP, hH, h6, h7, hA⟩ := inv1 hv
  have hm := most27 src
  have hL := hLB c1
  have hn := ppot_nn hL hP
  have hx := u64_in (val + i)
  have nb := putT_new (who := 1) (en := 0) (val := IntKind.u64.wrap (val + i)) (now := now) c3 hP (by omega) (by decide)
  have G := pa_step hL hP c5 (by omega) c6 (Int.le_refl _) (Int.le_refl _) (by omega) hA
  have key : q < putMost 2 1 src 0 → ∀ q' l' : Row, q' = ((putT 2 1 src 0 1 0 (IntKind.u64.wrap (val + i)) r0 now p).row r0) → RowB q' → (q'.length : Int) = (r0.length : Int) → (l'.length : Int) ≤ now + i → Inv 1 (W1 n val (now + 1) i (q + 1) src (putStep 2 1 src 0 1 r0 now p) q' l') := fun z q' l' e0 a1 a2 a3 => by
    subst e0
    exact .inr ⟨rfl, n, val, now + 1, i, q + 1, src, _, _, l', F0, rfl, ⟨c1, c2, a1, by omega, G.num, by omega, by omega, c8⟩, h1, by omega, by omega, by omega, PB.step hL c3 c6 hP,
      by
        unfold putStep
        split
        · split
          · exact hH
          · split
            · exact LH.step hP.2.2.1 hH
            · split <;> exact hH
        · exact hH,
      fun y => by
      by_cases hp : p.ph = 0
      · have := (ppot_step (who := 1) (r := r0) (now := now) hL c3 c6 hP).1 hp
        have := h6 hp
        omega
      · rw [(ppot_step (who := 1) (r := r0) (now := now) hL c3 c6 hP).2 hp] at y
        exact absurd y hp, h7, G.pa⟩
  have dec : ∀ x : Val, q < putMost 2 1 src 0 → nth 0 x.i 4 = q + 1 → nth 0 x.i 3 = i → lt2 μ (1, x) (1, W1 n val now i q src p r0 r1) := fun x z e e2 => .inr ⟨by show (79 - 2 * nth 0 x.i 3).toNat = (79 - 2 * i).toNat; rw [e2], by
    show (1000 - nth 0 x.i 4).toNat < (1000 - q).toNat
    omega⟩
  unfold tr1
  refine TOK.br' (fun h => ?_) (fun h => ?_) <;> simp only [W1, d_vi, d_vb, d_vr, d_ci, d_cb, d_nr, d_nl, d_add, d_sub, d_mul, d_rem, d_quo, d_bit, d_mn2, d_mx2, d_w, d_nn, d_bn2, d_len, d_neg, d_cl, d_at1, d_at2, d_at3, d_at4, d_at5, d_at6, d_at7, d_set, d_app, d_cat, d_take, d_drop, d_rep, d_cons, d_lt_t, d_lt_f, d_le_t, d_le_f, d_eqi_t, d_eqi_f, d_eqb_t, d_eqb_f, d_nb_t, d_nb_f, nth0, nthS, d_api, d_apr, D_cons, D_nl, D_nr, D_vr, D_set, mkL_l, mkR_r, mkI_i, d_shr2, d_shr3, d_shr16, d_shr40, d_shl2, d_shl3, d_shl16, d_shl40, d_apb, mkB_b, Φ100, Φ101, Φ102, Φ103, Φ104, Φ105, Φ106, Φ107, Φ108, Φ200, Φ201, Φ202, Φ203, Φ204, Φ205, Φ206, Φ207, Φ208, Φ209, Φ0, Φ1, Φ10, Φ300, Φ301, Φ302, Φ303, Φ304, Φ305, Φ306, Φ307, Φ308, Φ309, Φ310, Φ311, Φ312, Φ313, Φ314, Φ315, Φ316, Φ317, Φ318, Φ319, Φ20, Φ11, Φ30, Φ31, Φ32] at h
  · refine TOK.br' (fun hc => ?_) (fun hc => ?_) <;> simp only [W1, d_vi, d_vb, d_vr, d_ci, d_cb, d_nr, d_nl, d_add, d_sub, d_mul, d_rem, d_quo, d_bit, d_mn2, d_mx2, d_w, d_nn, d_bn2, d_len, d_neg, d_cl, d_at1, d_at2, d_at3, d_at4, d_at5, d_at6, d_at7, d_set, d_app, d_cat, d_take, d_drop, d_rep, d_cons, d_lt_t, d_lt_f, d_le_t, d_le_f, d_eqi_t, d_eqi_f, d_eqb_t, d_eqb_f, d_nb_t, d_nb_f, nth0, nthS, d_api, d_apr, D_cons, D_nl, D_nr, D_vr, D_set, mkL_l, mkR_r, mkI_i, d_shr2, d_shr3, d_shr16, d_shr40, d_shl2, d_shl3, d_shl16, d_shl40, d_apb, mkB_b, Φ100, Φ101, Φ102, Φ103, Φ104, Φ105, Φ106, Φ107, Φ108, Φ200, Φ201, Φ202, Φ203, Φ204, Φ205, Φ206, Φ207, Φ208, Φ209, Φ0, Φ1, Φ10, Φ300, Φ301, Φ302, Φ303, Φ304, Φ305, Φ306, Φ307, Φ308, Φ309, Φ310, Φ311, Φ312, Φ313, Φ314, Φ315, Φ316, Φ317, Φ318, Φ319, Φ20, Φ11, Φ30, Φ31, Φ32, pst, b2i_dec] at hc <;> refine TOK.leaf' ?_
    · refine And.intro (?_ : Inv 1 _) (?_ : lt2 μ (1, _) _) <;> simp only [W1, Sb.val, List.map_cons, List.map_nil, d_vi, d_vb, d_vr, d_ci, d_cb, d_nr, d_nl, d_add, d_sub, d_mul, d_rem, d_quo, d_bit, d_mn2, d_mx2, d_w, d_nn, d_bn2, d_len, d_neg, d_cl, d_at1, d_at2, d_at3, d_at4, d_at5, d_at6, d_at7, d_set, d_app, d_cat, d_take, d_drop, d_rep, d_cons, d_lt_t, d_lt_f, d_le_t, d_le_f, d_eqi_t, d_eqi_f, d_eqb_t, d_eqb_f, d_nb_t, d_nb_f, nth0, nthS, d_api, d_apr, D_cons, D_nl, D_nr, D_vr, D_set, mkL_l, mkR_r, mkI_i, d_shr2, d_shr3, d_shr16, d_shr40, d_shl2, d_shl3, d_shl16, d_shl40, d_apb, mkB_b, Φ100, Φ101, Φ102, Φ103, Φ104, Φ105, Φ106, Φ107, Φ108, Φ200, Φ201, Φ202, Φ203, Φ204, Φ205, Φ206, Φ207, Φ208, Φ209, Φ0, Φ1, Φ10, Φ300, Φ301, Φ302, Φ303, Φ304, Φ305, Φ306, Φ307, Φ308, Φ309, Φ310, Φ311, Φ312, Φ313, Φ314, Φ315, Φ316, Φ317, Φ318, Φ319, Φ20, Φ11, Φ30, Φ31, Φ32, pst, b2i_dec]
      · exact key h r0 r1 (by unfold Tch.row; rw [if_pos hc]) c3 rfl (by omega)
      · exact dec _ h rfl rfl
    · refine And.intro (?_ : Inv 1 _) (?_ : lt2 μ (1, _) _) <;> simp only [W1, Sb.val, List.map_cons, List.map_nil, d_vi, d_vb, d_vr, d_ci, d_cb, d_nr, d_nl, d_add, d_sub, d_mul, d_rem, d_quo, d_bit, d_mn2, d_mx2, d_w, d_nn, d_bn2, d_len, d_neg, d_cl, d_at1, d_at2, d_at3, d_at4, d_at5, d_at6, d_at7, d_set, d_app, d_cat, d_take, d_drop, d_rep, d_cons, d_lt_t, d_lt_f, d_le_t, d_le_f, d_eqi_t, d_eqi_f, d_eqb_t, d_eqb_f, d_nb_t, d_nb_f, nth0, nthS, d_api, d_apr, D_cons, D_nl, D_nr, D_vr, D_set, mkL_l, mkR_r, mkI_i, d_shr2, d_shr3, d_shr16, d_shr40, d_shl2, d_shl3, d_shl16, d_shl40, d_apb, mkB_b, Φ100, Φ101, Φ102, Φ103, Φ104, Φ105, Φ106, Φ107, Φ108, Φ200, Φ201, Φ202, Φ203, Φ204, Φ205, Φ206, Φ207, Φ208, Φ209, Φ0, Φ1, Φ10, Φ300, Φ301, Φ302, Φ303, Φ304, Φ305, Φ306, Φ307, Φ308, Φ309, Φ310, Φ311, Φ312, Φ313, Φ314, Φ315, Φ316, Φ317, Φ318, Φ319, Φ20, Φ11, Φ30, Φ31, Φ32, pst, b2i_dec]
      · exact key h _ _ (by unfold Tch.row; rw [if_neg (Int.not_lt.mpr hc)]) (c3.set nb.1 nb.2) (by rw [setLen]) (by rw [List.length_append, List.length_singleton]; omega)
      · exact dec _ h rfl rfl
  · have hph : ¬ p.ph = 0 := fun z => by have := h6 z; have := hn.2 z; omega
    have hQ : Qual F0 2 1 1 0 := by
      refine ⟨by rw [h7.1]; omega, ?_⟩
      rcases h7.2.1 with z | z
      · exact .inl z
      · exact .inr ⟨z, fun t u v => by rw [h7.2.2 t u v]; decide⟩
    have hp1 : p.ph = 1 := by
      rcases (by have := hP.2.2.2; omega : p.ph = 1 ∨ p.ph = 2) with z | z
      · exact z
      · exact absurd hQ (pa_full hP hA z 0 (by decide) (by decide))
    obtain ⟨d1, d2, d3, d4, d5, d6, d7, d8, d9, d10, d11, d12⟩ := pa_done hP hA hp1
    have hk : p.c.k = 0 := by omega
    rw [hk] at d6 d11 d12
    obtain ⟨w1, w2, w3, w4, w5, w6, w7⟩ := word_parts (en := 0) hP hp1 (by decide)
    have hg : p.c.wg + 1 = i := by have := d6.2.2.1; rw [h7.1] at this; omega
    rw [hg] at w3 w6 w7
    have d12 : cl r0 1 = putWord 0 p := d12
    have d11 : cl r0 3 = IntKind.u64.wrap (val + i) := d11
    have g1 : Go.bits .and .u64 (cl r0 1) 3 = 1 := by rw [d12]; exact w1
    have g2 : Go.bits .and .u64 ((cl r0 1).fdiv 8) 8191 = i := by rw [d12]; exact w3
    have g3 : Go.bits .and .u64 ((cl r0 1).fdiv 65536) 16777215 = p.t.lo := by rw [d12]; exact w4
    have g4 : Go.bits .and .u64 ((cl r0 1).fdiv 1099511627776) 16777215 = p.t.hi := by rw [d12]; exact w5
    have g5 : Go.bits .and .u64 ((cl r0 1).fdiv 4) 1 = 0 := by rw [d12]; exact w2
    have hR2 : RightW 2 0 i p.t.lo p.t.hi := by unfold RightW at w7 ⊢; omega
    have ew : Go.bits .or .u64 (Go.bits .or .u64 (Go.bits .or .u64 (Go.bits .or .u64 2 (IntKind.u64.wrap (0 * 4))) (IntKind.u64.wrap (i * 8))) (IntKind.u64.wrap (p.t.lo * 65536))) (IntKind.u64.wrap (p.t.hi * 1099511627776)) = pk 2 0 i p.t.lo p.t.hi := pack_sum hR2
    have nxt : ∀ e : List Int, Inv 0 (W0 n val now (i + 1) src (r0.set 1 [pk 2 0 i p.t.lo p.t.hi]) (r1 ++ [e])) := fun e => .inl ⟨rfl, n, val, now, i + 1, src, _, _, rfl, ⟨c1, c2, c3.set (i := 1) (pk_in hR2).1 (pk_in hR2).2, by rw [setLen]; exact c4, fun j u v => by
        have := cl_other (r := r0) (i := 1) (j := 2 * (2 * 1) + 2 + j) (x := pk 2 0 i p.t.lo p.t.hi) (by decide) (by omega) (by omega)
        rw [show (1 : Int).toNat = 1 from rfl] at this
        rw [this]; exact c5 j u v, c6, by rw [List.length_append, List.length_singleton]; omega, by omega⟩, by omega, by omega, by
      have s1 : cl (r0.set 1 [pk 2 0 i p.t.lo p.t.hi]) (1 * 1 + 0) = pk 2 0 i p.t.lo p.t.hi := cl_self (i := 1) (by decide) (by omega)
      refine ⟨?_, .inr ?_, fun t u v => ?_⟩
      · rw [s1]; show Go.bits .and .u64 ((pk 2 0 i p.t.lo p.t.hi).fdiv 8) 8191 = _; rw [up_g hR2]; omega
      · rw [s1]; exact up_s hR2
      · have := cl_other (r := r0) (i := 1) (j := 2 * (2 * 1) + t) (x := pk 2 0 i p.t.lo p.t.hi) (by decide) (by omega) (by omega)
        rw [show (1 : Int).toNat = 1 from rfl] at this
        rw [this, hA.haz t u v]; exact h7.2.2 t u v⟩
    have dec0 : ∀ x : Val, nth 0 x.i 3 = i + 1 → lt2 μ (0, x) (1, W1 n val now i q src p r0 r1) := fun x e2 => .inl (by
      show (80 - 2 * nth 0 x.i 3).toNat < (79 - 2 * i).toNat
      omega)
    repeat' (first
      | (refine TOK.br' (fun h => ?_) (fun h => ?_) <;> simp only [W1, d_vi, d_vb, d_vr, d_ci, d_cb, d_nr, d_nl, d_add, d_sub, d_mul, d_rem, d_quo, d_bit, d_mn2, d_mx2, d_w, d_nn, d_bn2, d_len, d_neg, d_cl, d_at1, d_at2, d_at3, d_at4, d_at5, d_at6, d_at7, d_set, d_app, d_cat, d_take, d_drop, d_rep, d_cons, d_lt_t, d_lt_n, d_le_t, d_le_n, d_eqi_t, d_eqi_f, d_eqb_t, d_eqb_f, d_nb_t, d_nb_f, nth0, nthS, d_api, d_apr, D_cons, D_nl, D_nr, D_vr, D_set, mkL_l, mkR_r, mkI_i, d_shr2, d_shr3, d_shr16, d_shr40, d_shl2, d_shl3, d_shl16, d_shl40, d_apb, mkB_b] at h <;> (try (exfalso; omega)))
      | (with_reducible refine TOK.leaf' ?_))
    all_goals
      refine And.intro (?_ : Inv 0 _) (?_ : lt2 μ (0, _) _) <;> simp only [W1, Sb.val, List.map_cons, List.map_nil, d_vi, d_vb, d_vr, d_ci, d_cb, d_nr, d_nl, d_add, d_sub, d_mul, d_rem, d_quo, d_bit, d_mn2, d_mx2, d_w, d_nn, d_bn2, d_len, d_neg, d_cl, d_at1, d_at2, d_at3, d_at4, d_at5, d_at6, d_at7, d_set, d_app, d_cat, d_take, d_drop, d_rep, d_cons, d_lt_t, d_lt_f, d_le_t, d_le_f, d_eqi_t, d_eqi_f, d_eqb_t, d_eqb_f, d_nb_t, d_nb_f, nth0, nthS, d_api, d_apr, D_cons, D_nl, D_nr, D_vr, D_set, mkL_l, mkR_r, mkI_i, d_shr2, d_shr3, d_shr16, d_shr40, d_shl2, d_shl3, d_shl16, d_shl40, d_apb, mkB_b]
      · rw [g2, g3, g4, g5, ew]; exact nxt _
      · exact dec0 _ rfl
theorem sS (a0 a1 a2 : Int) : TOK (⟨[a0, a1, a2], [], [], [], Φ⟩ : Val) (fun _ g => LgOK (⟨[a0, a1, a2], [], [], [], Φ⟩ : Val) Inv g) trS := by
  unfold trS
  have hU := u64_in a0
  have hb := and_in (k := .i64) a1 (m := 31) (by decide) (by decide)
  refine TOK.leaf' ?_
  refine (show Inv 0 _ from ?_)
  simp (disch := omega) only [Sb.val, List.map_cons, List.map_nil, d_vi, d_vb, d_vr, d_ci, d_cb, d_nr, d_nl, d_add, d_sub, d_mul, d_rem, d_quo, d_bit, d_mn2, d_mx2, d_w, d_nn, d_bn2, d_len, d_neg, d_cl, d_at1, d_at2, d_at3, d_at4, d_at5, d_at6, d_at7, d_set, d_app, d_cat, d_take, d_drop, d_rep, d_cons, d_lt_t, d_lt_f, d_le_t, d_le_f, d_eqi_t, d_eqi_f, d_eqb_t, d_eqb_f, d_nb_t, d_nb_f, nth0, nthS, d_api, d_apr, D_cons, D_nl, D_nr, D_vr, D_set, mkL_l, mkR_r, mkI_i, d_shr2, d_shr3, d_shr16, d_shr40, d_shl2, d_shl3, d_shl16, d_shl40, d_apb, mkB_b, Φ100, Φ101, Φ102, Φ103, Φ104, Φ105, Φ106, Φ107, Φ108, Φ200, Φ201, Φ202, Φ203, Φ204, Φ205, Φ206, Φ207, Φ208, Φ209, Φ0, Φ1, Φ10, Φ300, Φ301, Φ302, Φ303, Φ304, Φ305, Φ306, Φ307, Φ308, Φ309, Φ310, Φ311, Φ312, Φ313, Φ314, Φ315, Φ316, Φ317, Φ318, Φ319, Φ20, Φ11, Φ30, Φ31, Φ32, tmod_pos]
  have hz : ∀ j : Int, cl [[0], [0], [0], [0], [0], [0], [0], [0]] j = 0 := cl_rep 8
  have hrb : RowB [[0], [0], [0], [0], [0], [0], [0], [0]] := fun j => by rw [hz]; exact ⟨by decide, by decide⟩
  have hnb : NumB 2 1 0 [[0], [0], [0], [0], [0], [0], [0], [0]] := fun j _ _ => by rw [hz]; exact ⟨by decide, by decide⟩
  exact .inl ⟨rfl, _, a2, 0, 1, _, _, [], rfl, ⟨by omega, hb, hrb, rfl, hnb, by decide, by decide, by decide⟩, by omega, by decide, ⟨by decide, .inl (by decide), fun t _ _ => hz _⟩⟩
theorem PutAgain_walk (a0 a1 a2 : Int) (w : World) (wa0 : (Lit.int .i64 a0).wf = true) (wa1 : (Lit.int .i64 a1).wf = true) (wa2 : (Lit.int .u64 a2).wf = true) :
    Calls Try.prog 12 #[.int .i64 a0, .int .i64 a1, .int .u64 a2] w fun e w' => e = .returned (.bool true) ∧ Below w.heap.size w w' :=
  law_calls (v := ⟨[a0, a1, a2], [], [], [], Φ⟩) (l := []) (args := args) (args' := [.int .i64 a0, .int .i64 a1, .int .u64 a2]) hI0 hfn hbod (by decide) rfl (by simp)
    (.cons (.int _ _) (.cons (.int _ _) (.cons (.int _ _) (.nil _))))
    (aw ⟨[a0, a1, a2], [], [], [], Φ⟩ Inv μ rfl hΦ KV.nil k0 k1 (sS a0 a1 a2) s0 s1)
end Go.Proofs.Ytckbckijpdnlaaa.KPutAgain
