/- The law PutFull of put: without room, or without a stamp, no word and no value is turned: it answers true for all numbers. No condition. -/
import Derived.Test.YtckbckijpdnlaaaOwnPutFullS
import Derived.Test.YtckbckijpdnlaaaOwnFull10
set_option linter.unusedVariables false
set_option linter.unusedSimpArgs false
set_option maxRecDepth 100000
set_option maxHeartbeats 16000000
namespace Go.Proofs.Ytckbckijpdnlaaa.KPutFull
open Go Go.Lib Go.Proofs.Ytckbckijpdnlaaa.Eng Go.Proofs.Ytckbckijpdnlaaa.Sy Go.RowKit

def W (was n T S src who en val : Int) (p : PSt) (r0 r1 : Row) : Val := ⟨[was, n, T, S, src, who, en, val, p.ph, p.c.k, p.c.g, p.c.ws, p.c.we, p.c.wg, p.c.wl, p.c.wh, p.c.ph, p.t.n, p.t.a, p.t.b, p.t.lo, p.t.hi, p.t.ph], [p.st], [r0, r1], [], Φ⟩
def W3 (was d j T S src who en val : Int) (p : PSt) (b : Bool) (r0 : Row) : Val := ⟨[was, d, d, j, T, S, src, who, en, val, p.ph, p.c.k, p.c.g, p.c.ws, p.c.we, p.c.wg, p.c.wl, p.c.wh, p.c.ph, p.t.n, p.t.a, p.t.b, p.t.lo, p.t.hi, p.t.ph], [b], [r0], [], Φ⟩
def V (who val i T S src : Int) (b : Bool) (r0 r1 : Row) : Val := ⟨[who, val, i, T, S, src], [b], [r0, r1], [], Φ⟩
def Com (who val T S src : Int) (r0 : Row) : Prop := LB T S src 0 who ∧ src ≤ 2 ∧ (0 ≤ val ∧ val < 18446744073709551616) ∧ RowB r0 ∧ (r0.length : Int) = 2 * (T * S) + 2 * T
def Inv0 (v : Val) : Prop := ∃ who val i T S src b r0 r1, v = V who val i T S src b r0 r1 ∧ Com who val T S src r0 ∧ (0 ≤ i ∧ i ≤ T * S) ∧ (r1.length : Int) = i ∧ (b = true → i = 0) ∧ ∀ j, 0 ≤ j → j < i → cl r0 j = 9
def Inv1 (v : Val) : Prop := ∃ who val i T S src b r0 r1, v = V who val i T S src b r0 r1 ∧ Com who val T S src r0 ∧ (0 ≤ i ∧ i ≤ T) ∧ (r1.length : Int) ≤ 20 ∧ (b = false → FW T S r0 ∧ 1 ≤ (r1.length : Int)) ∧ (b = true → (r1.length : Int) = i ∧ ∀ t, 0 ≤ t → t < i → cl r0 (2 * (T * S) + T + t) = 16777215)
def Inv2 (v : Val) : Prop := ∃ was n T S src who en val p r0 r1, v = W was n T S src who en val p r0 r1 ∧ Com who val T S src r0 ∧ (0 ≤ en ∧ en ≤ 1) ∧ PB T S src 0 p ∧ 0 ≤ n ∧ n ≤ putMost T S src 0 ∧ (p.ph = 0 → ppot T S src 0 p ≤ putMost T S src 0 - n) ∧ (1 ≤ was ∧ was ≤ 20) ∧ was ≤ (r1.length : Int) ∧ (r1.length : Int) ≤ 20 + n ∧ FP T S src r0 p ∧ LP T S was r1
def Inv3 (v : Val) : Prop := ∃ was j T S src who en val p b r0, v = W3 was ((r0.length : Int) - was) j T S src who en val p b r0 ∧ LB T S src 0 who ∧ (1 ≤ was ∧ was ≤ 20) ∧ was ≤ (r0.length : Int) ∧ (r0.length : Int) ≤ 400 ∧ 0 ≤ j ∧ j ≤ (r0.length : Int) - was ∧ p.ph = 2 ∧ LP T S was r0
def Inv (k : Nat) (v : Val) : Prop := (k = 0 ∧ Inv0 v) ∨ (k = 1 ∧ Inv1 v) ∨ (k = 2 ∧ Inv2 v) ∨ (k = 3 ∧ Inv3 v)
theorem inv0 {v : Val} (h : Inv 0 v) : Inv0 v := by rcases h with ⟨_, h⟩ | ⟨h, _⟩ | ⟨h, _⟩ | ⟨h, _⟩ <;> first | exact h | cases h
theorem inv1 {v : Val} (h : Inv 1 v) : Inv1 v := by rcases h with ⟨h, _⟩ | ⟨_, h⟩ | ⟨h, _⟩ | ⟨h, _⟩ <;> first | exact h | cases h
theorem inv2 {v : Val} (h : Inv 2 v) : Inv2 v := by rcases h with ⟨h, _⟩ | ⟨h, _⟩ | ⟨_, h⟩ | ⟨h, _⟩ <;> first | exact h | cases h
theorem inv3 {v : Val} (h : Inv 3 v) : Inv3 v := by rcases h with ⟨h, _⟩ | ⟨h, _⟩ | ⟨h, _⟩ | ⟨_, h⟩ <;> first | exact h | cases h
def μ (q : Nat × Val) : Nat × Nat := match q.1 with
  | 0 => (3, (20 - nth 0 q.2.i 2).toNat)
  | 1 => (2, (20 - nth 0 q.2.i 2).toNat)
  | 2 => (1, (1000 - nth 0 q.2.i 1).toNat)
  | _ => (0, (2000 - nth 0 q.2.i 3).toNat)
theorem hΦ : ∀ k v, Inv k v → v.f = Φ := by
  rintro k v (⟨_, who, val, i, T, S, src, b, r0, r1, rfl, _⟩ | ⟨_, who, val, i, T, S, src, b, r0, r1, rfl, _⟩ | ⟨_, was, n, T, S, src, who, en, val, p, r0, r1, rfl, _⟩ | ⟨_, was, j, T, S, src, who, en, val, p, b, r0, rfl, _⟩) <;> rfl
theorem k0 : ∀ v, Inv 0 v → KV v tm0.kn := by
  intro v hv
  obtain ⟨who, val, i, T, S, src, b, r0, r1, rfl, ⟨hL, hs, hv, hr, hl⟩, hi, h1, h2, h3⟩ := inv0 hv
  unfold LB at hL
  have e4 := prod4 (T := T) (S := S) (by omega) (by omega) (by omega) (by omega)
  unfold tm0 KV V
  simp only [List.forall_mem_cons, d_vi, d_vb, d_vr, d_ci, d_cb, d_nr, d_nl, d_add, d_sub, d_mul, d_rem, d_quo, d_bit, d_mn, d_mx, d_w, d_nn, d_bn, d_len, d_neg, d_at0, d_at1, d_at2, d_at3, d_at4, d_at5, d_at6, d_at7, d_set, d_app, d_cat, d_take, d_drop, d_rep, d_cons, d_lt_t, d_lt_f, d_le_t, d_le_f, d_eqi_t, d_eqi_f, d_eqb_t, d_eqb_f, d_nb_t, d_nb_f, nth0, nthS, d_api, d_apr, D_cons, D_nl, D_nr, D_vr, D_set, mkL_l, mkR_r, mkI_i, d_apb, mkB_b]
  simp only [List.not_mem_nil, false_imp_iff, implies_true, and_true]
  omega
theorem k1 : ∀ v, Inv 1 v → KV v tm1.kn := by
  intro v hv
  obtain ⟨who, val, i, T, S, src, b, r0, r1, rfl, ⟨hL, hs, hv, hr, hl⟩, hi, h1, h2, h3⟩ := inv1 hv
  unfold LB at hL
  have e4 := prod4 (T := T) (S := S) (by omega) (by omega) (by omega) (by omega)
  unfold tm1 KV V
  simp only [List.forall_mem_cons, d_vi, d_vb, d_vr, d_ci, d_cb, d_nr, d_nl, d_add, d_sub, d_mul, d_rem, d_quo, d_bit, d_mn, d_mx, d_w, d_nn, d_bn, d_len, d_neg, d_at0, d_at1, d_at2, d_at3, d_at4, d_at5, d_at6, d_at7, d_set, d_app, d_cat, d_take, d_drop, d_rep, d_cons, d_lt_t, d_lt_f, d_le_t, d_le_f, d_eqi_t, d_eqi_f, d_eqb_t, d_eqb_f, d_nb_t, d_nb_f, nth0, nthS, d_api, d_apr, D_cons, D_nl, D_nr, D_vr, D_set, mkL_l, mkR_r, mkI_i, d_apb, mkB_b]
  simp only [List.not_mem_nil, false_imp_iff, implies_true, and_true]
  omega
theorem k2 : ∀ v, Inv 2 v → KV v tm2.kn := by
  intro v hv
  obtain ⟨was, n, T, S, src, who, en, val, p, r0, r1, rfl, ⟨hL, hs, hv, hr, hl⟩, he, hP, h0, h1, h2, h3, h4, h5, h6, h7⟩ := inv2 hv
  have hL' := hL
  obtain ⟨p1, p2, p3, p4, p5, _⟩ := hP
  unfold LB at hL'; unfold CB at p1; unfold CW at p2; unfold TB at p3
  have hm := FPMost.most_b (T := T) (S := S) (s := src) (d := 0) (by omega)
  have e := wwho (T := T) (S := S) (who := who) (k := p.c.k) (by omega) (by omega) (by omega) (by omega) (by omega)
  have e1 := e.1; have e3 := e.2.1
  have e4 := prod4 (T := T) (S := S) (by omega) (by omega) (by omega) (by omega)
  clear e h2 h6 h7
  unfold tm2 KV W
  simp only [List.forall_mem_cons, d_vi, d_vb, d_vr, d_ci, d_cb, d_nr, d_nl, d_add, d_sub, d_mul, d_rem, d_quo, d_bit, d_mn, d_mx, d_w, d_nn, d_bn, d_len, d_neg, d_at0, d_at1, d_at2, d_at3, d_at4, d_at5, d_at6, d_at7, d_set, d_app, d_cat, d_take, d_drop, d_rep, d_cons, d_lt_t, d_lt_f, d_le_t, d_le_f, d_eqi_t, d_eqi_f, d_eqb_t, d_eqb_f, d_nb_t, d_nb_f, nth0, nthS, d_api, d_apr, D_cons, D_nl, D_nr, D_vr, D_set, mkL_l, mkR_r, mkI_i, d_apb, mkB_b]
  simp only [List.not_mem_nil, false_imp_iff, implies_true, and_true]
  omega
theorem k3 : ∀ v, Inv 3 v → KV v tm3.kn := by
  intro v hv
  obtain ⟨was, j, T, S, src, who, en, val, p, b, r0, rfl, hL, h1, h2, h3, h4, h5, h6, h7⟩ := inv3 hv
  unfold LB at hL
  unfold tm3 KV W3
  simp only [List.forall_mem_cons, d_vi, d_vb, d_vr, d_ci, d_cb, d_nr, d_nl, d_add, d_sub, d_mul, d_rem, d_quo, d_bit, d_mn, d_mx, d_w, d_nn, d_bn, d_len, d_neg, d_at0, d_at1, d_at2, d_at3, d_at4, d_at5, d_at6, d_at7, d_set, d_app, d_cat, d_take, d_drop, d_rep, d_cons, d_lt_t, d_lt_f, d_le_t, d_le_f, d_eqi_t, d_eqi_f, d_eqb_t, d_eqb_f, d_nb_t, d_nb_f, nth0, nthS, d_api, d_apr, D_cons, D_nl, D_nr, D_vr, D_set, mkL_l, mkR_r, mkI_i, d_apb, mkB_b]
  simp only [List.not_mem_nil, false_imp_iff, implies_true, and_true]
  omega
theorem s0 : ∀ v, Inv 0 v → TOK v (fun _ g => LgOK v (fun q u => Inv q u ∧ lt2 μ (q, u) (0, v)) g) tr0 := by
  intro v hv
  obtain ⟨who, val, i, T, S, src, b, r0, r1, rfl, ⟨hL, hs, hv, hr, hl⟩, hi, h1, h2, h3⟩ := inv0 hv
  have hL' := hL
  unfold LB at hL'
  have e4 := prod4 (T := T) (S := S) (by omega) (by omega) (by omega) (by omega)
  have out : (b = true ∨ T * S ≤ i) → Inv 1 (V who val 0 T S src b r0 r1) := fun ho => .inr (.inl ⟨rfl, who, val, 0, T, S, src, b, r0, r1, rfl, ⟨hL, hs, hv, hr, hl⟩, by omega, by omega,
    fun hb => by
      rcases ho with z | z
      · rw [hb] at z; cases z
      · exact ⟨fun j g1 g2 => h3 j g1 (by omega), by omega⟩, fun hb => by
      have := h2 hb
      exact ⟨by omega, fun t g1 g2 => (by omega)⟩⟩)
  unfold tr0
  refine TOK.br' (fun h => ?_) (fun h => ?_) <;> simp only [V, d_vi, d_vb, d_vr, d_ci, d_cb, d_nr, d_nl, d_add, d_sub, d_mul, d_rem, d_quo, d_bit, d_mn2, d_mx2, d_w, d_nn, d_bn2, d_len, d_neg, d_cl, d_at1, d_at2, d_at3, d_at4, d_at5, d_at6, d_at7, d_set, d_app, d_cat, d_take, d_drop, d_rep, d_cons, d_lt_t, d_lt_f, d_le_t, d_le_f, d_eqi_t, d_eqi_f, d_eqb_t, d_eqb_f, d_nb_t, d_nb_f, nth0, nthS, d_api, d_apr, D_cons, D_nl, D_nr, D_vr, D_set, mkL_l, mkR_r, mkI_i, d_shr2, d_shr3, d_shr16, d_shr40, d_shl2, d_shl3, d_shl16, d_shl40, d_apb, mkB_b] at h
  · refine TOK.br' (fun hb => ?_) (fun hb => ?_)
    · have hb2 : b = true := hb
      refine TOK.leaf' ?_
      exact ⟨out (.inl hb2), .inl (by show 2 < 3; decide)⟩
    · have hb2 : b = false := hb
      refine TOK.br' (fun h4 => ?_) (fun h4 => ?_) <;> simp only [V, d_vi, d_vb, d_vr, d_ci, d_cb, d_nr, d_nl, d_add, d_sub, d_mul, d_rem, d_quo, d_bit, d_mn2, d_mx2, d_w, d_nn, d_bn2, d_len, d_neg, d_cl, d_at1, d_at2, d_at3, d_at4, d_at5, d_at6, d_at7, d_set, d_app, d_cat, d_take, d_drop, d_rep, d_cons, d_lt_t, d_lt_f, d_le_t, d_le_f, d_eqi_t, d_eqi_f, d_eqb_t, d_eqb_f, d_nb_t, d_nb_f, nth0, nthS, d_api, d_apr, D_cons, D_nl, D_nr, D_vr, D_set, mkL_l, mkR_r, mkI_i, d_shr2, d_shr3, d_shr16, d_shr40, d_shl2, d_shl3, d_shl16, d_shl40, d_apb, mkB_b] at h4
      · refine TOK.leaf' ?_
        refine And.intro (?_ : Inv 0 _) (?_ : lt2 μ (0, _) _) <;> simp only [V, Sb.val, List.map_cons, List.map_nil, d_vi, d_vb, d_vr, d_ci, d_cb, d_nr, d_nl, d_add, d_sub, d_mul, d_rem, d_quo, d_bit, d_mn2, d_mx2, d_w, d_nn, d_bn2, d_len, d_neg, d_cl, d_at1, d_at2, d_at3, d_at4, d_at5, d_at6, d_at7, d_set, d_app, d_cat, d_take, d_drop, d_rep, d_cons, d_lt_t, d_lt_f, d_le_t, d_le_f, d_eqi_t, d_eqi_f, d_eqb_t, d_eqb_f, d_nb_t, d_nb_f, nth0, nthS, d_api, d_apr, D_cons, D_nl, D_nr, D_vr, D_set, mkL_l, mkR_r, mkI_i, d_shr2, d_shr3, d_shr16, d_shr40, d_shl2, d_shl3, d_shl16, d_shl40, d_apb, mkB_b]
        · refine .inl ⟨rfl, who, val, i + 1, T, S, src, b, r0.set i.toNat [9], _, rfl, ⟨hL, hs, hv, hr.set (by decide) (by decide), by rw [setLen]; exact hl⟩, by omega, by rw [List.length_append, List.length_singleton]; omega, fun z => (by rw [hb2] at z; cases z), fun j g1 g2 => ?_⟩
          by_cases e : j = i
          · subst e
            unfold cl
            rw [List.getD_eq_getElem?_getD, List.getElem?_set_self (by omega)]
            rfl
          · have := h3 j g1 (by omega)
            rcases cl_or r0 i j 9 with z | z <;> rw [z]
            exact this
        · exact .inr ⟨rfl, by show (20 - (i + 1)).toNat < (20 - i).toNat; omega⟩
      · exfalso; omega
  · refine TOK.leaf' ?_
    exact ⟨out (.inr (by omega)), .inl (by show 2 < 3; decide)⟩
theorem s1 : ∀ v, Inv 1 v → TOK v (fun _ g => LgOK v (fun q u => Inv q u ∧ lt2 μ (q, u) (1, v)) g) tr1 := by
  intro v hv
  obtain ⟨who, val, i, T, S, src, b, r0, r1, rfl, ⟨hL, hs, hv, hr, hl⟩, hi, h1, h2, h3⟩ := inv1 hv
  have hL' := hL
  unfold LB at hL'
  have e4 := prod4 (T := T) (S := S) (by omega) (by omega) (by omega) (by omega)
  have hm := FPMost.most_b (T := T) (S := S) (s := src) (d := 0) (by omega)
  have out : (b = false ∨ T ≤ i) → Inv 2 (W (r1.length : Int) 0 T S src who 0 val put0 r0 r1) := fun ho => .inr (.inr (.inl ⟨rfl, _, 0, T, S, src, who, 0, val, put0, r0, r1, rfl, ⟨hL, hs, hv, hr, hl⟩, by omega, PB0 hL, by omega, by omega, fun _ => by rw [ppot0]; omega,
    by
      cases hb : b with
      | false => have := (h2 hb).2; omega
      | true =>
        have := (h3 hb).1
        rcases ho with z | z
        · rw [hb] at z; cases z
        · omega, by omega, by omega, by
      cases hb : b with
      | false => exact .inl ⟨(h2 hb).1, by decide, by decide⟩
      | true =>
        have := (h3 hb).2
        rcases ho with z | z
        · rw [hb] at z; cases z
        · exact .inr ⟨by decide, fun _ => ⟨fun t g1 g2 => this t g1 (by omega), fun _ => .inl rfl, fun _ => rfl⟩⟩, fun j g1 g2 => (by omega)⟩))
  unfold tr1
  refine TOK.br' (fun h => ?_) (fun h => ?_) <;> simp only [V, d_vi, d_vb, d_vr, d_ci, d_cb, d_nr, d_nl, d_add, d_sub, d_mul, d_rem, d_quo, d_bit, d_mn2, d_mx2, d_w, d_nn, d_bn2, d_len, d_neg, d_cl, d_at1, d_at2, d_at3, d_at4, d_at5, d_at6, d_at7, d_set, d_app, d_cat, d_take, d_drop, d_rep, d_cons, d_lt_t, d_lt_f, d_le_t, d_le_f, d_eqi_t, d_eqi_f, d_eqb_t, d_eqb_f, d_nb_t, d_nb_f, nth0, nthS, d_api, d_apr, D_cons, D_nl, D_nr, D_vr, D_set, mkL_l, mkR_r, mkI_i, d_shr2, d_shr3, d_shr16, d_shr40, d_shl2, d_shl3, d_shl16, d_shl40, d_apb, mkB_b] at h
  · refine TOK.br' (fun hb => ?_) (fun hb => ?_)
    · have hb2 : b = true := hb
      obtain ⟨g1, g2⟩ := h3 hb2
      refine TOK.br' (fun h4 => ?_) (fun h4 => ?_) <;> simp only [V, d_vi, d_vb, d_vr, d_ci, d_cb, d_nr, d_nl, d_add, d_sub, d_mul, d_rem, d_quo, d_bit, d_mn2, d_mx2, d_w, d_nn, d_bn2, d_len, d_neg, d_cl, d_at1, d_at2, d_at3, d_at4, d_at5, d_at6, d_at7, d_set, d_app, d_cat, d_take, d_drop, d_rep, d_cons, d_lt_t, d_lt_f, d_le_t, d_le_f, d_eqi_t, d_eqi_f, d_eqb_t, d_eqb_f, d_nb_t, d_nb_f, nth0, nthS, d_api, d_apr, D_cons, D_nl, D_nr, D_vr, D_set, mkL_l, mkR_r, mkI_i, d_shr2, d_shr3, d_shr16, d_shr40, d_shl2, d_shl3, d_shl16, d_shl40, d_apb, mkB_b] at h4
      · refine TOK.leaf' ?_
        refine And.intro (?_ : Inv 1 _) (?_ : lt2 μ (1, _) _) <;> simp only [V, Sb.val, List.map_cons, List.map_nil, d_vi, d_vb, d_vr, d_ci, d_cb, d_nr, d_nl, d_add, d_sub, d_mul, d_rem, d_quo, d_bit, d_mn2, d_mx2, d_w, d_nn, d_bn2, d_len, d_neg, d_cl, d_at1, d_at2, d_at3, d_at4, d_at5, d_at6, d_at7, d_set, d_app, d_cat, d_take, d_drop, d_rep, d_cons, d_lt_t, d_lt_f, d_le_t, d_le_f, d_eqi_t, d_eqi_f, d_eqb_t, d_eqb_f, d_nb_t, d_nb_f, nth0, nthS, d_api, d_apr, D_cons, D_nl, D_nr, D_vr, D_set, mkL_l, mkR_r, mkI_i, d_shr2, d_shr3, d_shr16, d_shr40, d_shl2, d_shl3, d_shl16, d_shl40, d_apb, mkB_b]
        · refine .inr (.inl ⟨rfl, who, val, i + 1, T, S, src, b, _, _, rfl, ⟨hL, hs, hv, hr.set (by decide) (by decide), by rw [setLen]; exact hl⟩, by omega, by rw [List.length_append, List.length_singleton]; omega, fun z => (by rw [hb2] at z; cases z), fun _ => ⟨by rw [List.length_append, List.length_singleton]; omega, fun t g3 g4 => ?_⟩⟩)
          by_cases e : t = i
          · subst e
            unfold cl
            rw [List.getD_eq_getElem?_getD, List.getElem?_set_self (by omega)]
            rfl
          · have := g2 t g3 (by omega)
            rcases cl_or r0 (2 * (T * S) + T + i) (2 * (T * S) + T + t) 16777215 with z | z <;> rw [z]
            exact this
        · exact .inr ⟨rfl, by show (20 - (i + 1)).toNat < (20 - i).toNat; omega⟩
      · exfalso; omega
    · have hb2 : b = false := hb
      refine TOK.leaf' ?_
      exact ⟨out (.inl hb2), .inl (by show 1 < 2; decide)⟩
  · refine TOK.leaf' ?_
    exact ⟨out (.inr (by omega)), .inl (by show 1 < 2; decide)⟩
theorem s2 : ∀ v, Inv 2 v → TOK v (fun _ g => LgOK v (fun q u => Inv q u ∧ lt2 μ (q, u) (2, v)) g) tr2 := by
  intro v hv
  obtain ⟨was, n, T, S, src, who, en, val, p, r0, r1, rfl, ⟨hL, hs, hv, hr, hl⟩, he, hP, h0, h1, h2, h3, h4, h5, h6, h7⟩ := inv2 hv
  have hn := ppot_nn hL hP
  have hL' := hL
  unfold LB at hL'
  have hm := FPMost.most_b (T := T) (S := S) (s := src) (d := 0) (by omega)
  have fs := fp_step (who := who) (en := en) (val := val) hL hs hP h6
  have nb := putT_new (who := who) (en := en) (val := val) (now := 0) hr hP hv he
  have key : n < putMost T S src 0 → ∀ q' l' : Row, RowB q' → (q'.length : Int) = (r0.length : Int) → was ≤ (l'.length : Int) → (l'.length : Int) ≤ 21 + n → FP T S src q' (putStep T S src 0 who r0 0 p) → LP T S was l' → Inv 2 (W was (n + 1) T S src who en val (putStep T S src 0 who r0 0 p) q' l') := fun z q' l' a1 a2 a3 a4 a5 a6 =>
    .inr (.inr (.inl ⟨rfl, was, n + 1, T, S, src, who, en, val, _, q', l', rfl, ⟨hL, hs, hv, a1, by omega⟩, he, PB.step hL hr (by decide) hP, by omega, by omega, fun y => by
      by_cases hp : p.ph = 0
      · have := (ppot_step (who := who) (r := r0) (now := 0) hL hr (by decide) hP).1 hp
        have := h2 hp
        omega
      · rw [(ppot_step (who := who) (r := r0) (now := 0) hL hr (by decide) hP).2 hp] at y
        exact absurd y hp, h3, a3, by omega, a5, a6⟩))
  have dec : ∀ x : Val, n < putMost T S src 0 → nth 0 x.i 1 = n + 1 → lt2 μ (2, x) (2, W was n T S src who en val p r0 r1) := fun x z e => .inr ⟨rfl, by
    show (1000 - nth 0 x.i 1).toNat < (1000 - n).toNat
    omega⟩
  unfold tr2
  refine TOK.br' (fun h => ?_) (fun h => ?_) <;> simp only [W, d_vi, d_vb, d_vr, d_ci, d_cb, d_nr, d_nl, d_add, d_sub, d_mul, d_rem, d_quo, d_bit, d_mn2, d_mx2, d_w, d_nn, d_bn2, d_len, d_neg, d_cl, d_at1, d_at2, d_at3, d_at4, d_at5, d_at6, d_at7, d_set, d_app, d_cat, d_take, d_drop, d_rep, d_cons, d_lt_t, d_lt_f, d_le_t, d_le_f, d_eqi_t, d_eqi_f, d_eqb_t, d_eqb_f, d_nb_t, d_nb_f, nth0, nthS, d_api, d_apr, D_cons, D_nl, D_nr, D_vr, D_set, mkL_l, mkR_r, mkI_i, d_shr2, d_shr3, d_shr16, d_shr40, d_shl2, d_shl3, d_shl16, d_shl40, d_apb, mkB_b, Φ100, Φ101, Φ102, Φ103, Φ104, Φ105, Φ106, Φ107, Φ108, Φ200, Φ201, Φ202, Φ203, Φ204, Φ205, Φ206, Φ207, Φ208, Φ209, Φ0, Φ1, Φ10, Φ300, Φ301, Φ302, Φ303, Φ304, Φ305, Φ306, Φ307, Φ308, Φ309, Φ310, Φ311, Φ312, Φ313, Φ314, Φ315, Φ316, Φ317, Φ318, Φ319, Φ20] at h
  · refine TOK.br' (fun hc => ?_) (fun hc => ?_) <;> simp only [W, d_vi, d_vb, d_vr, d_ci, d_cb, d_nr, d_nl, d_add, d_sub, d_mul, d_rem, d_quo, d_bit, d_mn2, d_mx2, d_w, d_nn, d_bn2, d_len, d_neg, d_cl, d_at1, d_at2, d_at3, d_at4, d_at5, d_at6, d_at7, d_set, d_app, d_cat, d_take, d_drop, d_rep, d_cons, d_lt_t, d_lt_f, d_le_t, d_le_f, d_eqi_t, d_eqi_f, d_eqb_t, d_eqb_f, d_nb_t, d_nb_f, nth0, nthS, d_api, d_apr, D_cons, D_nl, D_nr, D_vr, D_set, mkL_l, mkR_r, mkI_i, d_shr2, d_shr3, d_shr16, d_shr40, d_shl2, d_shl3, d_shl16, d_shl40, d_apb, mkB_b, Φ100, Φ101, Φ102, Φ103, Φ104, Φ105, Φ106, Φ107, Φ108, Φ200, Φ201, Φ202, Φ203, Φ204, Φ205, Φ206, Φ207, Φ208, Φ209, Φ0, Φ1, Φ10, Φ300, Φ301, Φ302, Φ303, Φ304, Φ305, Φ306, Φ307, Φ308, Φ309, Φ310, Φ311, Φ312, Φ313, Φ314, Φ315, Φ316, Φ317, Φ318, Φ319, Φ20, pst, b2i_dec] at hc <;> refine TOK.leaf' ?_
    · refine And.intro (?_ : Inv 2 _) (?_ : lt2 μ (2, _) _) <;> simp only [W, Sb.val, List.map_cons, List.map_nil, d_vi, d_vb, d_vr, d_ci, d_cb, d_nr, d_nl, d_add, d_sub, d_mul, d_rem, d_quo, d_bit, d_mn2, d_mx2, d_w, d_nn, d_bn2, d_len, d_neg, d_cl, d_at1, d_at2, d_at3, d_at4, d_at5, d_at6, d_at7, d_set, d_app, d_cat, d_take, d_drop, d_rep, d_cons, d_lt_t, d_lt_f, d_le_t, d_le_f, d_eqi_t, d_eqi_f, d_eqb_t, d_eqb_f, d_nb_t, d_nb_f, nth0, nthS, d_api, d_apr, D_cons, D_nl, D_nr, D_vr, D_set, mkL_l, mkR_r, mkI_i, d_shr2, d_shr3, d_shr16, d_shr40, d_shl2, d_shl3, d_shl16, d_shl40, d_apb, mkB_b, Φ100, Φ101, Φ102, Φ103, Φ104, Φ105, Φ106, Φ107, Φ108, Φ200, Φ201, Φ202, Φ203, Φ204, Φ205, Φ206, Φ207, Φ208, Φ209, Φ0, Φ1, Φ10, Φ300, Φ301, Φ302, Φ303, Φ304, Φ305, Φ306, Φ307, Φ308, Φ309, Φ310, Φ311, Φ312, Φ313, Φ314, Φ315, Φ316, Φ317, Φ318, Φ319, Φ20, pst, b2i_dec]
      · have f1 := fs.1
        unfold Tch.row at f1
        rw [if_pos hc] at f1
        exact key h r0 r1 hr rfl h4 (by omega) f1 h7
      · exact dec _ h rfl
    · refine And.intro (?_ : Inv 2 _) (?_ : lt2 μ (2, _) _) <;> simp only [W, Sb.val, List.map_cons, List.map_nil, d_vi, d_vb, d_vr, d_ci, d_cb, d_nr, d_nl, d_add, d_sub, d_mul, d_rem, d_quo, d_bit, d_mn2, d_mx2, d_w, d_nn, d_bn2, d_len, d_neg, d_cl, d_at1, d_at2, d_at3, d_at4, d_at5, d_at6, d_at7, d_set, d_app, d_cat, d_take, d_drop, d_rep, d_cons, d_lt_t, d_lt_f, d_le_t, d_le_f, d_eqi_t, d_eqi_f, d_eqb_t, d_eqb_f, d_nb_t, d_nb_f, nth0, nthS, d_api, d_apr, D_cons, D_nl, D_nr, D_vr, D_set, mkL_l, mkR_r, mkI_i, d_shr2, d_shr3, d_shr16, d_shr40, d_shl2, d_shl3, d_shl16, d_shl40, d_apb, mkB_b, Φ100, Φ101, Φ102, Φ103, Φ104, Φ105, Φ106, Φ107, Φ108, Φ200, Φ201, Φ202, Φ203, Φ204, Φ205, Φ206, Φ207, Φ208, Φ209, Φ0, Φ1, Φ10, Φ300, Φ301, Φ302, Φ303, Φ304, Φ305, Φ306, Φ307, Φ308, Φ309, Φ310, Φ311, Φ312, Φ313, Φ314, Φ315, Φ316, Φ317, Φ318, Φ319, Φ20, pst, b2i_dec]
      · have f1 := fs.1
        unfold Tch.row at f1
        rw [if_neg (Int.not_lt.mpr hc)] at f1
        exact key h _ _ (hr.set nb.1 nb.2) (by rw [setLen]) (by rw [List.length_append, List.length_singleton]; omega) (by rw [List.length_append, List.length_singleton]; omega) f1 (h7.app (by omega) (fs.2.resolve_left (Int.not_lt.mpr hc)))
      · exact dec _ h rfl
  · have hph : ¬ p.ph = 0 := fun z => by have := h2 z; have := hn.2 z; omega
    have hp2 := fp_end hP h6 hph
    refine TOK.br' (fun h8 => ?_) (fun h8 => ?_) <;> simp only [W, d_vi, d_vb, d_vr, d_ci, d_cb, d_nr, d_nl, d_add, d_sub, d_mul, d_rem, d_quo, d_bit, d_mn2, d_mx2, d_w, d_nn, d_bn2, d_len, d_neg, d_cl, d_at1, d_at2, d_at3, d_at4, d_at5, d_at6, d_at7, d_set, d_app, d_cat, d_take, d_drop, d_rep, d_cons, d_lt_t, d_lt_f, d_le_t, d_le_f, d_eqi_t, d_eqi_f, d_eqb_t, d_eqb_f, d_nb_t, d_nb_f, nth0, nthS, d_api, d_apr, D_cons, D_nl, D_nr, D_vr, D_set, mkL_l, mkR_r, mkI_i, d_shr2, d_shr3, d_shr16, d_shr40, d_shl2, d_shl3, d_shl16, d_shl40, d_apb, mkB_b] at h8
    · refine TOK.br' (fun h9 => ?_) (fun h9 => ?_) <;> simp only [W, d_vi, d_vb, d_vr, d_ci, d_cb, d_nr, d_nl, d_add, d_sub, d_mul, d_rem, d_quo, d_bit, d_mn2, d_mx2, d_w, d_nn, d_bn2, d_len, d_neg, d_cl, d_at1, d_at2, d_at3, d_at4, d_at5, d_at6, d_at7, d_set, d_app, d_cat, d_take, d_drop, d_rep, d_cons, d_lt_t, d_lt_f, d_le_t, d_le_f, d_eqi_t, d_eqi_f, d_eqb_t, d_eqb_f, d_nb_t, d_nb_f, nth0, nthS, d_api, d_apr, D_cons, D_nl, D_nr, D_vr, D_set, mkL_l, mkR_r, mkI_i, d_shr2, d_shr3, d_shr16, d_shr40, d_shl2, d_shl3, d_shl16, d_shl40, d_apb, mkB_b] at h9
      · refine TOK.leaf' ?_
        refine And.intro (?_ : Inv 3 _) (?_ : lt2 μ (3, _) _)
        · simp (disch := omega) only [W, Sb.val, List.map_cons, List.map_nil, d_vi, d_vb, d_vr, d_ci, d_cb, d_nr, d_nl, d_add, d_sub, d_mul, d_rem, d_quo, d_bit, d_mn2, d_mx2, d_w, d_nn, d_bn2, d_len, d_neg, d_cl, d_at1, d_at2, d_at3, d_at4, d_at5, d_at6, d_at7, d_set, d_app, d_cat, d_take, d_drop, d_rep, d_cons, d_lt_t, d_lt_f, d_le_t, d_le_f, d_eqi_t, d_eqi_f, d_eqb_t, d_eqb_f, d_nb_t, d_nb_f, nth0, nthS, d_api, d_apr, D_cons, D_nl, D_nr, D_vr, D_set, mkL_l, mkR_r, mkI_i, d_shr2, d_shr3, d_shr16, d_shr40, d_shl2, d_shl3, d_shl16, d_shl40, d_apb, mkB_b]
          have e : ((((r1.length : Int) - was).toNat : Nat) : Int) = (r1.length : Int) - was := by omega
          rw [e]
          exact .inr (.inr (.inr ⟨rfl, was, 0, T, S, src, who, en, val, p, p.st, r1, rfl, hL, h3, h4, by omega, by omega, by omega, hp2, h7⟩))
        · exact .inl (by show 0 < 1; decide)
      · exfalso; omega
    · exfalso; omega
theorem s3 : ∀ v, Inv 3 v → TOK v (fun _ g => LgOK v (fun q u => Inv q u ∧ lt2 μ (q, u) (3, v)) g) tr3 := by
  intro v hv
  obtain ⟨was, j, T, S, src, who, en, val, p, b, r0, rfl, hL, h1, h2, h3, h4, h5, h6, h7⟩ := inv3 hv
  have hL' := hL
  unfold LB at hL'
  have e4 := prod4 (T := T) (S := S) (by omega) (by omega) (by omega) (by omega)
  have ew : ((was.toNat : Nat) : Int) = was := by omega
  unfold tr3
  refine TOK.br' (fun h => ?_) (fun h => ?_) <;> simp (disch := omega) only [W3, d_vi, d_vb, d_vr, d_ci, d_cb, d_nr, d_nl, d_add, d_sub, d_mul, d_rem, d_quo, d_bit, d_mn2, d_mx2, d_w, d_nn, d_bn2, d_len, d_neg, d_cl, d_at1, d_at2, d_at3, d_at4, d_at5, d_at6, d_at7, d_set, d_app, d_cat, d_take, d_drop, d_rep, d_cons, d_lt_t, d_lt_f, d_le_t, d_le_f, d_eqi_t, d_eqi_f, d_eqb_t, d_eqb_f, d_nb_t, d_nb_f, nth0, nthS, d_api, d_apr, D_cons, D_nl, D_nr, D_vr, D_set, mkL_l, mkR_r, mkI_i, d_shr2, d_shr3, d_shr16, d_shr40, d_shl2, d_shl3, d_shl16, d_shl40, d_apb, mkB_b] at h
  · have hj : nth 0 (r0.getD (((was.toNat : Nat) : Int) + j).toNat []) 1 = 0 ∨ (2 * (T * S) + T ≤ nth 0 (r0.getD (((was.toNat : Nat) : Int) + j).toNat []) 2 ∧ nth 0 (r0.getD (((was.toNat : Nat) : Int) + j).toNat []) 2 < 2 * (T * S) + 2 * T) := by
      rw [ew]; exact h7 (was + j) (by omega) (by omega)
    have nxt : Inv 3 (W3 was ((r0.length : Int) - was) (j + 1) T S src who en val p b r0) ∧ lt2 μ (3, W3 was ((r0.length : Int) - was) (j + 1) T S src who en val p b r0) (3, W3 was ((r0.length : Int) - was) j T S src who en val p b r0) :=
      ⟨.inr (.inr (.inr ⟨rfl, was, j + 1, T, S, src, who, en, val, p, b, r0, rfl, hL, h1, h2, h3, by omega, by omega, h6, h7⟩)), .inr ⟨rfl, by show (2000 - (j + 1)).toNat < (2000 - j).toNat; omega⟩⟩
    repeat' (first
      | (refine TOK.br' (fun h => ?_) (fun h => ?_) <;> simp (disch := omega) only [W3, d_vi, d_vb, d_vr, d_ci, d_cb, d_nr, d_nl, d_add, d_sub, d_mul, d_rem, d_quo, d_bit, d_mn2, d_mx2, d_w, d_nn, d_bn2, d_len, d_neg, d_cl, d_at1, d_at2, d_at3, d_at4, d_at5, d_at6, d_at7, d_set, d_app, d_cat, d_take, d_drop, d_rep, d_cons, d_lt_t, d_lt_f, d_le_t, d_le_f, d_eqi_t, d_eqi_f, d_eqb_t, d_eqb_f, d_nb_t, d_nb_f, nth0, nthS, d_api, d_apr, D_cons, D_nl, D_nr, D_vr, D_set, mkL_l, mkR_r, mkI_i, d_shr2, d_shr3, d_shr16, d_shr40, d_shl2, d_shl3, d_shl16, d_shl40, d_apb, mkB_b] at h <;> (try (exfalso; omega)))
      | (with_reducible refine TOK.leaf' ?_))
    all_goals (show _ ∧ _; exact nxt)
  · refine TOK.br' (fun h => ?_) (fun h => ?_) <;> simp (disch := omega) only [W3, d_vi, d_vb, d_vr, d_ci, d_cb, d_nr, d_nl, d_add, d_sub, d_mul, d_rem, d_quo, d_bit, d_mn2, d_mx2, d_w, d_nn, d_bn2, d_len, d_neg, d_cl, d_at1, d_at2, d_at3, d_at4, d_at5, d_at6, d_at7, d_set, d_app, d_cat, d_take, d_drop, d_rep, d_cons, d_lt_t, d_lt_f, d_le_t, d_le_f, d_eqi_t, d_eqi_f, d_eqb_t, d_eqb_f, d_nb_t, d_nb_f, nth0, nthS, d_api, d_apr, D_cons, D_nl, D_nr, D_vr, D_set, mkL_l, mkR_r, mkI_i, d_shr2, d_shr3, d_shr16, d_shr40, d_shl2, d_shl3, d_shl16, d_shl40, d_apb, mkB_b] at h <;> (try (exfalso; omega))
    refine TOK.leaf' ?_
    exact rfl
theorem sS (a0 a1 a2 a3 a4 : Int) (b : Bool) (hv : 0 ≤ a4 ∧ a4 < 18446744073709551616) : TOK (⟨[a0, a1, a2, a3, a4], [b], [], [], Φ⟩ : Val) (fun _ g => LgOK (⟨[a0, a1, a2, a3, a4], [b], [], [], Φ⟩ : Val) Inv g) trS := by
  unfold trS
  have hT : 0 ≤ a0 % 4 ∧ a0 % 4 < 4 := by omega
  have hS : 0 ≤ a1 % 4 ∧ a1 % 4 < 4 := by omega
  have hU := u64_in a2
  have e1 := prod4 (T := a0 % 4 + 1) (S := a1 % 4 + 1) (by omega) (by omega) (by omega) (by omega)
  have e3 := mod_in (a := a3 % 65536) (N := a0 % 4 + 1) (by omega)
  have hL : LB (a0 % 4 + 1) (a1 % 4 + 1) (IntKind.u64.wrap a2 % 3) 0 (a3 % 65536 % (a0 % 4 + 1)) := by unfold LB; omega
  refine TOK.leaf' ?_
  refine (show Inv 0 _ from ?_)
  simp (disch := omega) only [Sb.val, List.map_cons, List.map_nil, d_vi, d_vb, d_vr, d_ci, d_cb, d_nr, d_nl, d_add, d_sub, d_mul, d_rem, d_quo, d_bit, d_mn2, d_mx2, d_w, d_nn, d_bn2, d_len, d_neg, d_cl, d_at1, d_at2, d_at3, d_at4, d_at5, d_at6, d_at7, d_set, d_app, d_cat, d_take, d_drop, d_rep, d_cons, d_lt_t, d_lt_f, d_le_t, d_le_f, d_eqi_t, d_eqi_f, d_eqb_t, d_eqb_f, d_nb_t, d_nb_f, nth0, nthS, d_api, d_apr, D_cons, D_nl, D_nr, D_vr, D_set, mkL_l, mkR_r, mkI_i, d_shr2, d_shr3, d_shr16, d_shr40, d_shl2, d_shl3, d_shl16, d_shl40, d_apb, mkB_b, Φ100, Φ101, Φ102, Φ103, Φ104, Φ105, Φ106, Φ107, Φ108, Φ200, Φ201, Φ202, Φ203, Φ204, Φ205, Φ206, Φ207, Φ208, Φ209, Φ0, Φ1, Φ10, Φ300, Φ301, Φ302, Φ303, Φ304, Φ305, Φ306, Φ307, Φ308, Φ309, Φ310, Φ311, Φ312, Φ313, Φ314, Φ315, Φ316, Φ317, Φ318, Φ319, Φ20, and3, and65535, tmod_pos]
  refine .inl ⟨rfl, _, a4, 0, _, _, _, b, _, _, rfl, ⟨hL, by omega, hv, fun j => ?_, ?_⟩, by omega, rfl, fun _ => rfl, fun j g1 g2 => (by omega)⟩
  · unfold cl
    rw [List.getD_eq_getElem?_getD, List.getElem?_replicate]
    split <;> exact ⟨by decide, by decide⟩
  · rw [List.length_replicate]; omega
theorem PutFull_walk (a0 a1 a2 a3 : Int) (b4 : Bool) (a5 : Int) (w : World) (wa0 : (Lit.int .i64 a0).wf = true) (wa1 : (Lit.int .i64 a1).wf = true) (wa2 : (Lit.int .i64 a2).wf = true) (wa3 : (Lit.int .i64 a3).wf = true) (wa5 : (Lit.int .u64 a5).wf = true) :
    Calls Try.prog 15 #[.int .i64 a0, .int .i64 a1, .int .i64 a2, .int .i64 a3, .bool b4, .int .u64 a5] w fun e w' => e = .returned (.bool true) ∧ Below w.heap.size w w' :=
  law_calls (v := ⟨[a0, a1, a2, a3, a5], [b4], [], [], Φ⟩) (l := []) (args := args) (args' := [.int .i64 a0, .int .i64 a1, .int .i64 a2, .int .i64 a3, .bool b4, .int .u64 a5]) hI0 hfn hbod (by decide) rfl (by simp)
    (.cons (.int _ _) (.cons (.int _ _) (.cons (.int _ _) (.cons (.int _ _) (.cons (.bool _) (.cons (.int _ _) (.nil _)))))))
    (aw ⟨[a0, a1, a2, a3, a5], [b4], [], [], Φ⟩ Inv μ rfl hΦ KV.nil k0 k1 k2 k3 (sS a0 a1 a2 a3 a5 b4 (by have := lit_u64 wa5; omega)) s0 s1 s2 s3)
end Go.Proofs.Ytckbckijpdnlaaa.KPutFull
