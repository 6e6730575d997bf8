/- The law PutMost of put: it ends within as many steps of its own as the page says, whatever others do to numbers and hazards between: it answers true for all lists. No condition. -/
import Derived.Test.YtckbckijpdnlaaaOwnPutMostS
import Derived.Test.YtckbckijpdnlaaaOwnLem10
set_option linter.unusedVariables false
set_option linter.unusedSimpArgs false
set_option maxRecDepth 100000
set_option maxHeartbeats 16000000
namespace Go.Proofs.Ytckbckijpdnlaaa.KPutMost
open Go Go.Lib Go.Proofs.Ytckbckijpdnlaaa.Eng Go.Proofs.Ytckbckijpdnlaaa.Sy Go.RowKit

theorem or_in (x y : Int) : 0 ≤ Go.bits .or .u64 x y ∧ Go.bits .or .u64 x y < 18446744073709551616 := u64_in _
theorem rowB_cells {T S a b : Int} {list haz : Row} : RowB (cellsN T S list haz a b) := fun j => by
  unfold cl
  rw [List.getD_eq_getElem?_getD]
  cases h : (cellsN T S list haz a b)[j.toNat]? with
  | none => exact ⟨by decide, by decide⟩
  | some x =>
    unfold cellsN at h
    rw [List.getElem?_map] at h
    cases h2 : (List.range (2 * (T * S) + 2 * T).toNat)[j.toNat]? with
    | none => rw [h2] at h; cases h
    | some q =>
      rw [h2] at h
      cases h
      show 0 ≤ cellAt T S list haz a b q ∧ cellAt T S list haz a b q < _
      unfold cellAt
      split
      · exact or_in _ _
      · split
        · have := and_in (k := .i64) (nth 0 (haz.getD (q - (2 * (T * S)).toNat) []) 0) (m := 31) (by decide) (by decide)
          omega
        · omega
/-- Numbers of 64 bits in the second column. -/
def Good1 (r : Row) : Prop := ∀ j : Nat, 0 ≤ nth 0 (r.getD j []) 1 ∧ nth 0 (r.getD j []) 1 < 18446744073709551616
def W (n T S src dl who en val : Int) (p : PSt) (r0 r1 r2 r3 : Row) : Val := ⟨[n, T, S, src, dl, who, en, val, p.ph, p.c.k, p.c.g, p.c.ws, p.c.we, p.c.wg, p.c.wl, p.c.wh, p.c.ph, p.t.n, p.t.a, p.t.b, p.t.lo, p.t.hi, p.t.ph], [p.st], [r0, r1, r2, r3], [], Φ⟩
def Inv (k : Nat) (v : Val) : Prop := k = 0 ∧ ∃ n T S src dl who en val p r0 r1 r2 r3, v = W n T S src dl who en val p r0 r1 r2 r3 ∧ LB T S src dl who ∧ (0 ≤ en ∧ en ≤ 1) ∧ (0 ≤ val ∧ val < 18446744073709551616) ∧ Good1 r1 ∧ RowB r2 ∧ (r2.length : Int) = 2 * (T * S) + 2 * T ∧ PB T S src dl p ∧ 0 ≤ n ∧ ppot T S src dl p ≤ putMost T S src dl - n ∧ (r3.length : Int) ≤ 20 + 2 * n
def μ (q : Nat × Val) : Nat × Nat := ((1000 - nth 0 q.2.i 0).toNat, 0)
theorem hΦ : ∀ k v, Inv k v → v.f = Φ := by rintro k v ⟨_, n, T, S, src, dl, who, en, val, p, r0, r1, r2, r3, rfl, _⟩; rfl
theorem k0 : ∀ v, Inv 0 v → KV v tm0.kn := by
  rintro v ⟨_, n, T, S, src, dl, who, en, val, p, r0, r1, r2, r3, rfl, hL, he, hv, hg, hr, hl, hP, h0, h1, h2⟩
  have hn := (ppot_nn hL hP).1
  have hL' := hL
  obtain ⟨p1, p2, p3, p4, p5, _⟩ := hP
  unfold LB at hL'; unfold CB at p1; unfold CW at p2; unfold TB at p3
  have hm := FPMost.most_b (T := T) (S := S) (s := src) (d := dl) (by omega)
  have e := wwho (T := T) (S := S) (who := who) (k := p.c.k) (by omega) (by omega) (by omega) (by omega) (by omega)
  have e1 := e.1; have e3 := e.2.1
  have e4 := prod4 (T := T) (S := S) (by omega) (by omega) (by omega) (by omega)
  have hx := mod_in (a := nth 0 (r1.getD n.toNat []) 0 % 65536) (N := T) (by omega)
  have hnm : n ≤ 200 := by omega
  clear e hn h1
  unfold tm0 KV W
  simp only [List.forall_mem_cons, d_vi, d_vb, d_vr, d_ci, d_cb, d_nr, d_nl, d_add, d_sub, d_mul, d_rem, d_quo, d_bit, d_mn, d_mx, d_w, d_nn, d_bn, d_len, d_neg, d_at0, d_at1, d_at2, d_at3, d_at4, d_at5, d_at6, d_at7, d_set, d_app, d_cat, d_take, d_drop, d_rep, d_cons, d_lt_t, d_lt_f, d_le_t, d_le_f, d_eqi_t, d_eqi_f, d_eqb_t, d_eqb_f, d_nb_t, d_nb_f, nth0, nthS, d_api, d_apr, D_cons, D_nl, D_nr, D_vr, D_set, mkL_l, mkR_r, mkI_i, d_apb, mkB_b]
  simp (disch := omega) only [and65535, tmod_pos, List.not_mem_nil, false_imp_iff, implies_true, and_true]
  omega
theorem s0 : ∀ v, Inv 0 v → TOK v (fun _ g => LgOK v (fun q u => Inv q u ∧ lt2 μ (q, u) (0, v)) g) tr0 := by
  rintro v ⟨_, n, T, S, src, dl, who, en, val, p, r0, r1, r2, r3, rfl, hL, he, hv, hg, hr, hl, hP, h0, h1, h2⟩
  have hn := ppot_nn hL hP
  have hL' := hL
  unfold LB at hL'
  have hm := FPMost.most_b (T := T) (S := S) (s := src) (d := dl) (by omega)
  have key : p.ph = 0 → ∀ (q q' l : Row), RowB q → RowB q' → (q'.length : Int) = r2.length → (l.length : Int) ≤ r3.length + 2 → Inv 0 (W (n + 1) T S src dl who en val (putStep T S src dl who q n p) r0 r1 q' l) := fun hp q q' l a1 a2 a3 a4 =>
    ⟨rfl, n + 1, T, S, src, dl, who, en, val, _, r0, r1, q', l, rfl, hL, he, hv, hg, a2, by omega, PB.step hL a1 h0 hP, by omega, by have := (ppot_step (who := who) (r := q) (now := n) hL a1 h0 hP).1 hp; omega, by omega⟩
  have dec : p.ph = 0 → ∀ (x : PSt) (q l : Row), lt2 μ (0, W (n + 1) T S src dl who en val x r0 r1 q l) (0, W n T S src dl who en val p r0 r1 r2 r3) := fun hp x q l => .inl (by
    have := hn.2 hp
    simp only [μ, W, nth0]; omega)
  have new : ∀ q, RowB q → 0 ≤ (putT T S src dl who en val q n p).new ∧ (putT T S src dl who en val q n p).new < 18446744073709551616 := fun q hq => putT_new hq hP hv he
  have b1 : ∀ i : Int, RowB (r2.set i.toNat [nth 0 (r1.getD n.toNat []) 1]) := fun i => hr.set (hg _).1 (hg _).2
  have b2 : ∀ i : Int, RowB (r2.set i.toNat [Go.bits .and .u64 (nth 0 (r1.getD n.toNat []) 1) 31]) := fun i => by
    have := and_in (k := .u64) (nth 0 (r1.getD n.toNat []) 1) (m := 31) (by decide) (by decide)
    exact hr.set this.1 (by omega)
  have most : IntKind.i64.wrap (IntKind.i64.wrap (S * (T + 1) + cl ([[1], [T + 1], [4], [1], [dl + 2]] : Row) src) + 2) = putMost T S src dl := by
    unfold putMost tickMost at hm ⊢
    unfold cl
    rcases (by omega : src = 0 ∨ src = 1 ∨ src = 2 ∨ src = 3 ∨ src = 4) with rfl | rfl | rfl | rfl | rfl <;>
      simp only [Int.reduceToNat, Int.reduceEq, if_true, if_false, List.getD_cons_zero, List.getD_cons_succ, nth0] at hm ⊢ <;> rw [w64 (x := S * (T + 1) + _) (by omega) (by omega), w64 (by omega) (by omega)] <;> omega
  unfold tr0
  refine TOK.br' (fun hp => ?_) (fun hp => ?_) <;> simp only [W, d_vi, d_vb, d_vr, d_ci, d_cb, d_nr, d_nl, d_add, d_sub, d_mul, d_rem, d_quo, d_bit, d_mn2, d_mx2, d_w, d_nn, d_bn2, d_len, d_neg, d_cl, d_at1, d_at2, d_at3, d_at4, d_at5, d_at6, d_at7, d_set, d_app, d_cat, d_take, d_drop, d_rep, d_cons, d_lt_t, d_lt_f, d_le_t, d_le_f, d_eqi_t, d_eqi_f, d_eqb_t, d_eqb_f, d_nb_t, d_nb_f, nth0, nthS, d_api, d_apr, D_cons, D_nl, D_nr, D_vr, D_set, mkL_l, mkR_r, mkI_i, d_shr2, d_shr3, d_shr16, d_shr40, d_shl2, d_shl3, d_shl16, d_shl40, d_apb, mkB_b] at hp
  · refine TOK.br' (fun _ => ?_) (fun _ => ?_)
    · refine TOK.br' (fun _ => ?_) (fun _ => ?_)
      · refine TOK.br' (fun _ => ?_) (fun _ => ?_) <;> refine TOK.leaf' ?_
        · refine And.intro (?_ : Inv 0 _) (?_ : lt2 μ (0, _) _) <;> simp only [W, Sb.val, List.map_cons, List.map_nil, d_vi, d_vb, d_vr, d_ci, d_cb, d_nr, d_nl, d_add, d_sub, d_mul, d_rem, d_quo, d_bit, d_mn2, d_mx2, d_w, d_nn, d_bn2, d_len, d_neg, d_cl, d_at1, d_at2, d_at3, d_at4, d_at5, d_at6, d_at7, d_set, d_app, d_cat, d_take, d_drop, d_rep, d_cons, d_lt_t, d_lt_f, d_le_t, d_le_f, d_eqi_t, d_eqi_f, d_eqb_t, d_eqb_f, d_nb_t, d_nb_f, nth0, nthS, d_api, d_apr, D_cons, D_nl, D_nr, D_vr, D_set, mkL_l, mkR_r, mkI_i, d_shr2, d_shr3, d_shr16, d_shr40, d_shl2, d_shl3, d_shl16, d_shl40, d_apb, mkB_b, Φ100, Φ101, Φ102, Φ103, Φ104, Φ105, Φ106, Φ107, Φ108, Φ200, Φ201, Φ202, Φ203, Φ204, Φ205, Φ206, Φ207, Φ208, Φ209, Φ0, Φ1, Φ10, Φ300, Φ301, Φ302, Φ303, Φ304, Φ305, Φ306, Φ307, Φ308, Φ309, Φ310, Φ311, Φ312, Φ313, Φ314, Φ315, Φ316, Φ317, Φ318, Φ319, Φ20, pst, b2i_dec]
          · exact key hp _ _ _ (b1 _) (b1 _) (by simp) (by simp)
          · exact dec hp (putStep T S src dl who _ n p) _ _
        · refine And.intro (?_ : Inv 0 _) (?_ : lt2 μ (0, _) _) <;> simp only [W, Sb.val, List.map_cons, List.map_nil, d_vi, d_vb, d_vr, d_ci, d_cb, d_nr, d_nl, d_add, d_sub, d_mul, d_rem, d_quo, d_bit, d_mn2, d_mx2, d_w, d_nn, d_bn2, d_len, d_neg, d_cl, d_at1, d_at2, d_at3, d_at4, d_at5, d_at6, d_at7, d_set, d_app, d_cat, d_take, d_drop, d_rep, d_cons, d_lt_t, d_lt_f, d_le_t, d_le_f, d_eqi_t, d_eqi_f, d_eqb_t, d_eqb_f, d_nb_t, d_nb_f, nth0, nthS, d_api, d_apr, D_cons, D_nl, D_nr, D_vr, D_set, mkL_l, mkR_r, mkI_i, d_shr2, d_shr3, d_shr16, d_shr40, d_shl2, d_shl3, d_shl16, d_shl40, d_apb, mkB_b, Φ100, Φ101, Φ102, Φ103, Φ104, Φ105, Φ106, Φ107, Φ108, Φ200, Φ201, Φ202, Φ203, Φ204, Φ205, Φ206, Φ207, Φ208, Φ209, Φ0, Φ1, Φ10, Φ300, Φ301, Φ302, Φ303, Φ304, Φ305, Φ306, Φ307, Φ308, Φ309, Φ310, Φ311, Φ312, Φ313, Φ314, Φ315, Φ316, Φ317, Φ318, Φ319, Φ20, pst, b2i_dec]
          · exact key hp _ _ _ (b1 _) ((b1 _).set (new _ (b1 _)).1 (new _ (b1 _)).2) (by simp) (by simp)
          · exact dec hp (putStep T S src dl who _ n p) _ _
      · refine TOK.br' (fun _ => ?_) (fun _ => ?_) <;> refine TOK.leaf' ?_
        · refine And.intro (?_ : Inv 0 _) (?_ : lt2 μ (0, _) _) <;> simp only [W, Sb.val, List.map_cons, List.map_nil, d_vi, d_vb, d_vr, d_ci, d_cb, d_nr, d_nl, d_add, d_sub, d_mul, d_rem, d_quo, d_bit, d_mn2, d_mx2, d_w, d_nn, d_bn2, d_len, d_neg, d_cl, d_at1, d_at2, d_at3, d_at4, d_at5, d_at6, d_at7, d_set, d_app, d_cat, d_take, d_drop, d_rep, d_cons, d_lt_t, d_lt_f, d_le_t, d_le_f, d_eqi_t, d_eqi_f, d_eqb_t, d_eqb_f, d_nb_t, d_nb_f, nth0, nthS, d_api, d_apr, D_cons, D_nl, D_nr, D_vr, D_set, mkL_l, mkR_r, mkI_i, d_shr2, d_shr3, d_shr16, d_shr40, d_shl2, d_shl3, d_shl16, d_shl40, d_apb, mkB_b, Φ100, Φ101, Φ102, Φ103, Φ104, Φ105, Φ106, Φ107, Φ108, Φ200, Φ201, Φ202, Φ203, Φ204, Φ205, Φ206, Φ207, Φ208, Φ209, Φ0, Φ1, Φ10, Φ300, Φ301, Φ302, Φ303, Φ304, Φ305, Φ306, Φ307, Φ308, Φ309, Φ310, Φ311, Φ312, Φ313, Φ314, Φ315, Φ316, Φ317, Φ318, Φ319, Φ20, pst, b2i_dec]
          · exact key hp _ _ _ (b2 _) (b2 _) (by simp) (by simp)
          · exact dec hp (putStep T S src dl who _ n p) _ _
        · refine And.intro (?_ : Inv 0 _) (?_ : lt2 μ (0, _) _) <;> simp only [W, Sb.val, List.map_cons, List.map_nil, d_vi, d_vb, d_vr, d_ci, d_cb, d_nr, d_nl, d_add, d_sub, d_mul, d_rem, d_quo, d_bit, d_mn2, d_mx2, d_w, d_nn, d_bn2, d_len, d_neg, d_cl, d_at1, d_at2, d_at3, d_at4, d_at5, d_at6, d_at7, d_set, d_app, d_cat, d_take, d_drop, d_rep, d_cons, d_lt_t, d_lt_f, d_le_t, d_le_f, d_eqi_t, d_eqi_f, d_eqb_t, d_eqb_f, d_nb_t, d_nb_f, nth0, nthS, d_api, d_apr, D_cons, D_nl, D_nr, D_vr, D_set, mkL_l, mkR_r, mkI_i, d_shr2, d_shr3, d_shr16, d_shr40, d_shl2, d_shl3, d_shl16, d_shl40, d_apb, mkB_b, Φ100, Φ101, Φ102, Φ103, Φ104, Φ105, Φ106, Φ107, Φ108, Φ200, Φ201, Φ202, Φ203, Φ204, Φ205, Φ206, Φ207, Φ208, Φ209, Φ0, Φ1, Φ10, Φ300, Φ301, Φ302, Φ303, Φ304, Φ305, Φ306, Φ307, Φ308, Φ309, Φ310, Φ311, Φ312, Φ313, Φ314, Φ315, Φ316, Φ317, Φ318, Φ319, Φ20, pst, b2i_dec]
          · exact key hp _ _ _ (b2 _) ((b2 _).set (new _ (b2 _)).1 (new _ (b2 _)).2) (by simp) (by simp)
          · exact dec hp (putStep T S src dl who _ n p) _ _
    · refine TOK.br' (fun _ => ?_) (fun _ => ?_) <;> refine TOK.leaf' ?_
      · refine And.intro (?_ : Inv 0 _) (?_ : lt2 μ (0, _) _) <;> simp only [W, Sb.val, List.map_cons, List.map_nil, d_vi, d_vb, d_vr, d_ci, d_cb, d_nr, d_nl, d_add, d_sub, d_mul, d_rem, d_quo, d_bit, d_mn2, d_mx2, d_w, d_nn, d_bn2, d_len, d_neg, d_cl, d_at1, d_at2, d_at3, d_at4, d_at5, d_at6, d_at7, d_set, d_app, d_cat, d_take, d_drop, d_rep, d_cons, d_lt_t, d_lt_f, d_le_t, d_le_f, d_eqi_t, d_eqi_f, d_eqb_t, d_eqb_f, d_nb_t, d_nb_f, nth0, nthS, d_api, d_apr, D_cons, D_nl, D_nr, D_vr, D_set, mkL_l, mkR_r, mkI_i, d_shr2, d_shr3, d_shr16, d_shr40, d_shl2, d_shl3, d_shl16, d_shl40, d_apb, mkB_b, Φ100, Φ101, Φ102, Φ103, Φ104, Φ105, Φ106, Φ107, Φ108, Φ200, Φ201, Φ202, Φ203, Φ204, Φ205, Φ206, Φ207, Φ208, Φ209, Φ0, Φ1, Φ10, Φ300, Φ301, Φ302, Φ303, Φ304, Φ305, Φ306, Φ307, Φ308, Φ309, Φ310, Φ311, Φ312, Φ313, Φ314, Φ315, Φ316, Φ317, Φ318, Φ319, Φ20, pst, b2i_dec]
        · exact key hp _ _ _ hr hr rfl (by omega)
        · exact dec hp (putStep T S src dl who _ n p) _ _
      · refine And.intro (?_ : Inv 0 _) (?_ : lt2 μ (0, _) _) <;> simp only [W, Sb.val, List.map_cons, List.map_nil, d_vi, d_vb, d_vr, d_ci, d_cb, d_nr, d_nl, d_add, d_sub, d_mul, d_rem, d_quo, d_bit, d_mn2, d_mx2, d_w, d_nn, d_bn2, d_len, d_neg, d_cl, d_at1, d_at2, d_at3, d_at4, d_at5, d_at6, d_at7, d_set, d_app, d_cat, d_take, d_drop, d_rep, d_cons, d_lt_t, d_lt_f, d_le_t, d_le_f, d_eqi_t, d_eqi_f, d_eqb_t, d_eqb_f, d_nb_t, d_nb_f, nth0, nthS, d_api, d_apr, D_cons, D_nl, D_nr, D_vr, D_set, mkL_l, mkR_r, mkI_i, d_shr2, d_shr3, d_shr16, d_shr40, d_shl2, d_shl3, d_shl16, d_shl40, d_apb, mkB_b, Φ100, Φ101, Φ102, Φ103, Φ104, Φ105, Φ106, Φ107, Φ108, Φ200, Φ201, Φ202, Φ203, Φ204, Φ205, Φ206, Φ207, Φ208, Φ209, Φ0, Φ1, Φ10, Φ300, Φ301, Φ302, Φ303, Φ304, Φ305, Φ306, Φ307, Φ308, Φ309, Φ310, Φ311, Φ312, Φ313, Φ314, Φ315, Φ316, Φ317, Φ318, Φ319, Φ20, pst, b2i_dec]
        · exact key hp _ _ _ hr (hr.set (new _ hr).1 (new _ hr).2) (by simp) (by simp)
        · exact dec hp (putStep T S src dl who _ n p) _ _
  · refine TOK.br' (fun h => ?_) (fun h => ?_) <;> simp only [W, d_vi, d_vb, d_vr, d_ci, d_cb, d_nr, d_nl, d_add, d_sub, d_mul, d_rem, d_quo, d_bit, d_mn2, d_mx2, d_w, d_nn, d_bn2, d_len, d_neg, d_cl, d_at1, d_at2, d_at3, d_at4, d_at5, d_at6, d_at7, d_set, d_app, d_cat, d_take, d_drop, d_rep, d_cons, d_lt_t, d_lt_f, d_le_t, d_le_f, d_eqi_t, d_eqi_f, d_eqb_t, d_eqb_f, d_nb_t, d_nb_f, nth0, nthS, d_api, d_apr, D_cons, D_nl, D_nr, D_vr, D_set, mkL_l, mkR_r, mkI_i, d_shr2, d_shr3, d_shr16, d_shr40, d_shl2, d_shl3, d_shl16, d_shl40, d_apb, mkB_b, List.nil_append, List.cons_append] at h <;> rw [most] at h
    · show (den _ _).b = true
      rw [d_eqi_t]
      simp only [W, d_vi, d_vb, d_vr, d_ci, d_cb, d_nr, d_nl, d_add, d_sub, d_mul, d_rem, d_quo, d_bit, d_mn2, d_mx2, d_w, d_nn, d_bn2, d_len, d_neg, d_cl, d_at1, d_at2, d_at3, d_at4, d_at5, d_at6, d_at7, d_set, d_app, d_cat, d_take, d_drop, d_rep, d_cons, d_lt_t, d_lt_f, d_le_t, d_le_f, d_eqi_t, d_eqi_f, d_eqb_t, d_eqb_f, d_nb_t, d_nb_f, nth0, nthS, d_api, d_apr, D_cons, D_nl, D_nr, D_vr, D_set, mkL_l, mkR_r, mkI_i, d_shr2, d_shr3, d_shr16, d_shr40, d_shl2, d_shl3, d_shl16, d_shl40, d_apb, mkB_b, Φ100, Φ101, Φ102, Φ103, Φ104, Φ105, Φ106, Φ107, Φ108, Φ200, Φ201, Φ202, Φ203, Φ204, Φ205, Φ206, Φ207, Φ208, Φ209, Φ0, Φ1, Φ10, Φ300, Φ301, Φ302, Φ303, Φ304, Φ305, Φ306, Φ307, Φ308, Φ309, Φ310, Φ311, Φ312, Φ313, Φ314, Φ315, Φ316, Φ317, Φ318, Φ319, Φ20, List.nil_append, List.cons_append]
      rw [most]
    · exfalso; omega
/-- At the begin. -/
theorem sS (a0 a1 a2 a3 a4 : Int) (l5 l6 : Row) (hg : Good1 l6) : TOK (⟨[a0, a1, a2, a3, a4], [], [l5, l6], [], Φ⟩ : Val) (fun _ g => LgOK (⟨[a0, a1, a2, a3, a4], [], [l5, l6], [], Φ⟩ : Val) Inv g) trS := by
  unfold trS
  have hT : 0 ≤ a0 % 4 ∧ a0 % 4 < 4 := by omega
  have hS : 0 ≤ a1 % 4 ∧ a1 % 4 < 4 := by omega
  have hD : 0 ≤ a3 % 4 ∧ a3 % 4 < 4 := by omega
  have hU := u64_in a2
  refine TOK.br' (fun h => ?_) (fun h => ?_)
  · exact rfl
  refine TOK.br' (fun h => ?_) (fun h => ?_)
  · exact rfl
  refine (show Inv 0 _ from ?_)
  simp (disch := omega) only [Sb.val, List.map_cons, List.map_nil, d_vi, d_vb, d_vr, d_ci, d_cb, d_nr, d_nl, d_add, d_sub, d_mul, d_rem, d_quo, d_bit, d_mn2, d_mx2, d_w, d_nn, d_bn2, d_len, d_neg, d_cl, d_at1, d_at2, d_at3, d_at4, d_at5, d_at6, d_at7, d_set, d_app, d_cat, d_take, d_drop, d_rep, d_cons, d_lt_t, d_lt_f, d_le_t, d_le_f, d_eqi_t, d_eqi_f, d_eqb_t, d_eqb_f, d_nb_t, d_nb_f, nth0, nthS, d_api, d_apr, D_cons, D_nl, D_nr, D_vr, D_set, mkL_l, mkR_r, mkI_i, d_shr2, d_shr3, d_shr16, d_shr40, d_shl2, d_shl3, d_shl16, d_shl40, d_apb, mkB_b, Φ100, Φ101, Φ102, Φ103, Φ104, Φ105, Φ106, Φ107, Φ108, Φ200, Φ201, Φ202, Φ203, Φ204, Φ205, Φ206, Φ207, Φ208, Φ209, Φ0, Φ1, Φ10, Φ300, Φ301, Φ302, Φ303, Φ304, Φ305, Φ306, Φ307, Φ308, Φ309, Φ310, Φ311, Φ312, Φ313, Φ314, Φ315, Φ316, Φ317, Φ318, Φ319, Φ20, and3, and65535, tmod_pos]
  have e1 := prod4 (T := a0 % 4 + 1) (S := a1 % 4 + 1) (by omega) (by omega) (by omega) (by omega)
  have e3 := mod_in (a := a4 % 65536) (N := a0 % 4 + 1) (by omega)
  have g1 := @FCells.cellsN_len (a0 % 4 + 1) (a1 % 4 + 1) (cntA (a0 % 4 + 1) (a1 % 4 + 1) l5) (cntB (a0 % 4 + 1) []) l5 []
  have g2 := @FCells.logN_len (a0 % 4 + 1) (a1 % 4 + 1) (cntA (a0 % 4 + 1) (a1 % 4 + 1) l5) (cntB (a0 % 4 + 1) []) l5 []
  have g3 : cntA (a0 % 4 + 1) (a1 % 4 + 1) l5 ≤ (a0 % 4 + 1) * (a1 % 4 + 1) := by unfold cntA; split <;> omega
  have g4 : cntB (a0 % 4 + 1) [] ≤ a0 % 4 + 1 := by unfold cntB; split <;> omega
  have hL : LB (a0 % 4 + 1) (a1 % 4 + 1) (IntKind.u64.wrap a2 % 5) (a3 % 4) (a4 % 65536 % (a0 % 4 + 1)) := by unfold LB; omega
  exact ⟨rfl, 0, _, _, _, _, _, 0, 1, put0, l5, l6, _, _, rfl, hL, by omega, by omega, hg, rowB_cells, by omega, PB0 hL, by omega, by rw [ppot0]; omega, by omega⟩
theorem good1 {w : World} {A : Option Addr} {n c : Nat} {l : Row} (h : ArgRow w [.i .i64, .i .u64, .b, .i .i64] A n c l) : Good1 l := fun j => by
  rw [List.getD_eq_getElem?_getD]
  cases hj : l[j]? with
  | none => exact ⟨by decide, by decide⟩
  | some x =>
    have hx := h.good x (List.mem_of_getElem? hj)
    match x, hx with
    | [a, b, c, d], hx =>
      have := lit_u64 hx.2.1
      show 0 ≤ b ∧ b < _
      omega
theorem PutMost_walk (a0 a1 a2 a3 a4 : Int) (A5 : Option Addr) (n5 c5 : Nat) (l5 : List (List Int)) (A6 : Option Addr) (n6 c6 : Nat) (l6 : List (List Int)) (w : World) (wa0 : (Lit.int .i64 a0).wf = true) (wa1 : (Lit.int .i64 a1).wf = true) (wa2 : (Lit.int .i64 a2).wf = true) (wa3 : (Lit.int .i64 a3).wf = true) (wa4 : (Lit.int .i64 a4).wf = true) (hr5 : ArgRow w [.i .i64, .i .i64, .b] A5 n5 c5 l5) (hr6 : ArgRow w [.i .i64, .i .u64, .b, .i .i64] A6 n6 c6 l6) :
    Calls Try.prog 11 #[.int .i64 a0, .int .i64 a1, .int .i64 a2, .int .i64 a3, .int .i64 a4, .slice A5 n5 c5, .slice A6 n6 c6] w fun e w' => e = .returned (.bool true) ∧ Below w.heap.size w w' :=
  law_calls (v := ⟨[a0, a1, a2, a3, a4], [], [l5, l6], [], Φ⟩) (l := [⟨A5, n5, c5, [.i .i64, .i .i64, .b], l5⟩, ⟨A6, n6, c6, [.i .i64, .i .u64, .b, .i .i64], l6⟩]) (args := args) (args' := [.int .i64 a0, .int .i64 a1, .int .i64 a2, .int .i64 a3, .int .i64 a4, .slice A5 n5 c5, .slice A6 n6 c6]) hI0 hfn hbod (by decide) rfl (by simpa using ⟨hr5, hr6⟩)
    (.cons (.int _ _) (.cons (.int _ _) (.cons (.int _ _) (.cons (.int _ _) (.cons (.int _ _) (.cons (arg_slice (id := 0) (s := ⟨A5, n5, c5, [.i .i64, .i .i64, .b], l5⟩) (l := [⟨A5, n5, c5, [.i .i64, .i .i64, .b], l5⟩, ⟨A6, n6, c6, [.i .i64, .i .u64, .b, .i .i64], l6⟩]) rfl rfl hr5) (.cons (arg_slice (id := 1) (s := ⟨A6, n6, c6, [.i .i64, .i .u64, .b, .i .i64], l6⟩) (l := [⟨A5, n5, c5, [.i .i64, .i .i64, .b], l5⟩, ⟨A6, n6, c6, [.i .i64, .i .u64, .b, .i .i64], l6⟩]) rfl rfl hr6) (.nil _))))))))
    (aw ⟨[a0, a1, a2, a3, a4], [], [l5, l6], [], Φ⟩ Inv μ rfl hΦ KV.nil k0 (sS a0 a1 a2 a3 a4 l5 l6 (good1 hr6)) s0)
end Go.Proofs.Ytckbckijpdnlaaa.KPutMost
