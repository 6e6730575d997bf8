/- The law PutAlone of put: a thread that puts in one value behind another one, until there is no room: it answers true for all numbers and lists. No condition. -/
import Derived.Test.YtckbckijpdnlaaaOwnPutAloneS
import Derived.Test.YtckbckijpdnlaaaOwnPa10
set_option linter.unusedVariables false
set_option linter.unusedSimpArgs false
set_option maxRecDepth 100000
set_option maxHeartbeats 16000000
namespace Go.Proofs.Ytckbckijpdnlaaa.KPutAlone
open Go Go.Lib Go.Proofs.Ytckbckijpdnlaaa.Eng Go.Proofs.Ytckbckijpdnlaaa.Sy Go.RowKit

def W0 (who now i T S src dl llo lhi : Int) (r0 r1 r2 : Row) : Val := ⟨[who, now, i, T, S, src, dl, llo, lhi], [], [r0, r1, r2], [], Φ⟩
def W1 (who now i val n T S src dl llo lhi : Int) (p : PSt) (r0 r1 r2 : Row) : Val := ⟨[who, now, i, val, n, T, S, src, dl, llo, lhi, p.ph, p.c.k, p.c.g, p.c.ws, p.c.we, p.c.wg, p.c.wl, p.c.wh, p.c.ph, p.t.n, p.t.a, p.t.b, p.t.lo, p.t.hi, p.t.ph], [p.st], [r0, r1, r2], [], Φ⟩
theorem both' {v : Val} {α : Type} {ψ : Kn → α → Prop} {t e : Tree α} (h1 : TOK v ψ t) (h2 : TOK v ψ e) : TOK v ψ (.both t e) := ⟨h1, h2⟩
/-- Places: the first ones live, the others free. -/
def Pl (S who i : Int) (F : Int → Int) : Prop := ∀ j, 0 ≤ j → j < S → (j < i → wS (F (who * S + j)) = 1) ∧ (i ≤ j → F (who * S + j) = 0)
def Com (who now i T S src dl llo lhi : Int) (r0 r1 r2 : Row) : Prop := LB T S src dl who ∧ dl ≤ 3 ∧ RowB r0 ∧ (r0.length : Int) ≤ 20 ∧ RowB r1 ∧ (r1.length : Int) = 2 * (T * S) + 2 * T ∧ NumB T S now r1 ∧ 0 ≤ now ∧ (r2.length : Int) ≤ now ∧ 0 ≤ i ∧ (-1 ≤ llo ∧ llo ≤ 16777215 ∧ -1 ≤ lhi ∧ lhi ≤ 16777215) ∧ Past T S src r1 now lhi
def Inv0 (v : Val) : Prop := ∃ who now i T S src dl llo lhi r0 r1 r2, v = W0 who now i T S src dl llo lhi r0 r1 r2 ∧ Com who now i T S src dl llo lhi r0 r1 r2 ∧ i ≤ (r0.length : Int) ∧ now ≤ i * 27 ∧ Pl S who i (cl r1)
def Inv1 (v : Val) : Prop := ∃ who now i val n T S src dl llo lhi p r0 r1 r2 F0, v = W1 who now i val n T S src dl llo lhi p r0 r1 r2 ∧ Com who now i T S src dl llo lhi r0 r1 r2 ∧ i < (r0.length : Int) ∧ now ≤ i * 27 + n ∧ 0 ≤ n ∧ n ≤ putMost T S src dl ∧ val = cl r0 i ∧ PB T S src dl p ∧ LH p.t ∧ (p.ph = 0 → ppot T S src dl p ≤ putMost T S src dl - n) ∧ Pl S who i F0 ∧ PA T S src who 1 val now now lhi F0 r1 p
def Inv (k : Nat) (v : Val) : Prop := (k = 0 ∧ Inv0 v) ∨ (k = 1 ∧ Inv1 v)
theorem inv0 {v : Val} (h : Inv 0 v) : Inv0 v := by rcases h with ⟨_, h⟩ | ⟨h, _⟩ <;> first | exact h | cases h
theorem inv1 {v : Val} (h : Inv 1 v) : Inv1 v := by rcases h with ⟨h, _⟩ | ⟨_, h⟩ <;> first | exact h | cases h
def μ (q : Nat × Val) : Nat × Nat := match q.1 with
  | 0 => ((60 - 2 * nth 0 q.2.i 2).toNat, 0)
  | _ => ((59 - 2 * nth 0 q.2.i 2).toNat, (1000 - nth 0 q.2.i 4).toNat)
theorem hΦ : ∀ k v, Inv k v → v.f = Φ := by
  rintro k v (⟨_, who, now, i, T, S, src, dl, llo, lhi, r0, r1, r2, rfl, _⟩ | ⟨_, who, now, i, val, n, T, S, src, dl, llo, lhi, p, r0, r1, r2, F0, rfl, _⟩) <;> rfl
theorem most27 {T S src dl who : Int} (hL : LB T S src dl who) (hd : dl ≤ 3) : 4 ≤ putMost T S src dl ∧ putMost T S src dl ≤ 27 := by
  unfold LB at hL
  unfold putMost tickMost
  rcases (by omega : T = 1 ∨ T = 2 ∨ T = 3 ∨ T = 4) with rfl | rfl | rfl | rfl <;> (repeat' split) <;> omega
theorem k0 : ∀ v, Inv 0 v → KV v tm0.kn := by
  intro v hv
  obtain ⟨who, now, i, T, S, src, dl, llo, lhi, r0, r1, r2, rfl, ⟨hL, c1, c2, c3, c4, c5, c6, c7, c8, c9, c10, c11⟩, h1, h2, h3⟩ := inv0 hv
  unfold LB at hL
  have e4 := prod4 (T := T) (S := S) (by omega) (by omega) (by omega) (by omega)
  clear c11 h3 c2 c4 c6
  unfold tm0 KV W0
  simp only [List.forall_mem_cons, d_vi, d_vb, d_vr, d_ci, d_cb, d_nr, d_nl, d_add, d_sub, d_mul, d_rem, d_quo, d_bit, d_mn, d_mx, d_w, d_nn, d_bn, d_len, d_neg, d_at0, d_at1, d_at2, d_at3, d_at4, d_at5, d_at6, d_at7, d_set, d_app, d_cat, d_take, d_drop, d_rep, d_cons, d_lt_t, d_lt_f, d_le_t, d_le_f, d_eqi_t, d_eqi_f, d_eqb_t, d_eqb_f, d_nb_t, d_nb_f, nth0, nthS, d_api, d_apr, D_cons, D_nl, D_nr, D_vr, D_set, mkL_l, mkR_r, mkI_i, d_apb, mkB_b]
  simp only [List.not_mem_nil, false_imp_iff, implies_true, and_true]
  omega
theorem k1 : ∀ v, Inv 1 v → KV v tm1.kn := by
  intro v hv
  obtain ⟨who, now, i, val, n, T, S, src, dl, llo, lhi, p, r0, r1, r2, F0, rfl, ⟨hL, c1, c2, c3, c4, c5, c6, c7, c8, c9, c10, c11⟩, h1, h2, h3, h4, h5, hP, hH, h6, h7, h8⟩ := inv1 hv
  have hm := most27 hL c1
  obtain ⟨p1, p2, p3, p4, p5, _⟩ := hP
  unfold LB at hL; unfold CB at p1; unfold CW at p2; unfold TB at p3; unfold LH at hH
  have e := wwho (T := T) (S := S) (who := who) (k := p.c.k) (by omega) (by omega) (by omega) (by omega) (by omega)
  have e1 := e.1; have e3 := e.2.1
  have e4 := prod4 (T := T) (S := S) (by omega) (by omega) (by omega) (by omega)
  have p2a := p2.1; have p2b := p2.2.1
  have p3a : 0 ≤ p.t.n ∧ p.t.n ≤ 200 ∧ 0 ≤ p.t.a ∧ p.t.a ≤ 16777215 ∧ 0 ≤ p.t.b ∧ p.t.b ≤ 16777215 ∧ 0 ≤ p.t.ph ∧ p.t.ph ≤ 2 := by omega
  clear c11 h7 h8 c2 c4 c6 h6 h5 e p2 p3
  unfold tm1 KV W1
  simp only [List.forall_mem_cons, d_vi, d_vb, d_vr, d_ci, d_cb, d_nr, d_nl, d_add, d_sub, d_mul, d_rem, d_quo, d_bit, d_mn, d_mx, d_w, d_nn, d_bn, d_len, d_neg, d_at0, d_at1, d_at2, d_at3, d_at4, d_at5, d_at6, d_at7, d_set, d_app, d_cat, d_take, d_drop, d_rep, d_cons, d_lt_t, d_lt_f, d_le_t, d_le_f, d_eqi_t, d_eqi_f, d_eqb_t, d_eqb_f, d_nb_t, d_nb_f, nth0, nthS, d_api, d_apr, D_cons, D_nl, D_nr, D_vr, D_set, mkL_l, mkR_r, mkI_i, d_apb, mkB_b]
  simp only [List.not_mem_nil, false_imp_iff, implies_true, and_true]
  omega
theorem s0 : ∀ v, Inv 0 v → TOK v (fun _ g => LgOK v (fun q u => Inv q u ∧ lt2 μ (q, u) (0, v)) g) tr0 := by
  intro v hv
  obtain ⟨who, now, i, T, S, src, dl, llo, lhi, r0, r1, r2, rfl, hC, h1, h2, h3⟩ := inv0 hv
  have hC' := hC
  obtain ⟨hL, c1, c2, c3, c4, c5, c6, c7, c8, c9, c10, c11⟩ := hC
  have hm := most27 hL c1
  unfold tr0
  refine TOK.br' (fun h => ?_) (fun h => ?_) <;> simp only [W0, d_vi, d_vb, d_vr, d_ci, d_cb, d_nr, d_nl, d_add, d_sub, d_mul, d_rem, d_quo, d_bit, d_mn2, d_mx2, d_w, d_nn, d_bn2, d_len, d_neg, d_cl, d_at1, d_at2, d_at3, d_at4, d_at5, d_at6, d_at7, d_set, d_app, d_cat, d_take, d_drop, d_rep, d_cons, d_lt_t, d_lt_f, d_le_t, d_le_f, d_eqi_t, d_eqi_f, d_eqb_t, d_eqb_f, d_nb_t, d_nb_f, nth0, nthS, d_api, d_apr, D_cons, D_nl, D_nr, D_vr, D_set, mkL_l, mkR_r, mkI_i, d_shr2, d_shr3, d_shr16, d_shr40, d_shl2, d_shl3, d_shl16, d_shl40, d_apb, mkB_b] at h <;> refine TOK.leaf' ?_
  · refine And.intro (?_ : Inv 1 _) (?_ : lt2 μ (1, _) _) <;> simp only [W0, Sb.val, List.map_cons, List.map_nil, d_vi, d_vb, d_vr, d_ci, d_cb, d_nr, d_nl, d_add, d_sub, d_mul, d_rem, d_quo, d_bit, d_mn2, d_mx2, d_w, d_nn, d_bn2, d_len, d_neg, d_cl, d_at1, d_at2, d_at3, d_at4, d_at5, d_at6, d_at7, d_set, d_app, d_cat, d_take, d_drop, d_rep, d_cons, d_lt_t, d_lt_f, d_le_t, d_le_f, d_eqi_t, d_eqi_f, d_eqb_t, d_eqb_f, d_nb_t, d_nb_f, nth0, nthS, d_api, d_apr, D_cons, D_nl, D_nr, D_vr, D_set, mkL_l, mkR_r, mkI_i, d_shr2, d_shr3, d_shr16, d_shr40, d_shl2, d_shl3, d_shl16, d_shl40, d_apb, mkB_b]
    · exact .inr ⟨rfl, who, now, i, cl r0 i, 0, T, S, src, dl, llo, lhi, put0, r0, r1, r2, cl r1, rfl, hC', h, by omega, by omega, by omega, rfl, PB0 hL, ⟨by decide, by decide, by decide, by decide⟩, fun _ => by rw [ppot0]; omega, h3, PA0 hL c7 c11 (fun _ _ _ => rfl) (fun _ _ _ => rfl)⟩
    · exact .inl (by show (59 - 2 * i).toNat < (60 - 2 * i).toNat; omega)
  · exact rfl
theorem qual0 {F : Int → Int} {T S who j : Int} (h : F (who * S + j) = 0) : Qual F T S who j := by
  unfold Qual; rw [h]; exact ⟨by decide, .inl (by decide)⟩
theorem qual1 {F : Int → Int} {T S who j : Int} (h : wS (F (who * S + j)) = 1) : ¬ Qual F T S who j := by
  unfold Qual; rw [h]; rintro ⟨_, z | ⟨z, _⟩⟩ <;> exact absurd z (by decide)
theorem s1 : ∀ v, Inv 1 v → TOK v (fun _ g => LgOK v (fun q u => Inv q u ∧ lt2 μ (q, u) (1, v)) g) tr1 := by
  intro v hv
  obtain ⟨who, now, i, val, n, T, S, src, dl, llo, lhi, p, r0, r1, r2, F0, rfl, ⟨hL, c1, c2, c3, c4, c5, c6, c7, c8, c9, c10, c11⟩, h1, h2, h3, h4, h5, hP, hH, h6, h7, hA⟩ := inv1 hv
  have hm := most27 hL c1
  have hn := ppot_nn hL hP
  have hL' := hL
  unfold LB at hL'
  have nb := putT_new (who := who) (en := 1) (val := val) (now := now) c4 hP (by rw [h5]; exact c2 _) (by decide)
  have G := pa_step hL hP c6 c5 c7 (Int.le_refl _) (Int.le_refl _) (by omega) hA
  have key : n < putMost T S src dl → ∀ q' l' : Row, q' = ((putT T S src dl who 1 val r1 now p).row r1) → RowB q' → (q'.length : Int) = (r1.length : Int) → (l'.length : Int) ≤ now + 1 → Inv 1 (W1 who (now + 1) i val (n + 1) T S src dl llo lhi (putStep T S src dl who r1 now p) r0 q' l') := fun z q' l' e0 a1 a2 a3 => by
    subst e0
    exact .inr ⟨rfl, who, now + 1, i, val, n + 1, T, S, src, dl, llo, lhi, _, r0, _, l', F0, rfl, ⟨hL, c1, c2, c3, a1, by omega, G.num, by omega, a3, c9, c10, c11.other (by omega) G.up (by omega)⟩, h1, by omega, by omega, by omega, h5, PB.step hL c4 c7 hP,
      by
        unfold putStep
        split
        · split
          · exact hH
          · split
            · exact LH.step hP.2.2.1 hH
            · split <;> exact hH
        · exact hH,
      fun y => by
      by_cases hp : p.ph = 0
      · have := (ppot_step (who := who) (r := r1) (now := now) hL c4 c7 hP).1 hp
        have := h6 hp
        omega
      · rw [(ppot_step (who := who) (r := r1) (now := now) hL c4 c7 hP).2 hp] at y
        exact absurd y hp, h7, G.pa⟩
  have dec : ∀ x : Val, n < putMost T S src dl → nth 0 x.i 4 = n + 1 → nth 0 x.i 2 = i → lt2 μ (1, x) (1, W1 who now i val n T S src dl llo lhi p r0 r1 r2) := fun x z e e2 => .inr ⟨by show (59 - 2 * nth 0 x.i 2).toNat = (59 - 2 * i).toNat; rw [e2], by
    show (1000 - nth 0 x.i 4).toNat < (1000 - n).toNat
    omega⟩
  unfold tr1
  refine TOK.br' (fun h => ?_) (fun h => ?_) <;> simp only [W1, d_vi, d_vb, d_vr, d_ci, d_cb, d_nr, d_nl, d_add, d_sub, d_mul, d_rem, d_quo, d_bit, d_mn2, d_mx2, d_w, d_nn, d_bn2, d_len, d_neg, d_cl, d_at1, d_at2, d_at3, d_at4, d_at5, d_at6, d_at7, d_set, d_app, d_cat, d_take, d_drop, d_rep, d_cons, d_lt_t, d_lt_f, d_le_t, d_le_f, d_eqi_t, d_eqi_f, d_eqb_t, d_eqb_f, d_nb_t, d_nb_f, nth0, nthS, d_api, d_apr, D_cons, D_nl, D_nr, D_vr, D_set, mkL_l, mkR_r, mkI_i, d_shr2, d_shr3, d_shr16, d_shr40, d_shl2, d_shl3, d_shl16, d_shl40, d_apb, mkB_b, Φ100, Φ101, Φ102, Φ103, Φ104, Φ105, Φ106, Φ107, Φ108, Φ200, Φ201, Φ202, Φ203, Φ204, Φ205, Φ206, Φ207, Φ208, Φ209, Φ0, Φ1, Φ10, Φ300, Φ301, Φ302, Φ303, Φ304, Φ305, Φ306, Φ307, Φ308, Φ309, Φ310, Φ311, Φ312, Φ313, Φ314, Φ315, Φ316, Φ317, Φ318, Φ319, Φ20, Φ11, Φ30, Φ31, Φ32] at h
  · refine TOK.br' (fun hc => ?_) (fun hc => ?_) <;> simp only [W1, d_vi, d_vb, d_vr, d_ci, d_cb, d_nr, d_nl, d_add, d_sub, d_mul, d_rem, d_quo, d_bit, d_mn2, d_mx2, d_w, d_nn, d_bn2, d_len, d_neg, d_cl, d_at1, d_at2, d_at3, d_at4, d_at5, d_at6, d_at7, d_set, d_app, d_cat, d_take, d_drop, d_rep, d_cons, d_lt_t, d_lt_f, d_le_t, d_le_f, d_eqi_t, d_eqi_f, d_eqb_t, d_eqb_f, d_nb_t, d_nb_f, nth0, nthS, d_api, d_apr, D_cons, D_nl, D_nr, D_vr, D_set, mkL_l, mkR_r, mkI_i, d_shr2, d_shr3, d_shr16, d_shr40, d_shl2, d_shl3, d_shl16, d_shl40, d_apb, mkB_b, Φ100, Φ101, Φ102, Φ103, Φ104, Φ105, Φ106, Φ107, Φ108, Φ200, Φ201, Φ202, Φ203, Φ204, Φ205, Φ206, Φ207, Φ208, Φ209, Φ0, Φ1, Φ10, Φ300, Φ301, Φ302, Φ303, Φ304, Φ305, Φ306, Φ307, Φ308, Φ309, Φ310, Φ311, Φ312, Φ313, Φ314, Φ315, Φ316, Φ317, Φ318, Φ319, Φ20, Φ11, Φ30, Φ31, Φ32, pst, b2i_dec] at hc <;> refine TOK.leaf' ?_
    · refine And.intro (?_ : Inv 1 _) (?_ : lt2 μ (1, _) _) <;> simp only [W1, Sb.val, List.map_cons, List.map_nil, d_vi, d_vb, d_vr, d_ci, d_cb, d_nr, d_nl, d_add, d_sub, d_mul, d_rem, d_quo, d_bit, d_mn2, d_mx2, d_w, d_nn, d_bn2, d_len, d_neg, d_cl, d_at1, d_at2, d_at3, d_at4, d_at5, d_at6, d_at7, d_set, d_app, d_cat, d_take, d_drop, d_rep, d_cons, d_lt_t, d_lt_f, d_le_t, d_le_f, d_eqi_t, d_eqi_f, d_eqb_t, d_eqb_f, d_nb_t, d_nb_f, nth0, nthS, d_api, d_apr, D_cons, D_nl, D_nr, D_vr, D_set, mkL_l, mkR_r, mkI_i, d_shr2, d_shr3, d_shr16, d_shr40, d_shl2, d_shl3, d_shl16, d_shl40, d_apb, mkB_b, Φ100, Φ101, Φ102, Φ103, Φ104, Φ105, Φ106, Φ107, Φ108, Φ200, Φ201, Φ202, Φ203, Φ204, Φ205, Φ206, Φ207, Φ208, Φ209, Φ0, Φ1, Φ10, Φ300, Φ301, Φ302, Φ303, Φ304, Φ305, Φ306, Φ307, Φ308, Φ309, Φ310, Φ311, Φ312, Φ313, Φ314, Φ315, Φ316, Φ317, Φ318, Φ319, Φ20, Φ11, Φ30, Φ31, Φ32, pst, b2i_dec]
      · exact key h r1 r2 (by unfold Tch.row; rw [if_pos hc]) c4 rfl (by omega)
      · exact dec _ h rfl rfl
    · refine And.intro (?_ : Inv 1 _) (?_ : lt2 μ (1, _) _) <;> simp only [W1, Sb.val, List.map_cons, List.map_nil, d_vi, d_vb, d_vr, d_ci, d_cb, d_nr, d_nl, d_add, d_sub, d_mul, d_rem, d_quo, d_bit, d_mn2, d_mx2, d_w, d_nn, d_bn2, d_len, d_neg, d_cl, d_at1, d_at2, d_at3, d_at4, d_at5, d_at6, d_at7, d_set, d_app, d_cat, d_take, d_drop, d_rep, d_cons, d_lt_t, d_lt_f, d_le_t, d_le_f, d_eqi_t, d_eqi_f, d_eqb_t, d_eqb_f, d_nb_t, d_nb_f, nth0, nthS, d_api, d_apr, D_cons, D_nl, D_nr, D_vr, D_set, mkL_l, mkR_r, mkI_i, d_shr2, d_shr3, d_shr16, d_shr40, d_shl2, d_shl3, d_shl16, d_shl40, d_apb, mkB_b, Φ100, Φ101, Φ102, Φ103, Φ104, Φ105, Φ106, Φ107, Φ108, Φ200, Φ201, Φ202, Φ203, Φ204, Φ205, Φ206, Φ207, Φ208, Φ209, Φ0, Φ1, Φ10, Φ300, Φ301, Φ302, Φ303, Φ304, Φ305, Φ306, Φ307, Φ308, Φ309, Φ310, Φ311, Φ312, Φ313, Φ314, Φ315, Φ316, Φ317, Φ318, Φ319, Φ20, Φ11, Φ30, Φ31, Φ32, pst, b2i_dec]
      · exact key h _ _ (by unfold Tch.row; rw [if_neg (Int.not_lt.mpr hc)]) (c4.set nb.1 nb.2) (by rw [setLen]) (by rw [List.length_append, List.length_singleton]; omega)
      · exact dec _ h rfl rfl
  · have hph : ¬ p.ph = 0 := fun z => by have := h6 z; have := hn.2 z; omega
    have p12 : p.ph = 1 ∨ p.ph = 2 := by have := hP.2.2.2; omega
    have dec0 : ∀ x : Val, nth 0 x.i 2 = i + 1 → lt2 μ (0, x) (1, W1 who now i val n T S src dl llo lhi p r0 r1 r2) := fun x e2 => .inl (by
      show (60 - 2 * nth 0 x.i 2).toNat < (59 - 2 * i).toNat
      omega)
    refine TOK.br' (fun h8 => ?_) (fun h8 => ?_) <;> simp only [W1, d_vi, d_vb, d_vr, d_ci, d_cb, d_nr, d_nl, d_add, d_sub, d_mul, d_rem, d_quo, d_bit, d_mn2, d_mx2, d_w, d_nn, d_bn2, d_len, d_neg, d_cl, d_at1, d_at2, d_at3, d_at4, d_at5, d_at6, d_at7, d_set, d_app, d_cat, d_take, d_drop, d_rep, d_cons, d_lt_t, d_lt_f, d_le_t, d_le_f, d_eqi_t, d_eqi_f, d_eqb_t, d_eqb_f, d_nb_t, d_nb_f, nth0, nthS, d_api, d_apr, D_cons, D_nl, D_nr, D_vr, D_set, mkL_l, mkR_r, mkI_i, d_shr2, d_shr3, d_shr16, d_shr40, d_shl2, d_shl3, d_shl16, d_shl40, d_apb, mkB_b] at h8
    · have hp2 : p.ph = 2 := by
        rcases p12 with z | z
        · exfalso
          have D := pa_done hP hA z
          have := h7 p.c.k D.2.2.1.1 D.2.2.1.2
          exact qual1 (this.1 (by omega)) D.2.2.2.2.1
        · exact z
      refine TOK.br' (fun h9 => ?_) (fun h9 => ?_) <;> simp only [W1, d_vi, d_vb, d_vr, d_ci, d_cb, d_nr, d_nl, d_add, d_sub, d_mul, d_rem, d_quo, d_bit, d_mn2, d_mx2, d_w, d_nn, d_bn2, d_len, d_neg, d_cl, d_at1, d_at2, d_at3, d_at4, d_at5, d_at6, d_at7, d_set, d_app, d_cat, d_take, d_drop, d_rep, d_cons, d_lt_t, d_lt_f, d_le_t, d_le_f, d_eqi_t, d_eqi_f, d_eqb_t, d_eqb_f, d_nb_t, d_nb_f, nth0, nthS, d_api, d_apr, D_cons, D_nl, D_nr, D_vr, D_set, mkL_l, mkR_r, mkI_i, d_shr2, d_shr3, d_shr16, d_shr40, d_shl2, d_shl3, d_shl16, d_shl40, d_apb, mkB_b] at h9
      · refine TOK.leaf' ?_
        refine And.intro (?_ : Inv 0 _) (?_ : lt2 μ (0, _) _) <;> simp only [W1, Sb.val, List.map_cons, List.map_nil, d_vi, d_vb, d_vr, d_ci, d_cb, d_nr, d_nl, d_add, d_sub, d_mul, d_rem, d_quo, d_bit, d_mn2, d_mx2, d_w, d_nn, d_bn2, d_len, d_neg, d_cl, d_at1, d_at2, d_at3, d_at4, d_at5, d_at6, d_at7, d_set, d_app, d_cat, d_take, d_drop, d_rep, d_cons, d_lt_t, d_lt_f, d_le_t, d_le_f, d_eqi_t, d_eqi_f, d_eqb_t, d_eqb_f, d_nb_t, d_nb_f, nth0, nthS, d_api, d_apr, D_cons, D_nl, D_nr, D_vr, D_set, mkL_l, mkR_r, mkI_i, d_shr2, d_shr3, d_shr16, d_shr40, d_shl2, d_shl3, d_shl16, d_shl40, d_apb, mkB_b]
        · exact .inl ⟨rfl, who, now, i + 1, T, S, src, dl, llo, lhi, r0, r1, r2, rfl, ⟨hL, c1, c2, c3, c4, c5, c6, c7, c8, by omega, c10, c11⟩, by omega, by omega, fun j u v => by
            rw [hA.own j u v (fun z => by omega)]
            have := h7 j u v
            exact ⟨fun _ => this.1 (by omega), fun z => by omega⟩⟩
        · exact dec0 _ rfl
      · exact absurd hp2 h9
    · have hp1 : p.ph = 1 := by
        rcases p12 with z | z
        · exact z
        · exfalso
          have D := pa_full hP hA z i (by omega) h8
          exact D (qual0 ((h7 i (by omega) h8).2 (Int.le_refl _)))
      obtain ⟨d1, d2, d3, d4, d5, d6, d7, d8, d9, d10, d11, d12⟩ := pa_done hP hA hp1
      have hk : p.c.k = i := by
        rcases (by omega : p.c.k < i ∨ p.c.k = i ∨ i < p.c.k) with z | z | z
        · exact absurd d5 (qual1 ((h7 p.c.k d3.1 d3.2).1 z))
        · exact z
        · exact absurd (qual0 ((h7 i (by omega) h8).2 (Int.le_refl _))) (d4 i (by omega) z)
      have wp := word_parts (en := 1) hP hp1 (by decide)
      have f0 := (h7 p.c.k d3.1 d3.2).2 (by omega)
      have hg0 : p.c.wg = 0 := by rw [d6.2.2.1, f0]; decide
      have ww := wwho (T := T) (S := S) (who := who) (k := p.c.k) (by omega) (by omega) (by omega) d3.1 d3.2
      have e4 := prod4 (T := T) (S := S) (by omega) (by omega) (by omega) (by omega)
      have nxt : Inv 0 (W0 who now (i + 1) T S src dl p.t.lo p.t.hi r0 r1 r2) := .inl ⟨rfl, who, now, i + 1, T, S, src, dl, _, _, r0, r1, r2, rfl, ⟨hL, c1, c2, c3, c4, c5, c6, c7, c8, by omega, by omega, d10⟩, by omega, by omega, fun j u v => by
          by_cases e : j = p.c.k
          · rw [e, d12]
            exact ⟨fun _ => wp.1, fun z => by omega⟩
          · rw [hA.own j u v (fun _ => e)]
            have := h7 j u v
            exact ⟨fun _ => this.1 (by omega), fun z => this.2 (by omega)⟩⟩
      have g1 : Go.bits .and .u64 (cl r1 (who * S + p.c.k)) 3 = 1 := by rw [d12]; exact wp.1
      have g2 : Go.bits .and .u64 ((cl r1 (who * S + p.c.k)).fdiv 8) 8191 = 1 := by rw [d12]; have := wp.2.2.1; unfold wG at this; omega
      have g3 : Go.bits .and .u64 ((cl r1 (who * S + p.c.k)).fdiv 65536) 16777215 = p.t.lo := by rw [d12]; exact wp.2.2.2.1
      have g4 : Go.bits .and .u64 ((cl r1 (who * S + p.c.k)).fdiv 1099511627776) 16777215 = p.t.hi := by rw [d12]; exact wp.2.2.2.2.1
      have g5 : IntKind.i64.wrap ((who * S + p.c.k).tdiv S) = who := by rw [tdiv_pos ww.1, ww.2.2, w64 (by omega) (by omega)]
      have q0 : Inv 0 (W0 who now (i + 1) T S src dl p.t.lo p.t.hi r0 r1 r2) ∧ lt2 μ (0, W0 who now (i + 1) T S src dl p.t.lo p.t.hi r0 r1 r2) (1, W1 who now i val n T S src dl llo lhi p r0 r1 r2) := ⟨nxt, dec0 _ rfl⟩
      repeat' (first
        | (refine TOK.br' (fun h => ?_) (fun h => ?_) <;> simp only [W1, d_vi, d_vb, d_vr, d_ci, d_cb, d_nr, d_nl, d_add, d_sub, d_mul, d_rem, d_quo, d_bit, d_mn2, d_mx2, d_w, d_nn, d_bn2, d_len, d_neg, d_cl, d_at1, d_at2, d_at3, d_at4, d_at5, d_at6, d_at7, d_set, d_app, d_cat, d_take, d_drop, d_rep, d_cons, d_lt_t, d_lt_n, d_le_t, d_le_n, d_eqi_t, d_eqi_f, d_eqb_t, d_eqb_f, d_nb_t, d_nb_f, nth0, nthS, d_api, d_apr, D_cons, D_nl, D_nr, D_vr, D_set, mkL_l, mkR_r, mkI_i, d_shr2, d_shr3, d_shr16, d_shr40, d_shl2, d_shl3, d_shl16, d_shl40, d_apb, mkB_b] at h <;> (try (exfalso; omega)))
        | (with_reducible refine TOK.leaf' ?_)
        | (with_reducible refine both' ?_ ?_))
      all_goals (show _ ∧ _; exact q0)
theorem past0 {T S src : Int} {r : Row} (hr : RowB r) : Past T S src r 0 (-1) := by
  have := (hr (2 * (T * S) + T)).1
  refine ⟨fun _ => by omega, fun _ => .inl (by decide), fun _ => .inl ⟨rfl, by omega⟩, fun _ => by decide, fun _ => .inl ⟨rfl, by decide⟩⟩
theorem rowB_arg {w : World} {A : Option Addr} {n c : Nat} {l : Row} (h : ArgRow w [.i .u64] A n c l) : RowB l := fun j => by
  unfold cl
  rw [List.getD_eq_getElem?_getD]
  cases hj : l[j.toNat]? with
  | none => exact ⟨by decide, by decide⟩
  | some x =>
    have hx := h.good x (List.mem_of_getElem? hj)
    match x, hx with
    | [a], hx =>
      have := lit_u64 hx.1
      show 0 ≤ a ∧ a < _
      omega
theorem sS (a0 a1 a2 a3 a4 : Int) (l : Row) (hl : RowB l) : TOK (⟨[a0, a1, a2, a3, a4], [], [l], [], Φ⟩ : Val) (fun _ g => LgOK (⟨[a0, a1, a2, a3, a4], [], [l], [], Φ⟩ : Val) Inv g) trS := by
  unfold trS
  have hT : 0 ≤ a0 % 4 ∧ a0 % 4 < 4 := by omega
  have hS : 0 ≤ a1 % 4 ∧ a1 % 4 < 4 := by omega
  have hU := u64_in a2
  have e1 := prod4 (T := a0 % 4 + 1) (S := a1 % 4 + 1) (by omega) (by omega) (by omega) (by omega)
  have e3 := mod_in (a := a4 % 65536) (N := a0 % 4 + 1) (by omega)
  have hL : LB (a0 % 4 + 1) (a1 % 4 + 1) (IntKind.u64.wrap a2 % 5) (a3 % 4) (a4 % 65536 % (a0 % 4 + 1)) := by unfold LB; omega
  refine TOK.br' (fun h => ?_) (fun h => ?_) <;> simp only [d_vi, d_vb, d_vr, d_ci, d_cb, d_nr, d_nl, d_add, d_sub, d_mul, d_rem, d_quo, d_bit, d_mn2, d_mx2, d_w, d_nn, d_bn2, d_len, d_neg, d_cl, d_at1, d_at2, d_at3, d_at4, d_at5, d_at6, d_at7, d_set, d_app, d_cat, d_take, d_drop, d_rep, d_cons, d_lt_t, d_lt_f, d_le_t, d_le_f, d_eqi_t, d_eqi_f, d_eqb_t, d_eqb_f, d_nb_t, d_nb_f, nth0, nthS, d_api, d_apr, D_cons, D_nl, D_nr, D_vr, D_set, mkL_l, mkR_r, mkI_i, d_shr2, d_shr3, d_shr16, d_shr40, d_shl2, d_shl3, d_shl16, d_shl40, d_apb, mkB_b] at h <;> refine TOK.leaf' ?_
  · exact rfl
  · refine (show Inv 0 _ from ?_)
    simp (disch := omega) only [Sb.val, List.map_cons, List.map_nil, d_vi, d_vb, d_vr, d_ci, d_cb, d_nr, d_nl, d_add, d_sub, d_mul, d_rem, d_quo, d_bit, d_mn2, d_mx2, d_w, d_nn, d_bn2, d_len, d_neg, d_cl, d_at1, d_at2, d_at3, d_at4, d_at5, d_at6, d_at7, d_set, d_app, d_cat, d_take, d_drop, d_rep, d_cons, d_lt_t, d_lt_f, d_le_t, d_le_f, d_eqi_t, d_eqi_f, d_eqb_t, d_eqb_f, d_nb_t, d_nb_f, nth0, nthS, d_api, d_apr, D_cons, D_nl, D_nr, D_vr, D_set, mkL_l, mkR_r, mkI_i, d_shr2, d_shr3, d_shr16, d_shr40, d_shl2, d_shl3, d_shl16, d_shl40, d_apb, mkB_b, Φ100, Φ101, Φ102, Φ103, Φ104, Φ105, Φ106, Φ107, Φ108, Φ200, Φ201, Φ202, Φ203, Φ204, Φ205, Φ206, Φ207, Φ208, Φ209, Φ0, Φ1, Φ10, Φ300, Φ301, Φ302, Φ303, Φ304, Φ305, Φ306, Φ307, Φ308, Φ309, Φ310, Φ311, Φ312, Φ313, Φ314, Φ315, Φ316, Φ317, Φ318, Φ319, Φ20, Φ11, Φ30, Φ31, Φ32, and3, and65535, tmod_pos]
    have hz : ∀ (n : Nat) (j : Int), cl (List.replicate n [0]) j = 0 := cl_rep
    have hr : ∀ n : Nat, RowB (List.replicate n [0]) := fun n j => by rw [hz]; exact ⟨by decide, by decide⟩
    exact .inl ⟨rfl, _, 0, 0, _, _, _, _, -1, -1, l, _, [], rfl, ⟨hL, by omega, hl, by omega, hr _, by rw [List.length_replicate]; omega, fun j _ _ => by rw [hz]; exact ⟨by decide, by decide⟩, by decide, by decide, by decide, by decide, past0 (hr _)⟩, by omega, by decide, fun j u v => by rw [hz]; exact ⟨fun z => by omega, fun _ => rfl⟩⟩
theorem PutAlone_walk (a0 a1 a2 a3 a4 : Int) (A5 : Option Addr) (n5 c5 : Nat) (l5 : List (List Int)) (w : World) (wa0 : (Lit.int .i64 a0).wf = true) (wa1 : (Lit.int .i64 a1).wf = true) (wa2 : (Lit.int .i64 a2).wf = true) (wa3 : (Lit.int .i64 a3).wf = true) (wa4 : (Lit.int .i64 a4).wf = true) (hr5 : ArgRow w [.i .u64] A5 n5 c5 l5) :
    Calls Try.prog 13 #[.int .i64 a0, .int .i64 a1, .int .i64 a2, .int .i64 a3, .int .i64 a4, .slice A5 n5 c5] w fun e w' => e = .returned (.bool true) ∧ Below w.heap.size w w' :=
  law_calls (v := ⟨[a0, a1, a2, a3, a4], [], [l5], [], Φ⟩) (l := [⟨A5, n5, c5, [.i .u64], l5⟩]) (args := args) (args' := [.int .i64 a0, .int .i64 a1, .int .i64 a2, .int .i64 a3, .int .i64 a4, .slice A5 n5 c5]) hI0 hfn hbod (by decide) rfl (by simpa using hr5)
    (.cons (.int _ _) (.cons (.int _ _) (.cons (.int _ _) (.cons (.int _ _) (.cons (.int _ _) (.cons (arg_slice (id := 0) (s := ⟨A5, n5, c5, [.i .u64], l5⟩) (l := [⟨A5, n5, c5, [.i .u64], l5⟩]) rfl rfl hr5) (.nil _)))))))
    (aw ⟨[a0, a1, a2, a3, a4], [], [l5], [], Φ⟩ Inv μ rfl hΦ KV.nil k0 k1 (sS a0 a1 a2 a3 a4 l5 (rowB_arg hr5)) s0 s1)
end Go.Proofs.Ytckbckijpdnlaaa.KPutAlone
