/- The law ClaimFinds of claim: whatever all places say of themselves, whoever looks at them: the first one of its own that may be used, if there is one: it answers true for all lists. No condition. -/
import Derived.Test.YtckbckijpdnlaaaOwnClaimFindsS
import Derived.Test.YtckbckijpdnlaaaOwnLem06
set_option linter.unusedVariables false
set_option linter.unusedSimpArgs false
set_option maxRecDepth 100000
set_option maxHeartbeats 16000000
namespace Go.Proofs.Ytckbckijpdnlaaa.KClaimFinds
open Go Go.Lib Go.Proofs.Ytckbckijpdnlaaa.Eng Go.Proofs.Ytckbckijpdnlaaa.Sy Go.RowKit

abbrev V (i : List Int) (r : List Row) : Val := ⟨i, [], r, [], Φ⟩
def FB (T S w : Int) (r : Row) : Prop := 1 ≤ T ∧ T ≤ 4 ∧ 1 ≤ S ∧ S ≤ 4 ∧ 0 ≤ w ∧ w < T ∧ (r.length : Int) = 2 * (T * S) + 2 * T
/-- What was noted since: loads by that thread. -/
def LogOk (w was : Int) (r : Row) : Prop := ∀ j : Int, was ≤ j → j < (r.length : Int) → nth 0 (r.getD j.toNat []) 0 = w ∧ nth 0 (r.getD j.toNat []) 1 = 0
/-- What is wanted, of the places behind so many. -/
def Want (F : Int → Int) (T S w i want : Int) : Prop := (want = -1 ∧ ∀ j, i < j → j < S → ¬ Qual F T S w j) ∨ ∃ q, want = w * S + q ∧ i < q ∧ q < S ∧ 0 ≤ q ∧ Qual F T S w q ∧ ∀ j, i < j → j < q → ¬ Qual F T S w j
def Inv0 (v : Val) : Prop := ∃ w was i T S k g ws we wg wl wh ph r0 r1 r2 r3, v = V [w, was, i, T, S, k, g, ws, we, wg, wl, wh, ph] [r0, r1, r2, r3] ∧ FB T S w r2 ∧ 0 ≤ was ∧ was ≤ 20 ∧ 0 ≤ i ∧ i ≤ S * (T + 1) ∧ was ≤ (r3.length : Int) ∧ (r3.length : Int) ≤ was + i ∧ (1 ≤ i → 1 ≤ (r3.length : Int)) ∧ (i = 0 → ph = 0) ∧ LogOk w was r3 ∧ CB T S ⟨k, g, ws, we, wg, wl, wh, ph⟩ ∧ cpot T S ⟨k, g, ws, we, wg, wl, wh, ph⟩ ≤ S * (T + 1) - i ∧ CF (cl r2) T S w ⟨k, g, ws, we, wg, wl, wh, ph⟩
def Inv1 (v : Val) : Prop := ∃ w was want i T S k g ws we wg wl wh ph r0 r1 r2 r3, v = V [w, was, want, i, T, S, k, g, ws, we, wg, wl, wh, ph] [r0, r1, r2, r3] ∧ FB T S w r2 ∧ 0 ≤ was ∧ was ≤ 20 ∧ -1 ≤ i ∧ i < S ∧ was ≤ (r3.length : Int) ∧ (r3.length : Int) ≤ 40 ∧ 1 ≤ (r3.length : Int) ∧ LogOk w was r3 ∧ CB T S ⟨k, g, ws, we, wg, wl, wh, ph⟩ ∧ ph ≠ 0 ∧ CF (cl r2) T S w ⟨k, g, ws, we, wg, wl, wh, ph⟩ ∧ Want (cl r2) T S w i want
def Inv2 (v : Val) : Prop := ∃ w want was n j T S k g ws we wg wl wh ph r0 r1 r2 r3 r4, v = V [w, want, was, n, n, j, T, S, k, g, ws, we, wg, wl, wh, ph] [r0, r1, r2, r3, r4] ∧ FB T S w r3 ∧ 0 ≤ was ∧ was ≤ 20 ∧ 0 ≤ j ∧ j ≤ n ∧ n = (r2.length : Int) - was ∧ (r2.length : Int) ≤ 40 ∧ LogOk w was r2 ∧ CB T S ⟨k, g, ws, we, wg, wl, wh, ph⟩ ∧ ph ≠ 0 ∧ CF (cl r3) T S w ⟨k, g, ws, we, wg, wl, wh, ph⟩ ∧ Want (cl r3) T S w (-1) want
def Inv (p : Nat) (v : Val) : Prop := (p = 0 ∧ Inv0 v) ∨ (p = 1 ∧ Inv1 v) ∨ (p = 2 ∧ Inv2 v)
def μ (q : Nat × Val) : Nat × Nat := match q.1 with
  | 0 => (2, (100 - nth 0 q.2.i 2).toNat)
  | 1 => (1, (100 + nth 0 q.2.i 3).toNat)
  | _ => (0, (100 - nth 0 q.2.i 5).toNat)
theorem ts {T S : Int} (h : 1 ≤ T ∧ T ≤ 4 ∧ 1 ≤ S ∧ S ≤ 4) : S * (T + 1) ≤ 20 ∧ 2 ≤ S * (T + 1) := by
  rcases (by omega : T = 1 ∨ T = 2 ∨ T = 3 ∨ T = 4) with rfl | rfl | rfl | rfl <;> omega
theorem hΦ : ∀ k v, Inv k v → v.f = Φ := by
  rintro k v (⟨_, w, was, i, T, S, k, g, ws, we, wg, wl, wh, ph, r0, r1, r2, r3, rfl, _⟩ | ⟨_, w, was, want, i, T, S, k, g, ws, we, wg, wl, wh, ph, r0, r1, r2, r3, rfl, _⟩ | ⟨_, w, want, was, n, j, T, S, k, g, ws, we, wg, wl, wh, ph, r0, r1, r2, r3, r4, rfl, _⟩) <;> rfl
theorem inv0 {v : Val} (h : Inv 0 v) : Inv0 v := by rcases h with ⟨_, h⟩ | ⟨h, _⟩ | ⟨h, _⟩ <;> first | exact h | cases h
theorem inv1 {v : Val} (h : Inv 1 v) : Inv1 v := by rcases h with ⟨h, _⟩ | ⟨_, h⟩ | ⟨h, _⟩ <;> first | exact h | cases h
theorem inv2 {v : Val} (h : Inv 2 v) : Inv2 v := by rcases h with ⟨h, _⟩ | ⟨h, _⟩ | ⟨_, h⟩ <;> first | exact h | cases h
theorem k0 : ∀ v, Inv 0 v → KV v tm0.kn := by
  intro v hv
  obtain ⟨w, was, i, T, S, k, g, ws, we, wg, wl, wh, ph, r0, r1, r2, r3, rfl, hB, h1, h2, h3, h4, h5, h6, _, _, _, h7, _, _⟩ := inv0 hv
  unfold FB at hB; unfold CB at h7; dsimp only at h7
  have e := wwho (T := T) (S := S) (who := w) (k := k) (by omega) (by omega) (by omega) (by omega) (by omega)
  have e1 := e.1; have e3 := e.2.1
  have e2 := ts (T := T) (S := S) (by omega)
  clear e
  unfold tm0 KV
  simp only [List.forall_mem_cons, d_vi, d_vb, d_vr, d_ci, d_cb, d_nr, d_nl, d_add, d_sub, d_mul, d_rem, d_quo, d_bit, d_mn2, d_mx2, d_w, d_nn, d_bn2, d_len, d_neg, d_cl, d_at1, d_at2, d_at3, d_at4, d_at5, d_at6, d_at7, d_set, d_app, d_cat, d_take, d_drop, d_rep, d_cons, d_lt_t, d_lt_f, d_le_t, d_le_f, d_eqi_t, d_eqi_f, d_eqb_t, d_eqb_f, d_nb_t, d_nb_f, nth0, nthS, d_api, d_apr, D_cons, D_nl, D_nr, D_vr, D_set, mkL_l, mkR_r, mkI_i, d_shr2, d_shr3, d_shr16, d_shr40, d_shl2, d_shl3, d_shl16, d_shl40, d_apb, mkB_b]
  simp only [List.not_mem_nil, false_imp_iff, implies_true, and_true]
  omega
theorem k1 : ∀ v, Inv 1 v → KV v tm1.kn := by
  intro v hv
  obtain ⟨w, was, want, i, T, S, k, g, ws, we, wg, wl, wh, ph, r0, r1, r2, r3, rfl, hB, h1, h2, h3, h4, h5, h6, h7, _, h8, _, _, hW⟩ := inv1 hv
  unfold FB at hB; unfold CB at h8; dsimp only at h8
  have hi : 0 ≤ w * S := Int.mul_nonneg (by omega) (by omega)
  have hi2 : w * S + S ≤ T * S := by
    have : (w + 1) * S ≤ T * S := Int.mul_le_mul_of_nonneg_right (by omega) (by omega)
    rw [Int.add_mul] at this; omega
  have e4 := prod4 (T := T) (S := S) (by omega) (by omega) (by omega) (by omega)
  have hw : -1 ≤ want ∧ want ≤ 15 := by
    rcases hW with ⟨e, _⟩ | ⟨q, e, q1, q2, q3, _⟩ <;> omega
  unfold tm1 KV
  simp only [List.forall_mem_cons, d_vi, d_vb, d_vr, d_ci, d_cb, d_nr, d_nl, d_add, d_sub, d_mul, d_rem, d_quo, d_bit, d_mn2, d_mx2, d_w, d_nn, d_bn2, d_len, d_neg, d_cl, d_at1, d_at2, d_at3, d_at4, d_at5, d_at6, d_at7, d_set, d_app, d_cat, d_take, d_drop, d_rep, d_cons, d_lt_t, d_lt_f, d_le_t, d_le_f, d_eqi_t, d_eqi_f, d_eqb_t, d_eqb_f, d_nb_t, d_nb_f, nth0, nthS, d_api, d_apr, D_cons, D_nl, D_nr, D_vr, D_set, mkL_l, mkR_r, mkI_i, d_shr2, d_shr3, d_shr16, d_shr40, d_shl2, d_shl3, d_shl16, d_shl40, d_apb, mkB_b]
  simp only [List.not_mem_nil, false_imp_iff, implies_true, and_true]
  clear hW
  omega
theorem k2 : ∀ v, Inv 2 v → KV v tm2.kn := by
  intro v hv
  obtain ⟨w, want, was, n, j, T, S, k, g, ws, we, wg, wl, wh, ph, r0, r1, r2, r3, r4, rfl, hB, h1, h2, h3, h4, h5, h6, _, h8, _, _, hW⟩ := inv2 hv
  unfold FB at hB; unfold CB at h8; dsimp only at h8
  have hi : 0 ≤ w * S := Int.mul_nonneg (by omega) (by omega)
  have hi2 : w * S + S ≤ T * S := by
    have : (w + 1) * S ≤ T * S := Int.mul_le_mul_of_nonneg_right (by omega) (by omega)
    rw [Int.add_mul] at this; omega
  have e4 := prod4 (T := T) (S := S) (by omega) (by omega) (by omega) (by omega)
  have hw : -1 ≤ want ∧ want ≤ 15 ∧ want < T * S := by
    rcases hW with ⟨e, _⟩ | ⟨q, e, q1, q2, q3, _⟩ <;> omega
  unfold tm2 KV
  simp only [List.forall_mem_cons, d_vi, d_vb, d_vr, d_ci, d_cb, d_nr, d_nl, d_add, d_sub, d_mul, d_rem, d_quo, d_bit, d_mn2, d_mx2, d_w, d_nn, d_bn2, d_len, d_neg, d_cl, d_at1, d_at2, d_at3, d_at4, d_at5, d_at6, d_at7, d_set, d_app, d_cat, d_take, d_drop, d_rep, d_cons, d_lt_t, d_lt_f, d_le_t, d_le_f, d_eqi_t, d_eqi_f, d_eqb_t, d_eqb_f, d_nb_t, d_nb_f, nth0, nthS, d_api, d_apr, D_cons, D_nl, D_nr, D_vr, D_set, mkL_l, mkR_r, mkI_i, d_shr2, d_shr3, d_shr16, d_shr40, d_shl2, d_shl3, d_shl16, d_shl40, d_apb, mkB_b]
  simp only [List.not_mem_nil, false_imp_iff, implies_true, and_true]
  clear hW
  omega
theorem logOk_app {w was : Int} {r : Row} {l : List Int} (h : LogOk w was r) (h0 : 0 ≤ was) (e : nth 0 l 0 = w ∧ nth 0 l 1 = 0) : LogOk w was (r ++ [l]) := fun j h1 h2 => by
  simp only [List.length_append, List.length_cons, List.length_nil] at h2
  rcases (by omega : j < r.length ∨ j = r.length) with z | z
  · rw [List.getD_eq_getElem?_getD, List.getElem?_append_left (by omega), ← List.getD_eq_getElem?_getD]; exact h j h1 z
  · rw [z, List.getD_eq_getElem?_getD, Int.toNat_natCast, List.getElem?_concat_length]; exact e
theorem s0 : ∀ v, Inv 0 v → TOK v (fun _ g => LgOK v (fun q u => Inv q u ∧ lt2 μ (q, u) (0, v)) g) tr0 := by
  intro v hv
  obtain ⟨w, was, i, T, S, k, g, ws, we, wg, wl, wh, ph, r0, r1, r2, r3, rfl, hB, h1, h2, h3, h4, h5, h6, hl1, hl2, hL, h7, h8, hF⟩ := inv0 hv
  have hB' := hB
  unfold FB at hB'
  have hTS : 1 ≤ T ∧ T ≤ 4 ∧ 1 ≤ S ∧ S ≤ 4 := by omega
  have e2 := ts hTS
  have hst := h7.step (who := w) (r := r2) hTS
  have hp := cpot_step (who := w) (r := r2) hTS h7
  have hn := cpot_nn hTS h7
  have hF2 := CF.step (who := w) (r := r2) h7 hF
  unfold tr0
  refine TOK.br' (fun h => ?_) (fun h => ?_) <;> simp only [d_vi, d_vb, d_vr, d_ci, d_cb, d_nr, d_nl, d_add, d_sub, d_mul, d_rem, d_quo, d_bit, d_mn2, d_mx2, d_w, d_nn, d_bn2, d_len, d_neg, d_cl, d_at1, d_at2, d_at3, d_at4, d_at5, d_at6, d_at7, d_set, d_app, d_cat, d_take, d_drop, d_rep, d_cons, d_lt_t, d_lt_f, d_le_t, d_le_f, d_eqi_t, d_eqi_f, d_eqb_t, d_eqb_f, d_nb_t, d_nb_f, nth0, nthS, d_api, d_apr, D_cons, D_nl, D_nr, D_vr, D_set, mkL_l, mkR_r, mkI_i, d_shr2, d_shr3, d_shr16, d_shr40, d_shl2, d_shl3, d_shl16, d_shl40, d_apb, mkB_b] at h
  · have hpot : cpot T S (claimStep T S w r2 ⟨k, g, ws, we, wg, wl, wh, ph⟩) ≤ S * (T + 1) - (i + 1) := by
      by_cases hph : ph = 0
      · have := hp.1 hph; omega
      · rw [hp.2 hph]; unfold cpot; rw [if_neg hph]; omega
    refine TOK.br' (fun h => ?_) (fun h => ?_) <;> simp only [d_vi, d_vb, d_vr, d_ci, d_cb, d_nr, d_nl, d_add, d_sub, d_mul, d_rem, d_quo, d_bit, d_mn2, d_mx2, d_w, d_nn, d_bn2, d_len, d_neg, d_cl, d_at1, d_at2, d_at3, d_at4, d_at5, d_at6, d_at7, d_set, d_app, d_cat, d_take, d_drop, d_rep, d_cons, d_lt_t, d_lt_f, d_le_t, d_le_f, d_eqi_t, d_eqi_f, d_eqb_t, d_eqb_f, d_nb_t, d_nb_f, nth0, nthS, d_api, d_apr, D_cons, D_nl, D_nr, D_vr, D_set, mkL_l, mkR_r, mkI_i, d_shr2, d_shr3, d_shr16, d_shr40, d_shl2, d_shl3, d_shl16, d_shl40, d_apb, mkB_b, Φ100, Φ101, Φ102, Φ103, Φ104, Φ105, Φ106, Φ107, Φ108, Φ200, Φ201, Φ202, Φ203, Φ204, Φ205, Φ206, Φ207, Φ208, Φ209, Φ0, Φ1, Φ10, cst] at h <;> refine TOK.leaf' ?_
    · have hne : ¬ ph = 0 := fun z => by
        have e : (claimT T S w r2 ⟨k, g, ws, we, wg, wl, wh, ph⟩).cell = claimCell T S w ⟨k, g, ws, we, wg, wl, wh, ph⟩ := by unfold claimT; rw [if_pos z]
        rw [e] at h
        unfold claimCell at h
        have b1 : 0 ≤ w * S := Int.mul_nonneg (by omega) (by omega)
        have b2 := prod4 (T := T) (S := S) (by omega) (by omega) (by omega) (by omega)
        unfold CB at h7
        dsimp only at h h7
        split at h <;> omega
      refine And.intro (?_ : Inv 0 _) (?_ : lt2 μ (0, _) _)
      · simp only [Sb.val, List.map_cons, List.map_nil, d_vi, d_vb, d_vr, d_ci, d_cb, d_nr, d_nl, d_add, d_sub, d_mul, d_rem, d_quo, d_bit, d_mn2, d_mx2, d_w, d_nn, d_bn2, d_len, d_neg, d_cl, d_at1, d_at2, d_at3, d_at4, d_at5, d_at6, d_at7, d_set, d_app, d_cat, d_take, d_drop, d_rep, d_cons, d_lt_t, d_lt_f, d_le_t, d_le_f, d_eqi_t, d_eqi_f, d_eqb_t, d_eqb_f, d_nb_t, d_nb_f, nth0, nthS, d_api, d_apr, D_cons, D_nl, D_nr, D_vr, D_set, mkL_l, mkR_r, mkI_i, d_shr2, d_shr3, d_shr16, d_shr40, d_shl2, d_shl3, d_shl16, d_shl40, d_apb, mkB_b, Φ100, Φ101, Φ102, Φ103, Φ104, Φ105, Φ106, Φ107, Φ108, Φ200, Φ201, Φ202, Φ203, Φ204, Φ205, Φ206, Φ207, Φ208, Φ209, Φ0, Φ1, Φ10, cst]
        exact .inl ⟨rfl, w, was, i + 1, T, S, _, _, _, _, _, _, _, _, r0, r1, r2, r3, rfl, hB, h1, h2, by omega, by omega, h5, by omega, fun _ => hl1 (by omega), fun z => by omega, hL, hst, hpot, hF2⟩
      · refine .inr ⟨?_, ?_⟩ <;> simp only [μ, Sb.val, List.map_cons, List.map_nil, d_vi, d_vb, d_vr, d_ci, d_cb, d_nr, d_nl, d_add, d_sub, d_mul, d_rem, d_quo, d_bit, d_mn2, d_mx2, d_w, d_nn, d_bn2, d_len, d_neg, d_cl, d_at1, d_at2, d_at3, d_at4, d_at5, d_at6, d_at7, d_set, d_app, d_cat, d_take, d_drop, d_rep, d_cons, d_lt_t, d_lt_f, d_le_t, d_le_f, d_eqi_t, d_eqi_f, d_eqb_t, d_eqb_f, d_nb_t, d_nb_f, nth0, nthS, d_api, d_apr, D_cons, D_nl, D_nr, D_vr, D_set, mkL_l, mkR_r, mkI_i, d_shr2, d_shr3, d_shr16, d_shr40, d_shl2, d_shl3, d_shl16, d_shl40, d_apb, mkB_b]
        omega
    · refine And.intro (?_ : Inv 0 _) (?_ : lt2 μ (0, _) _)
      · simp only [Sb.val, List.map_cons, List.map_nil, d_vi, d_vb, d_vr, d_ci, d_cb, d_nr, d_nl, d_add, d_sub, d_mul, d_rem, d_quo, d_bit, d_mn2, d_mx2, d_w, d_nn, d_bn2, d_len, d_neg, d_cl, d_at1, d_at2, d_at3, d_at4, d_at5, d_at6, d_at7, d_set, d_app, d_cat, d_take, d_drop, d_rep, d_cons, d_lt_t, d_lt_f, d_le_t, d_le_f, d_eqi_t, d_eqi_f, d_eqb_t, d_eqb_f, d_nb_t, d_nb_f, nth0, nthS, d_api, d_apr, D_cons, D_nl, D_nr, D_vr, D_set, mkL_l, mkR_r, mkI_i, d_shr2, d_shr3, d_shr16, d_shr40, d_shl2, d_shl3, d_shl16, d_shl40, d_apb, mkB_b, Φ100, Φ101, Φ102, Φ103, Φ104, Φ105, Φ106, Φ107, Φ108, Φ200, Φ201, Φ202, Φ203, Φ204, Φ205, Φ206, Φ207, Φ208, Φ209, Φ0, Φ1, Φ10, cst]
        refine .inl ⟨rfl, w, was, i + 1, T, S, _, _, _, _, _, _, _, _, r0, r1, _, _, rfl, ?_, h1, h2, by omega, by omega, ?_, ?_, fun _ => ?_, fun z => by omega, logOk_app hL h1 ⟨rfl, rfl⟩, hst, hpot, ?_⟩
        · unfold FB; rw [setLen]; exact hB'
        · simp only [List.length_append, List.length_cons, List.length_nil]; omega
        · simp only [List.length_append, List.length_cons, List.length_nil]; omega
        · simp only [List.length_append, List.length_cons, List.length_nil]; omega
        · rw [cl_load_fun]; exact hF2
      · refine .inr ⟨?_, ?_⟩ <;> simp only [μ, Sb.val, List.map_cons, List.map_nil, d_vi, d_vb, d_vr, d_ci, d_cb, d_nr, d_nl, d_add, d_sub, d_mul, d_rem, d_quo, d_bit, d_mn2, d_mx2, d_w, d_nn, d_bn2, d_len, d_neg, d_cl, d_at1, d_at2, d_at3, d_at4, d_at5, d_at6, d_at7, d_set, d_app, d_cat, d_take, d_drop, d_rep, d_cons, d_lt_t, d_lt_f, d_le_t, d_le_f, d_eqi_t, d_eqi_f, d_eqb_t, d_eqb_f, d_nb_t, d_nb_f, nth0, nthS, d_api, d_apr, D_cons, D_nl, D_nr, D_vr, D_set, mkL_l, mkR_r, mkI_i, d_shr2, d_shr3, d_shr16, d_shr40, d_shl2, d_shl3, d_shl16, d_shl40, d_apb, mkB_b]
        omega
  · have hph : ¬ ph = 0 := fun z => by have := hn.2 z; omega
    refine ⟨.inr (.inl ⟨rfl, w, was, -1, S - 1, T, S, k, g, ws, we, wg, wl, wh, ph, r0, r1, r2, r3, rfl, hB, h1, h2, by omega, by omega, h5, by omega, hl1 (by omega), hL, h7, hph, hF, .inl ⟨rfl, fun j a b => by omega⟩⟩), .inl (by simp [μ])⟩
theorem s1 : ∀ v, Inv 1 v → TOK v (fun _ g => LgOK v (fun q u => Inv q u ∧ lt2 μ (q, u) (1, v)) g) tr1 := by
  intro v hv
  obtain ⟨w, was, want, i, T, S, k, g, ws, we, wg, wl, wh, ph, r0, r1, r2, r3, rfl, hB, h1, h2, h3, h4, h5, h6, h7, hL, h8, hph, hF, hW⟩ := inv1 hv
  have hB' := hB
  unfold FB at hB'
  have yes : 0 ≤ i → Qual (cl r2) T S w i → Want (cl r2) T S w (i - 1) (w * S + i) := fun h0 q => .inr ⟨i, rfl, by omega, by omega, h0, q, fun j a b => by omega⟩
  have no : ¬ Qual (cl r2) T S w i → Want (cl r2) T S w (i - 1) want := fun q => by
    have ex : ∀ j, i - 1 < j → (i < j ∨ j = i) := fun j h => by omega
    rcases hW with ⟨e, f⟩ | ⟨q', e, q1, q2, q3, q4, q5⟩
    · refine .inl ⟨e, fun j a b => ?_⟩
      rcases ex j a with z | z
      · exact f j z b
      · rw [z]; exact q
    · refine .inr ⟨q', e, by omega, q2, q3, q4, fun j a b => ?_⟩
      rcases ex j a with z | z
      · exact q5 j z b
      · rw [z]; exact q
  have go : ∀ want', 0 ≤ i → Want (cl r2) T S w (i - 1) want' → Inv 1 (V [w, was, want', i + -1, T, S, k, g, ws, we, wg, wl, wh, ph] [r0, r1, r2, r3]) := fun want' h0 hw =>
    .inr (.inl ⟨rfl, w, was, want', i - 1, T, S, k, g, ws, we, wg, wl, wh, ph, r0, r1, r2, r3, rfl, hB, h1, h2, by omega, by omega, h5, h6, h7, hL, h8, hph, hF, hw⟩)
  have dec : ∀ want', 0 ≤ i → lt2 μ (1, V [w, was, want', i + -1, T, S, k, g, ws, we, wg, wl, wh, ph] [r0, r1, r2, r3]) (1, V [w, was, want, i, T, S, k, g, ws, we, wg, wl, wh, ph] [r0, r1, r2, r3]) := fun want' h0 => .inr ⟨rfl, by simp only [μ, nth0, nthS]; omega⟩
  have hG := @guardedB_t T S (w * S + i) r2
  unfold tr1
  repeat' (first
    | (refine TOK.br' (fun h => ?_) (fun h => ?_) <;> simp only [d_vi, d_vb, d_vr, d_ci, d_cb, d_nr, d_nl, d_add, d_sub, d_mul, d_rem, d_quo, d_bit, d_mn2, d_mx2, d_w, d_nn, d_bn2, d_len, d_neg, d_cl, d_at1, d_at2, d_at3, d_at4, d_at5, d_at6, d_at7, d_set, d_app, d_cat, d_take, d_drop, d_rep, d_cons, d_lt_t, d_lt_f, d_le_t, d_le_f, d_eqi_t, d_eqi_f, d_eqb_t, d_eqb_f, d_nb_t, d_nb_f, nth0, nthS, d_api, d_apr, D_cons, D_nl, D_nr, D_vr, D_set, mkL_l, mkR_r, mkI_i, d_shr2, d_shr3, d_shr16, d_shr40, d_shl2, d_shl3, d_shl16, d_shl40, d_apb, mkB_b, Φ100, Φ101, Φ102, Φ103, Φ104, Φ105, Φ106, Φ107, Φ108, Φ200, Φ201, Φ202, Φ203, Φ204, Φ205, Φ206, Φ207, Φ208, Φ209, Φ0, Φ1, Φ10] at h)
    | (with_reducible refine TOK.leaf' ?_))
  all_goals first
    | (refine And.intro (?_ : Inv 1 _) (?_ : lt2 μ (1, _) _) <;> simp only [Sb.val, List.map_cons, List.map_nil, d_vi, d_vb, d_vr, d_ci, d_cb, d_nr, d_nl, d_add, d_sub, d_mul, d_rem, d_quo, d_bit, d_mn2, d_mx2, d_w, d_nn, d_bn2, d_len, d_neg, d_cl, d_at1, d_at2, d_at3, d_at4, d_at5, d_at6, d_at7, d_set, d_app, d_cat, d_take, d_drop, d_rep, d_cons, d_lt_t, d_lt_f, d_le_t, d_le_f, d_eqi_t, d_eqi_f, d_eqb_t, d_eqb_f, d_nb_t, d_nb_f, nth0, nthS, d_api, d_apr, D_cons, D_nl, D_nr, D_vr, D_set, mkL_l, mkR_r, mkI_i, d_shr2, d_shr3, d_shr16, d_shr40, d_shl2, d_shl3, d_shl16, d_shl40, d_apb, mkB_b]
       · first
         | (refine go _ (by omega) (yes (by omega) ⟨by assumption, .inl (by assumption)⟩))
         | (refine go _ (by omega) (yes (by omega) ⟨by assumption, .inr ⟨by assumption, fun t a b e => ?_⟩⟩)
            have : guardedB T S (w * S + i) r2 = true := hG.2 ⟨t, a, b, e⟩
            simp_all)
         | (refine go _ (by omega) (no fun q => ?_)
            obtain ⟨q1, q2⟩ := q
            unfold wG at q1
            unfold wS at q2
            first
            | omega
            | (rcases q2 with q2 | q2
               · contradiction
               · first
                 | (have q3 := q2.1; contradiction)
                 | (obtain ⟨t, a, b, c⟩ := hG.1 (by assumption); exact q2.2 t a b c)))
       · exact dec _ (by omega))
    | (refine ⟨.inr (.inr ⟨rfl, w, want, was, (r3.length : Int) - was, 0, T, S, k, g, ws, we, wg, wl, wh, ph, r0, r1, r3, r2, r3, ?_, hB, h1, h2, by omega, by omega, rfl, by omega, hL, h8, hph, hF, ?_⟩), .inl (by simp [μ])⟩
       · simp only [Sb.val, List.map_cons, List.map_nil, d_vi, d_vb, d_vr, d_ci, d_cb, d_nr, d_nl, d_add, d_sub, d_mul, d_rem, d_quo, d_bit, d_mn2, d_mx2, d_w, d_nn, d_bn2, d_len, d_neg, d_cl, d_at1, d_at2, d_at3, d_at4, d_at5, d_at6, d_at7, d_set, d_app, d_cat, d_take, d_drop, d_rep, d_cons, d_lt_t, d_lt_f, d_le_t, d_le_f, d_eqi_t, d_eqi_f, d_eqb_t, d_eqb_f, d_nb_t, d_nb_f, nth0, nthS, d_api, d_apr, D_cons, D_nl, D_nr, D_vr, D_set, mkL_l, mkR_r, mkI_i, d_shr2, d_shr3, d_shr16, d_shr40, d_shl2, d_shl3, d_shl16, d_shl40, d_apb, mkB_b]
         rw [Int.toNat_of_nonneg (by omega)]
       · have : i = -1 := by omega
         subst this; exact hW)
theorem s2 : ∀ v, Inv 2 v → TOK v (fun _ g => LgOK v (fun q u => Inv q u ∧ lt2 μ (q, u) (2, v)) g) tr2 := by
  intro v hv
  obtain ⟨w, want, was, n, j, T, S, k, g, ws, we, wg, wl, wh, ph, r0, r1, r2, r3, r4, rfl, hB, h1, h2, h3, h4, h5, h6, hL, h8, hph, hF, hW⟩ := inv2 hv
  have hB' := hB
  unfold FB at hB'
  have hCB := h8
  unfold CB at hCB
  dsimp only at hCB
  have hl := hL (was + j) (by omega)
  have e1 : (was.toNat : Int) = was := Int.toNat_of_nonneg h1
  have hi : 0 ≤ w * S := Int.mul_nonneg (by omega) (by omega)
  have em : (w + 1) * S = w * S + S := by rw [Int.add_mul]; omega
  unfold tr2
  refine TOK.br' (fun h => ?_) (fun h => ?_) <;> simp only [d_vi, d_vb, d_vr, d_ci, d_cb, d_nr, d_nl, d_add, d_sub, d_mul, d_rem, d_quo, d_bit, d_mn2, d_mx2, d_w, d_nn, d_bn2, d_len, d_neg, d_cl, d_at1, d_at2, d_at3, d_at4, d_at5, d_at6, d_at7, d_set, d_app, d_cat, d_take, d_drop, d_rep, d_cons, d_lt_t, d_lt_f, d_le_t, d_le_f, d_eqi_t, d_eqi_f, d_eqb_t, d_eqb_f, d_nb_t, d_nb_f, nth0, nthS, d_api, d_apr, D_cons, D_nl, D_nr, D_vr, D_set, mkL_l, mkR_r, mkI_i, d_shr2, d_shr3, d_shr16, d_shr40, d_shl2, d_shl3, d_shl16, d_shl40, d_apb, mkB_b] at h
  · repeat' (first
      | (refine TOK.br' (fun h => ?_) (fun h => ?_) <;> simp only [d_vi, d_vb, d_vr, d_ci, d_cb, d_nr, d_nl, d_add, d_sub, d_mul, d_rem, d_quo, d_bit, d_mn, d_mx, d_w, d_nn, d_bn, d_len, d_neg, d_at0, d_at1, d_at2, d_at3, d_at4, d_at5, d_at6, d_at7, d_set, d_app, d_cat, d_take, d_drop, d_rep, d_cons, d_lt_t, d_lt_f, d_le_t, d_le_f, d_eqi_t, d_eqi_f, d_eqb_t, d_eqb_f, d_nb_t, d_nb_f, nth0, nthS, d_api, d_apr, D_cons, D_nl, D_nr, D_vr, D_set, mkL_l, mkR_r, mkI_i, d_apb, mkB_b, e1] at h <;> (try (exfalso; omega)))
      | (with_reducible refine TOK.leaf' ?_))
    all_goals first
      | (exfalso; have := hl (by omega); simp_all; done)
      | (refine And.intro (?_ : Inv 2 _) (?_ : lt2 μ (2, _) _) <;> simp only [Sb.val, List.map_cons, List.map_nil, d_vi, d_vb, d_vr, d_ci, d_cb, d_nr, d_nl, d_add, d_sub, d_mul, d_rem, d_quo, d_bit, d_mn2, d_mx2, d_w, d_nn, d_bn2, d_len, d_neg, d_cl, d_at1, d_at2, d_at3, d_at4, d_at5, d_at6, d_at7, d_set, d_app, d_cat, d_take, d_drop, d_rep, d_cons, d_lt_t, d_lt_f, d_le_t, d_le_f, d_eqi_t, d_eqi_f, d_eqb_t, d_eqb_f, d_nb_t, d_nb_f, nth0, nthS, d_api, d_apr, D_cons, D_nl, D_nr, D_vr, D_set, mkL_l, mkR_r, mkI_i, d_shr2, d_shr3, d_shr16, d_shr40, d_shl2, d_shl3, d_shl16, d_shl40, d_apb, mkB_b]
         · exact .inr (.inr ⟨rfl, w, want, was, n, j + 1, T, S, k, g, ws, we, wg, wl, wh, ph, r0, r1, r2, r3, r4, rfl, hB, h1, h2, by omega, by omega, h5, h6, hL, h8, hph, hF, hW⟩)
         · refine .inr ⟨?_, ?_⟩ <;> simp only [μ, nth0, nthS]
           omega)
  · have hp : ph = 1 ∨ ph = 2 := by omega
    obtain ⟨f1, f2, f3, f4⟩ := hF
    dsimp only at f1 f3 f4
    rcases hW with ⟨hw, hno⟩ | ⟨q, hw, q1, q2, q3, q4, q5⟩
    · have hp2 : ph = 2 := by
        rcases hp with z | z
        · exact absurd (f3 z).1 (hno k (by omega) (by omega))
        · exact z
      have hk := (f4 hp2).1
      subst hw hp2
      repeat' (first
        | (refine TOK.br' (fun h => ?_) (fun h => ?_) <;> simp only [d_vi, d_vb, d_vr, d_ci, d_cb, d_nr, d_nl, d_add, d_sub, d_mul, d_rem, d_quo, d_bit, d_mn2, d_mx2, d_w, d_nn, d_bn2, d_len, d_neg, d_cl, d_at1, d_at2, d_at3, d_at4, d_at5, d_at6, d_at7, d_set, d_app, d_cat, d_take, d_drop, d_rep, d_cons, d_lt_t, d_lt_f, d_le_t, d_le_f, d_eqi_t, d_eqi_f, d_eqb_t, d_eqb_f, d_nb_t, d_nb_f, nth0, nthS, d_api, d_apr, D_cons, D_nl, D_nr, D_vr, D_set, mkL_l, mkR_r, mkI_i, d_shr2, d_shr3, d_shr16, d_shr40, d_shl2, d_shl3, d_shl16, d_shl40, d_apb, mkB_b, not_true_eq_false] at h <;> (try (exfalso; omega)))
        | (with_reducible refine TOK.leaf' ?_))
      all_goals
        show (den _ _).b = true
        rw [d_eqi_t]; simp only [d_vi, d_vb, d_vr, d_ci, d_cb, d_nr, d_nl, d_add, d_sub, d_mul, d_rem, d_quo, d_bit, d_mn2, d_mx2, d_w, d_nn, d_bn2, d_len, d_neg, d_cl, d_at1, d_at2, d_at3, d_at4, d_at5, d_at6, d_at7, d_set, d_app, d_cat, d_take, d_drop, d_rep, d_cons, d_lt_t, d_lt_f, d_le_t, d_le_f, d_eqi_t, d_eqi_f, d_eqb_t, d_eqb_f, d_nb_t, d_nb_f, nth0, nthS, d_api, d_apr, D_cons, D_nl, D_nr, D_vr, D_set, mkL_l, mkR_r, mkI_i, d_shr2, d_shr3, d_shr16, d_shr40, d_shl2, d_shl3, d_shl16, d_shl40, d_apb, mkB_b]
        omega
    · have hk : ph = 1 ∧ k = q := by
        rcases hp with z | z
        · obtain ⟨g1, g2⟩ := f3 z
          refine ⟨z, ?_⟩
          rcases (by omega : k < q ∨ q < k ∨ k = q) with y | y | y
          · exact absurd g1 (q5 k (by omega) y)
          · exact absurd q4 (f1 q q3 y)
          · exact y
        · obtain ⟨g1, g2⟩ := f4 z
          rcases (by omega : q < k ∨ q = k) with y | y
          · exact absurd q4 (f1 q q3 y)
          · rw [y] at q4; exact absurd q4 g2
      obtain ⟨rfl, rfl⟩ := hk
      obtain ⟨g1, g2, g3, g4, g5, g6⟩ := f3 rfl
      dsimp only at g2 g3 g4 g5 g6
      subst hw
      repeat' (first
        | (refine TOK.br' (fun h => ?_) (fun h => ?_) <;> simp only [d_vi, d_vb, d_vr, d_ci, d_cb, d_nr, d_nl, d_add, d_sub, d_mul, d_rem, d_quo, d_bit, d_mn2, d_mx2, d_w, d_nn, d_bn2, d_len, d_neg, d_cl, d_at1, d_at2, d_at3, d_at4, d_at5, d_at6, d_at7, d_set, d_app, d_cat, d_take, d_drop, d_rep, d_cons, d_lt_t, d_lt_f, d_le_t, d_le_f, d_eqi_t, d_eqi_f, d_eqb_t, d_eqb_f, d_nb_t, d_nb_f, nth0, nthS, d_api, d_apr, D_cons, D_nl, D_nr, D_vr, D_set, mkL_l, mkR_r, mkI_i, d_shr2, d_shr3, d_shr16, d_shr40, d_shl2, d_shl3, d_shl16, d_shl40, d_apb, mkB_b, not_true_eq_false] at h <;> (try (exfalso; omega)))
        | (with_reducible refine TOK.leaf' ?_))
      all_goals
        show (den _ _).b = true
        simp only [d_and_b, d_eqi_b, d_vi, d_vb, d_vr, d_ci, d_cb, d_nr, d_nl, d_add, d_sub, d_mul, d_rem, d_quo, d_bit, d_mn2, d_mx2, d_w, d_nn, d_bn2, d_len, d_neg, d_cl, d_at1, d_at2, d_at3, d_at4, d_at5, d_at6, d_at7, d_set, d_app, d_cat, d_take, d_drop, d_rep, d_cons, d_lt_t, d_lt_f, d_le_t, d_le_f, d_eqi_t, d_eqi_f, d_eqb_t, d_eqb_f, d_nb_t, d_nb_f, nth0, nthS, d_api, d_apr, D_cons, D_nl, D_nr, D_vr, D_set, mkL_l, mkR_r, mkI_i, d_shr2, d_shr3, d_shr16, d_shr40, d_shl2, d_shl3, d_shl16, d_shl40, d_apb, mkB_b]
        simp only [g2, g3, g4, g5, g6, wS, wE, wG, wL, wH]
        simp
/-- At the begin. -/
theorem sS (a0 a1 a2 : Int) (l2 l3 : Row) : TOK (V [a0, a1, a2] [l2, l3]) (fun _ g => LgOK (V [a0, a1, a2] [l2, l3]) Inv g) trS := by
  unfold trS
  have hT : 0 ≤ a0 % 4 ∧ a0 % 4 < 4 := by omega
  have hS : 0 ≤ a1 % 4 ∧ a1 % 4 < 4 := by omega
  repeat' (first
    | (refine TOK.br' (fun h => ?_) (fun h => ?_) <;> simp (disch := omega) only [d_vi, d_vb, d_vr, d_ci, d_cb, d_nr, d_nl, d_add, d_sub, d_mul, d_rem, d_quo, d_bit, d_mn2, d_mx2, d_w, d_nn, d_bn2, d_len, d_neg, d_cl, d_at1, d_at2, d_at3, d_at4, d_at5, d_at6, d_at7, d_set, d_app, d_cat, d_take, d_drop, d_rep, d_cons, d_lt_t, d_lt_f, d_le_t, d_le_f, d_eqi_t, d_eqi_f, d_eqb_t, d_eqb_f, d_nb_t, d_nb_f, nth0, nthS, d_api, d_apr, D_cons, D_nl, D_nr, D_vr, D_set, mkL_l, mkR_r, mkI_i, d_shr2, d_shr3, d_shr16, d_shr40, d_shl2, d_shl3, d_shl16, d_shl40, d_apb, mkB_b, w64] at h)
    | (with_reducible refine TOK.leaf' ?_))
  · exact rfl
  · exact rfl
  · refine (show Inv 0 _ from ?_)
    simp (disch := omega) only [Sb.val, List.map_cons, List.map_nil, d_vi, d_vb, d_vr, d_ci, d_cb, d_nr, d_nl, d_add, d_sub, d_mul, d_rem, d_quo, d_bit, d_mn2, d_mx2, d_w, d_nn, d_bn2, d_len, d_neg, d_cl, d_at1, d_at2, d_at3, d_at4, d_at5, d_at6, d_at7, d_set, d_app, d_cat, d_take, d_drop, d_rep, d_cons, d_lt_t, d_lt_f, d_le_t, d_le_f, d_eqi_t, d_eqi_f, d_eqb_t, d_eqb_f, d_nb_t, d_nb_f, nth0, nthS, d_api, d_apr, D_cons, D_nl, D_nr, D_vr, D_set, mkL_l, mkR_r, mkI_i, d_shr2, d_shr3, d_shr16, d_shr40, d_shl2, d_shl3, d_shl16, d_shl40, d_apb, mkB_b, Φ100, Φ101, Φ102, Φ103, Φ104, Φ105, Φ106, Φ107, Φ108, Φ200, Φ201, Φ202, Φ203, Φ204, Φ205, Φ206, Φ207, Φ208, Φ209, Φ0, Φ1, Φ10, and3, and65535, tmod_pos]
    have e1 := prod4 (T := a0 % 4 + 1) (S := a1 % 4 + 1) (by omega) (by omega) (by omega) (by omega)
    have e2 := ts (T := a0 % 4 + 1) (S := a1 % 4 + 1) (by omega)
    have e3 := mod_in (a := a2 % 65536) (N := a0 % 4 + 1) (by omega)
    have g1 := @FCells.cellsN_len (a0 % 4 + 1) (a1 % 4 + 1) (cntA (a0 % 4 + 1) (a1 % 4 + 1) l2) (cntB (a0 % 4 + 1) l3) l2 l3
    have g2 := @FCells.logN_len (a0 % 4 + 1) (a1 % 4 + 1) (cntA (a0 % 4 + 1) (a1 % 4 + 1) l2) (cntB (a0 % 4 + 1) l3) l2 l3
    have g3 : cntA (a0 % 4 + 1) (a1 % 4 + 1) l2 ≤ (a0 % 4 + 1) * (a1 % 4 + 1) := by unfold cntA; split <;> omega
    have g4 : cntB (a0 % 4 + 1) l3 ≤ a0 % 4 + 1 := by unfold cntB; split <;> omega
    refine .inl ⟨rfl, _, _, 0, a0 % 4 + 1, a1 % 4 + 1, 0, -1, 0, 0, 0, 0, 0, 0, l2, l3, _, _, rfl, ?_, by omega, by omega, by omega, by omega, by omega, by omega, fun z => by omega, fun _ => rfl, fun j z1 z2 => by omega, ?_, ?_, ?_⟩
    · unfold FB; omega
    · unfold CB; dsimp only; omega
    · unfold cpot; dsimp only; simp
    · exact ⟨fun j z1 z2 => (by dsimp only at z2; omega), fun _ z => (by dsimp only at z; omega), fun z => (by cases z), fun z => (by cases z)⟩
theorem ClaimFinds_walk (a0 a1 a2 : Int) (A3 : Option Addr) (n3 c3 : Nat) (l3 : List (List Int)) (A4 : Option Addr) (n4 c4 : Nat) (l4 : List (List Int)) (w : World) (wa0 : (Lit.int .i64 a0).wf = true) (wa1 : (Lit.int .i64 a1).wf = true) (wa2 : (Lit.int .i64 a2).wf = true) (hr3 : ArgRow w [.i .i64, .i .i64, .b] A3 n3 c3 l3) (hr4 : ArgRow w [.i .i64] A4 n4 c4 l4) :
    Calls Try.prog 7 #[.int .i64 a0, .int .i64 a1, .int .i64 a2, .slice A3 n3 c3, .slice A4 n4 c4] w fun e w' => e = .returned (.bool true) ∧ Below w.heap.size w w' :=
  law_calls (v := V [a0, a1, a2] [l3, l4]) (l := [⟨A3, n3, c3, [.i .i64, .i .i64, .b], l3⟩, ⟨A4, n4, c4, [.i .i64], l4⟩]) (args := args) (args' := [.int .i64 a0, .int .i64 a1, .int .i64 a2, .slice A3 n3 c3, .slice A4 n4 c4]) hI0 hfn hbod (by decide) rfl (by simpa using ⟨hr3, hr4⟩)
    (.cons (.int _ _) (.cons (.int _ _) (.cons (.int _ _) (.cons (arg_slice (id := 0) (s := ⟨A3, n3, c3, [.i .i64, .i .i64, .b], l3⟩) (l := [⟨A3, n3, c3, [.i .i64, .i .i64, .b], l3⟩, ⟨A4, n4, c4, [.i .i64], l4⟩]) rfl rfl hr3) (.cons (arg_slice (id := 1) (s := ⟨A4, n4, c4, [.i .i64], l4⟩) (l := [⟨A3, n3, c3, [.i .i64, .i .i64, .b], l3⟩, ⟨A4, n4, c4, [.i .i64], l4⟩]) rfl rfl hr4) (.nil _))))))
    (aw (V [a0, a1, a2] [l3, l4]) Inv μ rfl hΦ KV.nil k0 k1 k2 (sS a0 a1 a2 l3 l4) s0 s1 s2)
end Go.Proofs.Ytckbckijpdnlaaa.KClaimFinds
