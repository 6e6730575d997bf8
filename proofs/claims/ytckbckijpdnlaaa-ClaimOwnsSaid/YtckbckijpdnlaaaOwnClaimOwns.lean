/- The law ClaimOwns of claim: a place that is found is the thread's own, whatever stands in others': it answers true for all lists. No condition. -/
import Derived.Test.YtckbckijpdnlaaaOwnClaimOwnsS
import Derived.Test.YtckbckijpdnlaaaOwnLem06
set_option linter.unusedVariables false
set_option linter.unusedSimpArgs false
set_option maxRecDepth 100000
set_option maxHeartbeats 16000000
namespace Go.Proofs.Ytckbckijpdnlaaa.KClaimOwns
open Go Go.Lib Go.Proofs.Ytckbckijpdnlaaa.Eng Go.Proofs.Ytckbckijpdnlaaa.Sy Go.RowKit

abbrev V (i : List Int) (r : List Row) : Val := ⟨i, [], r, [], Φ⟩
/-- Places found so far: each thread's own, in order. -/
def Seen (w S : Int) (r : Row) : Prop := (r.length : Int) ≤ w ∧ (∀ j, 0 ≤ j → j < (r.length : Int) → 0 ≤ cl r j ∧ cl r j < w * S) ∧ ∀ i j, 0 ≤ i → i < j → j < (r.length : Int) → cl r i < cl r j
def Dist (r : Row) : Prop := ∀ i j, 0 ≤ i → i < j → j < (r.length : Int) → cl r i < cl r j
def FB (T S : Int) (r3 : Row) : Prop := 1 ≤ T ∧ T ≤ 4 ∧ 1 ≤ S ∧ S ≤ 4 ∧ (r3.length : Int) = 2 * (T * S) + 2 * T
def Inv (p : Nat) (v : Val) : Prop :=
  (p = 0 ∧ ∃ w T S r0 r1 r2 r3 r4, v = V [w, T, S] [r0, r1, r2, r3, r4] ∧ FB T S r3 ∧ 0 ≤ w ∧ w ≤ T ∧ (r4.length : Int) ≤ 32 + 20 * w ∧ Seen w S r2) ∨
  (p = 1 ∧ ∃ w i T S k g ws we wg wl wh ph r0 r1 r2 r3 r4, v = V [w, i, T, S, k, g, ws, we, wg, wl, wh, ph] [r0, r1, r2, r3, r4] ∧ FB T S r3 ∧ 0 ≤ w ∧ w < T ∧ 0 ≤ i ∧ i ≤ S * (T + 1) ∧ (r4.length : Int) ≤ 32 + 20 * w + i ∧ Seen w S r2 ∧ CB T S ⟨k, g, ws, we, wg, wl, wh, ph⟩ ∧ cpot T S ⟨k, g, ws, we, wg, wl, wh, ph⟩ ≤ S * (T + 1) - i) ∨
  (p = 2 ∧ ∃ n i r0 r1 r2, v = V [n, i] [r0, r1, r2] ∧ n = (r2.length : Int) ∧ 0 ≤ i ∧ i ≤ n ∧ n ≤ 4 ∧ Dist r2) ∨
  (p = 3 ∧ ∃ a n i j r0 r1 r2, v = V [a, n, i, i, j] [r0, r1, r2] ∧ n = (r2.length : Int) ∧ 0 ≤ i ∧ i < n ∧ n ≤ 4 ∧ 0 ≤ j ∧ j ≤ i ∧ a = cl r2 i ∧ Dist r2)
def μ (q : Nat × Val) : Nat × Nat := match q.1 with
  | 0 => ((100 - 2 * nth 0 q.2.i 0).toNat, 0)
  | 1 => ((99 - 2 * nth 0 q.2.i 0).toNat, (100 - nth 0 q.2.i 1).toNat)
  | 2 => ((30 - 2 * nth 0 q.2.i 1).toNat, 0)
  | _ => ((29 - 2 * nth 0 q.2.i 2).toNat, (100 - nth 0 q.2.i 4).toNat)
theorem ts {T S : Int} (h : 1 ≤ T ∧ T ≤ 4 ∧ 1 ≤ S ∧ S ≤ 4) : S * (T + 1) ≤ 20 ∧ 2 ≤ S * (T + 1) := by
  rcases (by omega : T = 1 ∨ T = 2 ∨ T = 3 ∨ T = 4) with rfl | rfl | rfl | rfl <;> omega
theorem hΦ : ∀ k v, Inv k v → v.f = Φ := by
  rintro k v (⟨_, w, T, S, r0, r1, r2, r3, r4, rfl, _⟩ | ⟨_, w, i, T, S, k, g, ws, we, wg, wl, wh, ph, r0, r1, r2, r3, r4, rfl, _⟩ | ⟨_, n, i, r0, r1, r2, rfl, _⟩ | ⟨_, a, n, i, j, r0, r1, r2, rfl, _⟩) <;> rfl
theorem inv0 {v : Val} (h : Inv 0 v) : ∃ w T S r0 r1 r2 r3 r4, v = V [w, T, S] [r0, r1, r2, r3, r4] ∧ FB T S r3 ∧ 0 ≤ w ∧ w ≤ T ∧ (r4.length : Int) ≤ 32 + 20 * w ∧ Seen w S r2 := by
  rcases h with ⟨_, h⟩ | ⟨h, _⟩ | ⟨h, _⟩ | ⟨h, _⟩ <;> first | exact h | cases h
theorem inv1 {v : Val} (h : Inv 1 v) : ∃ w i T S k g ws we wg wl wh ph r0 r1 r2 r3 r4, v = V [w, i, T, S, k, g, ws, we, wg, wl, wh, ph] [r0, r1, r2, r3, r4] ∧ FB T S r3 ∧ 0 ≤ w ∧ w < T ∧ 0 ≤ i ∧ i ≤ S * (T + 1) ∧ (r4.length : Int) ≤ 32 + 20 * w + i ∧ Seen w S r2 ∧ CB T S ⟨k, g, ws, we, wg, wl, wh, ph⟩ ∧ cpot T S ⟨k, g, ws, we, wg, wl, wh, ph⟩ ≤ S * (T + 1) - i := by
  rcases h with ⟨h, _⟩ | ⟨_, h⟩ | ⟨h, _⟩ | ⟨h, _⟩ <;> first | exact h | cases h
theorem inv2 {v : Val} (h : Inv 2 v) : ∃ n i r0 r1 r2, v = V [n, i] [r0, r1, r2] ∧ n = (r2.length : Int) ∧ 0 ≤ i ∧ i ≤ n ∧ n ≤ 4 ∧ Dist r2 := by
  rcases h with ⟨h, _⟩ | ⟨h, _⟩ | ⟨_, h⟩ | ⟨h, _⟩ <;> first | exact h | cases h
theorem inv3 {v : Val} (h : Inv 3 v) : ∃ a n i j r0 r1 r2, v = V [a, n, i, i, j] [r0, r1, r2] ∧ n = (r2.length : Int) ∧ 0 ≤ i ∧ i < n ∧ n ≤ 4 ∧ 0 ≤ j ∧ j ≤ i ∧ a = cl r2 i ∧ Dist r2 := by
  rcases h with ⟨h, _⟩ | ⟨h, _⟩ | ⟨h, _⟩ | ⟨_, h⟩ <;> first | exact h | cases h
theorem k0 : ∀ v, Inv 0 v → KV v tm0.kn := by
  intro v hv
  obtain ⟨w, T, S, r0, r1, r2, r3, r4, rfl, hB, h1, h2, h3, h4⟩ := inv0 hv
  unfold FB at hB; unfold Seen at h4
  unfold tm0 KV
  simp only [List.forall_mem_cons, d_vi, d_vb, d_vr, d_ci, d_cb, d_nr, d_nl, d_add, d_sub, d_mul, d_rem, d_quo, d_bit, d_mn2, d_mx2, d_w, d_nn, d_bn2, d_len, d_neg, d_cl, d_at1, d_at2, d_at3, d_at4, d_at5, d_at6, d_at7, d_set, d_app, d_cat, d_take, d_drop, d_rep, d_cons, d_lt_t, d_lt_f, d_le_t, d_le_f, d_eqi_t, d_eqi_f, d_eqb_t, d_eqb_f, d_nb_t, d_nb_f, nth0, nthS, d_api, d_apr, D_cons, D_nl, D_nr, D_vr, D_set, mkL_l, mkR_r, mkI_i, d_shr2, d_shr3, d_shr16, d_shr40, d_shl2, d_shl3, d_shl16, d_shl40]
  simp only [List.not_mem_nil, false_imp_iff, implies_true, and_true]
  omega
theorem k1 : ∀ v, Inv 1 v → KV v tm1.kn := by
  intro v hv
  obtain ⟨w, i, T, S, k, g, ws, we, wg, wl, wh, ph, r0, r1, r2, r3, r4, rfl, hB, h1, h2, h3, h4, h5, h6, h7, h8⟩ := inv1 hv
  unfold FB at hB; unfold Seen at h6; unfold CB at h7; dsimp only at h7
  have e := wwho (T := T) (S := S) (who := w) (k := k) h1 h2 (by omega) (by omega) (by omega)
  have e2 := ts (T := T) (S := S) (by omega)
  unfold tm1 KV
  simp only [List.forall_mem_cons, d_vi, d_vb, d_vr, d_ci, d_cb, d_nr, d_nl, d_add, d_sub, d_mul, d_rem, d_quo, d_bit, d_mn2, d_mx2, d_w, d_nn, d_bn2, d_len, d_neg, d_cl, d_at1, d_at2, d_at3, d_at4, d_at5, d_at6, d_at7, d_set, d_app, d_cat, d_take, d_drop, d_rep, d_cons, d_lt_t, d_lt_f, d_le_t, d_le_f, d_eqi_t, d_eqi_f, d_eqb_t, d_eqb_f, d_nb_t, d_nb_f, nth0, nthS, d_api, d_apr, D_cons, D_nl, D_nr, D_vr, D_set, mkL_l, mkR_r, mkI_i, d_shr2, d_shr3, d_shr16, d_shr40, d_shl2, d_shl3, d_shl16, d_shl40]
  simp only [List.not_mem_nil, false_imp_iff, implies_true, and_true]
  clear h8
  omega
theorem k2 : ∀ v, Inv 2 v → KV v tm2.kn := by
  intro v hv
  obtain ⟨n, i, r0, r1, r2, rfl, h1, h2, h3, h4, h5⟩ := inv2 hv
  unfold tm2 KV
  simp only [List.forall_mem_cons, d_vi, d_vb, d_vr, d_ci, d_cb, d_nr, d_nl, d_add, d_sub, d_mul, d_rem, d_quo, d_bit, d_mn2, d_mx2, d_w, d_nn, d_bn2, d_len, d_neg, d_cl, d_at1, d_at2, d_at3, d_at4, d_at5, d_at6, d_at7, d_set, d_app, d_cat, d_take, d_drop, d_rep, d_cons, d_lt_t, d_lt_f, d_le_t, d_le_f, d_eqi_t, d_eqi_f, d_eqb_t, d_eqb_f, d_nb_t, d_nb_f, nth0, nthS, d_api, d_apr, D_cons, D_nl, D_nr, D_vr, D_set, mkL_l, mkR_r, mkI_i, d_shr2, d_shr3, d_shr16, d_shr40, d_shl2, d_shl3, d_shl16, d_shl40]
  simp only [List.not_mem_nil, false_imp_iff, implies_true, and_true]
  omega
theorem k3 : ∀ v, Inv 3 v → KV v tm3.kn := by
  intro v hv
  obtain ⟨a, n, i, j, r0, r1, r2, rfl, h1, h2, h3, h4, h5, h6, h7, h8⟩ := inv3 hv
  unfold tm3 KV
  simp only [List.forall_mem_cons, d_vi, d_vb, d_vr, d_ci, d_cb, d_nr, d_nl, d_add, d_sub, d_mul, d_rem, d_quo, d_bit, d_mn2, d_mx2, d_w, d_nn, d_bn2, d_len, d_neg, d_cl, d_at1, d_at2, d_at3, d_at4, d_at5, d_at6, d_at7, d_set, d_app, d_cat, d_take, d_drop, d_rep, d_cons, d_lt_t, d_lt_f, d_le_t, d_le_f, d_eqi_t, d_eqi_f, d_eqb_t, d_eqb_f, d_nb_t, d_nb_f, nth0, nthS, d_api, d_apr, D_cons, D_nl, D_nr, D_vr, D_set, mkL_l, mkR_r, mkI_i, d_shr2, d_shr3, d_shr16, d_shr40, d_shl2, d_shl3, d_shl16, d_shl40]
  simp only [List.not_mem_nil, false_imp_iff, implies_true, and_true]
  omega
theorem s0 : ∀ v, Inv 0 v → TOK v (fun _ g => LgOK v (fun q u => Inv q u ∧ lt2 μ (q, u) (0, v)) g) tr0 := by
  intro v hv
  obtain ⟨w, T, S, r0, r1, r2, r3, r4, rfl, hB, h1, h2, h3, h4⟩ := inv0 hv
  have hB' := hB
  unfold FB at hB'
  have e2 := ts (T := T) (S := S) (by omega)
  unfold tr0
  refine TOK.br' (fun h => ?_) (fun h => ?_) <;> simp only [d_vi, d_vb, d_vr, d_ci, d_cb, d_nr, d_nl, d_add, d_sub, d_mul, d_rem, d_quo, d_bit, d_mn2, d_mx2, d_w, d_nn, d_bn2, d_len, d_neg, d_cl, d_at1, d_at2, d_at3, d_at4, d_at5, d_at6, d_at7, d_set, d_app, d_cat, d_take, d_drop, d_rep, d_cons, d_lt_t, d_lt_f, d_le_t, d_le_f, d_eqi_t, d_eqi_f, d_eqb_t, d_eqb_f, d_nb_t, d_nb_f, nth0, nthS, d_api, d_apr, D_cons, D_nl, D_nr, D_vr, D_set, mkL_l, mkR_r, mkI_i, d_shr2, d_shr3, d_shr16, d_shr40, d_shl2, d_shl3, d_shl16, d_shl40] at h
  · refine ⟨.inr (.inl ⟨rfl, w, 0, T, S, 0, -1, 0, 0, 0, 0, 0, 0, r0, r1, r2, r3, r4, rfl, hB, by omega, by omega, by omega, by omega, by omega, h4, ?_, ?_⟩), .inl ?_⟩
    · unfold CB; dsimp only; omega
    · unfold cpot; dsimp only; simp
    · simp only [μ, Sb.val, List.map_cons, List.map_nil, d_vi, d_vb, d_vr, d_ci, d_cb, d_nr, d_nl, d_add, d_sub, d_mul, d_rem, d_quo, d_bit, d_mn2, d_mx2, d_w, d_nn, d_bn2, d_len, d_neg, d_cl, d_at1, d_at2, d_at3, d_at4, d_at5, d_at6, d_at7, d_set, d_app, d_cat, d_take, d_drop, d_rep, d_cons, d_lt_t, d_lt_f, d_le_t, d_le_f, d_eqi_t, d_eqi_f, d_eqb_t, d_eqb_f, d_nb_t, d_nb_f, nth0, nthS, d_api, d_apr, D_cons, D_nl, D_nr, D_vr, D_set, mkL_l, mkR_r, mkI_i, d_shr2, d_shr3, d_shr16, d_shr40, d_shl2, d_shl3, d_shl16, d_shl40]; omega
  · unfold Seen at h4
    refine ⟨.inr (.inr (.inl ⟨rfl, (r2.length : Int), 0, r0, r1, r2, rfl, rfl, by omega, by omega, by omega, h4.2.2⟩)), .inl ?_⟩
    simp only [μ, Sb.val, List.map_cons, List.map_nil, d_vi, d_vb, d_vr, d_ci, d_cb, d_nr, d_nl, d_add, d_sub, d_mul, d_rem, d_quo, d_bit, d_mn2, d_mx2, d_w, d_nn, d_bn2, d_len, d_neg, d_cl, d_at1, d_at2, d_at3, d_at4, d_at5, d_at6, d_at7, d_set, d_app, d_cat, d_take, d_drop, d_rep, d_cons, d_lt_t, d_lt_f, d_le_t, d_le_f, d_eqi_t, d_eqi_f, d_eqb_t, d_eqb_f, d_nb_t, d_nb_f, nth0, nthS, d_api, d_apr, D_cons, D_nl, D_nr, D_vr, D_set, mkL_l, mkR_r, mkI_i, d_shr2, d_shr3, d_shr16, d_shr40, d_shl2, d_shl3, d_shl16, d_shl40]; omega
theorem seen_app {w S x : Int} {r : Row} (h : Seen w S r) (hS : 0 ≤ S) (h0 : w * S ≤ x) (h1 : x < w * S + S) (h2 : 0 ≤ w * S) : Seen (w + 1) S (r ++ [[x]]) := by
  obtain ⟨a, b, c⟩ := h
  have e : (w + 1) * S = w * S + S := by rw [Int.add_mul]; omega
  have g : ∀ j, 0 ≤ j → j < (r.length : Int) → cl (r ++ [[x]]) j = cl r j := fun j g1 g2 => by
    unfold cl; rw [List.getD_eq_getElem?_getD, List.getD_eq_getElem?_getD, List.getElem?_append_left (by omega)]
  have l : cl (r ++ [[x]]) r.length = x := by
    unfold cl; rw [List.getD_eq_getElem?_getD, Int.toNat_natCast, List.getElem?_concat_length]; rfl
  refine ⟨by simp; omega, fun j g1 g2 => ?_, fun i j g1 g2 g3 => ?_⟩
  · simp only [List.length_append, List.length_cons, List.length_nil] at g2
    rcases (by omega : j < r.length ∨ j = r.length) with z | z
    · rw [g j g1 z, e]; have := b j g1 z; omega
    · rw [z, l, e]; omega
  · simp only [List.length_append, List.length_cons, List.length_nil] at g3
    rcases (by omega : j < r.length ∨ j = r.length) with z | z
    · rw [g j (by omega) z, g i g1 (by omega)]; exact c i j g1 g2 z
    · rw [z, l, g i g1 (by omega)]; have := b i g1 (by omega); omega
theorem seen_up {w S : Int} {r : Row} (h : Seen w S r) (hS : 0 ≤ S) : Seen (w + 1) S r := by
  obtain ⟨a, b, c⟩ := h
  have e : (w + 1) * S = w * S + S := by rw [Int.add_mul]; omega
  exact ⟨by omega, fun j g1 g2 => by have := b j g1 g2; rw [e]; omega, c⟩
theorem s1 : ∀ v, Inv 1 v → TOK v (fun _ g => LgOK v (fun q u => Inv q u ∧ lt2 μ (q, u) (1, v)) g) tr1 := by
  intro v hv
  obtain ⟨w, i, T, S, k, g, ws, we, wg, wl, wh, ph, r0, r1, r2, r3, r4, rfl, hB, h1, h2, h3, h4, h5, h6, h7, h8⟩ := inv1 hv
  have hB' := hB
  unfold FB at hB'
  have hTS : 1 ≤ T ∧ T ≤ 4 ∧ 1 ≤ S ∧ S ≤ 4 := by omega
  have e2 := ts hTS
  have hst := h7.step (who := w) (r := r3) hTS
  have hp := cpot_step (who := w) (r := r3) hTS h7
  have hn := cpot_nn hTS h7
  have hn2 := cpot_nn hTS hst
  have h7' := h7
  unfold CB at h7'; dsimp only at h7'
  have e := wwho (T := T) (S := S) (who := w) (k := k) h1 h2 (by omega) (by omega) (by omega)
  have ew : 0 ≤ w * S := Int.mul_nonneg h1 (by omega)
  have eq : IntKind.i64.wrap ((w * S + k).tdiv S) = w := by rw [tdiv_pos e.1, e.2.2, w64 (by omega) (by omega)]
  unfold tr1
  refine TOK.br' (fun h => ?_) (fun h => ?_) <;> simp only [d_vi, d_vb, d_vr, d_ci, d_cb, d_nr, d_nl, d_add, d_sub, d_mul, d_rem, d_quo, d_bit, d_mn2, d_mx2, d_w, d_nn, d_bn2, d_len, d_neg, d_cl, d_at1, d_at2, d_at3, d_at4, d_at5, d_at6, d_at7, d_set, d_app, d_cat, d_take, d_drop, d_rep, d_cons, d_lt_t, d_lt_f, d_le_t, d_le_f, d_eqi_t, d_eqi_f, d_eqb_t, d_eqb_f, d_nb_t, d_nb_f, nth0, nthS, d_api, d_apr, D_cons, D_nl, D_nr, D_vr, D_set, mkL_l, mkR_r, mkI_i, d_shr2, d_shr3, d_shr16, d_shr40, d_shl2, d_shl3, d_shl16, d_shl40] at h
  · have hpot : cpot T S (claimStep T S w r3 ⟨k, g, ws, we, wg, wl, wh, ph⟩) ≤ S * (T + 1) - (i + 1) := by
      by_cases hph : ph = 0
      · have := hp.1 hph; omega
      · rw [hp.2 hph]; unfold cpot; rw [if_neg hph]; omega
    repeat' (first
      | (refine TOK.br' (fun h => ?_) (fun h => ?_) <;> simp only [d_vi, d_vb, d_vr, d_ci, d_cb, d_nr, d_nl, d_add, d_sub, d_mul, d_rem, d_quo, d_bit, d_mn2, d_mx2, d_w, d_nn, d_bn2, d_len, d_neg, d_cl, d_at1, d_at2, d_at3, d_at4, d_at5, d_at6, d_at7, d_set, d_app, d_cat, d_take, d_drop, d_rep, d_cons, d_lt_t, d_lt_f, d_le_t, d_le_f, d_eqi_t, d_eqi_f, d_eqb_t, d_eqb_f, d_nb_t, d_nb_f, nth0, nthS, d_api, d_apr, D_cons, D_nl, D_nr, D_vr, D_set, mkL_l, mkR_r, mkI_i, d_shr2, d_shr3, d_shr16, d_shr40, d_shl2, d_shl3, d_shl16, d_shl40, Φ100, Φ101, Φ102, Φ103, Φ104, Φ105, Φ106, Φ107, Φ108, Φ200, Φ201, Φ202, Φ203, Φ204, Φ205, Φ206, Φ207, Φ208, Φ209, Φ0, Φ1, cst] at h)
      | (with_reducible refine TOK.leaf' ?_))
    all_goals
      refine And.intro (?_ : Inv 1 _) (?_ : lt2 μ (1, _) _)
      · simp only [Sb.val, List.map_cons, List.map_nil, d_vi, d_vb, d_vr, d_ci, d_cb, d_nr, d_nl, d_add, d_sub, d_mul, d_rem, d_quo, d_bit, d_mn2, d_mx2, d_w, d_nn, d_bn2, d_len, d_neg, d_cl, d_at1, d_at2, d_at3, d_at4, d_at5, d_at6, d_at7, d_set, d_app, d_cat, d_take, d_drop, d_rep, d_cons, d_lt_t, d_lt_f, d_le_t, d_le_f, d_eqi_t, d_eqi_f, d_eqb_t, d_eqb_f, d_nb_t, d_nb_f, nth0, nthS, d_api, d_apr, D_cons, D_nl, D_nr, D_vr, D_set, mkL_l, mkR_r, mkI_i, d_shr2, d_shr3, d_shr16, d_shr40, d_shl2, d_shl3, d_shl16, d_shl40, Φ100, Φ101, Φ102, Φ103, Φ104, Φ105, Φ106, Φ107, Φ108, Φ200, Φ201, Φ202, Φ203, Φ204, Φ205, Φ206, Φ207, Φ208, Φ209, Φ0, Φ1, cst]
        refine .inr (.inl ⟨rfl, w, i + 1, T, S, _, _, _, _, _, _, _, _, r0, r1, r2, _, _, rfl, ?_, h1, h2, by omega, by omega, ?_, h6, hst, hpot⟩)
        · first | exact hB | (unfold FB; rw [setLen]; exact hB')
        · first | omega | (simp only [List.length_append, List.length_cons, List.length_nil]; omega)
      · refine .inr ⟨?_, ?_⟩ <;> simp only [μ, Sb.val, List.map_cons, List.map_nil, d_vi, d_vb, d_vr, d_ci, d_cb, d_nr, d_nl, d_add, d_sub, d_mul, d_rem, d_quo, d_bit, d_mn2, d_mx2, d_w, d_nn, d_bn2, d_len, d_neg, d_cl, d_at1, d_at2, d_at3, d_at4, d_at5, d_at6, d_at7, d_set, d_app, d_cat, d_take, d_drop, d_rep, d_cons, d_lt_t, d_lt_f, d_le_t, d_le_f, d_eqi_t, d_eqi_f, d_eqb_t, d_eqb_f, d_nb_t, d_nb_f, nth0, nthS, d_api, d_apr, D_cons, D_nl, D_nr, D_vr, D_set, mkL_l, mkR_r, mkI_i, d_shr2, d_shr3, d_shr16, d_shr40, d_shl2, d_shl3, d_shl16, d_shl40]
        omega
  · have hph : ¬ ph = 0 := fun z => by have := hn.2 z; omega
    have e3 := e.2.1
    have e4 := e.1
    clear hn hn2 hp hst e h7
    repeat' (first
      | (refine TOK.br' (fun h => ?_) (fun h => ?_) <;> simp (disch := omega) only [d_vi, d_vb, d_vr, d_ci, d_cb, d_nr, d_nl, d_add, d_sub, d_mul, d_rem, d_quo, d_bit, d_mn2, d_mx2, d_w, d_nn, d_bn2, d_len, d_neg, d_cl, d_at1, d_at2, d_at3, d_at4, d_at5, d_at6, d_at7, d_set, d_app, d_cat, d_take, d_drop, d_rep, d_cons, d_lt_t, d_lt_f, d_le_t, d_le_f, d_eqi_t, d_eqi_f, d_eqb_t, d_eqb_f, d_nb_t, d_nb_f, nth0, nthS, d_api, d_apr, D_cons, D_nl, D_nr, D_vr, D_set, mkL_l, mkR_r, mkI_i, d_shr2, d_shr3, d_shr16, d_shr40, d_shl2, d_shl3, d_shl16, d_shl40, eq, hph, not_true_eq_false, not_false_eq_true] at h <;> (try (exfalso; omega)))
      | (with_reducible refine TOK.leaf' ?_))
    all_goals first
      | (refine And.intro (?_ : Inv 0 _) (?_ : lt2 μ (0, _) _)
         · simp only [Sb.val, List.map_cons, List.map_nil, d_vi, d_vb, d_vr, d_ci, d_cb, d_nr, d_nl, d_add, d_sub, d_mul, d_rem, d_quo, d_bit, d_mn2, d_mx2, d_w, d_nn, d_bn2, d_len, d_neg, d_cl, d_at1, d_at2, d_at3, d_at4, d_at5, d_at6, d_at7, d_set, d_app, d_cat, d_take, d_drop, d_rep, d_cons, d_lt_t, d_lt_f, d_le_t, d_le_f, d_eqi_t, d_eqi_f, d_eqb_t, d_eqb_f, d_nb_t, d_nb_f, nth0, nthS, d_api, d_apr, D_cons, D_nl, D_nr, D_vr, D_set, mkL_l, mkR_r, mkI_i, d_shr2, d_shr3, d_shr16, d_shr40, d_shl2, d_shl3, d_shl16, d_shl40]
           first
           | exact .inl ⟨rfl, w + 1, T, S, r0, r1, _, r3, r4, rfl, hB, by omega, by omega, by omega, seen_app h6 (by omega) (by omega) (by omega) ew⟩
           | exact .inl ⟨rfl, w + 1, T, S, r0, r1, r2, r3, r4, rfl, hB, by omega, by omega, by omega, seen_up h6 (by omega)⟩
         · refine .inl ?_
           simp only [μ, Sb.val, List.map_cons, List.map_nil, d_vi, d_vb, d_vr, d_ci, d_cb, d_nr, d_nl, d_add, d_sub, d_mul, d_rem, d_quo, d_bit, d_mn2, d_mx2, d_w, d_nn, d_bn2, d_len, d_neg, d_cl, d_at1, d_at2, d_at3, d_at4, d_at5, d_at6, d_at7, d_set, d_app, d_cat, d_take, d_drop, d_rep, d_cons, d_lt_t, d_lt_f, d_le_t, d_le_f, d_eqi_t, d_eqi_f, d_eqb_t, d_eqb_f, d_nb_t, d_nb_f, nth0, nthS, d_api, d_apr, D_cons, D_nl, D_nr, D_vr, D_set, mkL_l, mkR_r, mkI_i, d_shr2, d_shr3, d_shr16, d_shr40, d_shl2, d_shl3, d_shl16, d_shl40]; omega)
theorem s2 : ∀ v, Inv 2 v → TOK v (fun _ g => LgOK v (fun q u => Inv q u ∧ lt2 μ (q, u) (2, v)) g) tr2 := by
  intro v hv
  obtain ⟨n, i, r0, r1, r2, rfl, h1, h2, h3, h4, h5⟩ := inv2 hv
  unfold tr2
  repeat' (first
    | (refine TOK.br' (fun h => ?_) (fun h => ?_) <;> simp (disch := omega) only [d_vi, d_vb, d_vr, d_ci, d_cb, d_nr, d_nl, d_add, d_sub, d_mul, d_rem, d_quo, d_bit, d_mn2, d_mx2, d_w, d_nn, d_bn2, d_len, d_neg, d_cl, d_at1, d_at2, d_at3, d_at4, d_at5, d_at6, d_at7, d_set, d_app, d_cat, d_take, d_drop, d_rep, d_cons, d_lt_t, d_lt_f, d_le_t, d_le_f, d_eqi_t, d_eqi_f, d_eqb_t, d_eqb_f, d_nb_t, d_nb_f, nth0, nthS, d_api, d_apr, D_cons, D_nl, D_nr, D_vr, D_set, mkL_l, mkR_r, mkI_i, d_shr2, d_shr3, d_shr16, d_shr40, d_shl2, d_shl3, d_shl16, d_shl40, w64] at h <;> (try (exfalso; omega)))
    | (with_reducible refine TOK.leaf' ?_))
  all_goals first
    | exact rfl
    | (refine ⟨.inr (.inr (.inr ⟨rfl, cl r2 i, n, i, 0, r0, r1, r2, rfl, h1, h2, by omega, h4, by omega, by omega, rfl, h5⟩)), .inl ?_⟩
       simp only [μ, Sb.val, List.map_cons, List.map_nil, d_vi, d_vb, d_vr, d_ci, d_cb, d_nr, d_nl, d_add, d_sub, d_mul, d_rem, d_quo, d_bit, d_mn2, d_mx2, d_w, d_nn, d_bn2, d_len, d_neg, d_cl, d_at1, d_at2, d_at3, d_at4, d_at5, d_at6, d_at7, d_set, d_app, d_cat, d_take, d_drop, d_rep, d_cons, d_lt_t, d_lt_f, d_le_t, d_le_f, d_eqi_t, d_eqi_f, d_eqb_t, d_eqb_f, d_nb_t, d_nb_f, nth0, nthS, d_api, d_apr, D_cons, D_nl, D_nr, D_vr, D_set, mkL_l, mkR_r, mkI_i, d_shr2, d_shr3, d_shr16, d_shr40, d_shl2, d_shl3, d_shl16, d_shl40]; omega)
theorem s3 : ∀ v, Inv 3 v → TOK v (fun _ g => LgOK v (fun q u => Inv q u ∧ lt2 μ (q, u) (3, v)) g) tr3 := by
  intro v hv
  obtain ⟨a, n, i, j, r0, r1, r2, rfl, h1, h2, h3, h4, h5, h6, h7, h8⟩ := inv3 hv
  have hd := h8 j i h5
  unfold tr3
  repeat' (first
    | (refine TOK.br' (fun h => ?_) (fun h => ?_) <;> simp (disch := omega) only [d_vi, d_vb, d_vr, d_ci, d_cb, d_nr, d_nl, d_add, d_sub, d_mul, d_rem, d_quo, d_bit, d_mn2, d_mx2, d_w, d_nn, d_bn2, d_len, d_neg, d_cl, d_at1, d_at2, d_at3, d_at4, d_at5, d_at6, d_at7, d_set, d_app, d_cat, d_take, d_drop, d_rep, d_cons, d_lt_t, d_lt_f, d_le_t, d_le_f, d_eqi_t, d_eqi_f, d_eqb_t, d_eqb_f, d_nb_t, d_nb_f, nth0, nthS, d_api, d_apr, D_cons, D_nl, D_nr, D_vr, D_set, mkL_l, mkR_r, mkI_i, d_shr2, d_shr3, d_shr16, d_shr40, d_shl2, d_shl3, d_shl16, d_shl40, w64] at h <;> (try (exfalso; omega)))
    | (with_reducible refine TOK.leaf' ?_))
  all_goals first
    | (refine ⟨.inr (.inr (.inr ⟨rfl, a, n, i, j + 1, r0, r1, r2, rfl, h1, h2, h3, h4, by omega, by omega, h7, h8⟩)), .inr ⟨?_, ?_⟩⟩ <;> simp only [μ, Sb.val, List.map_cons, List.map_nil, d_vi, d_vb, d_vr, d_ci, d_cb, d_nr, d_nl, d_add, d_sub, d_mul, d_rem, d_quo, d_bit, d_mn2, d_mx2, d_w, d_nn, d_bn2, d_len, d_neg, d_cl, d_at1, d_at2, d_at3, d_at4, d_at5, d_at6, d_at7, d_set, d_app, d_cat, d_take, d_drop, d_rep, d_cons, d_lt_t, d_lt_f, d_le_t, d_le_f, d_eqi_t, d_eqi_f, d_eqb_t, d_eqb_f, d_nb_t, d_nb_f, nth0, nthS, d_api, d_apr, D_cons, D_nl, D_nr, D_vr, D_set, mkL_l, mkR_r, mkI_i, d_shr2, d_shr3, d_shr16, d_shr40, d_shl2, d_shl3, d_shl16, d_shl40] <;> omega)
    | (refine ⟨.inr (.inr (.inl ⟨rfl, n, i + 1, r0, r1, r2, rfl, h1, by omega, by omega, h4, h8⟩)), .inl ?_⟩
       simp only [μ, Sb.val, List.map_cons, List.map_nil, d_vi, d_vb, d_vr, d_ci, d_cb, d_nr, d_nl, d_add, d_sub, d_mul, d_rem, d_quo, d_bit, d_mn2, d_mx2, d_w, d_nn, d_bn2, d_len, d_neg, d_cl, d_at1, d_at2, d_at3, d_at4, d_at5, d_at6, d_at7, d_set, d_app, d_cat, d_take, d_drop, d_rep, d_cons, d_lt_t, d_lt_f, d_le_t, d_le_f, d_eqi_t, d_eqi_f, d_eqb_t, d_eqb_f, d_nb_t, d_nb_f, nth0, nthS, d_api, d_apr, D_cons, D_nl, D_nr, D_vr, D_set, mkL_l, mkR_r, mkI_i, d_shr2, d_shr3, d_shr16, d_shr40, d_shl2, d_shl3, d_shl16, d_shl40]; omega)
/-- At the begin. -/
theorem sS (a0 a1 : Int) (l2 l3 : Row) : TOK (V [a0, a1] [l2, l3]) (fun _ g => LgOK (V [a0, a1] [l2, l3]) Inv g) trS := by
  unfold trS
  have hT : 0 ≤ a0 % 4 ∧ a0 % 4 < 4 := by omega
  have hS : 0 ≤ a1 % 4 ∧ a1 % 4 < 4 := by omega
  repeat' (first
    | (refine TOK.br' (fun h => ?_) (fun h => ?_) <;> simp (disch := omega) only [d_vi, d_vb, d_vr, d_ci, d_cb, d_nr, d_nl, d_add, d_sub, d_mul, d_rem, d_quo, d_bit, d_mn2, d_mx2, d_w, d_nn, d_bn2, d_len, d_neg, d_cl, d_at1, d_at2, d_at3, d_at4, d_at5, d_at6, d_at7, d_set, d_app, d_cat, d_take, d_drop, d_rep, d_cons, d_lt_t, d_lt_f, d_le_t, d_le_f, d_eqi_t, d_eqi_f, d_eqb_t, d_eqb_f, d_nb_t, d_nb_f, nth0, nthS, d_api, d_apr, D_cons, D_nl, D_nr, D_vr, D_set, mkL_l, mkR_r, mkI_i, d_shr2, d_shr3, d_shr16, d_shr40, d_shl2, d_shl3, d_shl16, d_shl40, w64] at h)
    | (with_reducible refine TOK.leaf' ?_))
  · exact rfl
  · exact rfl
  · refine (show Inv 0 _ from ?_)
    simp (disch := omega) only [Sb.val, List.map_cons, List.map_nil, d_vi, d_vb, d_vr, d_ci, d_cb, d_nr, d_nl, d_add, d_sub, d_mul, d_rem, d_quo, d_bit, d_mn2, d_mx2, d_w, d_nn, d_bn2, d_len, d_neg, d_cl, d_at1, d_at2, d_at3, d_at4, d_at5, d_at6, d_at7, d_set, d_app, d_cat, d_take, d_drop, d_rep, d_cons, d_lt_t, d_lt_f, d_le_t, d_le_f, d_eqi_t, d_eqi_f, d_eqb_t, d_eqb_f, d_nb_t, d_nb_f, nth0, nthS, d_api, d_apr, D_cons, D_nl, D_nr, D_vr, D_set, mkL_l, mkR_r, mkI_i, d_shr2, d_shr3, d_shr16, d_shr40, d_shl2, d_shl3, d_shl16, d_shl40, Φ100, Φ101, Φ102, Φ103, Φ104, Φ105, Φ106, Φ107, Φ108, Φ200, Φ201, Φ202, Φ203, Φ204, Φ205, Φ206, Φ207, Φ208, Φ209, Φ0, Φ1, and3]
    have e1 := prod4 (T := a0 % 4 + 1) (S := a1 % 4 + 1) (by omega) (by omega) (by omega) (by omega)
    refine .inl ⟨rfl, 0, a0 % 4 + 1, a1 % 4 + 1, l2, l3, [], _, _, rfl, ?_, by omega, by omega, ?_, by simp, fun j g1 g2 => (by simp at g2; omega), fun i j g1 g2 g3 => (by simp at g3; omega)⟩
    · unfold FB; have := @FCells.cellsN_len (a0 % 4 + 1) (a1 % 4 + 1) (cntA (a0 % 4 + 1) (a1 % 4 + 1) l2) (cntB (a0 % 4 + 1) l3) l2 l3
      omega
    · have := @FCells.logN_len (a0 % 4 + 1) (a1 % 4 + 1) (cntA (a0 % 4 + 1) (a1 % 4 + 1) l2) (cntB (a0 % 4 + 1) l3) l2 l3
      have : cntA (a0 % 4 + 1) (a1 % 4 + 1) l2 ≤ (a0 % 4 + 1) * (a1 % 4 + 1) := by unfold cntA; split <;> omega
      have : cntB (a0 % 4 + 1) l3 ≤ a0 % 4 + 1 := by unfold cntB; split <;> omega
      omega
theorem ClaimOwns_walk (a0 a1 : Int) (A2 : Option Addr) (n2 c2 : Nat) (l2 : List (List Int)) (A3 : Option Addr) (n3 c3 : Nat) (l3 : List (List Int)) (w : World) (wa0 : (Lit.int .i64 a0).wf = true) (wa1 : (Lit.int .i64 a1).wf = true) (hr2 : ArgRow w [.i .i64, .i .i64, .b] A2 n2 c2 l2) (hr3 : ArgRow w [.i .i64] A3 n3 c3 l3) :
    Calls Try.prog 5 #[.int .i64 a0, .int .i64 a1, .slice A2 n2 c2, .slice A3 n3 c3] w fun e w' => e = .returned (.bool true) ∧ Below w.heap.size w w' :=
  law_calls (v := V [a0, a1] [l2, l3]) (l := [⟨A2, n2, c2, [.i .i64, .i .i64, .b], l2⟩, ⟨A3, n3, c3, [.i .i64], l3⟩]) (args := args) (args' := [.int .i64 a0, .int .i64 a1, .slice A2 n2 c2, .slice A3 n3 c3]) hI0 hfn hbod (by decide) rfl (by simpa using ⟨hr2, hr3⟩)
    (.cons (.int _ _) (.cons (.int _ _) (.cons (arg_slice (id := 0) (s := ⟨A2, n2, c2, [.i .i64, .i .i64, .b], l2⟩) (l := [⟨A2, n2, c2, [.i .i64, .i .i64, .b], l2⟩, ⟨A3, n3, c3, [.i .i64], l3⟩]) rfl rfl hr2) (.cons (arg_slice (id := 1) (s := ⟨A3, n3, c3, [.i .i64], l3⟩) (l := [⟨A2, n2, c2, [.i .i64, .i .i64, .b], l2⟩, ⟨A3, n3, c3, [.i .i64], l3⟩]) rfl rfl hr3) (.nil _)))))
    (aw (V [a0, a1] [l2, l3]) Inv μ rfl hΦ KV.nil k0 k1 k2 k3 (sS a0 a1 l2 l3) s0 s1 s2 s3)
end Go.Proofs.Ytckbckijpdnlaaa.KClaimOwns
