/- The law TakeSteps of take: whatever others do between the steps: it answers true for all numbers, words and lists. No condition. -/
import Derived.Test.YtckbckijpdnlaaaOwnTakeStepsS
import Derived.Test.YtckbckijpdnlaaaOwnNxt10
set_option linter.unusedVariables false
set_option linter.unusedSimpArgs false
set_option maxRecDepth 100000
set_option maxHeartbeats 16000000
namespace Go.Proofs.Ytckbckijpdnlaaa.KTakeSteps
open Go Go.Lib Go.Proofs.Ytckbckijpdnlaaa.Eng Go.Proofs.Ytckbckijpdnlaaa.Sy Go.RowKit

def W0 (who slot old ph val n i st en ge lo hi T S : Int) (lost ended : Bool) (k : KSt) (r0 r1 r2 : Row) : Val := ⟨[who, slot, old, ph, val, n, i, st, en, ge, lo, hi, T, S, k.n, k.val, k.ph], [lost, ended, k.lost], [r0, r1, r2], [], Φ⟩
def W1 (who slot old ph val n i j st en ge lo hi T S : Int) (lost ended : Bool) (k : KSt) (r0 r1 r2 : Row) : Val := ⟨[who, slot, old, ph, val, n, i, j, st, en, ge, lo, hi, T, S, k.n, k.val, k.ph], [lost, ended, k.lost], [r0, r1, r2], [], Φ⟩
structure Com (who slot old i st en ge lo hi T S : Int) (r0 r1 : Row) : Prop where
  lb : LB T S 0 0 who
  slot : 0 ≤ slot ∧ slot < T * S
  len : (r1.length : Int) = 2 * (T * S) + 2 * T
  wd : RightW st en ge lo hi
  old : old = pk st en ge lo hi
  few : (r0.length : Int) ≤ 12
theorem beqI {a b : Int} : (a == b) = decide (a = b) := by rw [Bool.eq_iff_iff]; simp
/-- How the law and the take stand. -/
def Stand (ph val n i : Int) (lost ended : Bool) (k : KSt) : Prop := (ended = false ∧ ph = 0 ∧ n = i ∧ n ≤ 4 ∧ k = ⟨n, lost, val, 0⟩) ∨ (ended = true ∧ k.ph = ph ∧ (1 ≤ ph ∧ ph ≤ 2) ∧ (0 ≤ k.n ∧ k.n ≤ 9) ∧ (0 ≤ n ∧ n ≤ 8))
def Inv0 (v : Val) : Prop := ∃ who slot old ph val n i st en ge lo hi T S lost ended k r0 r1 r2, v = W0 who slot old ph val n i st en ge lo hi T S lost ended k r0 r1 r2 ∧ Com who slot old i st en ge lo hi T S r0 r1 ∧ Stand ph val n i lost ended k ∧ (0 ≤ i ∧ i ≤ 7) ∧ (r2.length : Int) ≤ 2 + 14 * i
def Inv1 (v : Val) : Prop := ∃ who slot old ph val n i j st en ge lo hi T S lost ended k r0 r1 r2, v = W1 who slot old ph val n i j st en ge lo hi T S lost ended k r0 r1 r2 ∧ Com who slot old i st en ge lo hi T S r0 r1 ∧ Stand ph val n i lost ended k ∧ (0 ≤ i ∧ i ≤ 6) ∧ (0 ≤ j ∧ j ≤ (r0.length : Int)) ∧ (r2.length : Int) ≤ 2 + 14 * i + j
def Inv (k : Nat) (v : Val) : Prop := (k = 0 ∧ Inv0 v) ∨ (k = 1 ∧ Inv1 v)
theorem inv0 {v : Val} (h : Inv 0 v) : Inv0 v := by rcases h with ⟨_, h⟩ | ⟨h, _⟩ <;> first | exact h | cases h
theorem inv1 {v : Val} (h : Inv 1 v) : Inv1 v := by rcases h with ⟨h, _⟩ | ⟨_, h⟩ <;> first | exact h | cases h
def μ (q : Nat × Val) : Nat × Nat := match q.1 with
  | 0 => ((14 - 2 * nth 0 q.2.i 6).toNat, 0)
  | _ => ((13 - 2 * nth 0 q.2.i 6).toNat, (20 - nth 0 q.2.i 7).toNat)
theorem hΦ : ∀ k v, Inv k v → v.f = Φ := by
  rintro k v (⟨_, who, slot, old, ph, val, n, i, st, en, ge, lo, hi, T, S, lost, ended, k, r0, r1, r2, rfl, _⟩ | ⟨_, who, slot, old, ph, val, n, i, j, st, en, ge, lo, hi, T, S, lost, ended, k, r0, r1, r2, rfl, _⟩) <;> rfl
theorem stand_b {ph val n i : Int} {lost ended : Bool} {k : KSt} (h : Stand ph val n i lost ended k) (hi : 0 ≤ i) : (0 ≤ ph ∧ ph ≤ 2) ∧ (0 ≤ n ∧ n ≤ 8) ∧ (0 ≤ k.n ∧ k.n ≤ 9) ∧ (0 ≤ k.ph ∧ k.ph ≤ 2) := by
  rcases h with ⟨h1, h2, h3, h4, rfl⟩ | ⟨h1, h2, h3, h4, h5⟩
  · dsimp only; omega
  · omega
theorem k0 : ∀ v, Inv 0 v → KV v tm0.kn := by
  intro v hv
  obtain ⟨who, slot, old, ph, val, n, i, st, en, ge, lo, hi, T, S, lost, ended, k, r0, r1, r2, rfl, ⟨hL, c1, c2, c3, c4, c5⟩, hS, g1, g2⟩ := inv0 hv
  have hb := stand_b hS g1.1
  unfold LB at hL; unfold RightW at c3
  have e4 := prod4 (T := T) (S := S) (by omega) (by omega) (by omega) (by omega)
  clear hS c4
  unfold tm0 KV W0
  simp only [List.forall_mem_cons, d_vi, d_vb, d_vr, d_ci, d_cb, d_nr, d_nl, d_add, d_sub, d_mul, d_rem, d_quo, d_bit, d_mn, d_mx, d_w, d_nn, d_bn, d_len, d_neg, d_at0, d_at1, d_at2, d_at3, d_at4, d_at5, d_at6, d_at7, d_set, d_app, d_cat, d_take, d_drop, d_rep, d_cons, d_lt_t, d_lt_f, d_le_t, d_le_f, d_eqi_t, d_eqi_f, d_eqb_t, d_eqb_f, d_nb_t, d_nb_f, nth0, nthS, d_api, d_apr, D_cons, D_nl, D_nr, D_vr, D_set, mkL_l, mkR_r, mkI_i, d_apb, mkB_b]
  simp only [List.not_mem_nil, false_imp_iff, implies_true, and_true]
  omega
theorem k1 : ∀ v, Inv 1 v → KV v tm1.kn := by
  intro v hv
  obtain ⟨who, slot, old, ph, val, n, i, j, st, en, ge, lo, hi, T, S, lost, ended, k, r0, r1, r2, rfl, ⟨hL, c1, c2, c3, c4, c5⟩, hS, g1, g3, g2⟩ := inv1 hv
  have hb := stand_b hS g1.1
  unfold LB at hL; unfold RightW at c3
  have e4 := prod4 (T := T) (S := S) (by omega) (by omega) (by omega) (by omega)
  clear hS c4
  unfold tm1 KV W1
  simp only [List.forall_mem_cons, d_vi, d_vb, d_vr, d_ci, d_cb, d_nr, d_nl, d_add, d_sub, d_mul, d_rem, d_quo, d_bit, d_mn, d_mx, d_w, d_nn, d_bn, d_len, d_neg, d_at0, d_at1, d_at2, d_at3, d_at4, d_at5, d_at6, d_at7, d_set, d_app, d_cat, d_take, d_drop, d_rep, d_cons, d_lt_t, d_lt_f, d_le_t, d_le_f, d_eqi_t, d_eqi_f, d_eqb_t, d_eqb_f, d_nb_t, d_nb_f, nth0, nthS, d_api, d_apr, D_cons, D_nl, D_nr, D_vr, D_set, mkL_l, mkR_r, mkI_i, d_apb, mkB_b]
  simp only [List.not_mem_nil, false_imp_iff, implies_true, and_true]
  omega
theorem s0 : ∀ v, Inv 0 v → TOK v (fun _ g => LgOK v (fun q u => Inv q u ∧ lt2 μ (q, u) (0, v)) g) tr0 := by
  intro v hv
  obtain ⟨who, slot, old, ph, val, n, i, st, en, ge, lo, hi, T, S, lost, ended, k, r0, r1, r2, rfl, hC, hS, g1, g2⟩ := inv0 hv
  unfold tr0
  refine TOK.br' (fun h => ?_) (fun h => ?_) <;> simp only [W0, d_vi, d_vb, d_vr, d_ci, d_cb, d_nr, d_nl, d_add, d_sub, d_mul, d_rem, d_quo, d_bit, d_mn2, d_mx2, d_w, d_nn, d_bn2, d_len, d_neg, d_cl, d_at1, d_at2, d_at3, d_at4, d_at5, d_at6, d_at7, d_set, d_app, d_cat, d_take, d_drop, d_rep, d_cons, d_lt_t, d_lt_f, d_le_t, d_le_f, d_eqi_t, d_eqi_f, d_eqb_t, d_eqb_f, d_nb_t, d_nb_f, nth0, nthS, d_api, d_apr, D_cons, D_nl, D_nr, D_vr, D_set, mkL_l, mkR_r, mkI_i, d_shr2, d_shr3, d_shr16, d_shr40, d_shl2, d_shl3, d_shl16, d_shl40, d_apb, mkB_b] at h
  · refine TOK.leaf' ?_
    refine And.intro (?_ : Inv 1 _) (?_ : lt2 μ (1, _) _) <;> simp only [W0, Sb.val, List.map_cons, List.map_nil, d_vi, d_vb, d_vr, d_ci, d_cb, d_nr, d_nl, d_add, d_sub, d_mul, d_rem, d_quo, d_bit, d_mn2, d_mx2, d_w, d_nn, d_bn2, d_len, d_neg, d_cl, d_at1, d_at2, d_at3, d_at4, d_at5, d_at6, d_at7, d_set, d_app, d_cat, d_take, d_drop, d_rep, d_cons, d_lt_t, d_lt_f, d_le_t, d_le_f, d_eqi_t, d_eqi_f, d_eqb_t, d_eqb_f, d_nb_t, d_nb_f, nth0, nthS, d_api, d_apr, D_cons, D_nl, D_nr, D_vr, D_set, mkL_l, mkR_r, mkI_i, d_shr2, d_shr3, d_shr16, d_shr40, d_shl2, d_shl3, d_shl16, d_shl40, d_apb, mkB_b]
    · exact .inr ⟨rfl, who, slot, old, ph, val, n, i, 0, st, en, ge, lo, hi, T, S, lost, ended, k, r0, r1, r2, rfl, hC, hS, by omega, by omega, by omega⟩
    · exact .inl (by show (13 - 2 * i).toNat < (14 - 2 * i).toNat; omega)
  · rcases hS with ⟨h1, h2, h3, h4, rfl⟩ | ⟨h1, h2, h3, h4, h5⟩
    · exfalso; omega
    · refine TOK.br' (fun h => ?_) (fun h => ?_) <;> simp only [W0, d_vi, d_vb, d_vr, d_ci, d_cb, d_nr, d_nl, d_add, d_sub, d_mul, d_rem, d_quo, d_bit, d_mn2, d_mx2, d_w, d_nn, d_bn2, d_len, d_neg, d_cl, d_at1, d_at2, d_at3, d_at4, d_at5, d_at6, d_at7, d_set, d_app, d_cat, d_take, d_drop, d_rep, d_cons, d_lt_t, d_lt_f, d_le_t, d_le_f, d_eqi_t, d_eqi_f, d_eqb_t, d_eqb_f, d_nb_t, d_nb_f, nth0, nthS, d_api, d_apr, D_cons, D_nl, D_nr, D_vr, D_set, mkL_l, mkR_r, mkI_i, d_shr2, d_shr3, d_shr16, d_shr40, d_shl2, d_shl3, d_shl16, d_shl40, d_apb, mkB_b] at h
      · refine TOK.leaf' ?_
        show (den _ _).b = true
        rw [d_eqi_t]
        simp only [W0, d_vi, d_vb, d_vr, d_ci, d_cb, d_nr, d_nl, d_add, d_sub, d_mul, d_rem, d_quo, d_bit, d_mn2, d_mx2, d_w, d_nn, d_bn2, d_len, d_neg, d_cl, d_at1, d_at2, d_at3, d_at4, d_at5, d_at6, d_at7, d_set, d_app, d_cat, d_take, d_drop, d_rep, d_cons, d_lt_t, d_lt_f, d_le_t, d_le_f, d_eqi_t, d_eqi_f, d_eqb_t, d_eqb_f, d_nb_t, d_nb_f, nth0, nthS, d_api, d_apr, D_cons, D_nl, D_nr, D_vr, D_set, mkL_l, mkR_r, mkI_i, d_shr2, d_shr3, d_shr16, d_shr40, d_shl2, d_shl3, d_shl16, d_shl40, d_apb, mkB_b]
        exact h2
      · rw [h1] at h; cases h
theorem s1 : ∀ v, Inv 1 v → TOK v (fun _ g => LgOK v (fun q u => Inv q u ∧ lt2 μ (q, u) (1, v)) g) tr1 := by
  intro v hv
  obtain ⟨who, slot, old, ph, val, n, i, j, st, en, ge, lo, hi, T, S, lost, ended, k, r0, r1, r2, rfl, hC, hS, g1, g3, g2⟩ := inv1 hv
  have hC' := hC
  obtain ⟨hL, c1, c2, c3, c4, c5⟩ := hC'
  have hL' := hL
  unfold LB at hL'
  have turn : j < (r0.length : Int) → ∀ r' l' : Row, (r'.length : Int) = 2 * (T * S) + 2 * T → (l'.length : Int) ≤ 2 + 14 * i + (j + 1) → Inv 1 (W1 who slot old ph val n i (j + 1) st en ge lo hi T S lost ended k r0 r' l') ∧ lt2 μ (1, W1 who slot old ph val n i (j + 1) st en ge lo hi T S lost ended k r0 r' l') (1, W1 who slot old ph val n i j st en ge lo hi T S lost ended k r0 r1 r2) := fun z r' l' e1 e2 =>
    ⟨.inr ⟨rfl, who, slot, old, ph, val, n, i, j + 1, st, en, ge, lo, hi, T, S, lost, ended, k, r0, r', l', rfl, ⟨hL, c1, e1, c3, c4, c5⟩, hS, g1, by omega, e2⟩, .inr ⟨rfl, by show (20 - (j + 1)).toNat < (20 - j).toNat; omega⟩⟩
  have dec : ∀ x : Val, nth 0 x.i 6 = i + 1 → lt2 μ (0, x) (1, W1 who slot old ph val n i j st en ge lo hi T S lost ended k r0 r1 r2) := fun x e => .inl (by
    show (14 - 2 * nth 0 x.i 6).toNat < (13 - 2 * i).toNat
    omega)
  have next : ∀ (ph' val' n' : Int) (lost' ended' : Bool) (k' : KSt) (r' l' : Row), (r'.length : Int) = 2 * (T * S) + 2 * T → (l'.length : Int) ≤ 2 + 14 * i + j + 1 → Stand ph' val' n' (i + 1) lost' ended' k' → j = (r0.length : Int) → Inv 0 (W0 who slot old ph' val' n' (i + 1) st en ge lo hi T S lost' ended' k' r0 r' l') := fun ph' val' n' lost' ended' k' r' l' e1 e2 e3 e4 =>
    .inl ⟨rfl, who, slot, old, ph', val', n', i + 1, st, en, ge, lo, hi, T, S, lost', ended', k', r0, r', l', rfl, ⟨hL, c1, e1, c3, c4, c5⟩, e3, by omega, by omega⟩
  unfold tr1
  refine TOK.br' (fun hj => ?_) (fun hj => ?_) <;> simp only [W1, d_vi, d_vb, d_vr, d_ci, d_cb, d_nr, d_nl, d_add, d_sub, d_mul, d_rem, d_quo, d_bit, d_mn2, d_mx2, d_w, d_nn, d_bn2, d_len, d_neg, d_cl, d_at1, d_at2, d_at3, d_at4, d_at5, d_at6, d_at7, d_set, d_app, d_cat, d_take, d_drop, d_rep, d_cons, d_lt_t, d_lt_f, d_le_t, d_le_f, d_eqi_t, d_eqi_f, d_eqb_t, d_eqb_f, d_nb_t, d_nb_f, nth0, nthS, d_api, d_apr, D_cons, D_nl, D_nr, D_vr, D_set, mkL_l, mkR_r, mkI_i, d_shr2, d_shr3, d_shr16, d_shr40, d_shl2, d_shl3, d_shl16, d_shl40, d_apb, mkB_b] at hj
  · repeat' (first
      | (refine TOK.br' (fun h => ?_) (fun h => ?_))
      | (with_reducible refine TOK.leaf' ?_))
    all_goals
      refine And.intro (?_ : Inv 1 _) (?_ : lt2 μ (1, _) _) <;> simp only [W1, Sb.val, List.map_cons, List.map_nil, d_vi, d_vb, d_vr, d_ci, d_cb, d_nr, d_nl, d_add, d_sub, d_mul, d_rem, d_quo, d_bit, d_mn2, d_mx2, d_w, d_nn, d_bn2, d_len, d_neg, d_cl, d_at1, d_at2, d_at3, d_at4, d_at5, d_at6, d_at7, d_set, d_app, d_cat, d_take, d_drop, d_rep, d_cons, d_lt_t, d_lt_f, d_le_t, d_le_f, d_eqi_t, d_eqi_f, d_eqb_t, d_eqb_f, d_nb_t, d_nb_f, nth0, nthS, d_api, d_apr, D_cons, D_nl, D_nr, D_vr, D_set, mkL_l, mkR_r, mkI_i, d_shr2, d_shr3, d_shr16, d_shr40, d_shl2, d_shl3, d_shl16, d_shl40, d_apb, mkB_b]
    all_goals first
      | exact (turn hj r1 r2 c2 (by omega)).1
      | exact (turn hj r1 r2 c2 (by omega)).2
      | exact (turn hj _ _ (by rw [setLen]; exact c2) (by rw [List.length_append, List.length_singleton]; omega)).1
      | exact (turn hj _ _ (by rw [setLen]; exact c2) (by rw [List.length_append, List.length_singleton]; omega)).2
  · have ej : j = (r0.length : Int) := by omega
    have hTS : 0 ≤ T * S := Int.mul_nonneg (by omega) (by omega)
    rcases hS with ⟨h1, h2, h3, h4, rfl⟩ | ⟨h1, h2, h3, h4, h5⟩
    · subst h1 h2 h3
      have en0 : ∀ (x y : Row), ((x ++ [y.flatten]).length : Int) = (x.length : Int) + 1 := fun x y => by rw [List.length_append, List.length_singleton]; rfl
      cases lost with
      | true =>
        have eT : takeT T S who slot old r1 ⟨n, true, val, 0⟩ = ⟨2 * (T * S) + who, 1, 0, 1⟩ := rfl
        have eS : takeStep T S slot old r1 ⟨n, true, val, 0⟩ = ⟨n, true, val, 2⟩ := rfl
        repeat' (first
          | (refine TOK.br' (fun h => ?_) (fun h => ?_) <;> (try simp (disch := omega) only [W1, d_vi, d_vb, d_vr, d_ci, d_cb, d_nr, d_nl, d_add, d_sub, d_mul, d_rem, d_quo, d_bit, d_mn2, d_mx2, d_w, d_nn, d_bn2, d_len, d_neg, d_cl, d_at1, d_at2, d_at3, d_at4, d_at5, d_at6, d_at7, d_set, d_app, d_cat, d_take, d_drop, d_rep, d_cons, d_lt_t, d_lt_f, d_le_t, d_le_f, d_eqi_t, d_eqi_f, d_eqb_t, d_eqb_f, d_nb_t, d_nb_f, nth0, nthS, d_api, d_apr, D_cons, D_nl, D_nr, D_vr, D_set, mkL_l, mkR_r, mkI_i, d_shr2, d_shr3, d_shr16, d_shr40, d_shl2, d_shl3, d_shl16, d_shl40, d_apb, mkB_b, Φ100, Φ101, Φ102, Φ103, Φ104, Φ105, Φ106, Φ107, Φ108, Φ200, Φ201, Φ202, Φ203, Φ204, Φ205, Φ206, Φ207, Φ208, Φ209, Φ0, Φ1, Φ10, Φ300, Φ301, Φ302, Φ303, Φ304, Φ305, Φ306, Φ307, Φ308, Φ309, Φ310, Φ311, Φ312, Φ313, Φ314, Φ315, Φ316, Φ317, Φ318, Φ319, Φ20, Φ11, Φ30, Φ31, Φ32, Φ400, Φ401, Φ402, Φ403, Φ404, Φ405, Φ406, Φ407, kst, b2i_dec, eT, eS, cl_self] at h) <;> (try (exfalso; omega)) <;> (try (exact absurd trivial h)) <;> (try (exact absurd rfl h)) <;> (try (exact absurd h (by decide))))
          | (with_reducible refine TOK.leaf' ?_))
        all_goals
          refine And.intro (?_ : Inv 0 _) (?_ : lt2 μ (0, _) _) <;> simp only [W1, Sb.val, List.map_cons, List.map_nil, d_vi, d_vb, d_vr, d_ci, d_cb, d_nr, d_nl, d_add, d_sub, d_mul, d_rem, d_quo, d_bit, d_mn2, d_mx2, d_w, d_nn, d_bn2, d_len, d_neg, d_cl, d_at1, d_at2, d_at3, d_at4, d_at5, d_at6, d_at7, d_set, d_app, d_cat, d_take, d_drop, d_rep, d_cons, d_lt_t, d_lt_f, d_le_t, d_le_f, d_eqi_t, d_eqi_f, d_eqb_t, d_eqb_f, d_nb_t, d_nb_f, nth0, nthS, d_api, d_apr, D_cons, D_nl, D_nr, D_vr, D_set, mkL_l, mkR_r, mkI_i, d_shr2, d_shr3, d_shr16, d_shr40, d_shl2, d_shl3, d_shl16, d_shl40, d_apb, mkB_b, Φ100, Φ101, Φ102, Φ103, Φ104, Φ105, Φ106, Φ107, Φ108, Φ200, Φ201, Φ202, Φ203, Φ204, Φ205, Φ206, Φ207, Φ208, Φ209, Φ0, Φ1, Φ10, Φ300, Φ301, Φ302, Φ303, Φ304, Φ305, Φ306, Φ307, Φ308, Φ309, Φ310, Φ311, Φ312, Φ313, Φ314, Φ315, Φ316, Φ317, Φ318, Φ319, Φ20, Φ11, Φ30, Φ31, Φ32, Φ400, Φ401, Φ402, Φ403, Φ404, Φ405, Φ406, Φ407, kst, b2i_dec, eT, eS]
          · exact next 2 val (n + 1) true true ⟨n, true, val, 2⟩ _ _ (by rw [setLen]; exact c2) (by rw [List.length_append, List.length_singleton]; omega) (.inr ⟨rfl, rfl, by omega, by dsimp only; omega, by omega⟩) ej
          · exact dec _ rfl
      | false =>
        rcases (by omega : n = 0 ∨ n = 1 ∨ n = 2 ∨ n = 3 ∨ n = 4) with rfl | rfl | rfl | rfl | rfl
        · have eT : takeT T S who slot old r1 ⟨0, false, val, 0⟩ = ⟨2 * (T * S) + who, 1, slot + 1, 1⟩ := rfl
          have eS : takeStep T S slot old r1 ⟨0, false, val, 0⟩ = ⟨1, false, val, 0⟩ := rfl
          repeat' (first
            | (refine TOK.br' (fun h => ?_) (fun h => ?_) <;> (try simp (disch := omega) only [W1, d_vi, d_vb, d_vr, d_ci, d_cb, d_nr, d_nl, d_add, d_sub, d_mul, d_rem, d_quo, d_bit, d_mn2, d_mx2, d_w, d_nn, d_bn2, d_len, d_neg, d_cl, d_at1, d_at2, d_at3, d_at4, d_at5, d_at6, d_at7, d_set, d_app, d_cat, d_take, d_drop, d_rep, d_cons, d_lt_t, d_lt_f, d_le_t, d_le_f, d_eqi_t, d_eqi_f, d_eqb_t, d_eqb_f, d_nb_t, d_nb_f, nth0, nthS, d_api, d_apr, D_cons, D_nl, D_nr, D_vr, D_set, mkL_l, mkR_r, mkI_i, d_shr2, d_shr3, d_shr16, d_shr40, d_shl2, d_shl3, d_shl16, d_shl40, d_apb, mkB_b, Φ100, Φ101, Φ102, Φ103, Φ104, Φ105, Φ106, Φ107, Φ108, Φ200, Φ201, Φ202, Φ203, Φ204, Φ205, Φ206, Φ207, Φ208, Φ209, Φ0, Φ1, Φ10, Φ300, Φ301, Φ302, Φ303, Φ304, Φ305, Φ306, Φ307, Φ308, Φ309, Φ310, Φ311, Φ312, Φ313, Φ314, Φ315, Φ316, Φ317, Φ318, Φ319, Φ20, Φ11, Φ30, Φ31, Φ32, Φ400, Φ401, Φ402, Φ403, Φ404, Φ405, Φ406, Φ407, kst, b2i_dec, eT, eS, cl_self] at h) <;> (try (exfalso; omega)) <;> (try (exact absurd trivial h)) <;> (try (exact absurd rfl h)) <;> (try (exact absurd h (by decide))))
            | (with_reducible refine TOK.leaf' ?_))
          all_goals
            refine And.intro (?_ : Inv 0 _) (?_ : lt2 μ (0, _) _) <;> simp only [W1, Sb.val, List.map_cons, List.map_nil, d_vi, d_vb, d_vr, d_ci, d_cb, d_nr, d_nl, d_add, d_sub, d_mul, d_rem, d_quo, d_bit, d_mn2, d_mx2, d_w, d_nn, d_bn2, d_len, d_neg, d_cl, d_at1, d_at2, d_at3, d_at4, d_at5, d_at6, d_at7, d_set, d_app, d_cat, d_take, d_drop, d_rep, d_cons, d_lt_t, d_lt_f, d_le_t, d_le_f, d_eqi_t, d_eqi_f, d_eqb_t, d_eqb_f, d_nb_t, d_nb_f, nth0, nthS, d_api, d_apr, D_cons, D_nl, D_nr, D_vr, D_set, mkL_l, mkR_r, mkI_i, d_shr2, d_shr3, d_shr16, d_shr40, d_shl2, d_shl3, d_shl16, d_shl40, d_apb, mkB_b, Φ100, Φ101, Φ102, Φ103, Φ104, Φ105, Φ106, Φ107, Φ108, Φ200, Φ201, Φ202, Φ203, Φ204, Φ205, Φ206, Φ207, Φ208, Φ209, Φ0, Φ1, Φ10, Φ300, Φ301, Φ302, Φ303, Φ304, Φ305, Φ306, Φ307, Φ308, Φ309, Φ310, Φ311, Φ312, Φ313, Φ314, Φ315, Φ316, Φ317, Φ318, Φ319, Φ20, Φ11, Φ30, Φ31, Φ32, Φ400, Φ401, Φ402, Φ403, Φ404, Φ405, Φ406, Φ407, kst, b2i_dec, eT, eS]
            · exact next 0 val (0 + 1) false false ⟨1, false, val, 0⟩ _ _ (by rw [setLen]; exact c2) (by rw [List.length_append, List.length_singleton]; omega) (.inl ⟨rfl, rfl, by omega, by decide, rfl⟩) ej
            · exact dec _ rfl
        · have eT : takeT T S who slot old r1 ⟨1, false, val, 0⟩ = ⟨slot, 0, cl r1 slot, 1⟩ := rfl
          have eS : takeStep T S slot old r1 ⟨1, false, val, 0⟩ = ⟨2, !decide (cl r1 slot = old), val, 0⟩ := rfl
          repeat' (first
            | (refine TOK.br' (fun h => ?_) (fun h => ?_) <;> (try simp (disch := omega) only [W1, d_vi, d_vb, d_vr, d_ci, d_cb, d_nr, d_nl, d_add, d_sub, d_mul, d_rem, d_quo, d_bit, d_mn2, d_mx2, d_w, d_nn, d_bn2, d_len, d_neg, d_cl, d_at1, d_at2, d_at3, d_at4, d_at5, d_at6, d_at7, d_set, d_app, d_cat, d_take, d_drop, d_rep, d_cons, d_lt_t, d_lt_f, d_le_t, d_le_f, d_eqi_t, d_eqi_f, d_eqb_t, d_eqb_f, d_nb_t, d_nb_f, nth0, nthS, d_api, d_apr, D_cons, D_nl, D_nr, D_vr, D_set, mkL_l, mkR_r, mkI_i, d_shr2, d_shr3, d_shr16, d_shr40, d_shl2, d_shl3, d_shl16, d_shl40, d_apb, mkB_b, Φ100, Φ101, Φ102, Φ103, Φ104, Φ105, Φ106, Φ107, Φ108, Φ200, Φ201, Φ202, Φ203, Φ204, Φ205, Φ206, Φ207, Φ208, Φ209, Φ0, Φ1, Φ10, Φ300, Φ301, Φ302, Φ303, Φ304, Φ305, Φ306, Φ307, Φ308, Φ309, Φ310, Φ311, Φ312, Φ313, Φ314, Φ315, Φ316, Φ317, Φ318, Φ319, Φ20, Φ11, Φ30, Φ31, Φ32, Φ400, Φ401, Φ402, Φ403, Φ404, Φ405, Φ406, Φ407, kst, b2i_dec, eT, eS, cl_self] at h) <;> (try (exfalso; omega)) <;> (try (exact absurd trivial h)) <;> (try (exact absurd rfl h)) <;> (try (exact absurd h (by decide))))
            | (with_reducible refine TOK.leaf' ?_))
          all_goals
            refine And.intro (?_ : Inv 0 _) (?_ : lt2 μ (0, _) _) <;> simp only [W1, Sb.val, List.map_cons, List.map_nil, d_vi, d_vb, d_vr, d_ci, d_cb, d_nr, d_nl, d_add, d_sub, d_mul, d_rem, d_quo, d_bit, d_mn2, d_mx2, d_w, d_nn, d_bn2, d_len, d_neg, d_cl, d_at1, d_at2, d_at3, d_at4, d_at5, d_at6, d_at7, d_set, d_app, d_cat, d_take, d_drop, d_rep, d_cons, d_lt_t, d_lt_f, d_le_t, d_le_f, d_eqi_t, d_eqi_f, d_eqb_t, d_eqb_f, d_nb_t, d_nb_f, nth0, nthS, d_api, d_apr, D_cons, D_nl, D_nr, D_vr, D_set, mkL_l, mkR_r, mkI_i, d_shr2, d_shr3, d_shr16, d_shr40, d_shl2, d_shl3, d_shl16, d_shl40, d_apb, mkB_b, Φ100, Φ101, Φ102, Φ103, Φ104, Φ105, Φ106, Φ107, Φ108, Φ200, Φ201, Φ202, Φ203, Φ204, Φ205, Φ206, Φ207, Φ208, Φ209, Φ0, Φ1, Φ10, Φ300, Φ301, Φ302, Φ303, Φ304, Φ305, Φ306, Φ307, Φ308, Φ309, Φ310, Φ311, Φ312, Φ313, Φ314, Φ315, Φ316, Φ317, Φ318, Φ319, Φ20, Φ11, Φ30, Φ31, Φ32, Φ400, Φ401, Φ402, Φ403, Φ404, Φ405, Φ406, Φ407, kst, b2i_dec, eT, eS, d_not_b, d_eqi_b]
            · exact next 0 val (1 + 1) _ false ⟨2, !decide (cl r1 slot = old), val, 0⟩ _ _ (by rw [setLen]; exact c2) (by rw [List.length_append, List.length_singleton]; omega) (.inl ⟨rfl, rfl, by omega, by decide, by rw [beqI, show (1 : Int) + 1 = 2 from rfl]⟩) ej
            · exact dec _ rfl
        · have eT : takeT T S who slot old r1 ⟨2, false, val, 0⟩ = ⟨T * S + slot, 0, cl r1 (T * S + slot), 1⟩ := rfl
          have eS : takeStep T S slot old r1 ⟨2, false, val, 0⟩ = ⟨3, false, cl r1 (T * S + slot), 0⟩ := rfl
          repeat' (first
            | (refine TOK.br' (fun h => ?_) (fun h => ?_) <;> (try simp (disch := omega) only [W1, d_vi, d_vb, d_vr, d_ci, d_cb, d_nr, d_nl, d_add, d_sub, d_mul, d_rem, d_quo, d_bit, d_mn2, d_mx2, d_w, d_nn, d_bn2, d_len, d_neg, d_cl, d_at1, d_at2, d_at3, d_at4, d_at5, d_at6, d_at7, d_set, d_app, d_cat, d_take, d_drop, d_rep, d_cons, d_lt_t, d_lt_f, d_le_t, d_le_f, d_eqi_t, d_eqi_f, d_eqb_t, d_eqb_f, d_nb_t, d_nb_f, nth0, nthS, d_api, d_apr, D_cons, D_nl, D_nr, D_vr, D_set, mkL_l, mkR_r, mkI_i, d_shr2, d_shr3, d_shr16, d_shr40, d_shl2, d_shl3, d_shl16, d_shl40, d_apb, mkB_b, Φ100, Φ101, Φ102, Φ103, Φ104, Φ105, Φ106, Φ107, Φ108, Φ200, Φ201, Φ202, Φ203, Φ204, Φ205, Φ206, Φ207, Φ208, Φ209, Φ0, Φ1, Φ10, Φ300, Φ301, Φ302, Φ303, Φ304, Φ305, Φ306, Φ307, Φ308, Φ309, Φ310, Φ311, Φ312, Φ313, Φ314, Φ315, Φ316, Φ317, Φ318, Φ319, Φ20, Φ11, Φ30, Φ31, Φ32, Φ400, Φ401, Φ402, Φ403, Φ404, Φ405, Φ406, Φ407, kst, b2i_dec, eT, eS, cl_self] at h) <;> (try (exfalso; omega)) <;> (try (exact absurd trivial h)) <;> (try (exact absurd rfl h)) <;> (try (exact absurd h (by decide))))
            | (with_reducible refine TOK.leaf' ?_))
          all_goals
            refine And.intro (?_ : Inv 0 _) (?_ : lt2 μ (0, _) _) <;> simp only [W1, Sb.val, List.map_cons, List.map_nil, d_vi, d_vb, d_vr, d_ci, d_cb, d_nr, d_nl, d_add, d_sub, d_mul, d_rem, d_quo, d_bit, d_mn2, d_mx2, d_w, d_nn, d_bn2, d_len, d_neg, d_cl, d_at1, d_at2, d_at3, d_at4, d_at5, d_at6, d_at7, d_set, d_app, d_cat, d_take, d_drop, d_rep, d_cons, d_lt_t, d_lt_f, d_le_t, d_le_f, d_eqi_t, d_eqi_f, d_eqb_t, d_eqb_f, d_nb_t, d_nb_f, nth0, nthS, d_api, d_apr, D_cons, D_nl, D_nr, D_vr, D_set, mkL_l, mkR_r, mkI_i, d_shr2, d_shr3, d_shr16, d_shr40, d_shl2, d_shl3, d_shl16, d_shl40, d_apb, mkB_b, Φ100, Φ101, Φ102, Φ103, Φ104, Φ105, Φ106, Φ107, Φ108, Φ200, Φ201, Φ202, Φ203, Φ204, Φ205, Φ206, Φ207, Φ208, Φ209, Φ0, Φ1, Φ10, Φ300, Φ301, Φ302, Φ303, Φ304, Φ305, Φ306, Φ307, Φ308, Φ309, Φ310, Φ311, Φ312, Φ313, Φ314, Φ315, Φ316, Φ317, Φ318, Φ319, Φ20, Φ11, Φ30, Φ31, Φ32, Φ400, Φ401, Φ402, Φ403, Φ404, Φ405, Φ406, Φ407, kst, b2i_dec, eT, eS]
            · exact next 0 (cl r1 (T * S + slot)) (2 + 1) false false ⟨3, false, cl r1 (T * S + slot), 0⟩ _ _ (by rw [setLen]; exact c2) (by rw [List.length_append, List.length_singleton]; omega) (.inl ⟨rfl, rfl, by omega, by decide, rfl⟩) ej
            · exact dec _ rfl
        · have hR2 : RightW 2 en ge lo hi := by unfold RightW at c3 ⊢; omega
          have eW : takenW old = pk 2 en ge lo hi := by
            have u1 : wE old = en := by rw [c4]; exact up_e c3
            have u2 : wG old = ge := by rw [c4]; exact up_g c3
            have u3 : wL old = lo := by rw [c4]; exact up_lo c3
            have u4 : wH old = hi := by rw [c4]; exact up_hi c3
            unfold takenW
            rw [u1, u2, u3, u4]
            exact packW_b hR2
          have eP : Go.bits .or .u64 (Go.bits .or .u64 (Go.bits .or .u64 (Go.bits .or .u64 2 (IntKind.u64.wrap (en * 4))) (IntKind.u64.wrap (ge * 8))) (IntKind.u64.wrap (lo * 65536))) (IntKind.u64.wrap (hi * 1099511627776)) = pk 2 en ge lo hi := pack_sum hR2
          unfold RightW at c3
          by_cases hw : cl r1 slot = old
          · have eT : takeT T S who slot old r1 ⟨3, false, val, 0⟩ = ⟨slot, 2, pk 2 en ge lo hi, 1⟩ := by
              show (if cl r1 slot = old then (⟨slot, 2, takenW old, 1⟩ : Tch) else _) = _
              rw [if_pos hw, eW]
            have eS : takeStep T S slot old r1 ⟨3, false, val, 0⟩ = ⟨4, false, val, 0⟩ := by
              show (⟨4, !decide (cl r1 slot = old), val, 0⟩ : KSt) = _
              rw [hw]; simp
            repeat' (first
              | (refine TOK.br' (fun h => ?_) (fun h => ?_) <;> (try simp (disch := omega) only [W1, d_vi, d_vb, d_vr, d_ci, d_cb, d_nr, d_nl, d_add, d_sub, d_mul, d_rem, d_quo, d_bit, d_mn2, d_mx2, d_w, d_nn, d_bn2, d_len, d_neg, d_cl, d_at1, d_at2, d_at3, d_at4, d_at5, d_at6, d_at7, d_set, d_app, d_cat, d_take, d_drop, d_rep, d_cons, d_lt_t, d_lt_f, d_le_t, d_le_f, d_eqi_t, d_eqi_f, d_eqb_t, d_eqb_f, d_nb_t, d_nb_f, nth0, nthS, d_api, d_apr, D_cons, D_nl, D_nr, D_vr, D_set, mkL_l, mkR_r, mkI_i, d_shr2, d_shr3, d_shr16, d_shr40, d_shl2, d_shl3, d_shl16, d_shl40, d_apb, mkB_b, Φ100, Φ101, Φ102, Φ103, Φ104, Φ105, Φ106, Φ107, Φ108, Φ200, Φ201, Φ202, Φ203, Φ204, Φ205, Φ206, Φ207, Φ208, Φ209, Φ0, Φ1, Φ10, Φ300, Φ301, Φ302, Φ303, Φ304, Φ305, Φ306, Φ307, Φ308, Φ309, Φ310, Φ311, Φ312, Φ313, Φ314, Φ315, Φ316, Φ317, Φ318, Φ319, Φ20, Φ11, Φ30, Φ31, Φ32, Φ400, Φ401, Φ402, Φ403, Φ404, Φ405, Φ406, Φ407, kst, b2i_dec, eT, eS, cl_self, eP] at h) <;> (try (exfalso; omega)) <;> (try (exact absurd trivial h)) <;> (try (exact absurd rfl h)) <;> (try (exact absurd h (by decide))) <;> (try (exact absurd hw h)))
              | (with_reducible refine TOK.leaf' ?_))
            all_goals
              refine And.intro (?_ : Inv 0 _) (?_ : lt2 μ (0, _) _) <;> simp only [W1, Sb.val, List.map_cons, List.map_nil, d_vi, d_vb, d_vr, d_ci, d_cb, d_nr, d_nl, d_add, d_sub, d_mul, d_rem, d_quo, d_bit, d_mn2, d_mx2, d_w, d_nn, d_bn2, d_len, d_neg, d_cl, d_at1, d_at2, d_at3, d_at4, d_at5, d_at6, d_at7, d_set, d_app, d_cat, d_take, d_drop, d_rep, d_cons, d_lt_t, d_lt_f, d_le_t, d_le_f, d_eqi_t, d_eqi_f, d_eqb_t, d_eqb_f, d_nb_t, d_nb_f, nth0, nthS, d_api, d_apr, D_cons, D_nl, D_nr, D_vr, D_set, mkL_l, mkR_r, mkI_i, d_shr2, d_shr3, d_shr16, d_shr40, d_shl2, d_shl3, d_shl16, d_shl40, d_apb, mkB_b, Φ100, Φ101, Φ102, Φ103, Φ104, Φ105, Φ106, Φ107, Φ108, Φ200, Φ201, Φ202, Φ203, Φ204, Φ205, Φ206, Φ207, Φ208, Φ209, Φ0, Φ1, Φ10, Φ300, Φ301, Φ302, Φ303, Φ304, Φ305, Φ306, Φ307, Φ308, Φ309, Φ310, Φ311, Φ312, Φ313, Φ314, Φ315, Φ316, Φ317, Φ318, Φ319, Φ20, Φ11, Φ30, Φ31, Φ32, Φ400, Φ401, Φ402, Φ403, Φ404, Φ405, Φ406, Φ407, kst, b2i_dec, eT, eS, d_not_b, d_eqi_b]
              · rw [show (!(cl r1 slot == old)) = false by rw [hw]; simp]
                exact next 0 val (3 + 1) false false ⟨4, false, val, 0⟩ _ _ (by rw [setLen]; exact c2) (by rw [List.length_append, List.length_singleton]; omega) (.inl ⟨rfl, rfl, by omega, by decide, rfl⟩) ej
              · exact dec _ rfl
          · have eT : takeT T S who slot old r1 ⟨3, false, val, 0⟩ = ⟨slot, 2, cl r1 slot, 0⟩ := by
              show (if cl r1 slot = old then _ else (⟨slot, 2, cl r1 slot, 0⟩ : Tch)) = _
              rw [if_neg hw]
            have eS : takeStep T S slot old r1 ⟨3, false, val, 0⟩ = ⟨4, true, val, 0⟩ := by
              show (⟨4, !decide (cl r1 slot = old), val, 0⟩ : KSt) = _
              rw [decide_eq_false hw]; rfl
            repeat' (first
              | (refine TOK.br' (fun h => ?_) (fun h => ?_) <;> (try simp (disch := omega) only [W1, d_vi, d_vb, d_vr, d_ci, d_cb, d_nr, d_nl, d_add, d_sub, d_mul, d_rem, d_quo, d_bit, d_mn2, d_mx2, d_w, d_nn, d_bn2, d_len, d_neg, d_cl, d_at1, d_at2, d_at3, d_at4, d_at5, d_at6, d_at7, d_set, d_app, d_cat, d_take, d_drop, d_rep, d_cons, d_lt_t, d_lt_f, d_le_t, d_le_f, d_eqi_t, d_eqi_f, d_eqb_t, d_eqb_f, d_nb_t, d_nb_f, nth0, nthS, d_api, d_apr, D_cons, D_nl, D_nr, D_vr, D_set, mkL_l, mkR_r, mkI_i, d_shr2, d_shr3, d_shr16, d_shr40, d_shl2, d_shl3, d_shl16, d_shl40, d_apb, mkB_b, Φ100, Φ101, Φ102, Φ103, Φ104, Φ105, Φ106, Φ107, Φ108, Φ200, Φ201, Φ202, Φ203, Φ204, Φ205, Φ206, Φ207, Φ208, Φ209, Φ0, Φ1, Φ10, Φ300, Φ301, Φ302, Φ303, Φ304, Φ305, Φ306, Φ307, Φ308, Φ309, Φ310, Φ311, Φ312, Φ313, Φ314, Φ315, Φ316, Φ317, Φ318, Φ319, Φ20, Φ11, Φ30, Φ31, Φ32, Φ400, Φ401, Φ402, Φ403, Φ404, Φ405, Φ406, Φ407, kst, b2i_dec, eT, eS, cl_self, eP] at h) <;> (try (exfalso; omega)) <;> (try (exact absurd trivial h)) <;> (try (exact absurd rfl h)) <;> (try (exact absurd h (by decide))) <;> (try (exact absurd h hw)))
              | (with_reducible refine TOK.leaf' ?_))
            all_goals
              refine And.intro (?_ : Inv 0 _) (?_ : lt2 μ (0, _) _) <;> simp only [W1, Sb.val, List.map_cons, List.map_nil, d_vi, d_vb, d_vr, d_ci, d_cb, d_nr, d_nl, d_add, d_sub, d_mul, d_rem, d_quo, d_bit, d_mn2, d_mx2, d_w, d_nn, d_bn2, d_len, d_neg, d_cl, d_at1, d_at2, d_at3, d_at4, d_at5, d_at6, d_at7, d_set, d_app, d_cat, d_take, d_drop, d_rep, d_cons, d_lt_t, d_lt_f, d_le_t, d_le_f, d_eqi_t, d_eqi_f, d_eqb_t, d_eqb_f, d_nb_t, d_nb_f, nth0, nthS, d_api, d_apr, D_cons, D_nl, D_nr, D_vr, D_set, mkL_l, mkR_r, mkI_i, d_shr2, d_shr3, d_shr16, d_shr40, d_shl2, d_shl3, d_shl16, d_shl40, d_apb, mkB_b, Φ100, Φ101, Φ102, Φ103, Φ104, Φ105, Φ106, Φ107, Φ108, Φ200, Φ201, Φ202, Φ203, Φ204, Φ205, Φ206, Φ207, Φ208, Φ209, Φ0, Φ1, Φ10, Φ300, Φ301, Φ302, Φ303, Φ304, Φ305, Φ306, Φ307, Φ308, Φ309, Φ310, Φ311, Φ312, Φ313, Φ314, Φ315, Φ316, Φ317, Φ318, Φ319, Φ20, Φ11, Φ30, Φ31, Φ32, Φ400, Φ401, Φ402, Φ403, Φ404, Φ405, Φ406, Φ407, kst, b2i_dec, eT, eS, d_not_b, d_eqi_b]
              · rw [show (!(cl r1 slot == old)) = true by simp [hw]]
                exact next 0 val (3 + 1) true false ⟨4, true, val, 0⟩ _ _ (by rw [setLen]; exact c2) (by rw [List.length_append, List.length_singleton]; omega) (.inl ⟨rfl, rfl, by omega, by decide, rfl⟩) ej
              · exact dec _ rfl
        · have eT : takeT T S who slot old r1 ⟨4, false, val, 0⟩ = ⟨2 * (T * S) + who, 1, 0, 1⟩ := rfl
          have eS : takeStep T S slot old r1 ⟨4, false, val, 0⟩ = ⟨5, false, val, 1⟩ := rfl
          repeat' (first
            | (refine TOK.br' (fun h => ?_) (fun h => ?_) <;> (try simp (disch := omega) only [W1, d_vi, d_vb, d_vr, d_ci, d_cb, d_nr, d_nl, d_add, d_sub, d_mul, d_rem, d_quo, d_bit, d_mn2, d_mx2, d_w, d_nn, d_bn2, d_len, d_neg, d_cl, d_at1, d_at2, d_at3, d_at4, d_at5, d_at6, d_at7, d_set, d_app, d_cat, d_take, d_drop, d_rep, d_cons, d_lt_t, d_lt_f, d_le_t, d_le_f, d_eqi_t, d_eqi_f, d_eqb_t, d_eqb_f, d_nb_t, d_nb_f, nth0, nthS, d_api, d_apr, D_cons, D_nl, D_nr, D_vr, D_set, mkL_l, mkR_r, mkI_i, d_shr2, d_shr3, d_shr16, d_shr40, d_shl2, d_shl3, d_shl16, d_shl40, d_apb, mkB_b, Φ100, Φ101, Φ102, Φ103, Φ104, Φ105, Φ106, Φ107, Φ108, Φ200, Φ201, Φ202, Φ203, Φ204, Φ205, Φ206, Φ207, Φ208, Φ209, Φ0, Φ1, Φ10, Φ300, Φ301, Φ302, Φ303, Φ304, Φ305, Φ306, Φ307, Φ308, Φ309, Φ310, Φ311, Φ312, Φ313, Φ314, Φ315, Φ316, Φ317, Φ318, Φ319, Φ20, Φ11, Φ30, Φ31, Φ32, Φ400, Φ401, Φ402, Φ403, Φ404, Φ405, Φ406, Φ407, kst, b2i_dec, eT, eS, cl_self] at h) <;> (try (exfalso; omega)) <;> (try (exact absurd trivial h)) <;> (try (exact absurd rfl h)) <;> (try (exact absurd h (by decide))))
            | (with_reducible refine TOK.leaf' ?_))
          all_goals
            refine And.intro (?_ : Inv 0 _) (?_ : lt2 μ (0, _) _) <;> simp only [W1, Sb.val, List.map_cons, List.map_nil, d_vi, d_vb, d_vr, d_ci, d_cb, d_nr, d_nl, d_add, d_sub, d_mul, d_rem, d_quo, d_bit, d_mn2, d_mx2, d_w, d_nn, d_bn2, d_len, d_neg, d_cl, d_at1, d_at2, d_at3, d_at4, d_at5, d_at6, d_at7, d_set, d_app, d_cat, d_take, d_drop, d_rep, d_cons, d_lt_t, d_lt_f, d_le_t, d_le_f, d_eqi_t, d_eqi_f, d_eqb_t, d_eqb_f, d_nb_t, d_nb_f, nth0, nthS, d_api, d_apr, D_cons, D_nl, D_nr, D_vr, D_set, mkL_l, mkR_r, mkI_i, d_shr2, d_shr3, d_shr16, d_shr40, d_shl2, d_shl3, d_shl16, d_shl40, d_apb, mkB_b, Φ100, Φ101, Φ102, Φ103, Φ104, Φ105, Φ106, Φ107, Φ108, Φ200, Φ201, Φ202, Φ203, Φ204, Φ205, Φ206, Φ207, Φ208, Φ209, Φ0, Φ1, Φ10, Φ300, Φ301, Φ302, Φ303, Φ304, Φ305, Φ306, Φ307, Φ308, Φ309, Φ310, Φ311, Φ312, Φ313, Φ314, Φ315, Φ316, Φ317, Φ318, Φ319, Φ20, Φ11, Φ30, Φ31, Φ32, Φ400, Φ401, Φ402, Φ403, Φ404, Φ405, Φ406, Φ407, kst, b2i_dec, eT, eS]
            · exact next 1 val (4 + 1) false true ⟨5, false, val, 1⟩ _ _ (by rw [setLen]; exact c2) (by rw [List.length_append, List.length_singleton]; omega) (.inr ⟨rfl, rfl, by omega, by dsimp only; omega, by omega⟩) ej
            · exact dec _ rfl
    · subst h1
      obtain ⟨kn, kl, kv, kp⟩ := k
      dsimp only at h2 h4
      have hp : ¬ kp = 0 := by omega
      have eT : takeT T S who slot old r1 ⟨kn, kl, kv, kp⟩ = noT := if_neg hp
      have eS : takeStep T S slot old r1 ⟨kn, kl, kv, kp⟩ = ⟨kn, kl, kv, kp⟩ := if_neg hp
      repeat' (first
        | (refine TOK.br' (fun h => ?_) (fun h => ?_) <;> (try simp (disch := omega) only [W1, d_vi, d_vb, d_vr, d_ci, d_cb, d_nr, d_nl, d_add, d_sub, d_mul, d_rem, d_quo, d_bit, d_mn2, d_mx2, d_w, d_nn, d_bn2, d_len, d_neg, d_cl, d_at1, d_at2, d_at3, d_at4, d_at5, d_at6, d_at7, d_set, d_app, d_cat, d_take, d_drop, d_rep, d_cons, d_lt_t, d_lt_f, d_le_t, d_le_f, d_eqi_t, d_eqi_f, d_eqb_t, d_eqb_f, d_nb_t, d_nb_f, nth0, nthS, d_api, d_apr, D_cons, D_nl, D_nr, D_vr, D_set, mkL_l, mkR_r, mkI_i, d_shr2, d_shr3, d_shr16, d_shr40, d_shl2, d_shl3, d_shl16, d_shl40, d_apb, mkB_b, Φ100, Φ101, Φ102, Φ103, Φ104, Φ105, Φ106, Φ107, Φ108, Φ200, Φ201, Φ202, Φ203, Φ204, Φ205, Φ206, Φ207, Φ208, Φ209, Φ0, Φ1, Φ10, Φ300, Φ301, Φ302, Φ303, Φ304, Φ305, Φ306, Φ307, Φ308, Φ309, Φ310, Φ311, Φ312, Φ313, Φ314, Φ315, Φ316, Φ317, Φ318, Φ319, Φ20, Φ11, Φ30, Φ31, Φ32, Φ400, Φ401, Φ402, Φ403, Φ404, Φ405, Φ406, Φ407, kst, b2i_dec, eT, eS, noT] at h) <;> (try (exfalso; omega)) <;> (try (exact absurd trivial h)) <;> (try (exact absurd rfl h)) <;> (try (exact absurd h (by decide))))
        | (with_reducible refine TOK.leaf' ?_))
      all_goals
        refine And.intro (?_ : Inv 0 _) (?_ : lt2 μ (0, _) _) <;> simp only [W1, Sb.val, List.map_cons, List.map_nil, d_vi, d_vb, d_vr, d_ci, d_cb, d_nr, d_nl, d_add, d_sub, d_mul, d_rem, d_quo, d_bit, d_mn2, d_mx2, d_w, d_nn, d_bn2, d_len, d_neg, d_cl, d_at1, d_at2, d_at3, d_at4, d_at5, d_at6, d_at7, d_set, d_app, d_cat, d_take, d_drop, d_rep, d_cons, d_lt_t, d_lt_f, d_le_t, d_le_f, d_eqi_t, d_eqi_f, d_eqb_t, d_eqb_f, d_nb_t, d_nb_f, nth0, nthS, d_api, d_apr, D_cons, D_nl, D_nr, D_vr, D_set, mkL_l, mkR_r, mkI_i, d_shr2, d_shr3, d_shr16, d_shr40, d_shl2, d_shl3, d_shl16, d_shl40, d_apb, mkB_b, Φ100, Φ101, Φ102, Φ103, Φ104, Φ105, Φ106, Φ107, Φ108, Φ200, Φ201, Φ202, Φ203, Φ204, Φ205, Φ206, Φ207, Φ208, Φ209, Φ0, Φ1, Φ10, Φ300, Φ301, Φ302, Φ303, Φ304, Φ305, Φ306, Φ307, Φ308, Φ309, Φ310, Φ311, Φ312, Φ313, Φ314, Φ315, Φ316, Φ317, Φ318, Φ319, Φ20, Φ11, Φ30, Φ31, Φ32, Φ400, Φ401, Φ402, Φ403, Φ404, Φ405, Φ406, Φ407, kst, b2i_dec, eT, eS]
        · exact next ph val n lost true ⟨kn, kl, kv, kp⟩ r1 r2 c2 (by omega) (.inr ⟨rfl, h2, h3, h4, h5⟩) ej
        · exact dec _ rfl
theorem sS (a0 a1 a2 a3 w0 w1 w2 w3 w4 a5 : Int) (l : Row) : TOK (⟨[a0, a1, a2, a3, w0, w1, w2, w3, w4, a5], [], [l], [], Φ⟩ : Val) (fun _ g => LgOK (⟨[a0, a1, a2, a3, w0, w1, w2, w3, w4, a5], [], [l], [], Φ⟩ : Val) Inv g) trS := by
  unfold trS
  have hT : 0 ≤ a0 % 4 ∧ a0 % 4 < 4 := by omega
  have hS : 0 ≤ a1 % 4 ∧ a1 % 4 < 4 := by omega
  have e1 := prod4 (T := a0 % 4 + 1) (S := a1 % 4 + 1) (by omega) (by omega) (by omega) (by omega)
  have e3 := mod_in (a := a2 % 65536) (N := a0 % 4 + 1) (by omega)
  have e5 := mod_in (a := a3 % 65536) (N := (a0 % 4 + 1) * (a1 % 4 + 1)) (by omega)
  have hL : LB (a0 % 4 + 1) (a1 % 4 + 1) 0 0 (a2 % 65536 % (a0 % 4 + 1)) := by unfold LB; omega
  repeat' (first
    | (refine TOK.br' (fun h => ?_) (fun h => ?_) <;> (try simp (disch := omega) only [d_vi, d_vb, d_vr, d_ci, d_cb, d_nr, d_nl, d_add, d_sub, d_mul, d_rem, d_quo, d_bit, d_mn2, d_mx2, d_w, d_nn, d_bn2, d_len, d_neg, d_cl, d_at1, d_at2, d_at3, d_at4, d_at5, d_at6, d_at7, d_set, d_app, d_cat, d_take, d_drop, d_rep, d_cons, d_lt_t, d_lt_f, d_le_t, d_le_f, d_eqi_t, d_eqi_f, d_eqb_t, d_eqb_f, d_nb_t, d_nb_f, nth0, nthS, d_api, d_apr, D_cons, D_nl, D_nr, D_vr, D_set, mkL_l, mkR_r, mkI_i, d_shr2, d_shr3, d_shr16, d_shr40, d_shl2, d_shl3, d_shl16, d_shl40, d_apb, mkB_b, and3, and65535, tmod_pos] at h) <;> (try (exfalso; omega)))
    | (with_reducible refine TOK.leaf' ?_))
  all_goals first
    | exact rfl
    | (refine (show Inv 0 _ from ?_)
       have hR : RightW w0 w1 w2 w3 w4 := by unfold RightW; omega
       have eP : Go.bits .or .u64 (Go.bits .or .u64 (Go.bits .or .u64 (Go.bits .or .u64 w0 (IntKind.u64.wrap (w1 * 4))) (IntKind.u64.wrap (w2 * 8))) (IntKind.u64.wrap (w3 * 65536))) (IntKind.u64.wrap (w4 * 1099511627776)) = pk w0 w1 w2 w3 w4 := pack_sum hR
       simp (disch := omega) only [Sb.val, List.map_cons, List.map_nil, d_vi, d_vb, d_vr, d_ci, d_cb, d_nr, d_nl, d_add, d_sub, d_mul, d_rem, d_quo, d_bit, d_mn2, d_mx2, d_w, d_nn, d_bn2, d_len, d_neg, d_cl, d_at1, d_at2, d_at3, d_at4, d_at5, d_at6, d_at7, d_set, d_app, d_cat, d_take, d_drop, d_rep, d_cons, d_lt_t, d_lt_f, d_le_t, d_le_f, d_eqi_t, d_eqi_f, d_eqb_t, d_eqb_f, d_nb_t, d_nb_f, nth0, nthS, d_api, d_apr, D_cons, D_nl, D_nr, D_vr, D_set, mkL_l, mkR_r, mkI_i, d_shr2, d_shr3, d_shr16, d_shr40, d_shl2, d_shl3, d_shl16, d_shl40, d_apb, mkB_b, and3, and65535, tmod_pos, eP]
       exact .inl ⟨rfl, _, _, _, 0, 0, 0, 0, w0, w1, w2, w3, w4, _, _, false, false, ⟨0, false, 0, 0⟩, l, _, _, rfl, ⟨hL, by omega, by rw [setLen, setLen, List.length_replicate]; omega, hR, rfl, by omega⟩, .inl ⟨rfl, rfl, rfl, by decide, rfl⟩, by decide, Int.le_refl 2⟩)
theorem TakeSteps_walk (a0 a1 a2 a3 n0 n1 n2 n3 n4 a5 : Int) (A6 : Option Addr) (m6 c6 : Nat) (l6 : List (List Int)) (w : World) (wa0 : (Lit.int .i64 a0).wf = true) (wa1 : (Lit.int .i64 a1).wf = true) (wa2 : (Lit.int .i64 a2).wf = true) (wa3 : (Lit.int .i64 a3).wf = true) (wn0 : (Lit.int .i64 n0).wf = true) (wn1 : (Lit.int .i64 n1).wf = true) (wn2 : (Lit.int .i64 n2).wf = true) (wn3 : (Lit.int .i64 n3).wf = true) (wn4 : (Lit.int .i64 n4).wf = true) (wa5 : (Lit.int .u64 a5).wf = true) (hr6 : ArgRow w [.i .i64, .i .i64, .i .u64] A6 m6 c6 l6) :
    Calls Try.prog 8 #[.int .i64 a0, .int .i64 a1, .int .i64 a2, .int .i64 a3, .agg #[.int .i64 n0, .int .i64 n1, .int .i64 n2, .int .i64 n3, .int .i64 n4], .int .u64 a5, .slice A6 m6 c6] w fun e w' => e = .returned (.bool true) ∧ Below w.heap.size w w' :=
  law_calls (v := ⟨[a0, a1, a2, a3, n0, n1, n2, n3, n4, a5], [], [l6], [], Φ⟩) (l := [⟨A6, m6, c6, [.i .i64, .i .i64, .i .u64], l6⟩]) (args := args) (args' := [.int .i64 a0, .int .i64 a1, .int .i64 a2, .int .i64 a3, .agg #[.int .i64 n0, .int .i64 n1, .int .i64 n2, .int .i64 n3, .int .i64 n4], .int .u64 a5, .slice A6 m6 c6]) hI0 hfn hbod (by decide) rfl (by simpa using hr6)
    (.cons (.int _ _) (.cons (.int _ _) (.cons (.int _ _) (.cons (.int _ _) (.cons (VRel.ofL (.cons (.int _ _) (.cons (.int _ _) (.cons (.int _ _) (.cons (.int _ _) (.cons (.int _ _) (.nil _))))))) (.cons (.int _ _) (.cons (arg_slice (id := 0) (s := ⟨A6, m6, c6, [.i .i64, .i .i64, .i .u64], l6⟩) (l := [⟨A6, m6, c6, [.i .i64, .i .i64, .i .u64], l6⟩]) rfl rfl hr6) (.nil _))))))))
    (aw ⟨[a0, a1, a2, a3, n0, n1, n2, n3, n4, a5], [], [l6], [], Φ⟩ Inv μ rfl hΦ KV.nil k0 k1 (sS a0 a1 a2 a3 n0 n1 n2 n3 n4 a5 l6) s0 s1)
end Go.Proofs.Ytckbckijpdnlaaa.KTakeSteps
