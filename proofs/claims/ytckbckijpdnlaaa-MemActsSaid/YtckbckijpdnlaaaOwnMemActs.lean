/- The law MemActs of mem: whatever is done to cells: each answer, each event, and what the cells are: it answers true for all lists. No condition. -/
import Derived.Test.YtckbckijpdnlaaaOwnMemActsS
set_option linter.unusedVariables false
set_option linter.unusedSimpArgs false
set_option maxRecDepth 100000
set_option maxHeartbeats 16000000
namespace Go.Proofs.Ytckbckijpdnlaaa.KMemActs
open Go Go.Lib Go.Proofs.Ytckbckijpdnlaaa.Eng Go.Proofs.Ytckbckijpdnlaaa.Sy Go.RowKit

def W0 (n i : Int) (l c : Row) : Val := ⟨[n, i], [], [l, c, [], c], [], Φ⟩
def W1 (n i : Int) (l c g : Row) : Val := ⟨[n, i], [], [l, c, g, c, g], [], Φ⟩
def W2 (n d j : Int) (l c : Row) : Val := ⟨[n, d, j], [], [l, [], c, c], [], Φ⟩
def W3 (n d j : Int) (l c g : Row) : Val := ⟨[n, d, j], [], [l, g, c, c, g], [], Φ⟩
def Inv0 (v : Val) : Prop := ∃ n i l c, v = W0 n i l c ∧ (0 ≤ n ∧ n ≤ 15) ∧ (c.length : Int) = n ∧ 0 ≤ i ∧ i ≤ (l.length : Int) ∧ (l.length : Int) ≤ 60
def Inv1 (v : Val) : Prop := ∃ n i l c g, v = W1 n i l c g ∧ (0 ≤ n ∧ n ≤ 15) ∧ (c.length : Int) = n ∧ 0 ≤ i ∧ i ≤ (l.length : Int) ∧ (l.length : Int) ≤ 60 ∧ 1 ≤ (g.length : Int) ∧ (g.length : Int) ≤ i
def Inv2 (v : Val) : Prop := ∃ n d j l c, v = W2 n d j l c ∧ d = n ∧ (0 ≤ n ∧ n ≤ 15) ∧ (c.length : Int) = n ∧ 0 ≤ j ∧ j ≤ n
def Inv3 (v : Val) : Prop := ∃ n d j l c g, v = W3 n d j l c g ∧ d = n ∧ (0 ≤ n ∧ n ≤ 15) ∧ (c.length : Int) = n ∧ 0 ≤ j ∧ j ≤ n ∧ 1 ≤ (g.length : Int) ∧ (g.length : Int) ≤ 60
def Inv (k : Nat) (v : Val) : Prop := (k = 0 ∧ Inv0 v) ∨ (k = 1 ∧ Inv1 v) ∨ (k = 2 ∧ Inv2 v) ∨ (k = 3 ∧ Inv3 v)
theorem inv0 {v : Val} (h : Inv 0 v) : Inv0 v := by rcases h with ⟨_, h⟩ | ⟨h, _⟩ | ⟨h, _⟩ | ⟨h, _⟩ <;> first | exact h | cases h
theorem inv1 {v : Val} (h : Inv 1 v) : Inv1 v := by rcases h with ⟨h, _⟩ | ⟨_, h⟩ | ⟨h, _⟩ | ⟨h, _⟩ <;> first | exact h | cases h
theorem inv2 {v : Val} (h : Inv 2 v) : Inv2 v := by rcases h with ⟨h, _⟩ | ⟨h, _⟩ | ⟨_, h⟩ | ⟨h, _⟩ <;> first | exact h | cases h
theorem inv3 {v : Val} (h : Inv 3 v) : Inv3 v := by rcases h with ⟨h, _⟩ | ⟨h, _⟩ | ⟨h, _⟩ | ⟨_, h⟩ <;> first | exact h | cases h
def μ (q : Nat × Val) : Nat × Nat := match q.1 with
  | 0 => (3, (100 - nth 0 q.2.i 1).toNat)
  | 1 => (2, (100 - nth 0 q.2.i 1).toNat)
  | 2 => (1, (100 - nth 0 q.2.i 2).toNat)
  | _ => (0, (100 - nth 0 q.2.i 2).toNat)
theorem hΦ : ∀ k v, Inv k v → v.f = Φ := by
  rintro k v (⟨_, n, i, l, c, rfl, _⟩ | ⟨_, n, i, l, c, g, rfl, _⟩ | ⟨_, n, d, j, l, c, rfl, _⟩ | ⟨_, n, d, j, l, c, g, rfl, _⟩) <;> rfl
theorem k0 : ∀ v, Inv 0 v → KV v tm0.kn := by
  intro v hv
  obtain ⟨n, i, l, c, rfl, h1, h2, h3, h4, h5⟩ := inv0 hv
  unfold tm0 KV W0
  simp only [List.forall_mem_cons, d_vi, d_vb, d_vr, d_ci, d_cb, d_nr, d_nl, d_add, d_sub, d_mul, d_rem, d_quo, d_bit, d_mn, d_mx, d_w, d_nn, d_bn, d_len, d_neg, d_at0, d_at1, d_at2, d_at3, d_at4, d_at5, d_at6, d_at7, d_set, d_app, d_cat, d_take, d_drop, d_rep, d_cons, d_lt_t, d_lt_f, d_le_t, d_le_f, d_eqi_t, d_eqi_f, d_eqb_t, d_eqb_f, d_nb_t, d_nb_f, nth0, nthS, d_api, d_apr, D_cons, D_nl, D_nr, D_vr, D_set, mkL_l, mkR_r, mkI_i, d_apb, mkB_b]
  simp only [List.not_mem_nil, false_imp_iff, implies_true, and_true, List.length_nil]
  omega
theorem k1 : ∀ v, Inv 1 v → KV v tm1.kn := by
  intro v hv
  obtain ⟨n, i, l, c, g, rfl, h1, h2, h3, h4, h5, h6, h7⟩ := inv1 hv
  unfold tm1 KV W1
  simp only [List.forall_mem_cons, d_vi, d_vb, d_vr, d_ci, d_cb, d_nr, d_nl, d_add, d_sub, d_mul, d_rem, d_quo, d_bit, d_mn, d_mx, d_w, d_nn, d_bn, d_len, d_neg, d_at0, d_at1, d_at2, d_at3, d_at4, d_at5, d_at6, d_at7, d_set, d_app, d_cat, d_take, d_drop, d_rep, d_cons, d_lt_t, d_lt_f, d_le_t, d_le_f, d_eqi_t, d_eqi_f, d_eqb_t, d_eqb_f, d_nb_t, d_nb_f, nth0, nthS, d_api, d_apr, D_cons, D_nl, D_nr, D_vr, D_set, mkL_l, mkR_r, mkI_i, d_apb, mkB_b]
  simp only [List.not_mem_nil, false_imp_iff, implies_true, and_true]
  omega
theorem k2 : ∀ v, Inv 2 v → KV v tm2.kn := by
  intro v hv
  obtain ⟨n, d, j, l, c, rfl, h0, h1, h2, h3, h4⟩ := inv2 hv
  unfold tm2 KV W2
  simp only [List.forall_mem_cons, d_vi, d_vb, d_vr, d_ci, d_cb, d_nr, d_nl, d_add, d_sub, d_mul, d_rem, d_quo, d_bit, d_mn, d_mx, d_w, d_nn, d_bn, d_len, d_neg, d_at0, d_at1, d_at2, d_at3, d_at4, d_at5, d_at6, d_at7, d_set, d_app, d_cat, d_take, d_drop, d_rep, d_cons, d_lt_t, d_lt_f, d_le_t, d_le_f, d_eqi_t, d_eqi_f, d_eqb_t, d_eqb_f, d_nb_t, d_nb_f, nth0, nthS, d_api, d_apr, D_cons, D_nl, D_nr, D_vr, D_set, mkL_l, mkR_r, mkI_i, d_apb, mkB_b]
  simp only [List.not_mem_nil, false_imp_iff, implies_true, and_true, List.length_nil]
  omega
theorem k3 : ∀ v, Inv 3 v → KV v tm3.kn := by
  intro v hv
  obtain ⟨n, d, j, l, c, g, rfl, h0, h1, h2, h3, h4, h5, h6⟩ := inv3 hv
  unfold tm3 KV W3
  simp only [List.forall_mem_cons, d_vi, d_vb, d_vr, d_ci, d_cb, d_nr, d_nl, d_add, d_sub, d_mul, d_rem, d_quo, d_bit, d_mn, d_mx, d_w, d_nn, d_bn, d_len, d_neg, d_at0, d_at1, d_at2, d_at3, d_at4, d_at5, d_at6, d_at7, d_set, d_app, d_cat, d_take, d_drop, d_rep, d_cons, d_lt_t, d_lt_f, d_le_t, d_le_f, d_eqi_t, d_eqi_f, d_eqb_t, d_eqb_f, d_nb_t, d_nb_f, nth0, nthS, d_api, d_apr, D_cons, D_nl, D_nr, D_vr, D_set, mkL_l, mkR_r, mkI_i, d_apb, mkB_b]
  simp only [List.not_mem_nil, false_imp_iff, implies_true, and_true]
  omega
theorem s0 : ∀ v, Inv 0 v → TOK v (fun _ g => LgOK v (fun q u => Inv q u ∧ lt2 μ (q, u) (0, v)) g) tr0 := by
  intro v hv
  obtain ⟨n, i, l, c, rfl, h1, h2, h3, h4, h5⟩ := inv0 hv
  have hb := and_in (k := .i64) (nth 0 (l.getD i.toNat []) 1) (m := 3) (by decide) (by decide)
  have out0 : i < (l.length : Int) → Inv 0 (W0 n (i + 1) l c) := fun z => .inl ⟨rfl, n, i + 1, l, c, rfl, h1, h2, by omega, by omega, h5⟩
  have out1 : i < (l.length : Int) → ∀ (c' : Row) (e : List Int), (c'.length : Int) = n → Inv 1 (W1 n (i + 1) l c' [e]) := fun z c' e y => .inr (.inl ⟨rfl, n, i + 1, l, c', [e], rfl, h1, y, by omega, by omega, h5, by simp, by simp; omega⟩)
  have dec0 : i < (l.length : Int) → ∀ x : Val, nth 0 x.i 1 = i + 1 → lt2 μ (0, x) (0, W0 n i l c) := fun z x e => .inr ⟨rfl, by show (100 - nth 0 x.i 1).toNat < (100 - i).toNat; omega⟩
  unfold tr0
  refine TOK.br' (fun hi => ?_) (fun hi => ?_) <;> simp (disch := omega) only [W0, d_vi, d_vb, d_vr, d_ci, d_cb, d_nr, d_nl, d_add, d_sub, d_mul, d_rem, d_quo, d_bit, d_mn2, d_mx2, d_w, d_nn, d_bn2, d_len, d_neg, d_cl, d_at1, d_at2, d_at3, d_at4, d_at5, d_at6, d_at7, d_set, d_app, d_cat, d_take, d_drop, d_rep, d_cons, d_lt_t, d_lt_f, d_le_t, d_le_f, d_eqi_t, d_eqi_f, d_eqb_t, d_eqb_f, d_nb_t, d_nb_f, nth0, nthS, d_api, d_apr, D_cons, D_nl, D_nr, D_vr, D_set, mkL_l, mkR_r, mkI_i, d_shr2, d_shr3, d_shr16, d_shr40, d_shl2, d_shl3, d_shl16, d_shl40, d_apb, mkB_b] at hi
  · repeat' (first
      | (refine TOK.br' (fun h => ?_) (fun h => ?_) <;> (try simp (disch := omega) only [W0, d_vi, d_vb, d_vr, d_ci, d_cb, d_nr, d_nl, d_add, d_sub, d_mul, d_rem, d_quo, d_bit, d_mn2, d_mx2, d_w, d_nn, d_bn2, d_len, d_neg, d_cl, d_at1, d_at2, d_at3, d_at4, d_at5, d_at6, d_at7, d_set, d_app, d_cat, d_take, d_drop, d_rep, d_cons, d_lt_t, d_lt_f, d_le_t, d_le_f, d_eqi_t, d_eqi_f, d_eqb_t, d_eqb_f, d_nb_t, d_nb_f, nth0, nthS, d_api, d_apr, D_cons, D_nl, D_nr, D_vr, D_set, mkL_l, mkR_r, mkI_i, d_shr2, d_shr3, d_shr16, d_shr40, d_shl2, d_shl3, d_shl16, d_shl40, d_apb, mkB_b, List.length_nil] at h) <;> (try (exfalso; omega)) <;> (try (exact absurd trivial h)) <;> (try (exact absurd rfl h)))
      | (with_reducible refine TOK.leaf' ?_))
    all_goals first
      | (refine And.intro (?_ : Inv 0 _) (?_ : lt2 μ (0, _) _) <;> simp (disch := omega) only [W0, Sb.val, List.map_cons, List.map_nil, d_vi, d_vb, d_vr, d_ci, d_cb, d_nr, d_nl, d_add, d_sub, d_mul, d_rem, d_quo, d_bit, d_mn2, d_mx2, d_w, d_nn, d_bn2, d_len, d_neg, d_cl, d_at1, d_at2, d_at3, d_at4, d_at5, d_at6, d_at7, d_set, d_app, d_cat, d_take, d_drop, d_rep, d_cons, d_lt_t, d_lt_f, d_le_t, d_le_f, d_eqi_t, d_eqi_f, d_eqb_t, d_eqb_f, d_nb_t, d_nb_f, nth0, nthS, d_api, d_apr, D_cons, D_nl, D_nr, D_vr, D_set, mkL_l, mkR_r, mkI_i, d_shr2, d_shr3, d_shr16, d_shr40, d_shl2, d_shl3, d_shl16, d_shl40, d_apb, mkB_b]
         · exact out0 hi
         · exact dec0 hi _ rfl)
      | (refine And.intro (?_ : Inv 1 _) (?_ : lt2 μ (1, _) _)
         · simp (disch := omega) only [W0, Sb.val, List.map_cons, List.map_nil, d_vi, d_vb, d_vr, d_ci, d_cb, d_nr, d_nl, d_add, d_sub, d_mul, d_rem, d_quo, d_bit, d_mn2, d_mx2, d_w, d_nn, d_bn2, d_len, d_neg, d_cl, d_at1, d_at2, d_at3, d_at4, d_at5, d_at6, d_at7, d_set, d_app, d_cat, d_take, d_drop, d_rep, d_cons, d_lt_t, d_lt_f, d_le_t, d_le_f, d_eqi_t, d_eqi_f, d_eqb_t, d_eqb_f, d_nb_t, d_nb_f, nth0, nthS, d_api, d_apr, D_cons, D_nl, D_nr, D_vr, D_set, mkL_l, mkR_r, mkI_i, d_shr2, d_shr3, d_shr16, d_shr40, d_shl2, d_shl3, d_shl16, d_shl40, d_apb, mkB_b, List.nil_append]
           first
             | exact out1 hi _ _ (by rw [setLen]; exact h2)
             | (have e3 : Go.bits .and .i64 (nth 0 (l.getD i.toNat []) 1) 3 = 3 := by omega
                rw [e3]
                exact out1 hi _ _ (by rw [setLen]; exact h2))
         · exact .inl (by show 2 < 3; decide))
  · refine TOK.leaf' ?_
    refine And.intro (?_ : Inv 2 _) (?_ : lt2 μ (2, _) _)
    · simp (disch := omega) only [W0, Sb.val, List.map_cons, List.map_nil, d_vi, d_vb, d_vr, d_ci, d_cb, d_nr, d_nl, d_add, d_sub, d_mul, d_rem, d_quo, d_bit, d_mn2, d_mx2, d_w, d_nn, d_bn2, d_len, d_neg, d_cl, d_at1, d_at2, d_at3, d_at4, d_at5, d_at6, d_at7, d_set, d_app, d_cat, d_take, d_drop, d_rep, d_cons, d_lt_t, d_lt_f, d_le_t, d_le_f, d_eqi_t, d_eqi_f, d_eqb_t, d_eqb_f, d_nb_t, d_nb_f, nth0, nthS, d_api, d_apr, D_cons, D_nl, D_nr, D_vr, D_set, mkL_l, mkR_r, mkI_i, d_shr2, d_shr3, d_shr16, d_shr40, d_shl2, d_shl3, d_shl16, d_shl40, d_apb, mkB_b]
      exact .inr (.inr (.inl ⟨rfl, n, (c.length : Int), 0, l, c, rfl, h2, h1, h2, by omega, by omega⟩))
    · exact .inl (by show 1 < 3; decide)
theorem s1 : ∀ v, Inv 1 v → TOK v (fun _ g => LgOK v (fun q u => Inv q u ∧ lt2 μ (q, u) (1, v)) g) tr1 := by
  intro v hv
  obtain ⟨n, i, l, c, g, rfl, h1, h2, h3, h4, h5, h6, h7⟩ := inv1 hv
  have hb := and_in (k := .i64) (nth 0 (l.getD i.toNat []) 1) (m := 3) (by decide) (by decide)
  have out0 : i < (l.length : Int) → Inv 1 (W1 n (i + 1) l c g) := fun z => .inr (.inl ⟨rfl, n, i + 1, l, c, g, rfl, h1, h2, by omega, by omega, h5, h6, by omega⟩)
  have out1 : i < (l.length : Int) → ∀ (c' : Row) (e : List Int), (c'.length : Int) = n → Inv 1 (W1 n (i + 1) l c' (g ++ [e])) := fun z c' e y => .inr (.inl ⟨rfl, n, i + 1, l, c', g ++ [e], rfl, h1, y, by omega, by omega, h5, by rw [List.length_append]; omega, by rw [List.length_append, List.length_singleton]; omega⟩)
  have dec0 : i < (l.length : Int) → ∀ x : Val, nth 0 x.i 1 = i + 1 → lt2 μ (1, x) (1, W1 n i l c g) := fun z x e => .inr ⟨rfl, by show (100 - nth 0 x.i 1).toNat < (100 - i).toNat; omega⟩
  unfold tr1
  refine TOK.br' (fun hi => ?_) (fun hi => ?_) <;> simp (disch := omega) only [W1, d_vi, d_vb, d_vr, d_ci, d_cb, d_nr, d_nl, d_add, d_sub, d_mul, d_rem, d_quo, d_bit, d_mn2, d_mx2, d_w, d_nn, d_bn2, d_len, d_neg, d_cl, d_at1, d_at2, d_at3, d_at4, d_at5, d_at6, d_at7, d_set, d_app, d_cat, d_take, d_drop, d_rep, d_cons, d_lt_t, d_lt_f, d_le_t, d_le_f, d_eqi_t, d_eqi_f, d_eqb_t, d_eqb_f, d_nb_t, d_nb_f, nth0, nthS, d_api, d_apr, D_cons, D_nl, D_nr, D_vr, D_set, mkL_l, mkR_r, mkI_i, d_shr2, d_shr3, d_shr16, d_shr40, d_shl2, d_shl3, d_shl16, d_shl40, d_apb, mkB_b] at hi
  · repeat' (first
      | (refine TOK.br' (fun h => ?_) (fun h => ?_) <;> (try simp (disch := omega) only [W1, d_vi, d_vb, d_vr, d_ci, d_cb, d_nr, d_nl, d_add, d_sub, d_mul, d_rem, d_quo, d_bit, d_mn2, d_mx2, d_w, d_nn, d_bn2, d_len, d_neg, d_cl, d_at1, d_at2, d_at3, d_at4, d_at5, d_at6, d_at7, d_set, d_app, d_cat, d_take, d_drop, d_rep, d_cons, d_lt_t, d_lt_f, d_le_t, d_le_f, d_eqi_t, d_eqi_f, d_eqb_t, d_eqb_f, d_nb_t, d_nb_f, nth0, nthS, d_api, d_apr, D_cons, D_nl, D_nr, D_vr, D_set, mkL_l, mkR_r, mkI_i, d_shr2, d_shr3, d_shr16, d_shr40, d_shl2, d_shl3, d_shl16, d_shl40, d_apb, mkB_b] at h) <;> (try (exfalso; omega)) <;> (try (exact absurd trivial h)) <;> (try (exact absurd rfl h)))
      | (with_reducible refine TOK.leaf' ?_))
    all_goals
      refine And.intro (?_ : Inv 1 _) (?_ : lt2 μ (1, _) _) <;> simp (disch := omega) only [W1, Sb.val, List.map_cons, List.map_nil, d_vi, d_vb, d_vr, d_ci, d_cb, d_nr, d_nl, d_add, d_sub, d_mul, d_rem, d_quo, d_bit, d_mn2, d_mx2, d_w, d_nn, d_bn2, d_len, d_neg, d_cl, d_at1, d_at2, d_at3, d_at4, d_at5, d_at6, d_at7, d_set, d_app, d_cat, d_take, d_drop, d_rep, d_cons, d_lt_t, d_lt_f, d_le_t, d_le_f, d_eqi_t, d_eqi_f, d_eqb_t, d_eqb_f, d_nb_t, d_nb_f, nth0, nthS, d_api, d_apr, D_cons, D_nl, D_nr, D_vr, D_set, mkL_l, mkR_r, mkI_i, d_shr2, d_shr3, d_shr16, d_shr40, d_shl2, d_shl3, d_shl16, d_shl40, d_apb, mkB_b]
      · first
          | exact out0 hi
          | exact out1 hi _ _ (by rw [setLen]; exact h2)
          | (have e3 : Go.bits .and .i64 (nth 0 (l.getD i.toNat []) 1) 3 = 3 := by omega
             rw [e3]
             exact out1 hi _ _ (by rw [setLen]; exact h2))
      · exact dec0 hi _ rfl
  · refine TOK.leaf' ?_
    refine And.intro (?_ : Inv 3 _) (?_ : lt2 μ (3, _) _)
    · simp (disch := omega) only [W1, Sb.val, List.map_cons, List.map_nil, d_vi, d_vb, d_vr, d_ci, d_cb, d_nr, d_nl, d_add, d_sub, d_mul, d_rem, d_quo, d_bit, d_mn2, d_mx2, d_w, d_nn, d_bn2, d_len, d_neg, d_cl, d_at1, d_at2, d_at3, d_at4, d_at5, d_at6, d_at7, d_set, d_app, d_cat, d_take, d_drop, d_rep, d_cons, d_lt_t, d_lt_f, d_le_t, d_le_f, d_eqi_t, d_eqi_f, d_eqb_t, d_eqb_f, d_nb_t, d_nb_f, nth0, nthS, d_api, d_apr, D_cons, D_nl, D_nr, D_vr, D_set, mkL_l, mkR_r, mkI_i, d_shr2, d_shr3, d_shr16, d_shr40, d_shl2, d_shl3, d_shl16, d_shl40, d_apb, mkB_b]
      exact .inr (.inr (.inr ⟨rfl, n, (c.length : Int), 0, l, c, g, rfl, h2, h1, h2, by omega, by omega, h6, by omega⟩))
    · exact .inl (by show 0 < 2; decide)
theorem s2 : ∀ v, Inv 2 v → TOK v (fun _ g => LgOK v (fun q u => Inv q u ∧ lt2 μ (q, u) (2, v)) g) tr2 := by
  intro v hv
  obtain ⟨n, d, j, l, c, rfl, h0, h1, h2, h3, h4⟩ := inv2 hv
  unfold tr2
  repeat' (first
    | (refine TOK.br' (fun h => ?_) (fun h => ?_) <;> (try simp (disch := omega) only [W2, d_vi, d_vb, d_vr, d_ci, d_cb, d_nr, d_nl, d_add, d_sub, d_mul, d_rem, d_quo, d_bit, d_mn2, d_mx2, d_w, d_nn, d_bn2, d_len, d_neg, d_cl, d_at1, d_at2, d_at3, d_at4, d_at5, d_at6, d_at7, d_set, d_app, d_cat, d_take, d_drop, d_rep, d_cons, d_lt_t, d_lt_f, d_le_t, d_le_f, d_eqi_t, d_eqi_f, d_eqb_t, d_eqb_f, d_nb_t, d_nb_f, nth0, nthS, d_api, d_apr, D_cons, D_nl, D_nr, D_vr, D_set, mkL_l, mkR_r, mkI_i, d_shr2, d_shr3, d_shr16, d_shr40, d_shl2, d_shl3, d_shl16, d_shl40, d_apb, mkB_b, Φ100, Φ101, Φ102, Φ103, Φ104, Φ105, Φ106, Φ107, Φ108, Φ200, Φ201, Φ202, Φ203, Φ204, Φ205, Φ206, Φ207, Φ208, Φ209, Φ0, Φ1, Φ10, Φ300, Φ301, Φ302, Φ303, Φ304, Φ305, Φ306, Φ307, Φ308, Φ309, Φ310, Φ311, Φ312, Φ313, Φ314, Φ315, Φ316, Φ317, Φ318, Φ319, Φ20, Φ11, sameB_self, List.length_nil, reduceCtorEq] at h) <;> (try (exfalso; omega)) <;> (try (exact absurd trivial h)) <;> (try (exact absurd rfl h)))
    | (with_reducible refine TOK.leaf' ?_))
  all_goals first
    | (refine And.intro (?_ : Inv 2 _) (?_ : lt2 μ (2, _) _) <;> simp (disch := omega) only [W2, Sb.val, List.map_cons, List.map_nil, d_vi, d_vb, d_vr, d_ci, d_cb, d_nr, d_nl, d_add, d_sub, d_mul, d_rem, d_quo, d_bit, d_mn2, d_mx2, d_w, d_nn, d_bn2, d_len, d_neg, d_cl, d_at1, d_at2, d_at3, d_at4, d_at5, d_at6, d_at7, d_set, d_app, d_cat, d_take, d_drop, d_rep, d_cons, d_lt_t, d_lt_f, d_le_t, d_le_f, d_eqi_t, d_eqi_f, d_eqb_t, d_eqb_f, d_nb_t, d_nb_f, nth0, nthS, d_api, d_apr, D_cons, D_nl, D_nr, D_vr, D_set, mkL_l, mkR_r, mkI_i, d_shr2, d_shr3, d_shr16, d_shr40, d_shl2, d_shl3, d_shl16, d_shl40, d_apb, mkB_b]
       · exact .inr (.inr (.inl ⟨rfl, n, d, j + 1, l, c, rfl, h0, h1, h2, by omega, by omega⟩))
       · exact .inr ⟨rfl, by show (100 - (j + 1)).toNat < (100 - j).toNat; omega⟩)
    | (show (den _ _).b = true
       rw [d_eqi_t]
       simp only [W2, d_vi, d_vb, d_vr, d_ci, d_cb, d_nr, d_nl, d_add, d_sub, d_mul, d_rem, d_quo, d_bit, d_mn2, d_mx2, d_w, d_nn, d_bn2, d_len, d_neg, d_cl, d_at1, d_at2, d_at3, d_at4, d_at5, d_at6, d_at7, d_set, d_app, d_cat, d_take, d_drop, d_rep, d_cons, d_lt_t, d_lt_f, d_le_t, d_le_f, d_eqi_t, d_eqi_f, d_eqb_t, d_eqb_f, d_nb_t, d_nb_f, nth0, nthS, d_api, d_apr, D_cons, D_nl, D_nr, D_vr, D_set, mkL_l, mkR_r, mkI_i, d_shr2, d_shr3, d_shr16, d_shr40, d_shl2, d_shl3, d_shl16, d_shl40, d_apb, mkB_b]
       omega)
theorem s3 : ∀ v, Inv 3 v → TOK v (fun _ g => LgOK v (fun q u => Inv q u ∧ lt2 μ (q, u) (3, v)) g) tr3 := by
  intro v hv
  obtain ⟨n, d, j, l, c, g, rfl, h0, h1, h2, h3, h4, h5, h6⟩ := inv3 hv
  unfold tr3
  repeat' (first
    | (refine TOK.br' (fun h => ?_) (fun h => ?_) <;> (try simp (disch := omega) only [W3, d_vi, d_vb, d_vr, d_ci, d_cb, d_nr, d_nl, d_add, d_sub, d_mul, d_rem, d_quo, d_bit, d_mn2, d_mx2, d_w, d_nn, d_bn2, d_len, d_neg, d_cl, d_at1, d_at2, d_at3, d_at4, d_at5, d_at6, d_at7, d_set, d_app, d_cat, d_take, d_drop, d_rep, d_cons, d_lt_t, d_lt_f, d_le_t, d_le_f, d_eqi_t, d_eqi_f, d_eqb_t, d_eqb_f, d_nb_t, d_nb_f, nth0, nthS, d_api, d_apr, D_cons, D_nl, D_nr, D_vr, D_set, mkL_l, mkR_r, mkI_i, d_shr2, d_shr3, d_shr16, d_shr40, d_shl2, d_shl3, d_shl16, d_shl40, d_apb, mkB_b, Φ100, Φ101, Φ102, Φ103, Φ104, Φ105, Φ106, Φ107, Φ108, Φ200, Φ201, Φ202, Φ203, Φ204, Φ205, Φ206, Φ207, Φ208, Φ209, Φ0, Φ1, Φ10, Φ300, Φ301, Φ302, Φ303, Φ304, Φ305, Φ306, Φ307, Φ308, Φ309, Φ310, Φ311, Φ312, Φ313, Φ314, Φ315, Φ316, Φ317, Φ318, Φ319, Φ20, Φ11, sameB_self, List.length_nil, reduceCtorEq] at h) <;> (try (exfalso; omega)) <;> (try (exact absurd trivial h)) <;> (try (exact absurd rfl h)))
    | (with_reducible refine TOK.leaf' ?_))
  all_goals first
    | (refine And.intro (?_ : Inv 3 _) (?_ : lt2 μ (3, _) _) <;> simp (disch := omega) only [W3, Sb.val, List.map_cons, List.map_nil, d_vi, d_vb, d_vr, d_ci, d_cb, d_nr, d_nl, d_add, d_sub, d_mul, d_rem, d_quo, d_bit, d_mn2, d_mx2, d_w, d_nn, d_bn2, d_len, d_neg, d_cl, d_at1, d_at2, d_at3, d_at4, d_at5, d_at6, d_at7, d_set, d_app, d_cat, d_take, d_drop, d_rep, d_cons, d_lt_t, d_lt_f, d_le_t, d_le_f, d_eqi_t, d_eqi_f, d_eqb_t, d_eqb_f, d_nb_t, d_nb_f, nth0, nthS, d_api, d_apr, D_cons, D_nl, D_nr, D_vr, D_set, mkL_l, mkR_r, mkI_i, d_shr2, d_shr3, d_shr16, d_shr40, d_shl2, d_shl3, d_shl16, d_shl40, d_apb, mkB_b]
       · exact .inr (.inr (.inr ⟨rfl, n, d, j + 1, l, c, g, rfl, h0, h1, h2, by omega, by omega, h5, h6⟩))
       · exact .inr ⟨rfl, by show (100 - (j + 1)).toNat < (100 - j).toNat; omega⟩)
    | (show (den _ _).b = true
       rw [d_eqi_t]
       simp only [W3, d_vi, d_vb, d_vr, d_ci, d_cb, d_nr, d_nl, d_add, d_sub, d_mul, d_rem, d_quo, d_bit, d_mn2, d_mx2, d_w, d_nn, d_bn2, d_len, d_neg, d_cl, d_at1, d_at2, d_at3, d_at4, d_at5, d_at6, d_at7, d_set, d_app, d_cat, d_take, d_drop, d_rep, d_cons, d_lt_t, d_lt_f, d_le_t, d_le_f, d_eqi_t, d_eqi_f, d_eqb_t, d_eqb_f, d_nb_t, d_nb_f, nth0, nthS, d_api, d_apr, D_cons, D_nl, D_nr, D_vr, D_set, mkL_l, mkR_r, mkI_i, d_shr2, d_shr3, d_shr16, d_shr40, d_shl2, d_shl3, d_shl16, d_shl40, d_apb, mkB_b]
       omega)
theorem sS (a0 : Int) (l : Row) : TOK (⟨[a0], [], [l], [], Φ⟩ : Val) (fun _ g => LgOK (⟨[a0], [], [l], [], Φ⟩ : Val) Inv g) trS := by
  unfold trS
  have hb := and_in (k := .i64) a0 (m := 15) (by decide) (by decide)
  refine TOK.br' (fun h => ?_) (fun h => ?_) <;> simp only [d_vi, d_vb, d_vr, d_ci, d_cb, d_nr, d_nl, d_add, d_sub, d_mul, d_rem, d_quo, d_bit, d_mn2, d_mx2, d_w, d_nn, d_bn2, d_len, d_neg, d_cl, d_at1, d_at2, d_at3, d_at4, d_at5, d_at6, d_at7, d_set, d_app, d_cat, d_take, d_drop, d_rep, d_cons, d_lt_t, d_lt_f, d_le_t, d_le_f, d_eqi_t, d_eqi_f, d_eqb_t, d_eqb_f, d_nb_t, d_nb_f, nth0, nthS, d_api, d_apr, D_cons, D_nl, D_nr, D_vr, D_set, mkL_l, mkR_r, mkI_i, d_shr2, d_shr3, d_shr16, d_shr40, d_shl2, d_shl3, d_shl16, d_shl40, d_apb, mkB_b] at h <;> refine TOK.leaf' ?_
  · exact rfl
  · refine (show Inv 0 _ from ?_)
    simp only [Sb.val, List.map_cons, List.map_nil, d_vi, d_vb, d_vr, d_ci, d_cb, d_nr, d_nl, d_add, d_sub, d_mul, d_rem, d_quo, d_bit, d_mn2, d_mx2, d_w, d_nn, d_bn2, d_len, d_neg, d_cl, d_at1, d_at2, d_at3, d_at4, d_at5, d_at6, d_at7, d_set, d_app, d_cat, d_take, d_drop, d_rep, d_cons, d_lt_t, d_lt_f, d_le_t, d_le_f, d_eqi_t, d_eqi_f, d_eqb_t, d_eqb_f, d_nb_t, d_nb_f, nth0, nthS, d_api, d_apr, D_cons, D_nl, D_nr, D_vr, D_set, mkL_l, mkR_r, mkI_i, d_shr2, d_shr3, d_shr16, d_shr40, d_shl2, d_shl3, d_shl16, d_shl40, d_apb, mkB_b]
    exact .inl ⟨rfl, _, 0, l, _, rfl, hb, by rw [List.length_replicate]; omega, by omega, by omega, by omega⟩
theorem MemActs_walk (a0 : Int) (A1 : Option Addr) (n1 c1 : Nat) (l1 : List (List Int)) (w : World) (wa0 : (Lit.int .i64 a0).wf = true) (hr1 : ArgRow w [.i .i64, .i .i64, .i .i64, .i .u64, .i .u64] A1 n1 c1 l1) :
    Calls Try.prog 3 #[.int .i64 a0, .slice A1 n1 c1] w fun e w' => e = .returned (.bool true) ∧ Below w.heap.size w w' :=
  law_calls (v := ⟨[a0], [], [l1], [], Φ⟩) (l := [⟨A1, n1, c1, [.i .i64, .i .i64, .i .i64, .i .u64, .i .u64], l1⟩]) (args := args) (args' := [.int .i64 a0, .slice A1 n1 c1]) hI0 hfn hbod (by decide) rfl (by simpa using hr1)
    (.cons (.int _ _) (.cons (arg_slice (id := 0) (s := ⟨A1, n1, c1, [.i .i64, .i .i64, .i .i64, .i .u64, .i .u64], l1⟩) (l := [⟨A1, n1, c1, [.i .i64, .i .i64, .i .i64, .i .u64, .i .u64], l1⟩]) rfl rfl hr1) (.nil _)))
    (aw ⟨[a0], [], [l1], [], Φ⟩ Inv μ rfl hΦ KV.nil k0 k1 k2 k3 (sS a0 l1) s0 s1 s2 s3)
end Go.Proofs.Ytckbckijpdnlaaa.KMemActs
