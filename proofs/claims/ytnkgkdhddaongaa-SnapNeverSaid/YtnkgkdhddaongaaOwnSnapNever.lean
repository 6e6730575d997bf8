/- The law SnapNever of snap: as long as a word is turned ahead of each pass it isn't done, and two passes later at most it is: it answers true for all numbers. No condition. -/
import Derived.Test.YtnkgkdhddaongaaOwnSnapNeverS
import Derived.Test.YtnkgkdhddaongaaOwnS14
set_option linter.unusedVariables false
set_option linter.unusedSimpArgs false
set_option maxRecDepth 100000
set_option maxHeartbeats 8000000
namespace Go.Proofs.Ytnkgkdhddaongaa.KSnapNever
open Go Go.Lib Go.Proofs.Ytnkgkdhddaongaa.Eng Go.Proofs.Ytnkgkdhddaongaa.Sy Go.RowKit

/-- What holds everywhere. -/
def FB (P slot T S st N : Int) (r0 r2 : List (List Int)) : Prop :=
  0 ≤ P ∧ P ≤ 15 ∧ 1 ≤ T ∧ T ≤ 4 ∧ 1 ≤ S ∧ S ≤ 4 ∧ T * S = N ∧ 1 ≤ N ∧ N ≤ 16 ∧ 0 ≤ slot ∧ slot < N ∧ 0 ≤ st ∧ st < N ∧ (r0.length : Int) = 2 * N + 2 * T ∧ (r2.length : Int) = N
/-- What was read is what is there. -/
def Eqs (N : Int) (r0 r2 : List (List Int)) : Prop := ∀ j, 0 ≤ j → j < N → cl r2 j = cl r0 j
def Inv0 (v : Val) : Prop := ∃ (P slot p T S st N : Int) (b : Bool) (r0 r1 r2 : List (List Int)), v = ⟨[P, slot, p, T, S, st, 0, p], [b], [r0, r1, r2], []⟩ ∧ FB P slot T S st N r0 r2 ∧ (0 ≤ p ∧ p ≤ P ∧ (r1.length : Int) ≤ 17 * p) ∧ Eqs N r0 r2 ∧ cl r0 slot = p
def Inv1 (v : Val) : Prop := ∃ (P slot p i T S st k ps N q0 : Int) (b : Bool) (r0 r1 r2 : List (List Int)), v = ⟨[P, slot, p, i, T, S, st, k, ps], [b], [r0, r1, r2], []⟩ ∧ FB P slot T S st N r0 r2 ∧ (0 ≤ p ∧ p < P ∧ 0 ≤ i ∧ i ≤ N ∧ (r1.length : Int) ≤ 17 * p + 1 + i ∧ 0 ≤ q0 ∧ q0 < N ∧ (st + q0) % N = slot) ∧
  ((i < N → k = i ∧ ps = p) ∧ (i = N → k = 0 ∧ ps = p + 1)) ∧ (∀ q, 0 ≤ q → q < i → cl r2 ((st + q) % N) = cl r0 ((st + q) % N)) ∧ cl r0 slot = p + 1 ∧ (i ≤ q0 → cl r2 slot = p) ∧ (q0 < i → i < N → b = false)
def Inv2 (v : Val) : Prop := ∃ (P slot n T S st k ps N : Int) (b : Bool) (r0 r1 r2 : List (List Int)), v = ⟨[P, slot, n, T, S, st, k, ps], [b], [r0, r1, r2], []⟩ ∧ FB P slot T S st N r0 r2 ∧ (0 ≤ k ∧ k < N ∧ (r1.length : Int) ≤ 17 * P + n) ∧ Eqs N r0 r2 ∧ cl r0 slot = P ∧
  ((ps = P ∧ 1 ≤ P ∧ n = k ∧ (0 < k → b = true)) ∨ (P = 0 ∧ ps = 0 ∧ n = k ∧ (0 < k → b = false)) ∨ (P = 0 ∧ ps = 1 ∧ n = N + k ∧ (0 < k → b = true)))
def Inv3 (v : Val) : Prop := ∃ (P slot n T S st ps N : Int) (b : Bool) (r0 r1 r2 : List (List Int)), v = ⟨[P, slot, n, T, S, st, 0, ps], [b], [r0, r1, r2], []⟩ ∧ FB P slot T S st N r0 r2 ∧ (0 ≤ n ∧ n ≤ 2 * N ∧ 0 ≤ ps ∧ ps ≤ 17 ∧ (r1.length : Int) ≤ 17 * P + n) ∧ Eqs N r0 r2 ∧ cl r0 slot = P
def Inv (p : Nat) (v : Val) : Prop := (p = 0 ∧ Inv0 v) ∨ (p = 1 ∧ Inv1 v) ∨ (p = 2 ∧ Inv2 v) ∨ (p = 3 ∧ Inv3 v)
def mu (p : Nat) (l : List Int) : Int := match p with
  | 0 => 100 * (nth 0 l 0 - nth 0 l 2) + 60
  | 1 => 100 * (nth 0 l 0 - nth 0 l 2) + 17 - nth 0 l 3
  | 2 => 40 - nth 0 l 2
  | _ => 0
def μ (q : Nat × Val) : Nat × Nat := ((mu q.1 q.2.i).toNat, 0)
theorem lt_μ {p q : Nat} {u v : Val} (h : mu p u.i < mu q v.i) (h0 : 0 < mu q v.i) : lt2 μ (p, u) (q, v) := .inl (by simp only [μ]; omega)
theorem inv0 {v : Val} (h : Inv 0 v) : Inv0 v := by rcases h with ⟨_, h⟩ | ⟨h, _⟩ | ⟨h, _⟩ | ⟨h, _⟩ <;> first | exact h | (exact absurd h (by decide))
theorem inv1 {v : Val} (h : Inv 1 v) : Inv1 v := by rcases h with ⟨h, _⟩ | ⟨_, h⟩ | ⟨h, _⟩ | ⟨h, _⟩ <;> first | exact h | (exact absurd h (by decide))
theorem inv2 {v : Val} (h : Inv 2 v) : Inv2 v := by rcases h with ⟨h, _⟩ | ⟨h, _⟩ | ⟨_, h⟩ | ⟨h, _⟩ <;> first | exact h | (exact absurd h (by decide))
theorem inv3 {v : Val} (h : Inv 3 v) : Inv3 v := by rcases h with ⟨h, _⟩ | ⟨h, _⟩ | ⟨h, _⟩ | ⟨_, h⟩ <;> first | exact h | (exact absurd h (by decide))
theorem k0 : ∀ v, Inv 0 v → KV v tm0.kn := by
  intro v hv
  obtain ⟨P, slot, p, T, S, st, N, b, r0, r1, r2, rfl, hB, h1, hE, hc⟩ := inv0 hv
  unfold FB at hB
  unfold tm0
  repeat' (first | exact KV.nil | refine KV.cons ?_ ?_)
  all_goals (simp (disch := omega) only [d_cl, d_vi, d_vb, d_vr, d_ci, d_cb, d_nr, d_nl, d_add, d_sub, d_mul, d_rem, d_quo, d_bit, d_mn, d_mx, d_w, d_nn, d_bn, d_len, d_neg, d_at0, d_at1, d_at2, d_at3, d_at4, d_at5, d_at6, d_at7, d_set, d_app, d_cat, d_take, d_drop, d_rep, d_cons, d_lt_t, d_lt_f, d_le_t, d_le_f, d_eqi_t, d_eqi_f, d_eqb_t, d_eqb_f, d_nb_t, d_nb_f, nth0, nthS, w64]; omega)
theorem k1 : ∀ v, Inv 1 v → KV v tm1.kn := by
  intro v hv
  obtain ⟨P, slot, p, i, T, S, st, k, ps, N, q0, b, r0, r1, r2, rfl, hB, h1, h2, hE, hc, hs, hb⟩ := inv1 hv
  unfold FB at hB
  have hN : T * S = N := hB.2.2.2.2.2.2.1
  have hx := mod_in (a := st + k) (N := N) (by omega)
  have hk : 0 ≤ k ∧ k ≤ 15 ∧ 0 ≤ ps ∧ ps ≤ 17 := by omega
  unfold tm1
  repeat' (first | exact KV.nil | refine KV.cons ?_ ?_)
  all_goals (simp (disch := omega) only [d_cl, d_vi, d_vb, d_vr, d_ci, d_cb, d_nr, d_nl, d_add, d_sub, d_mul, d_rem, d_quo, d_bit, d_mn, d_mx, d_w, d_nn, d_bn, d_len, d_neg, d_at0, d_at1, d_at2, d_at3, d_at4, d_at5, d_at6, d_at7, d_set, d_app, d_cat, d_take, d_drop, d_rep, d_cons, d_lt_t, d_lt_f, d_le_t, d_le_f, d_eqi_t, d_eqi_f, d_eqb_t, d_eqb_f, d_nb_t, d_nb_f, nth0, nthS, w64, hN, tmod_pos]; omega)
theorem k2 : ∀ v, Inv 2 v → KV v tm2.kn := by
  intro v hv
  obtain ⟨P, slot, n, T, S, st, k, ps, N, b, r0, r1, r2, rfl, hB, h1, hE, hc, hd⟩ := inv2 hv
  unfold FB at hB
  have hN : T * S = N := hB.2.2.2.2.2.2.1
  have hx := mod_in (a := st + k) (N := N) (by omega)
  have hn : 0 ≤ n ∧ n ≤ 2 * N ∧ 0 ≤ ps ∧ ps ≤ 17 := by rcases hd with hd | hd | hd <;> omega
  unfold tm2
  repeat' (first | exact KV.nil | refine KV.cons ?_ ?_)
  all_goals (simp (disch := omega) only [d_cl, d_vi, d_vb, d_vr, d_ci, d_cb, d_nr, d_nl, d_add, d_sub, d_mul, d_rem, d_quo, d_bit, d_mn, d_mx, d_w, d_nn, d_bn, d_len, d_neg, d_at0, d_at1, d_at2, d_at3, d_at4, d_at5, d_at6, d_at7, d_set, d_app, d_cat, d_take, d_drop, d_rep, d_cons, d_lt_t, d_lt_f, d_le_t, d_le_f, d_eqi_t, d_eqi_f, d_eqb_t, d_eqb_f, d_nb_t, d_nb_f, nth0, nthS, w64, hN, tmod_pos]; omega)
theorem k3 : ∀ v, Inv 3 v → KV v tm3.kn := by
  intro v hv
  obtain ⟨P, slot, n, T, S, st, ps, N, b, r0, r1, r2, rfl, hB, h1, hE, hc⟩ := inv3 hv
  unfold FB at hB
  have hN : T * S = N := hB.2.2.2.2.2.2.1
  unfold tm3
  repeat' (first | exact KV.nil | refine KV.cons ?_ ?_)
  all_goals (simp (disch := omega) only [d_cl, d_vi, d_vb, d_vr, d_ci, d_cb, d_nr, d_nl, d_add, d_sub, d_mul, d_rem, d_quo, d_bit, d_mn, d_mx, d_w, d_nn, d_bn, d_len, d_neg, d_at0, d_at1, d_at2, d_at3, d_at4, d_at5, d_at6, d_at7, d_set, d_app, d_cat, d_take, d_drop, d_rep, d_cons, d_lt_t, d_lt_f, d_le_t, d_le_f, d_eqi_t, d_eqi_f, d_eqb_t, d_eqb_f, d_nb_t, d_nb_f, nth0, nthS, w64, hN]; omega)
theorem s0 : ∀ v, Inv 0 v → TOK v (fun _ g => LgOK v (fun q u => Inv q u ∧ lt2 μ (q, u) (0, v)) g) tr0 := by
  intro v hv
  obtain ⟨P, slot, p, T, S, st, N, b, r0, r1, r2, rfl, hB, h1, hE, hc⟩ := inv0 hv
  unfold FB at hB
  unfold tr0
  obtain ⟨q0, hq1, hq2, hq3⟩ := mod_sur (st := st) (s := slot) (N := N) (by omega) (by omega) (by omega) (by omega)
  refine TOK.br' (fun h => ?_) (fun h => ?_) <;> simp only [d_vi, d_vb, d_vr, d_ci, d_cb, d_nr, d_nl, d_add, d_sub, d_mul, d_rem, d_quo, d_bit, d_mn, d_mx, d_w, d_nn, d_bn, d_len, d_neg, d_at0, d_at1, d_at2, d_at3, d_at4, d_at5, d_at6, d_at7, d_set, d_app, d_cat, d_take, d_drop, d_rep, d_cons, d_lt_t, d_lt_f, d_le_t, d_le_f, d_eqi_t, d_eqi_f, d_eqb_t, d_eqb_f, d_nb_t, d_nb_f, nth0, nthS] at h
  · refine ⟨.inr (.inl ⟨rfl, P, slot, p, 0, T, S, st, 0, p, N, q0, b, r0.set slot.toNat [p + 1], _, r2, rfl, ?_, ?_, ?_, ?_, ?_, ?_, ?_⟩), lt_μ ?_ ?_⟩
    · unfold FB; rw [List.length_set]; omega
    · simp only [d_vi, d_vb, d_vr, d_ci, d_cb, d_nr, d_nl, d_add, d_sub, d_mul, d_rem, d_quo, d_bit, d_mn, d_mx, d_w, d_nn, d_bn, d_len, d_neg, d_at0, d_at1, d_at2, d_at3, d_at4, d_at5, d_at6, d_at7, d_set, d_app, d_cat, d_take, d_drop, d_rep, d_cons, d_lt_t, d_lt_f, d_le_t, d_le_f, d_eqi_t, d_eqi_f, d_eqb_t, d_eqb_f, d_nb_t, d_nb_f, nth0, nthS, List.length_append, List.length_cons, List.length_nil]; omega
    · omega
    · intro q h1 h2; omega
    · exact cl_self (by omega) (by omega)
    · intro _; rw [hE slot (by omega) (by omega)]; exact hc
    · intro h1; omega
    · simp only [mu, Sb.val, List.map_cons, List.map_nil, d_vi, d_vb, d_vr, d_ci, d_cb, d_nr, d_nl, d_add, d_sub, d_mul, d_rem, d_quo, d_bit, d_mn, d_mx, d_w, d_nn, d_bn, d_len, d_neg, d_at0, d_at1, d_at2, d_at3, d_at4, d_at5, d_at6, d_at7, d_set, d_app, d_cat, d_take, d_drop, d_rep, d_cons, d_lt_t, d_lt_f, d_le_t, d_le_f, d_eqi_t, d_eqi_f, d_eqb_t, d_eqb_f, d_nb_t, d_nb_f, nth0, nthS]; omega
    · simp only [mu, d_vi, d_vb, d_vr, d_ci, d_cb, d_nr, d_nl, d_add, d_sub, d_mul, d_rem, d_quo, d_bit, d_mn, d_mx, d_w, d_nn, d_bn, d_len, d_neg, d_at0, d_at1, d_at2, d_at3, d_at4, d_at5, d_at6, d_at7, d_set, d_app, d_cat, d_take, d_drop, d_rep, d_cons, d_lt_t, d_lt_f, d_le_t, d_le_f, d_eqi_t, d_eqi_f, d_eqb_t, d_eqb_f, d_nb_t, d_nb_f, nth0, nthS]; omega
  · have hp : p = P := by omega
    subst hp
    refine ⟨.inr (.inr (.inl ⟨rfl, p, slot, 0, T, S, st, 0, p, N, b, r0, r1, r2, rfl, ?_, ?_, hE, hc, ?_⟩)), lt_μ ?_ ?_⟩
    · unfold FB; omega
    · omega
    · rcases (by omega : 1 ≤ p ∨ p = 0) with h2 | h2
      · exact .inl ⟨rfl, h2, rfl, fun h => by omega⟩
      · exact .inr (.inl ⟨h2, h2, rfl, fun h => by omega⟩)
    · simp only [mu, Sb.val, List.map_cons, List.map_nil, d_vi, d_vb, d_vr, d_ci, d_cb, d_nr, d_nl, d_add, d_sub, d_mul, d_rem, d_quo, d_bit, d_mn, d_mx, d_w, d_nn, d_bn, d_len, d_neg, d_at0, d_at1, d_at2, d_at3, d_at4, d_at5, d_at6, d_at7, d_set, d_app, d_cat, d_take, d_drop, d_rep, d_cons, d_lt_t, d_lt_f, d_le_t, d_le_f, d_eqi_t, d_eqi_f, d_eqb_t, d_eqb_f, d_nb_t, d_nb_f, nth0, nthS]; omega
    · simp only [mu, d_vi, d_vb, d_vr, d_ci, d_cb, d_nr, d_nl, d_add, d_sub, d_mul, d_rem, d_quo, d_bit, d_mn, d_mx, d_w, d_nn, d_bn, d_len, d_neg, d_at0, d_at1, d_at2, d_at3, d_at4, d_at5, d_at6, d_at7, d_set, d_app, d_cat, d_take, d_drop, d_rep, d_cons, d_lt_t, d_lt_f, d_le_t, d_le_f, d_eqi_t, d_eqi_f, d_eqb_t, d_eqb_f, d_nb_t, d_nb_f, nth0, nthS]; omega
theorem s1 : ∀ v, Inv 1 v → TOK v (fun _ g => LgOK v (fun q u => Inv q u ∧ lt2 μ (q, u) (1, v)) g) tr1 := by
  intro v hv
  obtain ⟨P, slot, p, i, T, S, st, k, ps, N, q0, b, r0, r1, r2, rfl, hB, h1, h2, hE, hc, hs, hb⟩ := inv1 hv
  unfold FB at hB
  have hN : T * S = N := hB.2.2.2.2.2.2.1
  unfold tr1
  refine TOK.br' (fun h => ?_) (fun h => ?_) <;> simp only [d_vi, d_vb, d_vr, d_ci, d_cb, d_nr, d_nl, d_add, d_sub, d_mul, d_rem, d_quo, d_bit, d_mn, d_mx, d_w, d_nn, d_bn, d_len, d_neg, d_at0, d_at1, d_at2, d_at3, d_at4, d_at5, d_at6, d_at7, d_set, d_app, d_cat, d_take, d_drop, d_rep, d_cons, d_lt_t, d_lt_f, d_le_t, d_le_f, d_eqi_t, d_eqi_f, d_eqb_t, d_eqb_f, d_nb_t, d_nb_f, nth0, nthS, hN] at h
  · obtain ⟨rfl, rfl⟩ := h2.1 h
    have hx := mod_in (a := st + k) (N := N) (by omega)
    have hqk : (st + k) % N = slot → k = q0 := fun e => mod_inj (st := st) (N := N) (by omega) (by omega) (by omega) (by omega) (by omega) (by omega) (by rw [e]; exact h1.2.2.2.2.2.2.2.symm)
    have hqs : k = q0 → (st + k) % N = slot := fun e => by rw [e]; exact h1.2.2.2.2.2.2.2
    have hE' : ∀ q, 0 ≤ q → q < k + 1 → cl (r2.set ((st + k) % N).toNat [cl r0 ((st + k) % N)]) ((st + q) % N) = cl r0 ((st + q) % N) := fun q g1 g2 => by
      rcases (by omega : q < k ∨ q = k) with g | g
      · exact cl_copy hx.1 (mod_in (by omega)).1 (hE q g1 g)
      · rw [g]; exact cl_self hx.1 (by omega)
    have hs' : k + 1 ≤ q0 → cl (r2.set ((st + k) % N).toNat [cl r0 ((st + k) % N)]) slot = ps := fun g => by
      rw [cl_other hx.1 (by omega) (fun e => by have := hqk e; omega)]
      exact hs (by omega)
    have hne : k = q0 → cl r0 ((st + k) % N) ≠ cl r2 ((st + k) % N) := fun g => by rw [hqs g, hc, hs (by omega)]; omega
    have step : ∀ (b' : Bool) (k' ps' : Int) (l : List Int), (k + 1 < N → k' = k + 1 ∧ ps' = ps) → (k + 1 = N → k' = 0 ∧ ps' = ps + 1) → (q0 < k + 1 → k + 1 < N → b' = false) →
        Inv 1 ⟨[P, slot, ps, k + 1, T, S, st, k', ps'], [b'], [r0.set ((st + k) % N).toNat [cl r0 ((st + k) % N)], r1 ++ [l], r2.set ((st + k) % N).toNat [cl r0 ((st + k) % N)]], []⟩ := fun b' k' ps' l g1 g2 g3 => by
      refine .inr (.inl ⟨rfl, P, slot, ps, k + 1, T, S, st, k', ps', N, q0, b', _, _, _, rfl, ?_, ?_, ⟨g1, g2⟩, ?_, ?_, hs', g3⟩)
      · unfold FB; rw [List.length_set, List.length_set]; omega
      · rw [List.length_append]; simp only [List.length_cons, List.length_nil]; omega
      · intro q e1 e2; rw [cl_load]; exact hE' q e1 e2
      · rw [cl_load]; exact hc
    have dec : ∀ (b' : Bool) (k' ps' : Int) (l : List (List Int)) (l0 : List (List Int)) (l2 : List (List Int)), lt2 μ (1, ⟨[P, slot, ps, k + 1, T, S, st, k', ps'], [b'], [l0, l, l2], []⟩) (1, ⟨[P, slot, ps, k, T, S, st, k, ps], [b], [r0, r1, r2], []⟩) := fun b' k' ps' l l0 l2 => lt_μ (by simp only [mu, nth0, nthS]; omega) (by simp only [mu, nth0, nthS]; omega)
    repeat' (first
      | (refine TOK.br' (fun h => ?_) (fun h => ?_) <;> (try simp (disch := omega) only [d_cl, d_vi, d_vb, d_vr, d_ci, d_cb, d_nr, d_nl, d_add, d_sub, d_mul, d_rem, d_quo, d_bit, d_mn, d_mx, d_w, d_nn, d_bn, d_len, d_neg, d_at0, d_at1, d_at2, d_at3, d_at4, d_at5, d_at6, d_at7, d_set, d_app, d_cat, d_take, d_drop, d_rep, d_cons, d_lt_t, d_lt_f, d_le_t, d_le_f, d_eqi_t, d_eqi_f, d_eqb_t, d_eqb_f, d_nb_t, d_nb_f, nth0, nthS, hN, tmod_pos] at h) <;> (try (exfalso; omega)))
      | (with_reducible refine TOK.leaf' ?_))
    all_goals
      first
      | (refine And.intro (?_ : Inv 1 _) (?_ : lt2 μ (1, _) _) <;> simp (disch := omega) only [Sb.val, List.map_cons, List.map_nil, d_cl, d_vi, d_vb, d_vr, d_ci, d_cb, d_nr, d_nl, d_add, d_sub, d_mul, d_rem, d_quo, d_bit, d_mn, d_mx, d_w, d_nn, d_bn, d_len, d_neg, d_at0, d_at1, d_at2, d_at3, d_at4, d_at5, d_at6, d_at7, d_set, d_app, d_cat, d_take, d_drop, d_rep, d_cons, d_lt_t, d_lt_f, d_le_t, d_le_f, d_eqi_t, d_eqi_f, d_eqb_t, d_eqb_f, d_nb_t, d_nb_f, nth0, nthS, hN, tmod_pos]
         · refine step _ _ _ _ (by omega) (by omega) ?_
           first
           | (intro _ _; rfl)
           | (intro g1 g2; rw [d_eqi_f]; simp (disch := omega) only [d_cl, d_vi, d_vb, d_vr, d_ci, d_cb, d_nr, d_nl, d_add, d_sub, d_mul, d_rem, d_quo, d_bit, d_mn, d_mx, d_w, d_nn, d_bn, d_len, d_neg, d_at0, d_at1, d_at2, d_at3, d_at4, d_at5, d_at6, d_at7, d_set, d_app, d_cat, d_take, d_drop, d_rep, d_cons, d_lt_t, d_lt_f, d_le_t, d_le_f, d_eqi_t, d_eqi_f, d_eqb_t, d_eqb_f, d_nb_t, d_nb_f, nth0, nthS, hN, tmod_pos]; rcases (by omega : k = q0 ∨ q0 < k) with g | g
              · exact hne g
              · exfalso; have hbf := hb g (by omega); subst hbf; first | contradiction | omega)
         · exact dec _ _ _ _ _ _)
      | (exfalso; rcases (by omega : k = q0 ∨ q0 < k) with g | g
         · exact hne g (by assumption)
         · have hbf := hb g (by omega); subst hbf; contradiction)
  · have hi : i = N := by omega
    subst hi
    obtain ⟨rfl, rfl⟩ := h2.2 rfl
    refine ⟨.inl ⟨rfl, P, slot, p + 1, T, S, st, i, b, r0, r1, r2, rfl, ?_, ?_, ?_, hc⟩, lt_μ ?_ ?_⟩
    · unfold FB; omega
    · omega
    · intro j g1 g2
      obtain ⟨q, e1, e2, e3⟩ := mod_sur (st := st) (s := j) (N := i) (by omega) (by omega) g1 g2
      rw [← e3]; exact hE q e1 e2
    · simp only [mu, Sb.val, List.map_cons, List.map_nil, d_vi, d_vb, d_vr, d_ci, d_cb, d_nr, d_nl, d_add, d_sub, d_mul, d_rem, d_quo, d_bit, d_mn, d_mx, d_w, d_nn, d_bn, d_len, d_neg, d_at0, d_at1, d_at2, d_at3, d_at4, d_at5, d_at6, d_at7, d_set, d_app, d_cat, d_take, d_drop, d_rep, d_cons, d_lt_t, d_lt_f, d_le_t, d_le_f, d_eqi_t, d_eqi_f, d_eqb_t, d_eqb_f, d_nb_t, d_nb_f, nth0, nthS]; omega
    · simp only [mu, d_vi, d_vb, d_vr, d_ci, d_cb, d_nr, d_nl, d_add, d_sub, d_mul, d_rem, d_quo, d_bit, d_mn, d_mx, d_w, d_nn, d_bn, d_len, d_neg, d_at0, d_at1, d_at2, d_at3, d_at4, d_at5, d_at6, d_at7, d_set, d_app, d_cat, d_take, d_drop, d_rep, d_cons, d_lt_t, d_lt_f, d_le_t, d_le_f, d_eqi_t, d_eqi_f, d_eqb_t, d_eqb_f, d_nb_t, d_nb_f, nth0, nthS]; omega
theorem s2 : ∀ v, Inv 2 v → TOK v (fun _ g => LgOK v (fun q u => Inv q u ∧ lt2 μ (q, u) (2, v)) g) tr2 := by
  intro v hv
  obtain ⟨P, slot, n, T, S, st, k, ps, N, b, r0, r1, r2, rfl, hB, h1, hE, hc, hd⟩ := inv2 hv
  unfold FB at hB
  have hN : T * S = N := hB.2.2.2.2.2.2.1
  have hn : 0 ≤ n ∧ n ≤ 2 * N - 1 ∧ 0 ≤ ps ∧ ps ≤ 15 := by rcases hd with hd | hd | hd <;> omega
  have hx := mod_in (a := st + k) (N := N) (by omega)
  have hxe : cl r0 ((st + k) % N) = cl r2 ((st + k) % N) := (hE _ hx.1 hx.2).symm
  have hE' : Eqs N (r0.set ((st + k) % N).toNat [cl r0 ((st + k) % N)]) (r2.set ((st + k) % N).toNat [cl r0 ((st + k) % N)]) := fun j g1 g2 => by
    rw [cl_load]; exact cl_copy hx.1 g1 (hE j g1 g2)
  have step : ∀ (b' : Bool) (k' ps' : Int) (l : List Int), 0 ≤ k' → k' < N → ((ps' = P ∧ 1 ≤ P ∧ n + 1 = k' ∧ (0 < k' → b' = true)) ∨ (P = 0 ∧ ps' = 0 ∧ n + 1 = k' ∧ (0 < k' → b' = false)) ∨ (P = 0 ∧ ps' = 1 ∧ n + 1 = N + k' ∧ (0 < k' → b' = true))) →
      Inv 2 ⟨[P, slot, n + 1, T, S, st, k', ps'], [b'], [r0.set ((st + k) % N).toNat [cl r0 ((st + k) % N)], r1 ++ [l], r2.set ((st + k) % N).toNat [cl r0 ((st + k) % N)]], []⟩ := fun b' k' ps' l g0 g1 g2 => by
    refine .inr (.inr (.inl ⟨rfl, P, slot, n + 1, T, S, st, k', ps', N, b', _, _, _, rfl, ?_, ?_, hE', ?_, g2⟩))
    · unfold FB; rw [List.length_set, List.length_set]; omega
    · rw [List.length_append]; simp only [List.length_cons, List.length_nil]; omega
    · rw [cl_load]; exact hc
  have fin : ∀ (b' : Bool) (ps' : Int) (l : List Int), 0 ≤ ps' → ps' ≤ 17 → Inv 3 ⟨[P, slot, n + 1, T, S, st, 0, ps'], [b'], [r0.set ((st + k) % N).toNat [cl r0 ((st + k) % N)], r1 ++ [l], r2.set ((st + k) % N).toNat [cl r0 ((st + k) % N)]], []⟩ := fun b' ps' l g0 g1 => by
    refine .inr (.inr (.inr ⟨rfl, P, slot, n + 1, T, S, st, ps', N, b', _, _, _, rfl, ?_, ?_, hE', ?_⟩))
    · unfold FB; rw [List.length_set, List.length_set]; omega
    · rw [List.length_append]; simp only [List.length_cons, List.length_nil]; omega
    · rw [cl_load]; exact hc
  have dec : ∀ (b' : Bool) (k' ps' : Int) (l l0 l2 : List (List Int)), lt2 μ (2, ⟨[P, slot, n + 1, T, S, st, k', ps'], [b'], [l0, l, l2], []⟩) (2, ⟨[P, slot, n, T, S, st, k, ps], [b], [r0, r1, r2], []⟩) := fun b' k' ps' l l0 l2 => lt_μ (by simp only [mu, nth0, nthS]; omega) (by simp only [mu, nth0, nthS]; omega)
  have dec3 : ∀ (b' : Bool) (ps' : Int) (l l0 l2 : List (List Int)), lt2 μ (3, ⟨[P, slot, n + 1, T, S, st, 0, ps'], [b'], [l0, l, l2], []⟩) (2, ⟨[P, slot, n, T, S, st, k, ps], [b], [r0, r1, r2], []⟩) := fun b' ps' l l0 l2 => lt_μ (by simp only [mu, nth0, nthS]; omega) (by simp only [mu, nth0, nthS]; omega)
  unfold tr2
  repeat' (first
    | (refine TOK.br' (fun h => ?_) (fun h => ?_) <;> (try simp (disch := omega) only [d_cl, d_vi, d_vb, d_vr, d_ci, d_cb, d_nr, d_nl, d_add, d_sub, d_mul, d_rem, d_quo, d_bit, d_mn, d_mx, d_w, d_nn, d_bn, d_len, d_neg, d_at0, d_at1, d_at2, d_at3, d_at4, d_at5, d_at6, d_at7, d_set, d_app, d_cat, d_take, d_drop, d_rep, d_cons, d_lt_t, d_lt_f, d_le_t, d_le_f, d_eqi_t, d_eqi_f, d_eqb_t, d_eqb_f, d_nb_t, d_nb_f, nth0, nthS, hN, tmod_pos] at h) <;> (try (exfalso; omega)))
    | (with_reducible refine TOK.leaf' ?_))
  all_goals
    first
    | (refine And.intro (?_ : Inv 2 _) (?_ : lt2 μ (2, _) _) <;> simp (disch := omega) only [Sb.val, List.map_cons, List.map_nil, d_cl, d_vi, d_vb, d_vr, d_ci, d_cb, d_nr, d_nl, d_add, d_sub, d_mul, d_rem, d_quo, d_bit, d_mn, d_mx, d_w, d_nn, d_bn, d_len, d_neg, d_at0, d_at1, d_at2, d_at3, d_at4, d_at5, d_at6, d_at7, d_set, d_app, d_cat, d_take, d_drop, d_rep, d_cons, d_lt_t, d_lt_f, d_le_t, d_le_f, d_eqi_t, d_eqi_f, d_eqb_t, d_eqb_f, d_nb_t, d_nb_f, nth0, nthS, hN, tmod_pos]
       · refine step _ _ _ _ (by omega) (by omega) ?_
         rcases hd with ⟨e1, e2, e3, e4⟩ | ⟨e1, e2, e3, e4⟩ | ⟨e1, e2, e3, e4⟩
         · first
           | (exfalso; omega)
           | (exfalso; have := e4 (by omega); subst this; contradiction)
           | exact .inl ⟨by omega, by omega, by omega, fun _ => by rw [d_eqi_t]; simp (disch := omega) only [d_cl, d_vi, d_vb, d_vr, d_ci, d_cb, d_nr, d_nl, d_add, d_sub, d_mul, d_rem, d_quo, d_bit, d_mn, d_mx, d_w, d_nn, d_bn, d_len, d_neg, d_at0, d_at1, d_at2, d_at3, d_at4, d_at5, d_at6, d_at7, d_set, d_app, d_cat, d_take, d_drop, d_rep, d_cons, d_lt_t, d_lt_f, d_le_t, d_le_f, d_eqi_t, d_eqi_f, d_eqb_t, d_eqb_f, d_nb_t, d_nb_f, nth0, nthS, hN, tmod_pos]; exact hxe⟩
         · first
           | (exfalso; omega)
           | (exfalso; have := e4 (by omega); subst this; contradiction)
           | exact .inr (.inl ⟨by omega, by omega, by omega, fun _ => rfl⟩)
           | exact .inr (.inr ⟨by omega, by omega, by omega, fun _ => by omega⟩)
         · first
           | (exfalso; omega)
           | (exfalso; have := e4 (by omega); subst this; contradiction)
           | exact .inr (.inr ⟨by omega, by omega, by omega, fun _ => by rw [d_eqi_t]; simp (disch := omega) only [d_cl, d_vi, d_vb, d_vr, d_ci, d_cb, d_nr, d_nl, d_add, d_sub, d_mul, d_rem, d_quo, d_bit, d_mn, d_mx, d_w, d_nn, d_bn, d_len, d_neg, d_at0, d_at1, d_at2, d_at3, d_at4, d_at5, d_at6, d_at7, d_set, d_app, d_cat, d_take, d_drop, d_rep, d_cons, d_lt_t, d_lt_f, d_le_t, d_le_f, d_eqi_t, d_eqi_f, d_eqb_t, d_eqb_f, d_nb_t, d_nb_f, nth0, nthS, hN, tmod_pos]; exact hxe⟩)
       · exact dec _ _ _ _ _ _)
    | (refine And.intro (?_ : Inv 3 _) (?_ : lt2 μ (3, _) _) <;> simp (disch := omega) only [Sb.val, List.map_cons, List.map_nil, d_cl, d_vi, d_vb, d_vr, d_ci, d_cb, d_nr, d_nl, d_add, d_sub, d_mul, d_rem, d_quo, d_bit, d_mn, d_mx, d_w, d_nn, d_bn, d_len, d_neg, d_at0, d_at1, d_at2, d_at3, d_at4, d_at5, d_at6, d_at7, d_set, d_app, d_cat, d_take, d_drop, d_rep, d_cons, d_lt_t, d_lt_f, d_le_t, d_le_f, d_eqi_t, d_eqi_f, d_eqb_t, d_eqb_f, d_nb_t, d_nb_f, nth0, nthS, hN, tmod_pos]
       · exact fin _ _ _ (by omega) (by omega)
       · exact dec3 _ _ _ _ _)
    | skip
theorem s3 : ∀ v, Inv 3 v → TOK v (fun _ g => LgOK v (fun q u => Inv q u ∧ lt2 μ (q, u) (3, v)) g) tr3 := by
  intro v hv
  obtain ⟨P, slot, n, T, S, st, ps, N, b, r0, r1, r2, rfl, hB, h1, hE, hc⟩ := inv3 hv
  unfold FB at hB
  have hN : T * S = N := hB.2.2.2.2.2.2.1
  unfold tr3
  repeat' (first
    | (refine TOK.br' (fun h => ?_) (fun h => ?_) <;> (try simp (disch := omega) only [d_cl, d_vi, d_vb, d_vr, d_ci, d_cb, d_nr, d_nl, d_add, d_sub, d_mul, d_rem, d_quo, d_bit, d_mn, d_mx, d_w, d_nn, d_bn, d_len, d_neg, d_at0, d_at1, d_at2, d_at3, d_at4, d_at5, d_at6, d_at7, d_set, d_app, d_cat, d_take, d_drop, d_rep, d_cons, d_lt_t, d_lt_f, d_le_t, d_le_f, d_eqi_t, d_eqi_f, d_eqb_t, d_eqb_f, d_nb_t, d_nb_f, nth0, nthS, hN, tmod_pos] at h) <;> (try (exfalso; omega)))
    | (with_reducible refine TOK.leaf' ?_))
  show (den _ _).b = true
  rw [d_eqi_t]
  simp only [d_cl, d_vi, d_vb, d_vr, d_ci, d_cb, d_nr, d_nl, d_add, d_sub, d_mul, d_rem, d_quo, d_bit, d_mn, d_mx, d_w, d_nn, d_bn, d_len, d_neg, d_at0, d_at1, d_at2, d_at3, d_at4, d_at5, d_at6, d_at7, d_set, d_app, d_cat, d_take, d_drop, d_rep, d_cons, d_lt_t, d_lt_f, d_le_t, d_le_f, d_eqi_t, d_eqi_f, d_eqb_t, d_eqb_f, d_nb_t, d_nb_f, nth0, nthS]
  rw [hE slot (by omega) (by omega)]; exact hc
/-- At the begin. -/
theorem sS (a0 a1 a2 a3 a4 : Int) : TOK ⟨[a0, a1, a2, a3, a4], [], [], []⟩ (fun _ g => LgOK ⟨[a0, a1, a2, a3, a4], [], [], []⟩ Inv g) trS := by
  unfold trS
  have hT : 0 ≤ a0 % 4 ∧ a0 % 4 < 4 := by omega
  have hS : 0 ≤ a1 % 4 ∧ a1 % 4 < 4 := by omega
  have hP : 0 ≤ a3 % 16 ∧ a3 % 16 < 16 := by omega
  have hU : 0 ≤ IntKind.u64.wrap a2 := by rw [wu64']; omega
  have hN := prod4 (T := a0 % 4 + 1) (S := a1 % 4 + 1) (by omega) (by omega) (by omega) (by omega)
  have h1 := mod_in (a := a4 % 65536) (N := (a0 % 4 + 1) * (a1 % 4 + 1)) (by omega)
  have h2 := mod_in (a := IntKind.u64.wrap a2) (N := (a0 % 4 + 1) * (a1 % 4 + 1)) (by omega)
  refine (show Inv 0 _ from ?_)
  simp (disch := omega) only [Sb.val, List.map_cons, List.map_nil, d_vi, d_vb, d_vr, d_ci, d_cb, d_nr, d_nl, d_add, d_sub, d_mul, d_rem, d_quo, d_bit, d_mn, d_mx, d_w, d_nn, d_bn, d_len, d_neg, d_at0, d_at1, d_at2, d_at3, d_at4, d_at5, d_at6, d_at7, d_set, d_app, d_cat, d_take, d_drop, d_rep, d_cons, d_lt_t, d_lt_f, d_le_t, d_le_f, d_eqi_t, d_eqi_f, d_eqb_t, d_eqb_f, d_nb_t, d_nb_f, nth0, nthS, and3, and15, and65535, tmod_pos]
  refine .inl ⟨rfl, a3 % 16, (a4 % 65536) % ((a0 % 4 + 1) * (a1 % 4 + 1)), 0, a0 % 4 + 1, a1 % 4 + 1, IntKind.u64.wrap a2 % ((a0 % 4 + 1) * (a1 % 4 + 1)), (a0 % 4 + 1) * (a1 % 4 + 1), false, _, _, _, rfl, ?_, ?_, ?_, ?_⟩
  · unfold FB; rw [List.length_replicate, List.length_replicate]; generalize (a0 % 4 + 1) * (a1 % 4 + 1) = N at *; omega
  · simp only [List.length_nil]; omega
  · intro j _ _; rw [cl_rep, cl_rep]
  · rw [cl_rep]
theorem SnapNever_walk (a0 a1 a2 a3 a4 : Int) (w : World) (wa0 : (Lit.int .i64 a0).wf = true) (wa1 : (Lit.int .i64 a1).wf = true) (wa2 : (Lit.int .i64 a2).wf = true) (wa3 : (Lit.int .i64 a3).wf = true) (wa4 : (Lit.int .i64 a4).wf = true) :
    Calls Try.prog 4 #[.int .i64 a0, .int .i64 a1, .int .i64 a2, .int .i64 a3, .int .i64 a4] w fun e w' => e = .returned (.bool true) ∧ Below w.heap.size w w' :=
  law_calls (v := ⟨[a0, a1, a2, a3, a4], [], [], []⟩) (l := []) (args := args) (args' := [.int .i64 a0, .int .i64 a1, .int .i64 a2, .int .i64 a3, .int .i64 a4]) hI0 hfn hbod (by decide) rfl (by simp)
    (.cons (.int _ _) (.cons (.int _ _) (.cons (.int _ _) (.cons (.int _ _) (.cons (.int _ _) (.nil _))))))
    (aw ⟨[a0, a1, a2, a3, a4], [], [], []⟩ Inv μ KV.nil k0 k1 k2 k3 (sS a0 a1 a2 a3 a4) s0 s1 s2 s3)
end Go.Proofs.Ytnkgkdhddaongaa.KSnapNever
