/- The law SnapSteps of snap: whatever is turned between the steps, each step loads just the next word, and it ends behind the first pass that is as the one ahead: it answers true for all numbers and all turns. No condition. -/
import Derived.Test.YtnkgkdhddaongaaOwnSnapStepsS
import Derived.Test.YtnkgkdhddaongaaOwnS14
set_option linter.unusedVariables false
set_option linter.unusedSimpArgs false
set_option maxRecDepth 100000
set_option maxHeartbeats 16000000
namespace Go.Proofs.Ytnkgkdhddaongaa.KSnapSteps
open Go Go.Lib Go.Proofs.Ytnkgkdhddaongaa.Eng Go.Proofs.Ytnkgkdhddaongaa.Sy Go.RowKit

/-- What holds everywhere. -/
def FB (N T S who st : Int) (rt ws nw cs wd : List (List Int)) : Prop :=
  1 ≤ T ∧ T ≤ 4 ∧ 1 ≤ S ∧ S ≤ 4 ∧ T * S = N ∧ 1 ≤ N ∧ N ≤ 16 ∧ 0 ≤ who ∧ who < T ∧ 0 ≤ st ∧ st < N ∧ (rt.length : Int) ≤ 40 ∧ (ws.length : Int) = N ∧ (nw.length : Int) = N ∧ (cs.length : Int) = 2 * N + 2 * T ∧ (wd.length : Int) = N
def FI (N i k ps : Int) : Prop := 0 ≤ k ∧ k < N ∧ 0 ≤ ps ∧ ps ≤ 8 ∧ i = ps * N + k ∧ 0 ≤ i ∧ i ≤ 8 * N
/-- Was it the same so far? -/
def SM (N k ps st : Int) (nw ws : List (List Int)) (b : Bool) : Prop := b = true ↔ (1 ≤ ps ∧ ∀ q, 0 ≤ q → q < k → cl nw ((st + q) % N) = cl ws ((st + q) % N))
/-- What was read. -/
def FW (N k ps st : Int) (b : Bool) (ws nw wd : List (List Int)) : Prop :=
  (∀ q, 0 ≤ q → q < k → cl wd ((st + q) % N) = cl nw ((st + q) % N)) ∧ (∀ q, k ≤ q → q < N → cl wd ((st + q) % N) = cl ws ((st + q) % N)) ∧ (0 < k → SM N k ps st nw ws b)
def Inv0 (v : Val) : Prop := ∃ (who N st ps i T S k : Int) (b : Bool) (rt ws nw cs lg wd : List (List Int)), v = ⟨[who, N, st, 0, ps, i, T, S, k, ps], [b], [rt, ws, nw, cs, lg, wd], []⟩ ∧ FB N T S who st rt ws nw cs wd ∧ FI N i k ps ∧ FW N k ps st b ws nw wd ∧ (lg.length : Int) ≤ 41 * i
def Inv1 (v : Val) : Prop := ∃ (who N st ps i j T S k : Int) (b : Bool) (rt ws nw cs lg wd : List (List Int)), v = ⟨[who, N, st, 0, ps, i, j, T, S, k, ps], [b], [rt, ws, nw, cs, lg, wd], []⟩ ∧ FB N T S who st rt ws nw cs wd ∧ FI N i k ps ∧ i < 8 * N ∧ FW N k ps st b ws nw wd ∧ (0 ≤ j ∧ j ≤ (rt.length : Int) ∧ (lg.length : Int) ≤ 41 * i + j)
def Inv2 (v : Val) : Prop := ∃ (who N st ps i x j T S k : Int) (bm b : Bool) (rt ws nw cs lg wd W : List (List Int)), v = ⟨[who, N, st, 0, ps + 1, i, (st + k) % N, x, (lg.length : Int), N, j, T, S, k, ps], [bm, b], [rt, ws, nw, cs, lg, wd], []⟩ ∧ FB N T S who st rt ws nw cs wd ∧ FI N i k ps ∧ i < 8 * N ∧ k + 1 = N ∧
  (0 ≤ j ∧ j ≤ N ∧ (lg.length : Int) ≤ 41 * i + 40 ∧ x = cl cs ((st + k) % N) ∧ cl nw ((st + k) % N) = x ∧ cl wd ((st + k) % N) = cl W ((st + k) % N)) ∧
  (∀ q, 0 ≤ q → q < k → cl wd ((st + q) % N) = cl nw ((st + q) % N)) ∧ (0 < k → SM N k ps st nw W b) ∧ (∀ q, j ≤ q → q < N → cl ws q = cl W q) ∧ (∀ q, 0 ≤ q → q < j → cl ws q = cl nw q) ∧ (bm = true ↔ (1 ≤ ps ∧ ∀ q, 0 ≤ q → q < j → cl nw q = cl W q))
def Inv3 (v : Val) : Prop := ∃ (who N st ps i T S : Int) (b : Bool) (rt ws nw cs lg wd : List (List Int)), v = ⟨[who, N, st, 1, ps, i, T, S, 0, ps], [b], [rt, ws, nw, cs, lg, wd], []⟩ ∧ FB N T S who st rt ws nw cs wd ∧ (0 ≤ ps ∧ ps ≤ 8 ∧ 0 ≤ i ∧ i ≤ 8 * N ∧ (lg.length : Int) ≤ 41 * i) ∧ (∀ q, 0 ≤ q → q < N → cl wd q = cl nw q)
def Inv4 (v : Val) : Prop := ∃ (N j z1 z2 z3 z4 z5 z6 : Int) (b : Bool) (r0 r1 r2 r3 r4 r5 : List (List Int)), v = ⟨[N, j, z1, z2, z3, z4, z5, z6], [b], [r0, r1, r2, r3, r4, r5], []⟩ ∧ (0 ≤ j ∧ j ≤ N ∧ N ≤ 16 ∧ (r1.length : Int) = N ∧ (r2.length : Int) = N) ∧ (∀ q, 0 ≤ q → q < N → cl r2 q = cl r1 q)
def Inv (p : Nat) (v : Val) : Prop := (p = 0 ∧ Inv0 v) ∨ (p = 1 ∧ Inv1 v) ∨ (p = 2 ∧ Inv2 v) ∨ (p = 3 ∧ Inv3 v) ∨ (p = 4 ∧ Inv4 v)
def μ (q : Nat × Val) : Nat × Nat := match q.1 with
  | 0 => ((4 * (200 - nth 0 q.2.i 5) + 5).toNat, 0)
  | 1 => ((4 * (200 - nth 0 q.2.i 5) + 4).toNat, (100 - nth 0 q.2.i 6).toNat)
  | 2 => ((4 * (200 - nth 0 q.2.i 5) + 3).toNat, (100 - nth 0 q.2.i 10).toNat)
  | 3 => (1, 0)
  | _ => (0, (100 - nth 0 q.2.i 1).toNat)
theorem inv0 {v : Val} (h : Inv 0 v) : Inv0 v := by rcases h with ⟨_, h⟩ | ⟨h, _⟩ | ⟨h, _⟩ | ⟨h, _⟩ | ⟨h, _⟩ <;> first | exact h | (exact absurd h (by decide))
theorem inv1 {v : Val} (h : Inv 1 v) : Inv1 v := by rcases h with ⟨h, _⟩ | ⟨_, h⟩ | ⟨h, _⟩ | ⟨h, _⟩ | ⟨h, _⟩ <;> first | exact h | (exact absurd h (by decide))
theorem inv2 {v : Val} (h : Inv 2 v) : Inv2 v := by rcases h with ⟨h, _⟩ | ⟨h, _⟩ | ⟨_, h⟩ | ⟨h, _⟩ | ⟨h, _⟩ <;> first | exact h | (exact absurd h (by decide))
theorem inv3 {v : Val} (h : Inv 3 v) : Inv3 v := by rcases h with ⟨h, _⟩ | ⟨h, _⟩ | ⟨h, _⟩ | ⟨_, h⟩ | ⟨h, _⟩ <;> first | exact h | (exact absurd h (by decide))
theorem inv4 {v : Val} (h : Inv 4 v) : Inv4 v := by rcases h with ⟨h, _⟩ | ⟨h, _⟩ | ⟨h, _⟩ | ⟨h, _⟩ | ⟨_, h⟩ <;> first | exact h | (exact absurd h (by decide))
theorem round {N i k ps st : Int} (h : i = ps * N + k) (hN : 1 ≤ N) (h0 : 0 ≤ k) (h1 : k < N) : (st + i) % N = (st + k) % N ∧ i % N = k := by
  refine ⟨?_, ((Int.ediv_emod_unique (a := i) (b := N) (q := ps) (r := k) (by omega)).2 ⟨by rw [Int.mul_comm]; omega, by omega, by omega⟩).2⟩
  rw [h, show st + (ps * N + k) = (st + k) + N * ps by rw [Int.mul_comm ps N]; omega, Int.add_mul_emod_self_left]
theorem k0 : ∀ v, Inv 0 v → KV v tm0.kn := by
  intro v hv
  obtain ⟨who, N, st, ps, i, T, S, k, b, rt, ws, nw, cs, lg, wd, rfl, hB, hI, hW, hl⟩ := inv0 hv
  unfold FB at hB
  unfold FI at hI
  unfold tm0
  repeat' (first | exact KV.nil | refine KV.cons ?_ ?_)
  all_goals (simp (disch := omega) only [d_cl, d_vi, d_vb, d_vr, d_ci, d_cb, d_nr, d_nl, d_add, d_sub, d_mul, d_rem, d_quo, d_bit, d_mn, d_mx, d_w, d_nn, d_bn, d_len, d_neg, d_at0, d_at1, d_at2, d_at3, d_at4, d_at5, d_at6, d_at7, d_set, d_app, d_cat, d_take, d_drop, d_rep, d_cons, d_lt_t, d_lt_f, d_le_t, d_le_f, d_eqi_t, d_eqi_f, d_eqb_t, d_eqb_f, d_nb_t, d_nb_f, nth0, nthS, w64]; omega)
theorem k1 : ∀ v, Inv 1 v → KV v tm1.kn := by
  intro v hv
  obtain ⟨who, N, st, ps, i, j, T, S, k, b, rt, ws, nw, cs, lg, wd, rfl, hB, hI, hi, hW, hl⟩ := inv1 hv
  unfold FB at hB
  unfold FI at hI
  have hN : T * S = N := hB.2.2.2.2.1
  have hr := round (st := st) hI.2.2.2.2.1 (by omega) hI.1 hI.2.1
  have hx := mod_in (a := st + k) (N := N) (by omega)
  have hy := mod_in (a := nth 0 (rt.getD j.toNat []) 1 % 65536) (N := N) (by omega)
  unfold tm1
  repeat' (first | exact KV.nil | refine KV.cons ?_ ?_)
  all_goals (first | (simp (disch := omega) only [d_cl, d_vi, d_vb, d_vr, d_ci, d_cb, d_nr, d_nl, d_add, d_sub, d_mul, d_rem, d_quo, d_bit, d_mn, d_mx, d_w, d_nn, d_bn, d_len, d_neg, d_at0, d_at1, d_at2, d_at3, d_at4, d_at5, d_at6, d_at7, d_set, d_app, d_cat, d_take, d_drop, d_rep, d_cons, d_lt_t, d_lt_f, d_le_t, d_le_f, d_eqi_t, d_eqi_f, d_eqb_t, d_eqb_f, d_nb_t, d_nb_f, nth0, nthS, w64, hN, and65535, tmod_pos, hr.1]; done) | (simp (disch := omega) only [d_cl, d_vi, d_vb, d_vr, d_ci, d_cb, d_nr, d_nl, d_add, d_sub, d_mul, d_rem, d_quo, d_bit, d_mn, d_mx, d_w, d_nn, d_bn, d_len, d_neg, d_at0, d_at1, d_at2, d_at3, d_at4, d_at5, d_at6, d_at7, d_set, d_app, d_cat, d_take, d_drop, d_rep, d_cons, d_lt_t, d_lt_f, d_le_t, d_le_f, d_eqi_t, d_eqi_f, d_eqb_t, d_eqb_f, d_nb_t, d_nb_f, nth0, nthS, w64, hN, and65535, tmod_pos, hr.1]; omega))
theorem k2 : ∀ v, Inv 2 v → KV v tm2.kn := by
  intro v hv
  obtain ⟨who, N, st, ps, i, x, j, T, S, k, bm, b, rt, ws, nw, cs, lg, wd, W, rfl, hB, hI, hi, hk, hl, h1, h2, h3, h4, h5⟩ := inv2 hv
  unfold FB at hB
  unfold FI at hI
  have hN : T * S = N := hB.2.2.2.2.1
  have hx := mod_in (a := st + k) (N := N) (by omega)
  have hxe := hl.2.2.2.1
  unfold tm2
  repeat' (first | exact KV.nil | refine KV.cons ?_ ?_)
  all_goals (first | (simp (disch := omega) only [d_cl, d_vi, d_vb, d_vr, d_ci, d_cb, d_nr, d_nl, d_add, d_sub, d_mul, d_rem, d_quo, d_bit, d_mn, d_mx, d_w, d_nn, d_bn, d_len, d_neg, d_at0, d_at1, d_at2, d_at3, d_at4, d_at5, d_at6, d_at7, d_set, d_app, d_cat, d_take, d_drop, d_rep, d_cons, d_lt_t, d_lt_f, d_le_t, d_le_f, d_eqi_t, d_eqi_f, d_eqb_t, d_eqb_f, d_nb_t, d_nb_f, nth0, nthS, w64, hN, tmod_pos]; done) | (simp (disch := omega) only [d_cl, d_vi, d_vb, d_vr, d_ci, d_cb, d_nr, d_nl, d_add, d_sub, d_mul, d_rem, d_quo, d_bit, d_mn, d_mx, d_w, d_nn, d_bn, d_len, d_neg, d_at0, d_at1, d_at2, d_at3, d_at4, d_at5, d_at6, d_at7, d_set, d_app, d_cat, d_take, d_drop, d_rep, d_cons, d_lt_t, d_lt_f, d_le_t, d_le_f, d_eqi_t, d_eqi_f, d_eqb_t, d_eqb_f, d_nb_t, d_nb_f, nth0, nthS, w64, hN, tmod_pos]; omega))
theorem k3 : ∀ v, Inv 3 v → KV v tm3.kn := by
  intro v hv
  obtain ⟨who, N, st, ps, i, T, S, b, rt, ws, nw, cs, lg, wd, rfl, hB, hl, hE⟩ := inv3 hv
  unfold FB at hB
  unfold tm3
  repeat' (first | exact KV.nil | refine KV.cons ?_ ?_)
  all_goals (simp (disch := omega) only [d_cl, d_vi, d_vb, d_vr, d_ci, d_cb, d_nr, d_nl, d_add, d_sub, d_mul, d_rem, d_quo, d_bit, d_mn, d_mx, d_w, d_nn, d_bn, d_len, d_neg, d_at0, d_at1, d_at2, d_at3, d_at4, d_at5, d_at6, d_at7, d_set, d_app, d_cat, d_take, d_drop, d_rep, d_cons, d_lt_t, d_lt_f, d_le_t, d_le_f, d_eqi_t, d_eqi_f, d_eqb_t, d_eqb_f, d_nb_t, d_nb_f, nth0, nthS, w64]; omega)
theorem k4 : ∀ v, Inv 4 v → KV v tm4.kn := by
  intro v hv
  obtain ⟨N, j, z1, z2, z3, z4, z5, z6, b, r0, r1, r2, r3, r4, r5, rfl, hl, hE⟩ := inv4 hv
  unfold tm4
  repeat' (first | exact KV.nil | refine KV.cons ?_ ?_)
  all_goals (simp (disch := omega) only [d_cl, d_vi, d_vb, d_vr, d_ci, d_cb, d_nr, d_nl, d_add, d_sub, d_mul, d_rem, d_quo, d_bit, d_mn, d_mx, d_w, d_nn, d_bn, d_len, d_neg, d_at0, d_at1, d_at2, d_at3, d_at4, d_at5, d_at6, d_at7, d_set, d_app, d_cat, d_take, d_drop, d_rep, d_cons, d_lt_t, d_lt_f, d_le_t, d_le_f, d_eqi_t, d_eqi_f, d_eqb_t, d_eqb_f, d_nb_t, d_nb_f, nth0, nthS, w64]; omega)
theorem s0 : ∀ v, Inv 0 v → TOK v (fun _ g => LgOK v (fun q u => Inv q u ∧ lt2 μ (q, u) (0, v)) g) tr0 := by
  intro v hv
  obtain ⟨who, N, st, ps, i, T, S, k, b, rt, ws, nw, cs, lg, wd, rfl, hB, hI, hW, hl⟩ := inv0 hv
  have hB' := hB
  unfold FB at hB'
  have hI' := hI
  unfold FI at hI'
  unfold tr0
  refine TOK.br' (fun h => ?_) (fun h => ?_) <;> simp only [d_vi, d_vb, d_vr, d_ci, d_cb, d_nr, d_nl, d_add, d_sub, d_mul, d_rem, d_quo, d_bit, d_mn, d_mx, d_w, d_nn, d_bn, d_len, d_neg, d_at0, d_at1, d_at2, d_at3, d_at4, d_at5, d_at6, d_at7, d_set, d_app, d_cat, d_take, d_drop, d_rep, d_cons, d_lt_t, d_lt_f, d_le_t, d_le_f, d_eqi_t, d_eqi_f, d_eqb_t, d_eqb_f, d_nb_t, d_nb_f, nth0, nthS] at h
  · refine ⟨.inr (.inl ⟨rfl, who, N, st, ps, i, 0, T, S, k, b, rt, ws, nw, cs, lg, wd, rfl, hB, hI, h, hW, by omega⟩), .inl ?_⟩
    simp only [μ, Sb.val, List.map_cons, List.map_nil, d_vi, d_vb, d_vr, d_ci, d_cb, d_nr, d_nl, d_add, d_sub, d_mul, d_rem, d_quo, d_bit, d_mn, d_mx, d_w, d_nn, d_bn, d_len, d_neg, d_at0, d_at1, d_at2, d_at3, d_at4, d_at5, d_at6, d_at7, d_set, d_app, d_cat, d_take, d_drop, d_rep, d_cons, d_lt_t, d_lt_f, d_le_t, d_le_f, d_eqi_t, d_eqi_f, d_eqb_t, d_eqb_f, d_nb_t, d_nb_f, nth0, nthS]; omega
  · exact rfl
theorem s1 : ∀ v, Inv 1 v → TOK v (fun _ g => LgOK v (fun q u => Inv q u ∧ lt2 μ (q, u) (1, v)) g) tr1 := by
  intro v hv
  obtain ⟨who, N, st, ps, i, j, T, S, k, b, rt, ws, nw, cs, lg, wd, rfl, hB, hI, hi, hW, hl⟩ := inv1 hv
  have hB' := hB
  unfold FB at hB'
  have hI' := hI
  unfold FI at hI'
  have hN : T * S = N := hB'.2.2.2.2.1
  have hr := round (st := st) hI'.2.2.2.2.1 (by omega) hI'.1 hI'.2.1
  have hr1 := hr.1
  have hr2 := hr.2
  have hx := mod_in (a := st + k) (N := N) (by omega)
  have hy := mod_in (a := nth 0 (rt.getD j.toNat []) 1 % 65536) (N := N) (by omega)
  unfold tr1
  refine TOK.br' (fun h => ?_) (fun h => ?_) <;> simp only [d_vi, d_vb, d_vr, d_ci, d_cb, d_nr, d_nl, d_add, d_sub, d_mul, d_rem, d_quo, d_bit, d_mn, d_mx, d_w, d_nn, d_bn, d_len, d_neg, d_at0, d_at1, d_at2, d_at3, d_at4, d_at5, d_at6, d_at7, d_set, d_app, d_cat, d_take, d_drop, d_rep, d_cons, d_lt_t, d_lt_f, d_le_t, d_le_f, d_eqi_t, d_eqi_f, d_eqb_t, d_eqb_f, d_nb_t, d_nb_f, nth0, nthS] at h
  · refine TOK.br' (fun g => ?_) (fun g => ?_)
    · refine And.intro (?_ : Inv 1 _) (?_ : lt2 μ (1, _) _)
      · simp (disch := omega) only [Sb.val, List.map_cons, List.map_nil, d_vi, d_vb, d_vr, d_ci, d_cb, d_nr, d_nl, d_add, d_sub, d_mul, d_rem, d_quo, d_bit, d_mn, d_mx, d_w, d_nn, d_bn, d_len, d_neg, d_at0, d_at1, d_at2, d_at3, d_at4, d_at5, d_at6, d_at7, d_set, d_app, d_cat, d_take, d_drop, d_rep, d_cons, d_lt_t, d_lt_f, d_le_t, d_le_f, d_eqi_t, d_eqi_f, d_eqb_t, d_eqb_f, d_nb_t, d_nb_f, nth0, nthS, and65535, tmod_pos]
        refine .inr (.inl ⟨rfl, who, N, st, ps, i, j + 1, T, S, k, b, rt, ws, nw, _, _, wd, rfl, ?_, hI, hi, hW, ?_⟩)
        · unfold FB; rw [List.length_set]; exact hB'
        · rw [List.length_append]; simp only [List.length_cons, List.length_nil]; omega
      · refine .inr ⟨?_, ?_⟩
        · simp only [μ, Sb.val, List.map_cons, List.map_nil, d_vi, d_vb, d_vr, d_ci, d_cb, d_nr, d_nl, d_add, d_sub, d_mul, d_rem, d_quo, d_bit, d_mn, d_mx, d_w, d_nn, d_bn, d_len, d_neg, d_at0, d_at1, d_at2, d_at3, d_at4, d_at5, d_at6, d_at7, d_set, d_app, d_cat, d_take, d_drop, d_rep, d_cons, d_lt_t, d_lt_f, d_le_t, d_le_f, d_eqi_t, d_eqi_f, d_eqb_t, d_eqb_f, d_nb_t, d_nb_f, nth0, nthS]
        · simp only [μ, Sb.val, List.map_cons, List.map_nil, d_vi, d_vb, d_vr, d_ci, d_cb, d_nr, d_nl, d_add, d_sub, d_mul, d_rem, d_quo, d_bit, d_mn, d_mx, d_w, d_nn, d_bn, d_len, d_neg, d_at0, d_at1, d_at2, d_at3, d_at4, d_at5, d_at6, d_at7, d_set, d_app, d_cat, d_take, d_drop, d_rep, d_cons, d_lt_t, d_lt_f, d_le_t, d_le_f, d_eqi_t, d_eqi_f, d_eqb_t, d_eqb_f, d_nb_t, d_nb_f, nth0, nthS]; omega
    · refine ⟨.inr (.inl ⟨rfl, who, N, st, ps, i, j + 1, T, S, k, b, rt, ws, nw, cs, lg, wd, rfl, hB, hI, hi, hW, by omega⟩), .inr ⟨?_, ?_⟩⟩
      · simp only [μ, Sb.val, List.map_cons, List.map_nil, d_vi, d_vb, d_vr, d_ci, d_cb, d_nr, d_nl, d_add, d_sub, d_mul, d_rem, d_quo, d_bit, d_mn, d_mx, d_w, d_nn, d_bn, d_len, d_neg, d_at0, d_at1, d_at2, d_at3, d_at4, d_at5, d_at6, d_at7, d_set, d_app, d_cat, d_take, d_drop, d_rep, d_cons, d_lt_t, d_lt_f, d_le_t, d_le_f, d_eqi_t, d_eqi_f, d_eqb_t, d_eqb_f, d_nb_t, d_nb_f, nth0, nthS]
      · simp only [μ, Sb.val, List.map_cons, List.map_nil, d_vi, d_vb, d_vr, d_ci, d_cb, d_nr, d_nl, d_add, d_sub, d_mul, d_rem, d_quo, d_bit, d_mn, d_mx, d_w, d_nn, d_bn, d_len, d_neg, d_at0, d_at1, d_at2, d_at3, d_at4, d_at5, d_at6, d_at7, d_set, d_app, d_cat, d_take, d_drop, d_rep, d_cons, d_lt_t, d_lt_f, d_le_t, d_le_f, d_eqi_t, d_eqi_f, d_eqb_t, d_eqb_f, d_nb_t, d_nb_f, nth0, nthS]; omega
  · obtain ⟨hW1, hW2, hW3⟩ := hW
    have hne : ∀ q, 0 ≤ q → q < N → q ≠ k → (st + k) % N ≠ (st + q) % N := fun q g1 g2 g3 e => g3 (mod_inj (st := st) (N := N) (by omega) (by omega) (by omega) (by omega) g1 g2 e).symm
    have hwk : cl wd ((st + k) % N) = cl ws ((st + k) % N) := hW2 k (by omega) (by omega)
    have stepA : ∀ (b' : Bool) (l : List Int), k + 1 < N → (b' = true ↔ ((k = 0 → 1 ≤ ps) ∧ (0 < k → b = true)) ∧ cl cs ((st + k) % N) = cl wd ((st + k) % N)) → Inv 0 ⟨[who, N, st, 0, ps, i + 1, T, S, k + 1, ps], [b'], [rt, ws, nw.set ((st + k) % N).toNat [cl cs ((st + k) % N)], cs.set ((st + k) % N).toNat [cl cs ((st + k) % N)], lg ++ [l], wd.set ((st + k) % N).toNat [cl cs ((st + k) % N)]], []⟩ := fun b' l g1 g2 => by
      refine .inl ⟨rfl, who, N, st, ps, i + 1, T, S, k + 1, b', rt, ws, _, _, _, _, rfl, ?_, ?_, ⟨fun q e1 e2 => ?_, fun q e1 e2 => ?_, fun _ => ?_⟩, ?_⟩
      · unfold FB; rw [List.length_set, List.length_set, List.length_set]; exact hB'
      · unfold FI; omega
      · rcases (by omega : q < k ∨ q = k) with g | g
        · rw [cl_other hx.1 (mod_in (by omega)).1 (hne q e1 (by omega) (by omega)), cl_other hx.1 (mod_in (by omega)).1 (hne q e1 (by omega) (by omega))]; exact hW1 q e1 g
        · rw [g, cl_self hx.1 (by omega), cl_self hx.1 (by omega)]
      · rw [cl_other hx.1 (mod_in (by omega)).1 (hne q (by omega) e2 (by omega))]; exact hW2 q (by omega) e2
      · refine ⟨fun e => ?_, fun e => g2.2 ⟨⟨fun _ => e.1, fun z => (hW3 z).2 ⟨e.1, fun q e1 e2 => ?_⟩⟩, ?_⟩⟩
        · obtain ⟨⟨f1, f2⟩, f3⟩ := g2.1 e
          have hp : 1 ≤ ps := by
            rcases (by omega : k = 0 ∨ 0 < k) with z | z
            · exact f1 z
            · exact ((hW3 z).1 (f2 z)).1
          refine ⟨hp, fun q e1 e2 => ?_⟩
          rcases (by omega : q < k ∨ q = k) with g | g
          · rw [cl_other hx.1 (mod_in (by omega)).1 (hne q e1 (by omega) (by omega))]
            exact ((hW3 (by omega)).1 (f2 (by omega))).2 q e1 g
          · rw [g, cl_self hx.1 (by omega), f3, hwk]
        · have := e.2 q e1 (by omega)
          rwa [cl_other hx.1 (mod_in (by omega)).1 (hne q e1 (by omega) (by omega))] at this
        · have := e.2 k (by omega) (by omega)
          rw [cl_self hx.1 (by omega)] at this
          rw [this, hwk]
      · rw [List.length_append]; simp only [List.length_cons, List.length_nil]; omega
    have dec : ∀ (a1 a2 a3 a4 : Int) (b' : Bool) (l0 l1 l2 l3 l4 l5 : List (List Int)), lt2 μ (0, ⟨[who, N, st, 0, a1, i + 1, a2, a3, a4, ps], [b'], [l0, l1, l2, l3, l4, l5], []⟩) (1, ⟨[who, N, st, 0, ps, i, j, T, S, k, ps], [b], [rt, ws, nw, cs, lg, wd], []⟩) := fun a1 a2 a3 a4 b' l0 l1 l2 l3 l4 l5 => .inl (by simp only [μ, nth0, nthS]; omega)
    repeat' (first
      | (refine TOK.br' (fun h => ?_) (fun h => ?_) <;> (try simp (disch := omega) only [d_cl, d_vi, d_vb, d_vr, d_ci, d_cb, d_nr, d_nl, d_add, d_sub, d_mul, d_rem, d_quo, d_bit, d_mn, d_mx, d_w, d_nn, d_bn, d_len, d_neg, d_at0, d_at1, d_at2, d_at3, d_at4, d_at5, d_at6, d_at7, d_set, d_app, d_cat, d_take, d_drop, d_rep, d_cons, d_lt_t, d_lt_f, d_le_t, d_le_f, d_eqi_t, d_eqi_f, d_eqb_t, d_eqb_f, d_nb_t, d_nb_f, nth0, nthS, hN, tmod_pos, hr1, hr2, not_true_eq_false] at h) <;> (try (exfalso; omega)))
      | (with_reducible refine TOK.leaf' ?_))
    all_goals first
      | (refine And.intro (?_ : Inv 0 _) (?_ : lt2 μ (0, _) _) <;> simp (disch := omega) only [Sb.val, List.map_cons, List.map_nil, d_cl, d_vi, d_vb, d_vr, d_ci, d_cb, d_nr, d_nl, d_add, d_sub, d_mul, d_rem, d_quo, d_bit, d_mn, d_mx, d_w, d_nn, d_bn, d_len, d_neg, d_at0, d_at1, d_at2, d_at3, d_at4, d_at5, d_at6, d_at7, d_set, d_app, d_cat, d_take, d_drop, d_rep, d_cons, d_lt_t, d_lt_f, d_le_t, d_le_f, d_eqi_t, d_eqi_f, d_eqb_t, d_eqb_f, d_nb_t, d_nb_f, nth0, nthS, hN, tmod_pos, hr1]
         · refine stepA _ _ (by omega) ?_
           first
           | (rw [d_eqi_t]; simp (disch := omega) only [d_cl, d_vi, d_vb, d_vr, d_ci, d_cb, d_nr, d_nl, d_add, d_sub, d_mul, d_rem, d_quo, d_bit, d_mn, d_mx, d_w, d_nn, d_bn, d_len, d_neg, d_at0, d_at1, d_at2, d_at3, d_at4, d_at5, d_at6, d_at7, d_set, d_app, d_cat, d_take, d_drop, d_rep, d_cons, d_lt_t, d_lt_f, d_le_t, d_le_f, d_eqi_t, d_eqi_f, d_eqb_t, d_eqb_f, d_nb_t, d_nb_f, nth0, nthS, hN, tmod_pos]; first | exact ⟨fun e => ⟨⟨fun _ => by omega, fun g => by omega⟩, e⟩, fun e => e.2⟩ | exact ⟨fun e => ⟨⟨fun _ => by omega, fun g => by assumption⟩, e⟩, fun e => e.2⟩)
           | exact ⟨fun e => absurd e (by decide), fun e => by exfalso; first | (have := e.1.1 (by omega); omega) | (have := e.1.2 (by omega); subst this; contradiction)⟩
         · exact dec _ _ _ _ _ _ _ _ _ _ _)
      | (refine And.intro (?_ : Inv 2 _) (.inl ?_)
         · simp (disch := omega) only [Sb.val, List.map_cons, List.map_nil, d_cl, d_vi, d_vb, d_vr, d_ci, d_cb, d_nr, d_nl, d_add, d_sub, d_mul, d_rem, d_quo, d_bit, d_mn, d_mx, d_w, d_nn, d_bn, d_len, d_neg, d_at0, d_at1, d_at2, d_at3, d_at4, d_at5, d_at6, d_at7, d_set, d_app, d_cat, d_take, d_drop, d_rep, d_cons, d_lt_t, d_lt_f, d_le_t, d_le_f, d_eqi_t, d_eqi_f, d_eqb_t, d_eqb_f, d_nb_t, d_nb_f, nth0, nthS, hN, tmod_pos, hr1]
           rw [show ((nw.length : Nat) : Int) = N by omega]
           refine .inr (.inr (.inl ⟨rfl, who, N, st, ps, i, cl cs ((st + k) % N), 0, T, S, k, _, b, rt, ws, _, cs, lg, wd, ws, rfl, ?_, hI, hi, by omega, ⟨by omega, by omega, by omega, rfl, cl_self hx.1 (by omega), hwk⟩, fun q e1 e2 => ?_, fun z => ⟨fun e => ⟨((hW3 z).1 e).1, fun q e1 e2 => ?_⟩, fun e => (hW3 z).2 ⟨e.1, fun q e1 e2 => ?_⟩⟩, fun q _ _ => rfl, fun q e1 e2 => by omega, ?_⟩))
           · unfold FB; rw [List.length_set]; exact hB'
           · rw [cl_other hx.1 (mod_in (by omega)).1 (hne q e1 (by omega) (by omega))]; exact hW1 q e1 e2
           · rw [cl_other hx.1 (mod_in (by omega)).1 (hne q e1 (by omega) (by omega))]; exact ((hW3 z).1 e).2 q e1 e2
           · have := e.2 q e1 e2
             rwa [cl_other hx.1 (mod_in (by omega)).1 (hne q e1 (by omega) (by omega))] at this
           · rw [d_lt_t]; simp only [d_vi, d_vb, d_vr, d_ci, d_cb, d_nr, d_nl, d_add, d_sub, d_mul, d_rem, d_quo, d_bit, d_mn, d_mx, d_w, d_nn, d_bn, d_len, d_neg, d_at0, d_at1, d_at2, d_at3, d_at4, d_at5, d_at6, d_at7, d_set, d_app, d_cat, d_take, d_drop, d_rep, d_cons, d_lt_t, d_lt_f, d_le_t, d_le_f, d_eqi_t, d_eqi_f, d_eqb_t, d_eqb_f, d_nb_t, d_nb_f, nth0, nthS]; exact ⟨fun e => ⟨by omega, fun q e1 e2 => by omega⟩, fun e => by omega⟩
         · simp only [μ, Sb.val, List.map_cons, List.map_nil, d_vi, d_vb, d_vr, d_ci, d_cb, d_nr, d_nl, d_add, d_sub, d_mul, d_rem, d_quo, d_bit, d_mn, d_mx, d_w, d_nn, d_bn, d_len, d_neg, d_at0, d_at1, d_at2, d_at3, d_at4, d_at5, d_at6, d_at7, d_set, d_app, d_cat, d_take, d_drop, d_rep, d_cons, d_lt_t, d_lt_f, d_le_t, d_le_f, d_eqi_t, d_eqi_f, d_eqb_t, d_eqb_f, d_nb_t, d_nb_f, nth0, nthS]; omega)
theorem s2 : ∀ v, Inv 2 v → TOK v (fun _ g => LgOK v (fun q u => Inv q u ∧ lt2 μ (q, u) (2, v)) g) tr2 := by
  intro v hv
  obtain ⟨who, N, st, ps, i, x, j, T, S, k, bm, b, rt, ws, nw, cs, lg, wd, W, rfl, hB, hI, hi, hk, hl, h1, h2, h3, h4, h5⟩ := inv2 hv
  have hB' := hB
  unfold FB at hB'
  have hI' := hI
  unfold FI at hI'
  have hN : T * S = N := hB'.2.2.2.2.1
  have hx := mod_in (a := st + k) (N := N) (by omega)
  obtain ⟨l1, l2, l3, l4, l5, l6⟩ := hl
  unfold tr2
  refine TOK.br' (fun h => ?_) (fun h => ?_) <;> simp only [d_vi, d_vb, d_vr, d_ci, d_cb, d_nr, d_nl, d_add, d_sub, d_mul, d_rem, d_quo, d_bit, d_mn, d_mx, d_w, d_nn, d_bn, d_len, d_neg, d_at0, d_at1, d_at2, d_at3, d_at4, d_at5, d_at6, d_at7, d_set, d_app, d_cat, d_take, d_drop, d_rep, d_cons, d_lt_t, d_lt_f, d_le_t, d_le_f, d_eqi_t, d_eqi_f, d_eqb_t, d_eqb_f, d_nb_t, d_nb_f, nth0, nthS] at h
  · have hj : cl ws j = cl W j := h3 j (by omega) h
    have step : ∀ (bm' : Bool), (bm' = true ↔ bm = true ∧ cl nw j = cl ws j) → Inv 2 ⟨[who, N, st, 0, ps + 1, i, (st + k) % N, x, (lg.length : Int), N, j + 1, T, S, k, ps], [bm', b], [rt, ws.set j.toNat [cl nw j], nw, cs, lg, wd], []⟩ := fun bm' g => by
      refine .inr (.inr (.inl ⟨rfl, who, N, st, ps, i, x, j + 1, T, S, k, bm', b, rt, _, nw, cs, lg, wd, W, rfl, ?_, hI, hi, hk, ⟨by omega, by omega, l3, l4, l5, l6⟩, h1, h2, fun q e1 e2 => ?_, fun q e1 e2 => ?_, ?_⟩))
      · unfold FB; rw [List.length_set]; exact hB'
      · rw [cl_other (by omega) (by omega) (by omega)]; exact h3 q (by omega) e2
      · rcases (by omega : q < j ∨ q = j) with z | z
        · rw [cl_other (by omega) (by omega) (by omega)]; exact h4 q e1 z
        · rw [z, cl_self (by omega) (by omega)]
      · refine ⟨fun e => ?_, fun e => g.2 ⟨h5.2 ⟨e.1, fun q e1 e2 => e.2 q e1 (by omega)⟩, by rw [hj]; exact e.2 j (by omega) (by omega)⟩⟩
        obtain ⟨f1, f2⟩ := g.1 e
        refine ⟨(h5.1 f1).1, fun q e1 e2 => ?_⟩
        rcases (by omega : q < j ∨ q = j) with z | z
        · exact (h5.1 f1).2 q e1 z
        · rw [z, f2, hj]
    have dec : ∀ (bm' : Bool) (l1 : List (List Int)), lt2 μ (2, ⟨[who, N, st, 0, ps + 1, i, (st + k) % N, x, (lg.length : Int), N, j + 1, T, S, k, ps], [bm', b], [rt, l1, nw, cs, lg, wd], []⟩) (2, ⟨[who, N, st, 0, ps + 1, i, (st + k) % N, x, (lg.length : Int), N, j, T, S, k, ps], [bm, b], [rt, ws, nw, cs, lg, wd], []⟩) := fun bm' l1 => .inr ⟨rfl, by simp only [μ, nth0, nthS]; omega⟩
    repeat' (first
      | (refine TOK.br' (fun h => ?_) (fun h => ?_) <;> (try simp (disch := omega) only [d_cl, d_vi, d_vb, d_vr, d_ci, d_cb, d_nr, d_nl, d_add, d_sub, d_mul, d_rem, d_quo, d_bit, d_mn, d_mx, d_w, d_nn, d_bn, d_len, d_neg, d_at0, d_at1, d_at2, d_at3, d_at4, d_at5, d_at6, d_at7, d_set, d_app, d_cat, d_take, d_drop, d_rep, d_cons, d_lt_t, d_lt_f, d_le_t, d_le_f, d_eqi_t, d_eqi_f, d_eqb_t, d_eqb_f, d_nb_t, d_nb_f, nth0, nthS] at h) <;> (try (exfalso; omega)))
      | (with_reducible refine TOK.leaf' ?_))
    all_goals
      refine And.intro (?_ : Inv 2 _) (?_ : lt2 μ (2, _) _) <;> simp (disch := omega) only [Sb.val, List.map_cons, List.map_nil, d_cl, d_vi, d_vb, d_vr, d_ci, d_cb, d_nr, d_nl, d_add, d_sub, d_mul, d_rem, d_quo, d_bit, d_mn, d_mx, d_w, d_nn, d_bn, d_len, d_neg, d_at0, d_at1, d_at2, d_at3, d_at4, d_at5, d_at6, d_at7, d_set, d_app, d_cat, d_take, d_drop, d_rep, d_cons, d_lt_t, d_lt_f, d_le_t, d_le_f, d_eqi_t, d_eqi_f, d_eqb_t, d_eqb_f, d_nb_t, d_nb_f, nth0, nthS]
      · refine step _ ?_
        first
        | (rw [d_eqi_t]; simp (disch := omega) only [d_cl, d_vi, d_vb, d_vr, d_ci, d_cb, d_nr, d_nl, d_add, d_sub, d_mul, d_rem, d_quo, d_bit, d_mn, d_mx, d_w, d_nn, d_bn, d_len, d_neg, d_at0, d_at1, d_at2, d_at3, d_at4, d_at5, d_at6, d_at7, d_set, d_app, d_cat, d_take, d_drop, d_rep, d_cons, d_lt_t, d_lt_f, d_le_t, d_le_f, d_eqi_t, d_eqi_f, d_eqb_t, d_eqb_f, d_nb_t, d_nb_f, nth0, nthS]; exact ⟨fun e => ⟨by assumption, e⟩, fun e => e.2⟩)
        | exact ⟨fun e => absurd e (by decide), fun e => by exfalso; have := e.1; subst this; contradiction⟩
      · exact dec _ _
  · have hj : j = N := by omega
    have hd : (((k = 0 → 1 ≤ ps) ∧ (0 < k → b = true)) ∧ cl cs ((st + k) % N) = cl wd ((st + k) % N)) ↔ bm = true := by
      constructor
      · rintro ⟨⟨f1, f2⟩, f3⟩
        have hp : 1 ≤ ps := by
          rcases (by omega : k = 0 ∨ 0 < k) with z | z
          · exact f1 z
          · exact ((h2 z).1 (f2 z)).1
        refine h5.2 ⟨hp, fun q e1 e2 => ?_⟩
        obtain ⟨r, g1, g2, g3⟩ := mod_sur (st := st) (s := q) (N := N) (by omega) (by omega) e1 (by omega)
        rw [← g3]
        rcases (by omega : r < k ∨ r = k) with z | z
        · exact ((h2 (by omega)).1 (f2 (by omega))).2 r g1 z
        · rw [z, l5, l4, f3, l6]
      · intro e
        obtain ⟨hp, ha⟩ := h5.1 e
        refine ⟨⟨fun _ => hp, fun z => (h2 z).2 ⟨hp, fun q e1 e2 => ha _ (mod_in (by omega)).1 (by have := mod_in (a := st + q) (N := N) (by omega); omega)⟩⟩, ?_⟩
        rw [← l4, ← l5, l6]; exact ha _ hx.1 (by omega)
    have hmul : i + 1 = (ps + 1) * N := by rw [Int.add_mul]; omega
    have hps : ps + 1 ≤ 8 := by
      rcases (by omega : ps + 1 ≤ 8 ∨ 9 ≤ ps + 1) with z | z
      · exact z
      · have := Int.mul_le_mul_of_nonneg_right z (show 0 ≤ N by omega); omega
    have hne : ∀ q, 0 ≤ q → q < N → q ≠ k → (st + k) % N ≠ (st + q) % N := fun q g1 g2 g3 e => g3 (mod_inj (st := st) (N := N) (by omega) (by omega) (by omega) (by omega) g1 g2 e).symm
    have hall : ∀ q, 0 ≤ q → q < N → cl (wd.set ((st + k) % N).toNat [cl cs ((st + k) % N)]) q = cl nw q := fun q e1 e2 => by
      obtain ⟨r, g1, g2, g3⟩ := mod_sur (st := st) (s := q) (N := N) (by omega) (by omega) e1 e2
      rw [← g3]
      rcases (by omega : r < k ∨ r = k) with z | z
      · rw [cl_other hx.1 (mod_in (by omega)).1 (hne r g1 (by omega) (by omega))]; exact h1 r g1 z
      · rw [z, cl_self hx.1 (by omega), l5, l4]
    have hB2 : FB N T S who st rt ws nw (cs.set ((st + k) % N).toNat [cl cs ((st + k) % N)]) (wd.set ((st + k) % N).toNat [cl cs ((st + k) % N)]) := by unfold FB; rw [List.length_set, List.length_set]; exact hB'
    have toL3 : ∀ (b' : Bool) (l : List Int), Inv 3 ⟨[who, N, st, 1, ps + 1, i + 1, T, S, 0, ps + 1], [b'], [rt, ws, nw, cs.set ((st + k) % N).toNat [cl cs ((st + k) % N)], lg ++ [l], wd.set ((st + k) % N).toNat [cl cs ((st + k) % N)]], []⟩ := fun b' l => by
      refine .inr (.inr (.inr (.inl ⟨rfl, who, N, st, ps + 1, i + 1, T, S, b', rt, ws, nw, _, _, _, rfl, hB2, ?_, hall⟩)))
      rw [List.length_append]; simp only [List.length_cons, List.length_nil]; omega
    have toL0 : ∀ (b' : Bool) (l : List Int), Inv 0 ⟨[who, N, st, 0, ps + 1, i + 1, T, S, 0, ps + 1], [b'], [rt, ws, nw, cs.set ((st + k) % N).toNat [cl cs ((st + k) % N)], lg ++ [l], wd.set ((st + k) % N).toNat [cl cs ((st + k) % N)]], []⟩ := fun b' l => by
      refine .inl ⟨rfl, who, N, st, ps + 1, i + 1, T, S, 0, b', rt, ws, nw, _, _, _, rfl, hB2, ?_, ⟨fun q e1 e2 => by omega, fun q e1 e2 => ?_, fun z => by omega⟩, ?_⟩
      · exact ⟨by omega, by omega, by omega, hps, by omega, by omega, by omega⟩
      · have hq := mod_in (a := st + q) (N := N) (by omega)
        rw [hall _ hq.1 hq.2]; exact (h4 _ hq.1 (by omega)).symm
      · rw [List.length_append]; simp only [List.length_cons, List.length_nil]; omega
    have dec0 : ∀ (b' : Bool) (l1 l2 l3 l4 l5 l6 : List (List Int)), lt2 μ (0, ⟨[who, N, st, 0, ps + 1, i + 1, T, S, 0, ps + 1], [b'], [l1, l2, l3, l4, l5, l6], []⟩) (2, ⟨[who, N, st, 0, ps + 1, i, (st + k) % N, x, (lg.length : Int), N, j, T, S, k, ps], [bm, b], [rt, ws, nw, cs, lg, wd], []⟩) := fun b' l1 l2 l3 l4 l5 l6 => .inl (by simp only [μ, nth0, nthS]; omega)
    have dec3 : ∀ (b' : Bool) (l1 l2 l3 l4 l5 l6 : List (List Int)), lt2 μ (3, ⟨[who, N, st, 1, ps + 1, i + 1, T, S, 0, ps + 1], [b'], [l1, l2, l3, l4, l5, l6], []⟩) (2, ⟨[who, N, st, 0, ps + 1, i, (st + k) % N, x, (lg.length : Int), N, j, T, S, k, ps], [bm, b], [rt, ws, nw, cs, lg, wd], []⟩) := fun b' l1 l2 l3 l4 l5 l6 => .inl (by simp only [μ, nth0, nthS]; omega)
    clear h1 h2 h3 h4 h5 hall hne hmul
    repeat' (first
      | (refine TOK.br' (fun h => ?_) (fun h => ?_) <;> (try simp (disch := omega) only [d_cl, d_vi, d_vb, d_vr, d_ci, d_cb, d_nr, d_nl, d_add, d_sub, d_mul, d_rem, d_quo, d_bit, d_mn, d_mx, d_w, d_nn, d_bn, d_len, d_neg, d_at0, d_at1, d_at2, d_at3, d_at4, d_at5, d_at6, d_at7, d_set, d_app, d_cat, d_take, d_drop, d_rep, d_cons, d_lt_t, d_lt_f, d_le_t, d_le_f, d_eqi_t, d_eqi_f, d_eqb_t, d_eqb_f, d_nb_t, d_nb_f, nth0, nthS, hN, tmod_pos] at h) <;> (try (exfalso; omega)))
      | (with_reducible refine TOK.leaf' ?_))
    all_goals first
      | (refine And.intro (?_ : Inv 0 _) (?_ : lt2 μ (0, _) _) <;> simp (disch := omega) only [Sb.val, List.map_cons, List.map_nil, d_cl, d_vi, d_vb, d_vr, d_ci, d_cb, d_nr, d_nl, d_add, d_sub, d_mul, d_rem, d_quo, d_bit, d_mn, d_mx, d_w, d_nn, d_bn, d_len, d_neg, d_at0, d_at1, d_at2, d_at3, d_at4, d_at5, d_at6, d_at7, d_set, d_app, d_cat, d_take, d_drop, d_rep, d_cons, d_lt_t, d_lt_f, d_le_t, d_le_f, d_eqi_t, d_eqi_f, d_eqb_t, d_eqb_f, d_nb_t, d_nb_f, nth0, nthS, hN, tmod_pos]
         · exact toL0 _ _
         · exact dec0 _ _ _ _ _ _ _)
      | (refine And.intro (?_ : Inv 3 _) (?_ : lt2 μ (3, _) _) <;> simp (disch := omega) only [Sb.val, List.map_cons, List.map_nil, d_cl, d_vi, d_vb, d_vr, d_ci, d_cb, d_nr, d_nl, d_add, d_sub, d_mul, d_rem, d_quo, d_bit, d_mn, d_mx, d_w, d_nn, d_bn, d_len, d_neg, d_at0, d_at1, d_at2, d_at3, d_at4, d_at5, d_at6, d_at7, d_set, d_app, d_cat, d_take, d_drop, d_rep, d_cons, d_lt_t, d_lt_f, d_le_t, d_le_f, d_eqi_t, d_eqi_f, d_eqb_t, d_eqb_f, d_nb_t, d_nb_f, nth0, nthS, hN, tmod_pos]
         · exact toL3 _ _
         · exact dec3 _ _ _ _ _ _ _)
      | (exfalso; have e := hd.2 (by assumption); first | exact absurd e.2 (by assumption) | (have := e.1.1 (by omega); omega) | (have := e.1.2 (by omega); subst this; contradiction))
      | (exfalso; have e := hd.1 ⟨⟨fun _ => by omega, fun _ => by first | assumption | omega⟩, by assumption⟩; subst e; contradiction)
theorem s3 : ∀ v, Inv 3 v → TOK v (fun _ g => LgOK v (fun q u => Inv q u ∧ lt2 μ (q, u) (3, v)) g) tr3 := by
  intro v hv
  obtain ⟨who, N, st, ps, i, T, S, b, rt, ws, nw, cs, lg, wd, rfl, hB, hl, hE⟩ := inv3 hv
  have hB' := hB
  unfold FB at hB'
  have go : Inv 4 ⟨[N, 0, T, S, who, st, 0, ps], [b], [rt, nw, wd, cs, lg, wd], []⟩ := .inr (.inr (.inr (.inr ⟨rfl, N, 0, T, S, who, st, 0, ps, b, rt, nw, wd, cs, lg, wd, rfl, by omega, hE⟩)))
  unfold tr3
  repeat' (first
    | (refine TOK.br' (fun h => ?_) (fun h => ?_) <;> (try simp (disch := omega) only [d_cl, d_vi, d_vb, d_vr, d_ci, d_cb, d_nr, d_nl, d_add, d_sub, d_mul, d_rem, d_quo, d_bit, d_mn, d_mx, d_w, d_nn, d_bn, d_len, d_neg, d_at0, d_at1, d_at2, d_at3, d_at4, d_at5, d_at6, d_at7, d_set, d_app, d_cat, d_take, d_drop, d_rep, d_cons, d_lt_t, d_lt_f, d_le_t, d_le_f, d_eqi_t, d_eqi_f, d_eqb_t, d_eqb_f, d_nb_t, d_nb_f, nth0, nthS, not_true_eq_false] at h) <;> (try (exfalso; omega)))
    | (with_reducible refine TOK.leaf' ?_))
  all_goals
    refine And.intro (?_ : Inv 4 _) (.inl (by simp [μ]))
    simp only [Sb.val, List.map_cons, List.map_nil, d_vi, d_vb, d_vr, d_ci, d_cb, d_nr, d_nl, d_add, d_sub, d_mul, d_rem, d_quo, d_bit, d_mn, d_mx, d_w, d_nn, d_bn, d_len, d_neg, d_at0, d_at1, d_at2, d_at3, d_at4, d_at5, d_at6, d_at7, d_set, d_app, d_cat, d_take, d_drop, d_rep, d_cons, d_lt_t, d_lt_f, d_le_t, d_le_f, d_eqi_t, d_eqi_f, d_eqb_t, d_eqb_f, d_nb_t, d_nb_f, nth0, nthS]
    rw [show ((wd.length : Nat) : Int) = N by omega]
    exact go
theorem s4 : ∀ v, Inv 4 v → TOK v (fun _ g => LgOK v (fun q u => Inv q u ∧ lt2 μ (q, u) (4, v)) g) tr4 := by
  intro v hv
  obtain ⟨N, j, z1, z2, z3, z4, z5, z6, b, r0, r1, r2, r3, r4, r5, rfl, hl, hE⟩ := inv4 hv
  have e1 : j < N → cl r2 j = cl r1 j := fun g => hE j hl.1 g
  unfold tr4
  repeat' (first
    | (refine TOK.br' (fun h => ?_) (fun h => ?_) <;> (try simp (disch := omega) only [d_cl, d_vi, d_vb, d_vr, d_ci, d_cb, d_nr, d_nl, d_add, d_sub, d_mul, d_rem, d_quo, d_bit, d_mn, d_mx, d_w, d_nn, d_bn, d_len, d_neg, d_at0, d_at1, d_at2, d_at3, d_at4, d_at5, d_at6, d_at7, d_set, d_app, d_cat, d_take, d_drop, d_rep, d_cons, d_lt_t, d_lt_f, d_le_t, d_le_f, d_eqi_t, d_eqi_f, d_eqb_t, d_eqb_f, d_nb_t, d_nb_f, nth0, nthS] at h) <;> (try (exfalso; omega)))
    | (with_reducible refine TOK.leaf' ?_))
  all_goals first
    | (refine ⟨.inr (.inr (.inr (.inr ⟨rfl, N, j + 1, z1, z2, z3, z4, z5, z6, b, r0, r1, r2, r3, r4, r5, rfl, by omega, hE⟩))), .inr ⟨rfl, ?_⟩⟩
       simp only [μ, Sb.val, List.map_cons, List.map_nil, d_vi, d_vb, d_vr, d_ci, d_cb, d_nr, d_nl, d_add, d_sub, d_mul, d_rem, d_quo, d_bit, d_mn, d_mx, d_w, d_nn, d_bn, d_len, d_neg, d_at0, d_at1, d_at2, d_at3, d_at4, d_at5, d_at6, d_at7, d_set, d_app, d_cat, d_take, d_drop, d_rep, d_cons, d_lt_t, d_lt_f, d_le_t, d_le_f, d_eqi_t, d_eqi_f, d_eqb_t, d_eqb_f, d_nb_t, d_nb_f, nth0, nthS]; omega)
    | (show (den _ _).b = true; rw [d_eqi_t])
    | exact rfl
/-- At the begin. -/
theorem sS (a0 a1 a2 a3 : Int) (l4 : List (List Int)) : TOK ⟨[a0, a1, a2, a3], [], [l4], []⟩ (fun _ g => LgOK ⟨[a0, a1, a2, a3], [], [l4], []⟩ Inv g) trS := by
  unfold trS
  have hT : 0 ≤ a0 % 4 ∧ a0 % 4 < 4 := by omega
  have hS : 0 ≤ a1 % 4 ∧ a1 % 4 < 4 := by omega
  have hU : 0 ≤ IntKind.u64.wrap a3 := by rw [wu64']; omega
  have hN := prod4 (T := a0 % 4 + 1) (S := a1 % 4 + 1) (by omega) (by omega) (by omega) (by omega)
  have h1 := mod_in (a := a2 % 65536) (N := a0 % 4 + 1) (by omega)
  have h2 := mod_in (a := IntKind.u64.wrap a3) (N := (a0 % 4 + 1) * (a1 % 4 + 1)) (by omega)
  refine TOK.br' (fun h => ?_) (fun h => ?_)
  · exact rfl
  simp (disch := omega) only [d_vi, d_vb, d_vr, d_ci, d_cb, d_nr, d_nl, d_add, d_sub, d_mul, d_rem, d_quo, d_bit, d_mn, d_mx, d_w, d_nn, d_bn, d_len, d_neg, d_at0, d_at1, d_at2, d_at3, d_at4, d_at5, d_at6, d_at7, d_set, d_app, d_cat, d_take, d_drop, d_rep, d_cons, d_lt_t, d_lt_f, d_le_t, d_le_f, d_eqi_t, d_eqi_f, d_eqb_t, d_eqb_f, d_nb_t, d_nb_f, nth0, nthS] at h
  refine (show Inv 0 _ from ?_)
  simp (disch := omega) only [Sb.val, List.map_cons, List.map_nil, d_vi, d_vb, d_vr, d_ci, d_cb, d_nr, d_nl, d_add, d_sub, d_mul, d_rem, d_quo, d_bit, d_mn, d_mx, d_w, d_nn, d_bn, d_len, d_neg, d_at0, d_at1, d_at2, d_at3, d_at4, d_at5, d_at6, d_at7, d_set, d_app, d_cat, d_take, d_drop, d_rep, d_cons, d_lt_t, d_lt_f, d_le_t, d_le_f, d_eqi_t, d_eqi_f, d_eqb_t, d_eqb_f, d_nb_t, d_nb_f, nth0, nthS, and3, and15, and65535, tmod_pos]
  refine .inl ⟨rfl, (a2 % 65536) % (a0 % 4 + 1), (a0 % 4 + 1) * (a1 % 4 + 1), IntKind.u64.wrap a3 % ((a0 % 4 + 1) * (a1 % 4 + 1)), 0, 0, a0 % 4 + 1, a1 % 4 + 1, 0, false, _, _, _, _, _, _, rfl, ?_, ?_, ⟨fun q g1 g2 => by omega, fun q g1 g2 => by simp only [cl_rep], fun z => by omega⟩, by simp⟩
  · unfold FB; rw [List.length_replicate, List.length_replicate]; generalize (a0 % 4 + 1) * (a1 % 4 + 1) = N at *; omega
  · unfold FI; generalize (a0 % 4 + 1) * (a1 % 4 + 1) = N at *; omega
theorem SnapSteps_walk (a0 a1 a2 a3 : Int) (A4 : Option Addr) (n4 c4 : Nat) (l4 : List (List Int)) (w : World) (wa0 : (Lit.int .i64 a0).wf = true) (wa1 : (Lit.int .i64 a1).wf = true) (wa2 : (Lit.int .i64 a2).wf = true) (wa3 : (Lit.int .i64 a3).wf = true) (hr4 : ArgRow w [.i .i64, .i .i64, .i .u64] A4 n4 c4 l4) :
    Calls Try.prog 7 #[.int .i64 a0, .int .i64 a1, .int .i64 a2, .int .i64 a3, .slice A4 n4 c4] w fun e w' => e = .returned (.bool true) ∧ Below w.heap.size w w' :=
  law_calls (v := ⟨[a0, a1, a2, a3], [], [l4], []⟩) (l := [⟨A4, n4, c4, [.i .i64, .i .i64, .i .u64], l4⟩]) (args := args) (args' := [.int .i64 a0, .int .i64 a1, .int .i64 a2, .int .i64 a3, .slice A4 n4 c4]) hI0 hfn hbod (by decide) rfl (by simpa using hr4)
    (.cons (.int _ _) (.cons (.int _ _) (.cons (.int _ _) (.cons (.int _ _) (.cons (arg_slice (id := 0) (s := ⟨A4, n4, c4, [.i .i64, .i .i64, .i .u64], l4⟩) (l := [⟨A4, n4, c4, [.i .i64, .i .i64, .i .u64], l4⟩]) rfl rfl hr4) (.nil _))))))
    (aw ⟨[a0, a1, a2, a3], [], [l4], []⟩ Inv μ KV.nil k0 k1 k2 k3 k4 (sS a0 a1 a2 a3 l4) s0 s1 s2 s3 s4)
end Go.Proofs.Ytnkgkdhddaongaa.KSnapSteps
