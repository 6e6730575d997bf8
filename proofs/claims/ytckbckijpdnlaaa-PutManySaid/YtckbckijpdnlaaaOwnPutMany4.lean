/- The law PutMany for 4 threads. A lemma file: conditions: so many threads. -/
import Derived.Test.YtckbckijpdnlaaaOwnPutMany4S
import Derived.Test.YtckbckijpdnlaaaOwnMany10
set_option linter.unusedVariables false
set_option linter.unusedSimpArgs false
set_option maxRecDepth 100000
set_option maxHeartbeats 16000000
namespace Go.Proofs.Ytckbckijpdnlaaa.KPutMany4
open Go Go.Lib Go.Proofs.Ytckbckijpdnlaaa.Eng Go.Proofs.Ytckbckijpdnlaaa.Sy Go.RowKit
def Wa (x y S src : Int) (p0 p1 p2 p3 : PSt) (r0 r1 r2 : Row) : Val := ⟨[x, y, S, src, p0.ph, p1.ph, p2.ph, p3.ph, p0.c.k, p0.c.g, p0.c.ws, p0.c.we, p0.c.wg, p0.c.wl, p0.c.wh, p0.c.ph, p0.t.n, p0.t.a, p0.t.b, p0.t.lo, p0.t.hi, p0.t.ph, p1.c.k, p1.c.g, p1.c.ws, p1.c.we, p1.c.wg, p1.c.wl, p1.c.wh, p1.c.ph, p1.t.n, p1.t.a, p1.t.b, p1.t.lo, p1.t.hi, p1.t.ph, p2.c.k, p2.c.g, p2.c.ws, p2.c.we, p2.c.wg, p2.c.wl, p2.c.wh, p2.c.ph, p2.t.n, p2.t.a, p2.t.b, p2.t.lo, p2.t.hi, p2.t.ph, p3.c.k, p3.c.g, p3.c.ws, p3.c.we, p3.c.wg, p3.c.wl, p3.c.wh, p3.c.ph, p3.t.n, p3.t.a, p3.t.b, p3.t.lo, p3.t.hi, p3.t.ph], [p0.st, p1.st, p2.st, p3.st], [r0, r1, r2], [], Φ⟩
def Wb (x n d y S src : Int) (p0 p1 p2 p3 : PSt) (r0 r1 r2 : Row) : Val := ⟨[x, n, d, y, S, src, p0.ph, p1.ph, p2.ph, p3.ph, p0.c.k, p0.c.g, p0.c.ws, p0.c.we, p0.c.wg, p0.c.wl, p0.c.wh, p0.c.ph, p0.t.n, p0.t.a, p0.t.b, p0.t.lo, p0.t.hi, p0.t.ph, p1.c.k, p1.c.g, p1.c.ws, p1.c.we, p1.c.wg, p1.c.wl, p1.c.wh, p1.c.ph, p1.t.n, p1.t.a, p1.t.b, p1.t.lo, p1.t.hi, p1.t.ph, p2.c.k, p2.c.g, p2.c.ws, p2.c.we, p2.c.wg, p2.c.wl, p2.c.wh, p2.c.ph, p2.t.n, p2.t.a, p2.t.b, p2.t.lo, p2.t.hi, p2.t.ph, p3.c.k, p3.c.g, p3.c.ws, p3.c.we, p3.c.wg, p3.c.wl, p3.c.wh, p3.c.ph, p3.t.n, p3.t.a, p3.t.b, p3.t.lo, p3.t.hi, p3.t.ph], [p0.st, p1.st, p2.st, p3.st], [r0, r1, r2], [], Φ⟩
def Inv0 (v : Val) : Prop := ∃ now idx S src p0 p1 p2 p3 r0 r1 r2, v = Wa now idx S src p0 p1 p2 p3 r0 r1 r2 ∧ Com 4 S src now r1 ∧ (One 4 S src now r1 0 p0 ∧ One 4 S src now r1 1 p1 ∧ One 4 S src now r1 2 p2 ∧ One 4 S src now r1 3 p3) ∧ (0 ≤ idx ∧ idx ≤ (r0.length : Int)) ∧ (r0.length : Int) ≤ 200 ∧ now = idx ∧ (r2.length : Int) ≤ now ∧ PotB 4 S src p0 (putMost 4 S src 1) ∧ PotB 4 S src p1 (putMost 4 S src 1) ∧ PotB 4 S src p2 (putMost 4 S src 1) ∧ PotB 4 S src p3 (putMost 4 S src 1)
def Inv1 (v : Val) : Prop := ∃ now n S src p0 p1 p2 p3 r0 r1 r2, v = Wa now n S src p0 p1 p2 p3 r0 r1 r2 ∧ Com 4 S src now r1 ∧ (One 4 S src now r1 0 p0 ∧ One 4 S src now r1 1 p1 ∧ One 4 S src now r1 2 p2 ∧ One 4 S src now r1 3 p3) ∧ (0 ≤ n ∧ n ≤ putMost 4 S src 1) ∧ now ≤ 200 + n * 4 ∧ (r2.length : Int) ≤ now ∧ PotB 4 S src p0 (putMost 4 S src 1 - n) ∧ PotB 4 S src p1 (putMost 4 S src 1 - n) ∧ PotB 4 S src p2 (putMost 4 S src 1 - n) ∧ PotB 4 S src p3 (putMost 4 S src 1 - n)
def Inv2 (v : Val) : Prop := ∃ now n d idx S src p0 p1 p2 p3 r0 r1 r2, v = Wb now n d idx S src p0 p1 p2 p3 r0 r1 r2 ∧ d = 4 ∧ Com 4 S src now r1 ∧ (One 4 S src now r1 0 p0 ∧ One 4 S src now r1 1 p1 ∧ One 4 S src now r1 2 p2 ∧ One 4 S src now r1 3 p3) ∧ (0 ≤ n ∧ n < putMost 4 S src 1) ∧ (0 ≤ idx ∧ idx ≤ 4) ∧ now ≤ 200 + n * 4 + idx ∧ (r2.length : Int) ≤ now ∧ (PotB 4 S src p0 (putMost 4 S src 1 - n) ∧ PotB 4 S src p1 (putMost 4 S src 1 - n) ∧ PotB 4 S src p2 (putMost 4 S src 1 - n) ∧ PotB 4 S src p3 (putMost 4 S src 1 - n)) ∧ ((0 < idx → PotB 4 S src p0 (putMost 4 S src 1 - n - 1)) ∧ (1 < idx → PotB 4 S src p1 (putMost 4 S src 1 - n - 1)) ∧ (2 < idx → PotB 4 S src p2 (putMost 4 S src 1 - n - 1)) ∧ (3 < idx → PotB 4 S src p3 (putMost 4 S src 1 - n - 1)))
def Inv3 (v : Val) : Prop := ∃ x y now S src p0 p1 p2 p3 r0 r1 r2, v = Wa x y S src p0 p1 p2 p3 r0 r1 r2 ∧ x = 4 ∧ Com 4 S src now r1 ∧ (One 4 S src now r1 0 p0 ∧ One 4 S src now r1 1 p1 ∧ One 4 S src now r1 2 p2 ∧ One 4 S src now r1 3 p3) ∧ (0 ≤ y ∧ y ≤ 4) ∧ now ≤ 500 ∧ (r2.length : Int) ≤ now ∧ ¬ p0.ph = 0 ∧ ¬ p1.ph = 0 ∧ ¬ p2.ph = 0 ∧ ¬ p3.ph = 0
def Inv (k : Nat) (v : Val) : Prop := (k = 0 ∧ Inv0 v) ∨ (k = 1 ∧ Inv1 v) ∨ (k = 2 ∧ Inv2 v) ∨ (k = 3 ∧ Inv3 v)
theorem inv0 {v : Val} (h : Inv 0 v) : Inv0 v := by rcases h with ⟨_, h⟩ | ⟨h, _⟩ | ⟨h, _⟩ | ⟨h, _⟩ <;> first | exact h | cases h
theorem inv1 {v : Val} (h : Inv 1 v) : Inv1 v := by rcases h with ⟨h, _⟩ | ⟨_, h⟩ | ⟨h, _⟩ | ⟨h, _⟩ <;> first | exact h | cases h
theorem inv2 {v : Val} (h : Inv 2 v) : Inv2 v := by rcases h with ⟨h, _⟩ | ⟨h, _⟩ | ⟨_, h⟩ | ⟨h, _⟩ <;> first | exact h | cases h
theorem inv3 {v : Val} (h : Inv 3 v) : Inv3 v := by rcases h with ⟨h, _⟩ | ⟨h, _⟩ | ⟨h, _⟩ | ⟨_, h⟩ <;> first | exact h | cases h
def μ (q : Nat × Val) : Nat × Nat := match q.1 with
  | 0 => (1000, (300 - nth 0 q.2.i 1).toNat)
  | 1 => ((300 - 2 * nth 0 q.2.i 1).toNat, 0)
  | 2 => ((299 - 2 * nth 0 q.2.i 1).toNat, (10 - nth 0 q.2.i 3).toNat)
  | _ => (0, (10 - nth 0 q.2.i 1).toNat)
theorem hΦ : ∀ k v, Inv k v → v.f = Φ := by
  rintro k v (⟨_, ⟨now, idx, S, src, p0, p1, p2, p3, r0, r1, r2, rfl, hC, ⟨h0, h1, h2, h3⟩, g1, g2, g3, g4, q0, q1, q2, q3⟩⟩ | ⟨_, ⟨now, n, S, src, p0, p1, p2, p3, r0, r1, r2, rfl, hC, ⟨h0, h1, h2, h3⟩, g1, g2, g3, q0, q1, q2, q3⟩⟩ | ⟨_, ⟨now, n, d, idx, S, src, p0, p1, p2, p3, r0, r1, r2, rfl, hd, hC, ⟨h0, h1, h2, h3⟩, g1, g2, g3, g4, ⟨q0, q1, q2, q3⟩, ⟨i0, i1, i2, i3⟩⟩⟩ | ⟨_, ⟨x, y, now, S, src, p0, p1, p2, p3, r0, r1, r2, rfl, hd, hC, ⟨h0, h1, h2, h3⟩, g1, g2, g3, q0, q1, q2, q3⟩⟩) <;> rfl
theorem k0 : ∀ v, Inv 0 v → KV v tm0.kn := by
  intro v hv
  obtain ⟨now, idx, S, src, p0, p1, p2, p3, r0, r1, r2, rfl, hC, ⟨h0, h1, h2, h3⟩, g1, g2, g3, g4, q0, q1, q2, q3⟩ := inv0 hv
  have lb := hC.lb; have len := hC.len; have nn := hC.nn
  have hm := most27 (T := 4) (S := S) (src := src) (dl := 1) (who := 0) (by unfold LB; omega) (by decide)
  clear hC q0 q1 q2 q3
  obtain ⟨⟨pc0, pw0, pt0, pp0, pq0, _⟩, ph0, _⟩ := h0
  unfold CB at pc0; unfold CW at pw0; unfold TB at pt0; unfold LH at ph0
  have pw0a := pw0.1; have pw0b := pw0.2.1
  have pt0a : 0 ≤ p0.t.n ∧ p0.t.n ≤ 200 ∧ 0 ≤ p0.t.a ∧ p0.t.a ≤ 16777215 ∧ 0 ≤ p0.t.b ∧ p0.t.b ≤ 16777215 ∧ 0 ≤ p0.t.ph ∧ p0.t.ph ≤ 2 := by omega
  clear pw0 pt0
  obtain ⟨⟨pc1, pw1, pt1, pp1, pq1, _⟩, ph1, _⟩ := h1
  unfold CB at pc1; unfold CW at pw1; unfold TB at pt1; unfold LH at ph1
  have pw1a := pw1.1; have pw1b := pw1.2.1
  have pt1a : 0 ≤ p1.t.n ∧ p1.t.n ≤ 200 ∧ 0 ≤ p1.t.a ∧ p1.t.a ≤ 16777215 ∧ 0 ≤ p1.t.b ∧ p1.t.b ≤ 16777215 ∧ 0 ≤ p1.t.ph ∧ p1.t.ph ≤ 2 := by omega
  clear pw1 pt1
  obtain ⟨⟨pc2, pw2, pt2, pp2, pq2, _⟩, ph2, _⟩ := h2
  unfold CB at pc2; unfold CW at pw2; unfold TB at pt2; unfold LH at ph2
  have pw2a := pw2.1; have pw2b := pw2.2.1
  have pt2a : 0 ≤ p2.t.n ∧ p2.t.n ≤ 200 ∧ 0 ≤ p2.t.a ∧ p2.t.a ≤ 16777215 ∧ 0 ≤ p2.t.b ∧ p2.t.b ≤ 16777215 ∧ 0 ≤ p2.t.ph ∧ p2.t.ph ≤ 2 := by omega
  clear pw2 pt2
  obtain ⟨⟨pc3, pw3, pt3, pp3, pq3, _⟩, ph3, _⟩ := h3
  unfold CB at pc3; unfold CW at pw3; unfold TB at pt3; unfold LH at ph3
  have pw3a := pw3.1; have pw3b := pw3.2.1
  have pt3a : 0 ≤ p3.t.n ∧ p3.t.n ≤ 200 ∧ 0 ≤ p3.t.a ∧ p3.t.a ≤ 16777215 ∧ 0 ≤ p3.t.b ∧ p3.t.b ≤ 16777215 ∧ 0 ≤ p3.t.ph ∧ p3.t.ph ≤ 2 := by omega
  clear pw3 pt3
  unfold tm0 KV Wa
  simp only [List.forall_mem_cons, d_vi, d_vb, d_vr, d_ci, d_cb, d_nr, d_nl, d_add, d_sub, d_mul, d_rem, d_quo, d_bit, d_mn, d_mx, d_w, d_nn, d_bn, d_len, d_neg, d_at0, d_at1, d_at2, d_at3, d_at4, d_at5, d_at6, d_at7, d_set, d_app, d_cat, d_take, d_drop, d_rep, d_cons, d_lt_t, d_lt_f, d_le_t, d_le_f, d_eqi_t, d_eqi_f, d_eqb_t, d_eqb_f, d_nb_t, d_nb_f, nth0, nthS, d_api, d_apr, D_cons, D_nl, D_nr, D_vr, D_set, mkL_l, mkR_r, mkI_i, d_apb, mkB_b]
  simp only [List.not_mem_nil, false_imp_iff, implies_true, and_true]
  omega
theorem k1 : ∀ v, Inv 1 v → KV v tm1.kn := by
  intro v hv
  obtain ⟨now, n, S, src, p0, p1, p2, p3, r0, r1, r2, rfl, hC, ⟨h0, h1, h2, h3⟩, g1, g2, g3, q0, q1, q2, q3⟩ := inv1 hv
  have lb := hC.lb; have len := hC.len; have nn := hC.nn
  have hm := most27 (T := 4) (S := S) (src := src) (dl := 1) (who := 0) (by unfold LB; omega) (by decide)
  clear hC q0 q1 q2 q3
  obtain ⟨⟨pc0, pw0, pt0, pp0, pq0, _⟩, ph0, _⟩ := h0
  unfold CB at pc0; unfold CW at pw0; unfold TB at pt0; unfold LH at ph0
  have pw0a := pw0.1; have pw0b := pw0.2.1
  have pt0a : 0 ≤ p0.t.n ∧ p0.t.n ≤ 200 ∧ 0 ≤ p0.t.a ∧ p0.t.a ≤ 16777215 ∧ 0 ≤ p0.t.b ∧ p0.t.b ≤ 16777215 ∧ 0 ≤ p0.t.ph ∧ p0.t.ph ≤ 2 := by omega
  clear pw0 pt0
  obtain ⟨⟨pc1, pw1, pt1, pp1, pq1, _⟩, ph1, _⟩ := h1
  unfold CB at pc1; unfold CW at pw1; unfold TB at pt1; unfold LH at ph1
  have pw1a := pw1.1; have pw1b := pw1.2.1
  have pt1a : 0 ≤ p1.t.n ∧ p1.t.n ≤ 200 ∧ 0 ≤ p1.t.a ∧ p1.t.a ≤ 16777215 ∧ 0 ≤ p1.t.b ∧ p1.t.b ≤ 16777215 ∧ 0 ≤ p1.t.ph ∧ p1.t.ph ≤ 2 := by omega
  clear pw1 pt1
  obtain ⟨⟨pc2, pw2, pt2, pp2, pq2, _⟩, ph2, _⟩ := h2
  unfold CB at pc2; unfold CW at pw2; unfold TB at pt2; unfold LH at ph2
  have pw2a := pw2.1; have pw2b := pw2.2.1
  have pt2a : 0 ≤ p2.t.n ∧ p2.t.n ≤ 200 ∧ 0 ≤ p2.t.a ∧ p2.t.a ≤ 16777215 ∧ 0 ≤ p2.t.b ∧ p2.t.b ≤ 16777215 ∧ 0 ≤ p2.t.ph ∧ p2.t.ph ≤ 2 := by omega
  clear pw2 pt2
  obtain ⟨⟨pc3, pw3, pt3, pp3, pq3, _⟩, ph3, _⟩ := h3
  unfold CB at pc3; unfold CW at pw3; unfold TB at pt3; unfold LH at ph3
  have pw3a := pw3.1; have pw3b := pw3.2.1
  have pt3a : 0 ≤ p3.t.n ∧ p3.t.n ≤ 200 ∧ 0 ≤ p3.t.a ∧ p3.t.a ≤ 16777215 ∧ 0 ≤ p3.t.b ∧ p3.t.b ≤ 16777215 ∧ 0 ≤ p3.t.ph ∧ p3.t.ph ≤ 2 := by omega
  clear pw3 pt3
  unfold tm1 KV Wa
  simp only [List.forall_mem_cons, d_vi, d_vb, d_vr, d_ci, d_cb, d_nr, d_nl, d_add, d_sub, d_mul, d_rem, d_quo, d_bit, d_mn, d_mx, d_w, d_nn, d_bn, d_len, d_neg, d_at0, d_at1, d_at2, d_at3, d_at4, d_at5, d_at6, d_at7, d_set, d_app, d_cat, d_take, d_drop, d_rep, d_cons, d_lt_t, d_lt_f, d_le_t, d_le_f, d_eqi_t, d_eqi_f, d_eqb_t, d_eqb_f, d_nb_t, d_nb_f, nth0, nthS, d_api, d_apr, D_cons, D_nl, D_nr, D_vr, D_set, mkL_l, mkR_r, mkI_i, d_apb, mkB_b]
  simp only [List.not_mem_nil, false_imp_iff, implies_true, and_true]
  omega
theorem k2 : ∀ v, Inv 2 v → KV v tm2.kn := by
  intro v hv
  obtain ⟨now, n, d, idx, S, src, p0, p1, p2, p3, r0, r1, r2, rfl, hd, hC, ⟨h0, h1, h2, h3⟩, g1, g2, g3, g4, ⟨q0, q1, q2, q3⟩, ⟨i0, i1, i2, i3⟩⟩ := inv2 hv
  have lb := hC.lb; have len := hC.len; have nn := hC.nn
  have hm := most27 (T := 4) (S := S) (src := src) (dl := 1) (who := 0) (by unfold LB; omega) (by decide)
  clear hC q0 q1 q2 q3 i0 i1 i2 i3
  obtain ⟨⟨pc0, pw0, pt0, pp0, pq0, _⟩, ph0, _⟩ := h0
  unfold CB at pc0; unfold CW at pw0; unfold TB at pt0; unfold LH at ph0
  have pw0a := pw0.1; have pw0b := pw0.2.1
  have pt0a : 0 ≤ p0.t.n ∧ p0.t.n ≤ 200 ∧ 0 ≤ p0.t.a ∧ p0.t.a ≤ 16777215 ∧ 0 ≤ p0.t.b ∧ p0.t.b ≤ 16777215 ∧ 0 ≤ p0.t.ph ∧ p0.t.ph ≤ 2 := by omega
  clear pw0 pt0
  obtain ⟨⟨pc1, pw1, pt1, pp1, pq1, _⟩, ph1, _⟩ := h1
  unfold CB at pc1; unfold CW at pw1; unfold TB at pt1; unfold LH at ph1
  have pw1a := pw1.1; have pw1b := pw1.2.1
  have pt1a : 0 ≤ p1.t.n ∧ p1.t.n ≤ 200 ∧ 0 ≤ p1.t.a ∧ p1.t.a ≤ 16777215 ∧ 0 ≤ p1.t.b ∧ p1.t.b ≤ 16777215 ∧ 0 ≤ p1.t.ph ∧ p1.t.ph ≤ 2 := by omega
  clear pw1 pt1
  obtain ⟨⟨pc2, pw2, pt2, pp2, pq2, _⟩, ph2, _⟩ := h2
  unfold CB at pc2; unfold CW at pw2; unfold TB at pt2; unfold LH at ph2
  have pw2a := pw2.1; have pw2b := pw2.2.1
  have pt2a : 0 ≤ p2.t.n ∧ p2.t.n ≤ 200 ∧ 0 ≤ p2.t.a ∧ p2.t.a ≤ 16777215 ∧ 0 ≤ p2.t.b ∧ p2.t.b ≤ 16777215 ∧ 0 ≤ p2.t.ph ∧ p2.t.ph ≤ 2 := by omega
  clear pw2 pt2
  obtain ⟨⟨pc3, pw3, pt3, pp3, pq3, _⟩, ph3, _⟩ := h3
  unfold CB at pc3; unfold CW at pw3; unfold TB at pt3; unfold LH at ph3
  have pw3a := pw3.1; have pw3b := pw3.2.1
  have pt3a : 0 ≤ p3.t.n ∧ p3.t.n ≤ 200 ∧ 0 ≤ p3.t.a ∧ p3.t.a ≤ 16777215 ∧ 0 ≤ p3.t.b ∧ p3.t.b ≤ 16777215 ∧ 0 ≤ p3.t.ph ∧ p3.t.ph ≤ 2 := by omega
  clear pw3 pt3
  unfold tm2 KV Wb
  simp only [List.forall_mem_cons, d_vi, d_vb, d_vr, d_ci, d_cb, d_nr, d_nl, d_add, d_sub, d_mul, d_rem, d_quo, d_bit, d_mn, d_mx, d_w, d_nn, d_bn, d_len, d_neg, d_at0, d_at1, d_at2, d_at3, d_at4, d_at5, d_at6, d_at7, d_set, d_app, d_cat, d_take, d_drop, d_rep, d_cons, d_lt_t, d_lt_f, d_le_t, d_le_f, d_eqi_t, d_eqi_f, d_eqb_t, d_eqb_f, d_nb_t, d_nb_f, nth0, nthS, d_api, d_apr, D_cons, D_nl, D_nr, D_vr, D_set, mkL_l, mkR_r, mkI_i, d_apb, mkB_b]
  simp only [List.not_mem_nil, false_imp_iff, implies_true, and_true]
  omega
theorem k3 : ∀ v, Inv 3 v → KV v tm3.kn := by
  intro v hv
  obtain ⟨x, y, now, S, src, p0, p1, p2, p3, r0, r1, r2, rfl, hd, hC, ⟨h0, h1, h2, h3⟩, g1, g2, g3, q0, q1, q2, q3⟩ := inv3 hv
  have lb := hC.lb; have len := hC.len; have nn := hC.nn
  have hm := most27 (T := 4) (S := S) (src := src) (dl := 1) (who := 0) (by unfold LB; omega) (by decide)
  clear hC q0 q1 q2 q3
  obtain ⟨⟨pc0, pw0, pt0, pp0, pq0, _⟩, ph0, _⟩ := h0
  unfold CB at pc0; unfold CW at pw0; unfold TB at pt0; unfold LH at ph0
  have pw0a := pw0.1; have pw0b := pw0.2.1
  have pt0a : 0 ≤ p0.t.n ∧ p0.t.n ≤ 200 ∧ 0 ≤ p0.t.a ∧ p0.t.a ≤ 16777215 ∧ 0 ≤ p0.t.b ∧ p0.t.b ≤ 16777215 ∧ 0 ≤ p0.t.ph ∧ p0.t.ph ≤ 2 := by omega
  clear pw0 pt0
  obtain ⟨⟨pc1, pw1, pt1, pp1, pq1, _⟩, ph1, _⟩ := h1
  unfold CB at pc1; unfold CW at pw1; unfold TB at pt1; unfold LH at ph1
  have pw1a := pw1.1; have pw1b := pw1.2.1
  have pt1a : 0 ≤ p1.t.n ∧ p1.t.n ≤ 200 ∧ 0 ≤ p1.t.a ∧ p1.t.a ≤ 16777215 ∧ 0 ≤ p1.t.b ∧ p1.t.b ≤ 16777215 ∧ 0 ≤ p1.t.ph ∧ p1.t.ph ≤ 2 := by omega
  clear pw1 pt1
  obtain ⟨⟨pc2, pw2, pt2, pp2, pq2, _⟩, ph2, _⟩ := h2
  unfold CB at pc2; unfold CW at pw2; unfold TB at pt2; unfold LH at ph2
  have pw2a := pw2.1; have pw2b := pw2.2.1
  have pt2a : 0 ≤ p2.t.n ∧ p2.t.n ≤ 200 ∧ 0 ≤ p2.t.a ∧ p2.t.a ≤ 16777215 ∧ 0 ≤ p2.t.b ∧ p2.t.b ≤ 16777215 ∧ 0 ≤ p2.t.ph ∧ p2.t.ph ≤ 2 := by omega
  clear pw2 pt2
  obtain ⟨⟨pc3, pw3, pt3, pp3, pq3, _⟩, ph3, _⟩ := h3
  unfold CB at pc3; unfold CW at pw3; unfold TB at pt3; unfold LH at ph3
  have pw3a := pw3.1; have pw3b := pw3.2.1
  have pt3a : 0 ≤ p3.t.n ∧ p3.t.n ≤ 200 ∧ 0 ≤ p3.t.a ∧ p3.t.a ≤ 16777215 ∧ 0 ≤ p3.t.b ∧ p3.t.b ≤ 16777215 ∧ 0 ≤ p3.t.ph ∧ p3.t.ph ≤ 2 := by omega
  clear pw3 pt3
  unfold tm3 KV Wa
  simp only [List.forall_mem_cons, d_vi, d_vb, d_vr, d_ci, d_cb, d_nr, d_nl, d_add, d_sub, d_mul, d_rem, d_quo, d_bit, d_mn, d_mx, d_w, d_nn, d_bn, d_len, d_neg, d_at0, d_at1, d_at2, d_at3, d_at4, d_at5, d_at6, d_at7, d_set, d_app, d_cat, d_take, d_drop, d_rep, d_cons, d_lt_t, d_lt_f, d_le_t, d_le_f, d_eqi_t, d_eqi_f, d_eqb_t, d_eqb_f, d_nb_t, d_nb_f, nth0, nthS, d_api, d_apr, D_cons, D_nl, D_nr, D_vr, D_set, mkL_l, mkR_r, mkI_i, d_apb, mkB_b]
  simp only [List.not_mem_nil, false_imp_iff, implies_true, and_true]
  omega
theorem s0 : ∀ v, Inv 0 v → TOK v (fun _ g => LgOK v (fun q u => Inv q u ∧ lt2 μ (q, u) (0, v)) g) tr0 := by
  intro v hv
  obtain ⟨now, idx, S, src, p0, p1, p2, p3, r0, r1, r2, rfl, hC, ⟨h0, h1, h2, h3⟩, g1, g2, g3, g4, q0, q1, q2, q3⟩ := inv0 hv
  have lb := hC.lb; have nn := hC.nn
  have K0 := many_step (w := 0) hC (by decide) (by decide) (by omega) h0
  rw [show (100 : Int) + 0 = 100 from rfl] at K0
  have K1 := many_step (w := 1) hC (by decide) (by decide) (by omega) h1
  rw [show (100 : Int) + 1 = 101 from rfl] at K1
  have K2 := many_step (w := 2) hC (by decide) (by decide) (by omega) h2
  rw [show (100 : Int) + 2 = 102 from rfl] at K2
  have K3 := many_step (w := 3) hC (by decide) (by decide) (by omega) h3
  rw [show (100 : Int) + 3 = 103 from rfl] at K3
  have out0 : idx < (r0.length : Int) → ∀ q' l' : Row, q' = ((putT 4 S src 1 0 1 100 r1 now p0).row r1) → (l'.length : Int) ≤ now + 1 → Inv 0 (Wa (now + 1) (idx + 1) S src (putStep 4 S src 1 0 r1 now p0) p1 p2 p3 r0 q' l') := fun z q' l' e0 e1 => by
    subst e0
    exact .inl ⟨rfl, now + 1, idx + 1, S, src, _, p1, p2, p3, r0, _, l', rfl, K0.com, ⟨K0.own, K0.oth 1 _ (by decide) (by decide) (by decide) h1, K0.oth 2 _ (by decide) (by decide) (by decide) h2, K0.oth 3 _ (by decide) (by decide) (by decide) h3⟩, by omega, g2, by omega, e1, (K0.pot _ q0).mono (by omega), q1, q2, q3⟩
  have out1 : idx < (r0.length : Int) → ∀ q' l' : Row, q' = ((putT 4 S src 1 1 1 101 r1 now p1).row r1) → (l'.length : Int) ≤ now + 1 → Inv 0 (Wa (now + 1) (idx + 1) S src p0 (putStep 4 S src 1 1 r1 now p1) p2 p3 r0 q' l') := fun z q' l' e0 e1 => by
    subst e0
    exact .inl ⟨rfl, now + 1, idx + 1, S, src, p0, _, p2, p3, r0, _, l', rfl, K1.com, ⟨K1.oth 0 _ (by decide) (by decide) (by decide) h0, K1.own, K1.oth 2 _ (by decide) (by decide) (by decide) h2, K1.oth 3 _ (by decide) (by decide) (by decide) h3⟩, by omega, g2, by omega, e1, q0, (K1.pot _ q1).mono (by omega), q2, q3⟩
  have out2 : idx < (r0.length : Int) → ∀ q' l' : Row, q' = ((putT 4 S src 1 2 1 102 r1 now p2).row r1) → (l'.length : Int) ≤ now + 1 → Inv 0 (Wa (now + 1) (idx + 1) S src p0 p1 (putStep 4 S src 1 2 r1 now p2) p3 r0 q' l') := fun z q' l' e0 e1 => by
    subst e0
    exact .inl ⟨rfl, now + 1, idx + 1, S, src, p0, p1, _, p3, r0, _, l', rfl, K2.com, ⟨K2.oth 0 _ (by decide) (by decide) (by decide) h0, K2.oth 1 _ (by decide) (by decide) (by decide) h1, K2.own, K2.oth 3 _ (by decide) (by decide) (by decide) h3⟩, by omega, g2, by omega, e1, q0, q1, (K2.pot _ q2).mono (by omega), q3⟩
  have out3 : idx < (r0.length : Int) → ∀ q' l' : Row, q' = ((putT 4 S src 1 3 1 103 r1 now p3).row r1) → (l'.length : Int) ≤ now + 1 → Inv 0 (Wa (now + 1) (idx + 1) S src p0 p1 p2 (putStep 4 S src 1 3 r1 now p3) r0 q' l') := fun z q' l' e0 e1 => by
    subst e0
    exact .inl ⟨rfl, now + 1, idx + 1, S, src, p0, p1, p2, _, r0, _, l', rfl, K3.com, ⟨K3.oth 0 _ (by decide) (by decide) (by decide) h0, K3.oth 1 _ (by decide) (by decide) (by decide) h1, K3.oth 2 _ (by decide) (by decide) (by decide) h2, K3.own⟩, by omega, g2, by omega, e1, q0, q1, q2, (K3.pot _ q3).mono (by omega)⟩
  have dec : ∀ x : Val, idx < (r0.length : Int) → nth 0 x.i 1 = idx + 1 → True = True → lt2 μ (0, x) (0, Wa now idx S src p0 p1 p2 p3 r0 r1 r2) := fun x z e _ => .inr ⟨rfl, by
    show (300 - nth 0 x.i 1).toNat < (300 - idx).toNat
    omega⟩
  unfold tr0
  refine TOK.br' (fun hi => ?_) (fun hi => ?_) <;> simp only [Wa, d_vi, d_vb, d_vr, d_ci, d_cb, d_nr, d_nl, d_add, d_sub, d_mul, d_rem, d_quo, d_bit, d_mn2, d_mx2, d_w, d_nn, d_bn2, d_len, d_neg, d_cl, d_at1, d_at2, d_at3, d_at4, d_at5, d_at6, d_at7, d_set, d_app, d_cat, d_take, d_drop, d_rep, d_cons, d_lt_t, d_lt_f, d_le_t, d_le_f, d_eqi_t, d_eqi_f, d_eqb_t, d_eqb_f, d_nb_t, d_nb_f, nth0, nthS, d_api, d_apr, D_cons, D_nl, D_nr, D_vr, D_set, mkL_l, mkR_r, mkI_i, d_shr2, d_shr3, d_shr16, d_shr40, d_shl2, d_shl3, d_shl16, d_shl40, d_apb, mkB_b] at hi
  · refine TOK.br' (fun hx0 => ?_) (fun hx0 => ?_) <;> simp only [Wa, d_vi, d_vb, d_vr, d_ci, d_cb, d_nr, d_nl, d_add, d_sub, d_mul, d_rem, d_quo, d_bit, d_mn2, d_mx2, d_w, d_nn, d_bn2, d_len, d_neg, d_cl, d_at1, d_at2, d_at3, d_at4, d_at5, d_at6, d_at7, d_set, d_app, d_cat, d_take, d_drop, d_rep, d_cons, d_lt_t, d_lt_f, d_le_t, d_le_f, d_eqi_t, d_eqi_f, d_eqb_t, d_eqb_f, d_nb_t, d_nb_f, nth0, nthS, d_api, d_apr, D_cons, D_nl, D_nr, D_vr, D_set, mkL_l, mkR_r, mkI_i, d_shr2, d_shr3, d_shr16, d_shr40, d_shl2, d_shl3, d_shl16, d_shl40, d_apb, mkB_b] at hx0
    · refine TOK.br' (fun hc => ?_) (fun hc => ?_) <;> simp only [Wa, d_vi, d_vb, d_vr, d_ci, d_cb, d_nr, d_nl, d_add, d_sub, d_mul, d_rem, d_quo, d_bit, d_mn2, d_mx2, d_w, d_nn, d_bn2, d_len, d_neg, d_cl, d_at1, d_at2, d_at3, d_at4, d_at5, d_at6, d_at7, d_set, d_app, d_cat, d_take, d_drop, d_rep, d_cons, d_lt_t, d_lt_f, d_le_t, d_le_f, d_eqi_t, d_eqi_f, d_eqb_t, d_eqb_f, d_nb_t, d_nb_f, nth0, nthS, d_api, d_apr, D_cons, D_nl, D_nr, D_vr, D_set, mkL_l, mkR_r, mkI_i, d_shr2, d_shr3, d_shr16, d_shr40, d_shl2, d_shl3, d_shl16, d_shl40, d_apb, mkB_b, Φ100, Φ101, Φ102, Φ103, Φ104, Φ105, Φ106, Φ107, Φ108, Φ200, Φ201, Φ202, Φ203, Φ204, Φ205, Φ206, Φ207, Φ208, Φ209, Φ0, Φ1, Φ10, Φ300, Φ301, Φ302, Φ303, Φ304, Φ305, Φ306, Φ307, Φ308, Φ309, Φ310, Φ311, Φ312, Φ313, Φ314, Φ315, Φ316, Φ317, Φ318, Φ319, Φ20, Φ11, Φ30, Φ31, Φ32, Φ400, Φ401, Φ402, Φ403, Φ404, Φ405, Φ406, Φ407, pst, b2i_dec] at hc <;> refine TOK.leaf' ?_
      · refine And.intro (?_ : Inv 0 _) (?_ : lt2 μ (0, _) _) <;> simp (disch := omega) only [Wa, Sb.val, List.map_cons, List.map_nil, d_vi, d_vb, d_vr, d_ci, d_cb, d_nr, d_nl, d_add, d_sub, d_mul, d_rem, d_quo, d_bit, d_mn2, d_mx2, d_w, d_nn, d_bn2, d_len, d_neg, d_cl, d_at1, d_at2, d_at3, d_at4, d_at5, d_at6, d_at7, d_set, d_app, d_cat, d_take, d_drop, d_rep, d_cons, d_lt_t, d_lt_f, d_le_t, d_le_f, d_eqi_t, d_eqi_f, d_eqb_t, d_eqb_f, d_nb_t, d_nb_f, nth0, nthS, d_api, d_apr, D_cons, D_nl, D_nr, D_vr, D_set, mkL_l, mkR_r, mkI_i, d_shr2, d_shr3, d_shr16, d_shr40, d_shl2, d_shl3, d_shl16, d_shl40, d_apb, mkB_b, Φ100, Φ101, Φ102, Φ103, Φ104, Φ105, Φ106, Φ107, Φ108, Φ200, Φ201, Φ202, Φ203, Φ204, Φ205, Φ206, Φ207, Φ208, Φ209, Φ0, Φ1, Φ10, Φ300, Φ301, Φ302, Φ303, Φ304, Φ305, Φ306, Φ307, Φ308, Φ309, Φ310, Φ311, Φ312, Φ313, Φ314, Φ315, Φ316, Φ317, Φ318, Φ319, Φ20, Φ11, Φ30, Φ31, Φ32, Φ400, Φ401, Φ402, Φ403, Φ404, Φ405, Φ406, Φ407, pst, b2i_dec, w64]
        · exact out0 hi r1 r2 (by unfold Tch.row; rw [if_pos hc]) (by omega)
        · exact dec _ hi rfl rfl
      · refine And.intro (?_ : Inv 0 _) (?_ : lt2 μ (0, _) _) <;> simp (disch := omega) only [Wa, Sb.val, List.map_cons, List.map_nil, d_vi, d_vb, d_vr, d_ci, d_cb, d_nr, d_nl, d_add, d_sub, d_mul, d_rem, d_quo, d_bit, d_mn2, d_mx2, d_w, d_nn, d_bn2, d_len, d_neg, d_cl, d_at1, d_at2, d_at3, d_at4, d_at5, d_at6, d_at7, d_set, d_app, d_cat, d_take, d_drop, d_rep, d_cons, d_lt_t, d_lt_f, d_le_t, d_le_f, d_eqi_t, d_eqi_f, d_eqb_t, d_eqb_f, d_nb_t, d_nb_f, nth0, nthS, d_api, d_apr, D_cons, D_nl, D_nr, D_vr, D_set, mkL_l, mkR_r, mkI_i, d_shr2, d_shr3, d_shr16, d_shr40, d_shl2, d_shl3, d_shl16, d_shl40, d_apb, mkB_b, Φ100, Φ101, Φ102, Φ103, Φ104, Φ105, Φ106, Φ107, Φ108, Φ200, Φ201, Φ202, Φ203, Φ204, Φ205, Φ206, Φ207, Φ208, Φ209, Φ0, Φ1, Φ10, Φ300, Φ301, Φ302, Φ303, Φ304, Φ305, Φ306, Φ307, Φ308, Φ309, Φ310, Φ311, Φ312, Φ313, Φ314, Φ315, Φ316, Φ317, Φ318, Φ319, Φ20, Φ11, Φ30, Φ31, Φ32, Φ400, Φ401, Φ402, Φ403, Φ404, Φ405, Φ406, Φ407, pst, b2i_dec, w64]
        · exact out0 hi _ _ (by unfold Tch.row; rw [if_neg (Int.not_lt.mpr hc)]) (by rw [List.length_append, List.length_singleton]; omega)
        · exact dec _ hi rfl rfl
    · refine TOK.br' (fun hx1 => ?_) (fun hx1 => ?_) <;> simp only [Wa, d_vi, d_vb, d_vr, d_ci, d_cb, d_nr, d_nl, d_add, d_sub, d_mul, d_rem, d_quo, d_bit, d_mn2, d_mx2, d_w, d_nn, d_bn2, d_len, d_neg, d_cl, d_at1, d_at2, d_at3, d_at4, d_at5, d_at6, d_at7, d_set, d_app, d_cat, d_take, d_drop, d_rep, d_cons, d_lt_t, d_lt_f, d_le_t, d_le_f, d_eqi_t, d_eqi_f, d_eqb_t, d_eqb_f, d_nb_t, d_nb_f, nth0, nthS, d_api, d_apr, D_cons, D_nl, D_nr, D_vr, D_set, mkL_l, mkR_r, mkI_i, d_shr2, d_shr3, d_shr16, d_shr40, d_shl2, d_shl3, d_shl16, d_shl40, d_apb, mkB_b] at hx1
      · refine TOK.br' (fun hc => ?_) (fun hc => ?_) <;> simp only [Wa, d_vi, d_vb, d_vr, d_ci, d_cb, d_nr, d_nl, d_add, d_sub, d_mul, d_rem, d_quo, d_bit, d_mn2, d_mx2, d_w, d_nn, d_bn2, d_len, d_neg, d_cl, d_at1, d_at2, d_at3, d_at4, d_at5, d_at6, d_at7, d_set, d_app, d_cat, d_take, d_drop, d_rep, d_cons, d_lt_t, d_lt_f, d_le_t, d_le_f, d_eqi_t, d_eqi_f, d_eqb_t, d_eqb_f, d_nb_t, d_nb_f, nth0, nthS, d_api, d_apr, D_cons, D_nl, D_nr, D_vr, D_set, mkL_l, mkR_r, mkI_i, d_shr2, d_shr3, d_shr16, d_shr40, d_shl2, d_shl3, d_shl16, d_shl40, d_apb, mkB_b, Φ100, Φ101, Φ102, Φ103, Φ104, Φ105, Φ106, Φ107, Φ108, Φ200, Φ201, Φ202, Φ203, Φ204, Φ205, Φ206, Φ207, Φ208, Φ209, Φ0, Φ1, Φ10, Φ300, Φ301, Φ302, Φ303, Φ304, Φ305, Φ306, Φ307, Φ308, Φ309, Φ310, Φ311, Φ312, Φ313, Φ314, Φ315, Φ316, Φ317, Φ318, Φ319, Φ20, Φ11, Φ30, Φ31, Φ32, Φ400, Φ401, Φ402, Φ403, Φ404, Φ405, Φ406, Φ407, pst, b2i_dec] at hc <;> refine TOK.leaf' ?_
        · refine And.intro (?_ : Inv 0 _) (?_ : lt2 μ (0, _) _) <;> simp (disch := omega) only [Wa, Sb.val, List.map_cons, List.map_nil, d_vi, d_vb, d_vr, d_ci, d_cb, d_nr, d_nl, d_add, d_sub, d_mul, d_rem, d_quo, d_bit, d_mn2, d_mx2, d_w, d_nn, d_bn2, d_len, d_neg, d_cl, d_at1, d_at2, d_at3, d_at4, d_at5, d_at6, d_at7, d_set, d_app, d_cat, d_take, d_drop, d_rep, d_cons, d_lt_t, d_lt_f, d_le_t, d_le_f, d_eqi_t, d_eqi_f, d_eqb_t, d_eqb_f, d_nb_t, d_nb_f, nth0, nthS, d_api, d_apr, D_cons, D_nl, D_nr, D_vr, D_set, mkL_l, mkR_r, mkI_i, d_shr2, d_shr3, d_shr16, d_shr40, d_shl2, d_shl3, d_shl16, d_shl40, d_apb, mkB_b, Φ100, Φ101, Φ102, Φ103, Φ104, Φ105, Φ106, Φ107, Φ108, Φ200, Φ201, Φ202, Φ203, Φ204, Φ205, Φ206, Φ207, Φ208, Φ209, Φ0, Φ1, Φ10, Φ300, Φ301, Φ302, Φ303, Φ304, Φ305, Φ306, Φ307, Φ308, Φ309, Φ310, Φ311, Φ312, Φ313, Φ314, Φ315, Φ316, Φ317, Φ318, Φ319, Φ20, Φ11, Φ30, Φ31, Φ32, Φ400, Φ401, Φ402, Φ403, Φ404, Φ405, Φ406, Φ407, pst, b2i_dec, w64]
          · exact out1 hi r1 r2 (by unfold Tch.row; rw [if_pos hc]) (by omega)
          · exact dec _ hi rfl rfl
        · refine And.intro (?_ : Inv 0 _) (?_ : lt2 μ (0, _) _) <;> simp (disch := omega) only [Wa, Sb.val, List.map_cons, List.map_nil, d_vi, d_vb, d_vr, d_ci, d_cb, d_nr, d_nl, d_add, d_sub, d_mul, d_rem, d_quo, d_bit, d_mn2, d_mx2, d_w, d_nn, d_bn2, d_len, d_neg, d_cl, d_at1, d_at2, d_at3, d_at4, d_at5, d_at6, d_at7, d_set, d_app, d_cat, d_take, d_drop, d_rep, d_cons, d_lt_t, d_lt_f, d_le_t, d_le_f, d_eqi_t, d_eqi_f, d_eqb_t, d_eqb_f, d_nb_t, d_nb_f, nth0, nthS, d_api, d_apr, D_cons, D_nl, D_nr, D_vr, D_set, mkL_l, mkR_r, mkI_i, d_shr2, d_shr3, d_shr16, d_shr40, d_shl2, d_shl3, d_shl16, d_shl40, d_apb, mkB_b, Φ100, Φ101, Φ102, Φ103, Φ104, Φ105, Φ106, Φ107, Φ108, Φ200, Φ201, Φ202, Φ203, Φ204, Φ205, Φ206, Φ207, Φ208, Φ209, Φ0, Φ1, Φ10, Φ300, Φ301, Φ302, Φ303, Φ304, Φ305, Φ306, Φ307, Φ308, Φ309, Φ310, Φ311, Φ312, Φ313, Φ314, Φ315, Φ316, Φ317, Φ318, Φ319, Φ20, Φ11, Φ30, Φ31, Φ32, Φ400, Φ401, Φ402, Φ403, Φ404, Φ405, Φ406, Φ407, pst, b2i_dec, w64]
          · exact out1 hi _ _ (by unfold Tch.row; rw [if_neg (Int.not_lt.mpr hc)]) (by rw [List.length_append, List.length_singleton]; omega)
          · exact dec _ hi rfl rfl
      · refine TOK.br' (fun hx2 => ?_) (fun hx2 => ?_) <;> simp only [Wa, d_vi, d_vb, d_vr, d_ci, d_cb, d_nr, d_nl, d_add, d_sub, d_mul, d_rem, d_quo, d_bit, d_mn2, d_mx2, d_w, d_nn, d_bn2, d_len, d_neg, d_cl, d_at1, d_at2, d_at3, d_at4, d_at5, d_at6, d_at7, d_set, d_app, d_cat, d_take, d_drop, d_rep, d_cons, d_lt_t, d_lt_f, d_le_t, d_le_f, d_eqi_t, d_eqi_f, d_eqb_t, d_eqb_f, d_nb_t, d_nb_f, nth0, nthS, d_api, d_apr, D_cons, D_nl, D_nr, D_vr, D_set, mkL_l, mkR_r, mkI_i, d_shr2, d_shr3, d_shr16, d_shr40, d_shl2, d_shl3, d_shl16, d_shl40, d_apb, mkB_b] at hx2
        · refine TOK.br' (fun hc => ?_) (fun hc => ?_) <;> simp only [Wa, d_vi, d_vb, d_vr, d_ci, d_cb, d_nr, d_nl, d_add, d_sub, d_mul, d_rem, d_quo, d_bit, d_mn2, d_mx2, d_w, d_nn, d_bn2, d_len, d_neg, d_cl, d_at1, d_at2, d_at3, d_at4, d_at5, d_at6, d_at7, d_set, d_app, d_cat, d_take, d_drop, d_rep, d_cons, d_lt_t, d_lt_f, d_le_t, d_le_f, d_eqi_t, d_eqi_f, d_eqb_t, d_eqb_f, d_nb_t, d_nb_f, nth0, nthS, d_api, d_apr, D_cons, D_nl, D_nr, D_vr, D_set, mkL_l, mkR_r, mkI_i, d_shr2, d_shr3, d_shr16, d_shr40, d_shl2, d_shl3, d_shl16, d_shl40, d_apb, mkB_b, Φ100, Φ101, Φ102, Φ103, Φ104, Φ105, Φ106, Φ107, Φ108, Φ200, Φ201, Φ202, Φ203, Φ204, Φ205, Φ206, Φ207, Φ208, Φ209, Φ0, Φ1, Φ10, Φ300, Φ301, Φ302, Φ303, Φ304, Φ305, Φ306, Φ307, Φ308, Φ309, Φ310, Φ311, Φ312, Φ313, Φ314, Φ315, Φ316, Φ317, Φ318, Φ319, Φ20, Φ11, Φ30, Φ31, Φ32, Φ400, Φ401, Φ402, Φ403, Φ404, Φ405, Φ406, Φ407, pst, b2i_dec] at hc <;> refine TOK.leaf' ?_
          · refine And.intro (?_ : Inv 0 _) (?_ : lt2 μ (0, _) _) <;> simp (disch := omega) only [Wa, Sb.val, List.map_cons, List.map_nil, d_vi, d_vb, d_vr, d_ci, d_cb, d_nr, d_nl, d_add, d_sub, d_mul, d_rem, d_quo, d_bit, d_mn2, d_mx2, d_w, d_nn, d_bn2, d_len, d_neg, d_cl, d_at1, d_at2, d_at3, d_at4, d_at5, d_at6, d_at7, d_set, d_app, d_cat, d_take, d_drop, d_rep, d_cons, d_lt_t, d_lt_f, d_le_t, d_le_f, d_eqi_t, d_eqi_f, d_eqb_t, d_eqb_f, d_nb_t, d_nb_f, nth0, nthS, d_api, d_apr, D_cons, D_nl, D_nr, D_vr, D_set, mkL_l, mkR_r, mkI_i, d_shr2, d_shr3, d_shr16, d_shr40, d_shl2, d_shl3, d_shl16, d_shl40, d_apb, mkB_b, Φ100, Φ101, Φ102, Φ103, Φ104, Φ105, Φ106, Φ107, Φ108, Φ200, Φ201, Φ202, Φ203, Φ204, Φ205, Φ206, Φ207, Φ208, Φ209, Φ0, Φ1, Φ10, Φ300, Φ301, Φ302, Φ303, Φ304, Φ305, Φ306, Φ307, Φ308, Φ309, Φ310, Φ311, Φ312, Φ313, Φ314, Φ315, Φ316, Φ317, Φ318, Φ319, Φ20, Φ11, Φ30, Φ31, Φ32, Φ400, Φ401, Φ402, Φ403, Φ404, Φ405, Φ406, Φ407, pst, b2i_dec, w64]
            · exact out2 hi r1 r2 (by unfold Tch.row; rw [if_pos hc]) (by omega)
            · exact dec _ hi rfl rfl
          · refine And.intro (?_ : Inv 0 _) (?_ : lt2 μ (0, _) _) <;> simp (disch := omega) only [Wa, Sb.val, List.map_cons, List.map_nil, d_vi, d_vb, d_vr, d_ci, d_cb, d_nr, d_nl, d_add, d_sub, d_mul, d_rem, d_quo, d_bit, d_mn2, d_mx2, d_w, d_nn, d_bn2, d_len, d_neg, d_cl, d_at1, d_at2, d_at3, d_at4, d_at5, d_at6, d_at7, d_set, d_app, d_cat, d_take, d_drop, d_rep, d_cons, d_lt_t, d_lt_f, d_le_t, d_le_f, d_eqi_t, d_eqi_f, d_eqb_t, d_eqb_f, d_nb_t, d_nb_f, nth0, nthS, d_api, d_apr, D_cons, D_nl, D_nr, D_vr, D_set, mkL_l, mkR_r, mkI_i, d_shr2, d_shr3, d_shr16, d_shr40, d_shl2, d_shl3, d_shl16, d_shl40, d_apb, mkB_b, Φ100, Φ101, Φ102, Φ103, Φ104, Φ105, Φ106, Φ107, Φ108, Φ200, Φ201, Φ202, Φ203, Φ204, Φ205, Φ206, Φ207, Φ208, Φ209, Φ0, Φ1, Φ10, Φ300, Φ301, Φ302, Φ303, Φ304, Φ305, Φ306, Φ307, Φ308, Φ309, Φ310, Φ311, Φ312, Φ313, Φ314, Φ315, Φ316, Φ317, Φ318, Φ319, Φ20, Φ11, Φ30, Φ31, Φ32, Φ400, Φ401, Φ402, Φ403, Φ404, Φ405, Φ406, Φ407, pst, b2i_dec, w64]
            · exact out2 hi _ _ (by unfold Tch.row; rw [if_neg (Int.not_lt.mpr hc)]) (by rw [List.length_append, List.length_singleton]; omega)
            · exact dec _ hi rfl rfl
        · refine TOK.br' (fun hc => ?_) (fun hc => ?_) <;> simp only [Wa, d_vi, d_vb, d_vr, d_ci, d_cb, d_nr, d_nl, d_add, d_sub, d_mul, d_rem, d_quo, d_bit, d_mn2, d_mx2, d_w, d_nn, d_bn2, d_len, d_neg, d_cl, d_at1, d_at2, d_at3, d_at4, d_at5, d_at6, d_at7, d_set, d_app, d_cat, d_take, d_drop, d_rep, d_cons, d_lt_t, d_lt_f, d_le_t, d_le_f, d_eqi_t, d_eqi_f, d_eqb_t, d_eqb_f, d_nb_t, d_nb_f, nth0, nthS, d_api, d_apr, D_cons, D_nl, D_nr, D_vr, D_set, mkL_l, mkR_r, mkI_i, d_shr2, d_shr3, d_shr16, d_shr40, d_shl2, d_shl3, d_shl16, d_shl40, d_apb, mkB_b, Φ100, Φ101, Φ102, Φ103, Φ104, Φ105, Φ106, Φ107, Φ108, Φ200, Φ201, Φ202, Φ203, Φ204, Φ205, Φ206, Φ207, Φ208, Φ209, Φ0, Φ1, Φ10, Φ300, Φ301, Φ302, Φ303, Φ304, Φ305, Φ306, Φ307, Φ308, Φ309, Φ310, Φ311, Φ312, Φ313, Φ314, Φ315, Φ316, Φ317, Φ318, Φ319, Φ20, Φ11, Φ30, Φ31, Φ32, Φ400, Φ401, Φ402, Φ403, Φ404, Φ405, Φ406, Φ407, pst, b2i_dec] at hc <;> refine TOK.leaf' ?_
          · refine And.intro (?_ : Inv 0 _) (?_ : lt2 μ (0, _) _) <;> simp (disch := omega) only [Wa, Sb.val, List.map_cons, List.map_nil, d_vi, d_vb, d_vr, d_ci, d_cb, d_nr, d_nl, d_add, d_sub, d_mul, d_rem, d_quo, d_bit, d_mn2, d_mx2, d_w, d_nn, d_bn2, d_len, d_neg, d_cl, d_at1, d_at2, d_at3, d_at4, d_at5, d_at6, d_at7, d_set, d_app, d_cat, d_take, d_drop, d_rep, d_cons, d_lt_t, d_lt_f, d_le_t, d_le_f, d_eqi_t, d_eqi_f, d_eqb_t, d_eqb_f, d_nb_t, d_nb_f, nth0, nthS, d_api, d_apr, D_cons, D_nl, D_nr, D_vr, D_set, mkL_l, mkR_r, mkI_i, d_shr2, d_shr3, d_shr16, d_shr40, d_shl2, d_shl3, d_shl16, d_shl40, d_apb, mkB_b, Φ100, Φ101, Φ102, Φ103, Φ104, Φ105, Φ106, Φ107, Φ108, Φ200, Φ201, Φ202, Φ203, Φ204, Φ205, Φ206, Φ207, Φ208, Φ209, Φ0, Φ1, Φ10, Φ300, Φ301, Φ302, Φ303, Φ304, Φ305, Φ306, Φ307, Φ308, Φ309, Φ310, Φ311, Φ312, Φ313, Φ314, Φ315, Φ316, Φ317, Φ318, Φ319, Φ20, Φ11, Φ30, Φ31, Φ32, Φ400, Φ401, Φ402, Φ403, Φ404, Φ405, Φ406, Φ407, pst, b2i_dec, w64]
            · exact out3 hi r1 r2 (by unfold Tch.row; rw [if_pos hc]) (by omega)
            · exact dec _ hi rfl rfl
          · refine And.intro (?_ : Inv 0 _) (?_ : lt2 μ (0, _) _) <;> simp (disch := omega) only [Wa, Sb.val, List.map_cons, List.map_nil, d_vi, d_vb, d_vr, d_ci, d_cb, d_nr, d_nl, d_add, d_sub, d_mul, d_rem, d_quo, d_bit, d_mn2, d_mx2, d_w, d_nn, d_bn2, d_len, d_neg, d_cl, d_at1, d_at2, d_at3, d_at4, d_at5, d_at6, d_at7, d_set, d_app, d_cat, d_take, d_drop, d_rep, d_cons, d_lt_t, d_lt_f, d_le_t, d_le_f, d_eqi_t, d_eqi_f, d_eqb_t, d_eqb_f, d_nb_t, d_nb_f, nth0, nthS, d_api, d_apr, D_cons, D_nl, D_nr, D_vr, D_set, mkL_l, mkR_r, mkI_i, d_shr2, d_shr3, d_shr16, d_shr40, d_shl2, d_shl3, d_shl16, d_shl40, d_apb, mkB_b, Φ100, Φ101, Φ102, Φ103, Φ104, Φ105, Φ106, Φ107, Φ108, Φ200, Φ201, Φ202, Φ203, Φ204, Φ205, Φ206, Φ207, Φ208, Φ209, Φ0, Φ1, Φ10, Φ300, Φ301, Φ302, Φ303, Φ304, Φ305, Φ306, Φ307, Φ308, Φ309, Φ310, Φ311, Φ312, Φ313, Φ314, Φ315, Φ316, Φ317, Φ318, Φ319, Φ20, Φ11, Φ30, Φ31, Φ32, Φ400, Φ401, Φ402, Φ403, Φ404, Φ405, Φ406, Φ407, pst, b2i_dec, w64]
            · exact out3 hi _ _ (by unfold Tch.row; rw [if_neg (Int.not_lt.mpr hc)]) (by rw [List.length_append, List.length_singleton]; omega)
            · exact dec _ hi rfl rfl
  · refine TOK.leaf' ?_
    refine And.intro (?_ : Inv 1 _) (?_ : lt2 μ (1, _) _) <;> simp only [Wa, Sb.val, List.map_cons, List.map_nil, d_vi, d_vb, d_vr, d_ci, d_cb, d_nr, d_nl, d_add, d_sub, d_mul, d_rem, d_quo, d_bit, d_mn2, d_mx2, d_w, d_nn, d_bn2, d_len, d_neg, d_cl, d_at1, d_at2, d_at3, d_at4, d_at5, d_at6, d_at7, d_set, d_app, d_cat, d_take, d_drop, d_rep, d_cons, d_lt_t, d_lt_f, d_le_t, d_le_f, d_eqi_t, d_eqi_f, d_eqb_t, d_eqb_f, d_nb_t, d_nb_f, nth0, nthS, d_api, d_apr, D_cons, D_nl, D_nr, D_vr, D_set, mkL_l, mkR_r, mkI_i, d_shr2, d_shr3, d_shr16, d_shr40, d_shl2, d_shl3, d_shl16, d_shl40, d_apb, mkB_b]
    · exact .inr (.inl ⟨rfl, now, 0, S, src, p0, p1, p2, p3, r0, r1, r2, rfl, hC, ⟨h0, h1, h2, h3⟩, by have := most27 (T := 4) (S := S) (src := src) (dl := 1) (who := 0) (by unfold LB; omega) (by decide); omega, by omega, g4, q0.mono (by omega), q1.mono (by omega), q2.mono (by omega), q3.mono (by omega)⟩)
    · exact .inl (by show (300 - 2 * (0 : Int)).toNat < 1000; decide)
theorem s1 : ∀ v, Inv 1 v → TOK v (fun _ g => LgOK v (fun q u => Inv q u ∧ lt2 μ (q, u) (1, v)) g) tr1 := by
  intro v hv
  obtain ⟨now, n, S, src, p0, p1, p2, p3, r0, r1, r2, rfl, hC, ⟨h0, h1, h2, h3⟩, g1, g2, g3, q0, q1, q2, q3⟩ := inv1 hv
  have lb := hC.lb
  have hm := most27 (T := 4) (S := S) (src := src) (dl := 1) (who := 0) (by unfold LB; omega) (by decide)
  unfold tr1
  refine TOK.br' (fun hi => ?_) (fun hi => ?_) <;> simp only [Wa, d_vi, d_vb, d_vr, d_ci, d_cb, d_nr, d_nl, d_add, d_sub, d_mul, d_rem, d_quo, d_bit, d_mn2, d_mx2, d_w, d_nn, d_bn2, d_len, d_neg, d_cl, d_at1, d_at2, d_at3, d_at4, d_at5, d_at6, d_at7, d_set, d_app, d_cat, d_take, d_drop, d_rep, d_cons, d_lt_t, d_lt_f, d_le_t, d_le_f, d_eqi_t, d_eqi_f, d_eqb_t, d_eqb_f, d_nb_t, d_nb_f, nth0, nthS, d_api, d_apr, D_cons, D_nl, D_nr, D_vr, D_set, mkL_l, mkR_r, mkI_i, d_shr2, d_shr3, d_shr16, d_shr40, d_shl2, d_shl3, d_shl16, d_shl40, d_apb, mkB_b, Φ100, Φ101, Φ102, Φ103, Φ104, Φ105, Φ106, Φ107, Φ108, Φ200, Φ201, Φ202, Φ203, Φ204, Φ205, Φ206, Φ207, Φ208, Φ209, Φ0, Φ1, Φ10, Φ300, Φ301, Φ302, Φ303, Φ304, Φ305, Φ306, Φ307, Φ308, Φ309, Φ310, Φ311, Φ312, Φ313, Φ314, Φ315, Φ316, Φ317, Φ318, Φ319, Φ20, Φ11, Φ30, Φ31, Φ32, Φ400, Φ401, Φ402, Φ403, Φ404, Φ405, Φ406, Φ407] at hi <;> refine TOK.leaf' ?_
  · refine And.intro (?_ : Inv 2 _) (?_ : lt2 μ (2, _) _) <;> simp only [Wa, Sb.val, List.map_cons, List.map_nil, d_vi, d_vb, d_vr, d_ci, d_cb, d_nr, d_nl, d_add, d_sub, d_mul, d_rem, d_quo, d_bit, d_mn2, d_mx2, d_w, d_nn, d_bn2, d_len, d_neg, d_cl, d_at1, d_at2, d_at3, d_at4, d_at5, d_at6, d_at7, d_set, d_app, d_cat, d_take, d_drop, d_rep, d_cons, d_lt_t, d_lt_f, d_le_t, d_le_f, d_eqi_t, d_eqi_f, d_eqb_t, d_eqb_f, d_nb_t, d_nb_f, nth0, nthS, d_api, d_apr, D_cons, D_nl, D_nr, D_vr, D_set, mkL_l, mkR_r, mkI_i, d_shr2, d_shr3, d_shr16, d_shr40, d_shl2, d_shl3, d_shl16, d_shl40, d_apb, mkB_b]
    · exact .inr (.inr (.inl ⟨rfl, now, n, 4, 0, S, src, p0, p1, p2, p3, r0, r1, r2, rfl, rfl, hC, ⟨h0, h1, h2, h3⟩, by omega, by decide, by omega, g3, ⟨q0, q1, q2, q3⟩, fun z => by omega, fun z => by omega, fun z => by omega, fun z => by omega⟩))
    · exact .inl (by show (299 - 2 * n).toNat < (300 - 2 * n).toNat; omega)
  · refine And.intro (?_ : Inv 3 _) (?_ : lt2 μ (3, _) _) <;> simp only [Wa, Sb.val, List.map_cons, List.map_nil, d_vi, d_vb, d_vr, d_ci, d_cb, d_nr, d_nl, d_add, d_sub, d_mul, d_rem, d_quo, d_bit, d_mn2, d_mx2, d_w, d_nn, d_bn2, d_len, d_neg, d_cl, d_at1, d_at2, d_at3, d_at4, d_at5, d_at6, d_at7, d_set, d_app, d_cat, d_take, d_drop, d_rep, d_cons, d_lt_t, d_lt_f, d_le_t, d_le_f, d_eqi_t, d_eqi_f, d_eqb_t, d_eqb_f, d_nb_t, d_nb_f, nth0, nthS, d_api, d_apr, D_cons, D_nl, D_nr, D_vr, D_set, mkL_l, mkR_r, mkI_i, d_shr2, d_shr3, d_shr16, d_shr40, d_shl2, d_shl3, d_shl16, d_shl40, d_apb, mkB_b]
    · exact .inr (.inr (.inr ⟨rfl, 4, 0, now, S, src, p0, p1, p2, p3, r0, r1, r2, rfl, rfl, hC, ⟨h0, h1, h2, h3⟩, by decide, by omega, by omega, fun z => by have z1 := q0 z; have z2 := (ppot_nn (who := 0) (by unfold LB; omega) h0.1).2 z; omega, fun z => by have z1 := q1 z; have z2 := (ppot_nn (who := 1) (by unfold LB; omega) h1.1).2 z; omega, fun z => by have z1 := q2 z; have z2 := (ppot_nn (who := 2) (by unfold LB; omega) h2.1).2 z; omega, fun z => by have z1 := q3 z; have z2 := (ppot_nn (who := 3) (by unfold LB; omega) h3.1).2 z; omega⟩))
    · exact .inl (by show 0 < (300 - 2 * n).toNat; omega)
theorem s2 : ∀ v, Inv 2 v → TOK v (fun _ g => LgOK v (fun q u => Inv q u ∧ lt2 μ (q, u) (2, v)) g) tr2 := by
  intro v hv
  obtain ⟨now, n, d, idx, S, src, p0, p1, p2, p3, r0, r1, r2, rfl, hd, hC, ⟨h0, h1, h2, h3⟩, g1, g2, g3, g4, ⟨q0, q1, q2, q3⟩, ⟨i0, i1, i2, i3⟩⟩ := inv2 hv
  subst hd
  have lb := hC.lb; have nn := hC.nn
  have hm := most27 (T := 4) (S := S) (src := src) (dl := 1) (who := 0) (by unfold LB; omega) (by decide)
  have K0 := many_step (w := 0) hC (by decide) (by decide) (by omega) h0
  rw [show (100 : Int) + 0 = 100 from rfl] at K0
  have K1 := many_step (w := 1) hC (by decide) (by decide) (by omega) h1
  rw [show (100 : Int) + 1 = 101 from rfl] at K1
  have K2 := many_step (w := 2) hC (by decide) (by decide) (by omega) h2
  rw [show (100 : Int) + 2 = 102 from rfl] at K2
  have K3 := many_step (w := 3) hC (by decide) (by decide) (by omega) h3
  rw [show (100 : Int) + 3 = 103 from rfl] at K3
  have out0 : idx = 0 → ∀ q' l' : Row, q' = ((putT 4 S src 1 0 1 100 r1 now p0).row r1) → (l'.length : Int) ≤ now + 1 → Inv 2 (Wb (now + 1) n 4 (idx + 1) S src (putStep 4 S src 1 0 r1 now p0) p1 p2 p3 r0 q' l') := fun z q' l' e0 e1 => by
    subst e0
    exact .inr (.inr (.inl ⟨rfl, now + 1, n, 4, idx + 1, S, src, _, p1, p2, p3, r0, _, l', rfl, rfl, K0.com, ⟨K0.own, K0.oth 1 _ (by decide) (by decide) (by decide) h1, K0.oth 2 _ (by decide) (by decide) (by decide) h2, K0.oth 3 _ (by decide) (by decide) (by decide) h3⟩, g1, by omega, by omega, e1, ⟨(K0.pot _ q0).mono (by omega), q1, q2, q3⟩, fun _ => (K0.pot _ q0).mono (by omega), fun y => absurd y (by omega), fun y => absurd y (by omega), fun y => absurd y (by omega)⟩))
  have out1 : idx = 1 → ∀ q' l' : Row, q' = ((putT 4 S src 1 1 1 101 r1 now p1).row r1) → (l'.length : Int) ≤ now + 1 → Inv 2 (Wb (now + 1) n 4 (idx + 1) S src p0 (putStep 4 S src 1 1 r1 now p1) p2 p3 r0 q' l') := fun z q' l' e0 e1 => by
    subst e0
    exact .inr (.inr (.inl ⟨rfl, now + 1, n, 4, idx + 1, S, src, p0, _, p2, p3, r0, _, l', rfl, rfl, K1.com, ⟨K1.oth 0 _ (by decide) (by decide) (by decide) h0, K1.own, K1.oth 2 _ (by decide) (by decide) (by decide) h2, K1.oth 3 _ (by decide) (by decide) (by decide) h3⟩, g1, by omega, by omega, e1, ⟨q0, (K1.pot _ q1).mono (by omega), q2, q3⟩, fun y => i0 (by omega), fun _ => (K1.pot _ q1).mono (by omega), fun y => absurd y (by omega), fun y => absurd y (by omega)⟩))
  have out2 : idx = 2 → ∀ q' l' : Row, q' = ((putT 4 S src 1 2 1 102 r1 now p2).row r1) → (l'.length : Int) ≤ now + 1 → Inv 2 (Wb (now + 1) n 4 (idx + 1) S src p0 p1 (putStep 4 S src 1 2 r1 now p2) p3 r0 q' l') := fun z q' l' e0 e1 => by
    subst e0
    exact .inr (.inr (.inl ⟨rfl, now + 1, n, 4, idx + 1, S, src, p0, p1, _, p3, r0, _, l', rfl, rfl, K2.com, ⟨K2.oth 0 _ (by decide) (by decide) (by decide) h0, K2.oth 1 _ (by decide) (by decide) (by decide) h1, K2.own, K2.oth 3 _ (by decide) (by decide) (by decide) h3⟩, g1, by omega, by omega, e1, ⟨q0, q1, (K2.pot _ q2).mono (by omega), q3⟩, fun y => i0 (by omega), fun y => i1 (by omega), fun _ => (K2.pot _ q2).mono (by omega), fun y => absurd y (by omega)⟩))
  have out3 : idx = 3 → ∀ q' l' : Row, q' = ((putT 4 S src 1 3 1 103 r1 now p3).row r1) → (l'.length : Int) ≤ now + 1 → Inv 2 (Wb (now + 1) n 4 (idx + 1) S src p0 p1 p2 (putStep 4 S src 1 3 r1 now p3) r0 q' l') := fun z q' l' e0 e1 => by
    subst e0
    exact .inr (.inr (.inl ⟨rfl, now + 1, n, 4, idx + 1, S, src, p0, p1, p2, _, r0, _, l', rfl, rfl, K3.com, ⟨K3.oth 0 _ (by decide) (by decide) (by decide) h0, K3.oth 1 _ (by decide) (by decide) (by decide) h1, K3.oth 2 _ (by decide) (by decide) (by decide) h2, K3.own⟩, g1, by omega, by omega, e1, ⟨q0, q1, q2, (K3.pot _ q3).mono (by omega)⟩, fun y => i0 (by omega), fun y => i1 (by omega), fun y => i2 (by omega), fun _ => (K3.pot _ q3).mono (by omega)⟩))
  have dec : ∀ x : Val, ∀ {j : Int}, idx = j → j < 4 → nth 0 x.i 3 = idx + 1 → nth 0 x.i 1 = n → lt2 μ (2, x) (2, Wb now n 4 idx S src p0 p1 p2 p3 r0 r1 r2) := fun x j z z2 e e2 => .inr ⟨by show (299 - 2 * nth 0 x.i 1).toNat = (299 - 2 * n).toNat; rw [e2], by
    show (10 - nth 0 x.i 3).toNat < (10 - idx).toNat
    omega⟩
  unfold tr2
  refine TOK.br' (fun hi => ?_) (fun hi => ?_) <;> simp only [Wb, d_vi, d_vb, d_vr, d_ci, d_cb, d_nr, d_nl, d_add, d_sub, d_mul, d_rem, d_quo, d_bit, d_mn2, d_mx2, d_w, d_nn, d_bn2, d_len, d_neg, d_cl, d_at1, d_at2, d_at3, d_at4, d_at5, d_at6, d_at7, d_set, d_app, d_cat, d_take, d_drop, d_rep, d_cons, d_lt_t, d_lt_f, d_le_t, d_le_f, d_eqi_t, d_eqi_f, d_eqb_t, d_eqb_f, d_nb_t, d_nb_f, nth0, nthS, d_api, d_apr, D_cons, D_nl, D_nr, D_vr, D_set, mkL_l, mkR_r, mkI_i, d_shr2, d_shr3, d_shr16, d_shr40, d_shl2, d_shl3, d_shl16, d_shl40, d_apb, mkB_b] at hi
  · refine TOK.need' (by simp only [Wb, d_vi, d_vb, d_vr, d_ci, d_cb, d_nr, d_nl, d_add, d_sub, d_mul, d_rem, d_quo, d_bit, d_mn2, d_mx2, d_w, d_nn, d_bn2, d_len, d_neg, d_cl, d_at1, d_at2, d_at3, d_at4, d_at5, d_at6, d_at7, d_set, d_app, d_cat, d_take, d_drop, d_rep, d_cons, d_lt_t, d_lt_f, d_le_t, d_le_f, d_eqi_t, d_eqi_f, d_eqb_t, d_eqb_f, d_nb_t, d_nb_f, nth0, nthS, d_api, d_apr, D_cons, D_nl, D_nr, D_vr, D_set, mkL_l, mkR_r, mkI_i, d_shr2, d_shr3, d_shr16, d_shr40, d_shl2, d_shl3, d_shl16, d_shl40, d_apb, mkB_b]; omega) ?_
    refine TOK.br' (fun hx0 => ?_) (fun hx0 => ?_) <;> simp only [Wb, d_vi, d_vb, d_vr, d_ci, d_cb, d_nr, d_nl, d_add, d_sub, d_mul, d_rem, d_quo, d_bit, d_mn2, d_mx2, d_w, d_nn, d_bn2, d_len, d_neg, d_cl, d_at1, d_at2, d_at3, d_at4, d_at5, d_at6, d_at7, d_set, d_app, d_cat, d_take, d_drop, d_rep, d_cons, d_lt_t, d_lt_f, d_le_t, d_le_f, d_eqi_t, d_eqi_f, d_eqb_t, d_eqb_f, d_nb_t, d_nb_f, nth0, nthS, d_api, d_apr, D_cons, D_nl, D_nr, D_vr, D_set, mkL_l, mkR_r, mkI_i, d_shr2, d_shr3, d_shr16, d_shr40, d_shl2, d_shl3, d_shl16, d_shl40, d_apb, mkB_b] at hx0
    · refine TOK.br' (fun hc => ?_) (fun hc => ?_) <;> simp only [Wb, d_vi, d_vb, d_vr, d_ci, d_cb, d_nr, d_nl, d_add, d_sub, d_mul, d_rem, d_quo, d_bit, d_mn2, d_mx2, d_w, d_nn, d_bn2, d_len, d_neg, d_cl, d_at1, d_at2, d_at3, d_at4, d_at5, d_at6, d_at7, d_set, d_app, d_cat, d_take, d_drop, d_rep, d_cons, d_lt_t, d_lt_f, d_le_t, d_le_f, d_eqi_t, d_eqi_f, d_eqb_t, d_eqb_f, d_nb_t, d_nb_f, nth0, nthS, d_api, d_apr, D_cons, D_nl, D_nr, D_vr, D_set, mkL_l, mkR_r, mkI_i, d_shr2, d_shr3, d_shr16, d_shr40, d_shl2, d_shl3, d_shl16, d_shl40, d_apb, mkB_b, Φ100, Φ101, Φ102, Φ103, Φ104, Φ105, Φ106, Φ107, Φ108, Φ200, Φ201, Φ202, Φ203, Φ204, Φ205, Φ206, Φ207, Φ208, Φ209, Φ0, Φ1, Φ10, Φ300, Φ301, Φ302, Φ303, Φ304, Φ305, Φ306, Φ307, Φ308, Φ309, Φ310, Φ311, Φ312, Φ313, Φ314, Φ315, Φ316, Φ317, Φ318, Φ319, Φ20, Φ11, Φ30, Φ31, Φ32, Φ400, Φ401, Φ402, Φ403, Φ404, Φ405, Φ406, Φ407, pst, b2i_dec] at hc <;> refine TOK.leaf' ?_
      · refine And.intro (?_ : Inv 2 _) (?_ : lt2 μ (2, _) _) <;> simp (disch := omega) only [Wb, Sb.val, List.map_cons, List.map_nil, d_vi, d_vb, d_vr, d_ci, d_cb, d_nr, d_nl, d_add, d_sub, d_mul, d_rem, d_quo, d_bit, d_mn2, d_mx2, d_w, d_nn, d_bn2, d_len, d_neg, d_cl, d_at1, d_at2, d_at3, d_at4, d_at5, d_at6, d_at7, d_set, d_app, d_cat, d_take, d_drop, d_rep, d_cons, d_lt_t, d_lt_f, d_le_t, d_le_f, d_eqi_t, d_eqi_f, d_eqb_t, d_eqb_f, d_nb_t, d_nb_f, nth0, nthS, d_api, d_apr, D_cons, D_nl, D_nr, D_vr, D_set, mkL_l, mkR_r, mkI_i, d_shr2, d_shr3, d_shr16, d_shr40, d_shl2, d_shl3, d_shl16, d_shl40, d_apb, mkB_b, Φ100, Φ101, Φ102, Φ103, Φ104, Φ105, Φ106, Φ107, Φ108, Φ200, Φ201, Φ202, Φ203, Φ204, Φ205, Φ206, Φ207, Φ208, Φ209, Φ0, Φ1, Φ10, Φ300, Φ301, Φ302, Φ303, Φ304, Φ305, Φ306, Φ307, Φ308, Φ309, Φ310, Φ311, Φ312, Φ313, Φ314, Φ315, Φ316, Φ317, Φ318, Φ319, Φ20, Φ11, Φ30, Φ31, Φ32, Φ400, Φ401, Φ402, Φ403, Φ404, Φ405, Φ406, Φ407, pst, b2i_dec, w64]
        · exact out0 hx0 r1 r2 (by unfold Tch.row; rw [if_pos hc]) (by omega)
        · exact dec _ hx0 (by decide) rfl rfl
      · refine And.intro (?_ : Inv 2 _) (?_ : lt2 μ (2, _) _) <;> simp (disch := omega) only [Wb, Sb.val, List.map_cons, List.map_nil, d_vi, d_vb, d_vr, d_ci, d_cb, d_nr, d_nl, d_add, d_sub, d_mul, d_rem, d_quo, d_bit, d_mn2, d_mx2, d_w, d_nn, d_bn2, d_len, d_neg, d_cl, d_at1, d_at2, d_at3, d_at4, d_at5, d_at6, d_at7, d_set, d_app, d_cat, d_take, d_drop, d_rep, d_cons, d_lt_t, d_lt_f, d_le_t, d_le_f, d_eqi_t, d_eqi_f, d_eqb_t, d_eqb_f, d_nb_t, d_nb_f, nth0, nthS, d_api, d_apr, D_cons, D_nl, D_nr, D_vr, D_set, mkL_l, mkR_r, mkI_i, d_shr2, d_shr3, d_shr16, d_shr40, d_shl2, d_shl3, d_shl16, d_shl40, d_apb, mkB_b, Φ100, Φ101, Φ102, Φ103, Φ104, Φ105, Φ106, Φ107, Φ108, Φ200, Φ201, Φ202, Φ203, Φ204, Φ205, Φ206, Φ207, Φ208, Φ209, Φ0, Φ1, Φ10, Φ300, Φ301, Φ302, Φ303, Φ304, Φ305, Φ306, Φ307, Φ308, Φ309, Φ310, Φ311, Φ312, Φ313, Φ314, Φ315, Φ316, Φ317, Φ318, Φ319, Φ20, Φ11, Φ30, Φ31, Φ32, Φ400, Φ401, Φ402, Φ403, Φ404, Φ405, Φ406, Φ407, pst, b2i_dec, w64]
        · exact out0 hx0 _ _ (by unfold Tch.row; rw [if_neg (Int.not_lt.mpr hc)]) (by rw [List.length_append, List.length_singleton]; omega)
        · exact dec _ hx0 (by decide) rfl rfl
    · refine TOK.br' (fun hx1 => ?_) (fun hx1 => ?_) <;> simp only [Wb, d_vi, d_vb, d_vr, d_ci, d_cb, d_nr, d_nl, d_add, d_sub, d_mul, d_rem, d_quo, d_bit, d_mn2, d_mx2, d_w, d_nn, d_bn2, d_len, d_neg, d_cl, d_at1, d_at2, d_at3, d_at4, d_at5, d_at6, d_at7, d_set, d_app, d_cat, d_take, d_drop, d_rep, d_cons, d_lt_t, d_lt_f, d_le_t, d_le_f, d_eqi_t, d_eqi_f, d_eqb_t, d_eqb_f, d_nb_t, d_nb_f, nth0, nthS, d_api, d_apr, D_cons, D_nl, D_nr, D_vr, D_set, mkL_l, mkR_r, mkI_i, d_shr2, d_shr3, d_shr16, d_shr40, d_shl2, d_shl3, d_shl16, d_shl40, d_apb, mkB_b] at hx1
      · refine TOK.br' (fun hc => ?_) (fun hc => ?_) <;> simp only [Wb, d_vi, d_vb, d_vr, d_ci, d_cb, d_nr, d_nl, d_add, d_sub, d_mul, d_rem, d_quo, d_bit, d_mn2, d_mx2, d_w, d_nn, d_bn2, d_len, d_neg, d_cl, d_at1, d_at2, d_at3, d_at4, d_at5, d_at6, d_at7, d_set, d_app, d_cat, d_take, d_drop, d_rep, d_cons, d_lt_t, d_lt_f, d_le_t, d_le_f, d_eqi_t, d_eqi_f, d_eqb_t, d_eqb_f, d_nb_t, d_nb_f, nth0, nthS, d_api, d_apr, D_cons, D_nl, D_nr, D_vr, D_set, mkL_l, mkR_r, mkI_i, d_shr2, d_shr3, d_shr16, d_shr40, d_shl2, d_shl3, d_shl16, d_shl40, d_apb, mkB_b, Φ100, Φ101, Φ102, Φ103, Φ104, Φ105, Φ106, Φ107, Φ108, Φ200, Φ201, Φ202, Φ203, Φ204, Φ205, Φ206, Φ207, Φ208, Φ209, Φ0, Φ1, Φ10, Φ300, Φ301, Φ302, Φ303, Φ304, Φ305, Φ306, Φ307, Φ308, Φ309, Φ310, Φ311, Φ312, Φ313, Φ314, Φ315, Φ316, Φ317, Φ318, Φ319, Φ20, Φ11, Φ30, Φ31, Φ32, Φ400, Φ401, Φ402, Φ403, Φ404, Φ405, Φ406, Φ407, pst, b2i_dec] at hc <;> refine TOK.leaf' ?_
        · refine And.intro (?_ : Inv 2 _) (?_ : lt2 μ (2, _) _) <;> simp (disch := omega) only [Wb, Sb.val, List.map_cons, List.map_nil, d_vi, d_vb, d_vr, d_ci, d_cb, d_nr, d_nl, d_add, d_sub, d_mul, d_rem, d_quo, d_bit, d_mn2, d_mx2, d_w, d_nn, d_bn2, d_len, d_neg, d_cl, d_at1, d_at2, d_at3, d_at4, d_at5, d_at6, d_at7, d_set, d_app, d_cat, d_take, d_drop, d_rep, d_cons, d_lt_t, d_lt_f, d_le_t, d_le_f, d_eqi_t, d_eqi_f, d_eqb_t, d_eqb_f, d_nb_t, d_nb_f, nth0, nthS, d_api, d_apr, D_cons, D_nl, D_nr, D_vr, D_set, mkL_l, mkR_r, mkI_i, d_shr2, d_shr3, d_shr16, d_shr40, d_shl2, d_shl3, d_shl16, d_shl40, d_apb, mkB_b, Φ100, Φ101, Φ102, Φ103, Φ104, Φ105, Φ106, Φ107, Φ108, Φ200, Φ201, Φ202, Φ203, Φ204, Φ205, Φ206, Φ207, Φ208, Φ209, Φ0, Φ1, Φ10, Φ300, Φ301, Φ302, Φ303, Φ304, Φ305, Φ306, Φ307, Φ308, Φ309, Φ310, Φ311, Φ312, Φ313, Φ314, Φ315, Φ316, Φ317, Φ318, Φ319, Φ20, Φ11, Φ30, Φ31, Φ32, Φ400, Φ401, Φ402, Φ403, Φ404, Φ405, Φ406, Φ407, pst, b2i_dec, w64]
          · exact out1 hx1 r1 r2 (by unfold Tch.row; rw [if_pos hc]) (by omega)
          · exact dec _ hx1 (by decide) rfl rfl
        · refine And.intro (?_ : Inv 2 _) (?_ : lt2 μ (2, _) _) <;> simp (disch := omega) only [Wb, Sb.val, List.map_cons, List.map_nil, d_vi, d_vb, d_vr, d_ci, d_cb, d_nr, d_nl, d_add, d_sub, d_mul, d_rem, d_quo, d_bit, d_mn2, d_mx2, d_w, d_nn, d_bn2, d_len, d_neg, d_cl, d_at1, d_at2, d_at3, d_at4, d_at5, d_at6, d_at7, d_set, d_app, d_cat, d_take, d_drop, d_rep, d_cons, d_lt_t, d_lt_f, d_le_t, d_le_f, d_eqi_t, d_eqi_f, d_eqb_t, d_eqb_f, d_nb_t, d_nb_f, nth0, nthS, d_api, d_apr, D_cons, D_nl, D_nr, D_vr, D_set, mkL_l, mkR_r, mkI_i, d_shr2, d_shr3, d_shr16, d_shr40, d_shl2, d_shl3, d_shl16, d_shl40, d_apb, mkB_b, Φ100, Φ101, Φ102, Φ103, Φ104, Φ105, Φ106, Φ107, Φ108, Φ200, Φ201, Φ202, Φ203, Φ204, Φ205, Φ206, Φ207, Φ208, Φ209, Φ0, Φ1, Φ10, Φ300, Φ301, Φ302, Φ303, Φ304, Φ305, Φ306, Φ307, Φ308, Φ309, Φ310, Φ311, Φ312, Φ313, Φ314, Φ315, Φ316, Φ317, Φ318, Φ319, Φ20, Φ11, Φ30, Φ31, Φ32, Φ400, Φ401, Φ402, Φ403, Φ404, Φ405, Φ406, Φ407, pst, b2i_dec, w64]
          · exact out1 hx1 _ _ (by unfold Tch.row; rw [if_neg (Int.not_lt.mpr hc)]) (by rw [List.length_append, List.length_singleton]; omega)
          · exact dec _ hx1 (by decide) rfl rfl
      · refine TOK.br' (fun hx2 => ?_) (fun hx2 => ?_) <;> simp only [Wb, d_vi, d_vb, d_vr, d_ci, d_cb, d_nr, d_nl, d_add, d_sub, d_mul, d_rem, d_quo, d_bit, d_mn2, d_mx2, d_w, d_nn, d_bn2, d_len, d_neg, d_cl, d_at1, d_at2, d_at3, d_at4, d_at5, d_at6, d_at7, d_set, d_app, d_cat, d_take, d_drop, d_rep, d_cons, d_lt_t, d_lt_f, d_le_t, d_le_f, d_eqi_t, d_eqi_f, d_eqb_t, d_eqb_f, d_nb_t, d_nb_f, nth0, nthS, d_api, d_apr, D_cons, D_nl, D_nr, D_vr, D_set, mkL_l, mkR_r, mkI_i, d_shr2, d_shr3, d_shr16, d_shr40, d_shl2, d_shl3, d_shl16, d_shl40, d_apb, mkB_b] at hx2
        · refine TOK.br' (fun hc => ?_) (fun hc => ?_) <;> simp only [Wb, d_vi, d_vb, d_vr, d_ci, d_cb, d_nr, d_nl, d_add, d_sub, d_mul, d_rem, d_quo, d_bit, d_mn2, d_mx2, d_w, d_nn, d_bn2, d_len, d_neg, d_cl, d_at1, d_at2, d_at3, d_at4, d_at5, d_at6, d_at7, d_set, d_app, d_cat, d_take, d_drop, d_rep, d_cons, d_lt_t, d_lt_f, d_le_t, d_le_f, d_eqi_t, d_eqi_f, d_eqb_t, d_eqb_f, d_nb_t, d_nb_f, nth0, nthS, d_api, d_apr, D_cons, D_nl, D_nr, D_vr, D_set, mkL_l, mkR_r, mkI_i, d_shr2, d_shr3, d_shr16, d_shr40, d_shl2, d_shl3, d_shl16, d_shl40, d_apb, mkB_b, Φ100, Φ101, Φ102, Φ103, Φ104, Φ105, Φ106, Φ107, Φ108, Φ200, Φ201, Φ202, Φ203, Φ204, Φ205, Φ206, Φ207, Φ208, Φ209, Φ0, Φ1, Φ10, Φ300, Φ301, Φ302, Φ303, Φ304, Φ305, Φ306, Φ307, Φ308, Φ309, Φ310, Φ311, Φ312, Φ313, Φ314, Φ315, Φ316, Φ317, Φ318, Φ319, Φ20, Φ11, Φ30, Φ31, Φ32, Φ400, Φ401, Φ402, Φ403, Φ404, Φ405, Φ406, Φ407, pst, b2i_dec] at hc <;> refine TOK.leaf' ?_
          · refine And.intro (?_ : Inv 2 _) (?_ : lt2 μ (2, _) _) <;> simp (disch := omega) only [Wb, Sb.val, List.map_cons, List.map_nil, d_vi, d_vb, d_vr, d_ci, d_cb, d_nr, d_nl, d_add, d_sub, d_mul, d_rem, d_quo, d_bit, d_mn2, d_mx2, d_w, d_nn, d_bn2, d_len, d_neg, d_cl, d_at1, d_at2, d_at3, d_at4, d_at5, d_at6, d_at7, d_set, d_app, d_cat, d_take, d_drop, d_rep, d_cons, d_lt_t, d_lt_f, d_le_t, d_le_f, d_eqi_t, d_eqi_f, d_eqb_t, d_eqb_f, d_nb_t, d_nb_f, nth0, nthS, d_api, d_apr, D_cons, D_nl, D_nr, D_vr, D_set, mkL_l, mkR_r, mkI_i, d_shr2, d_shr3, d_shr16, d_shr40, d_shl2, d_shl3, d_shl16, d_shl40, d_apb, mkB_b, Φ100, Φ101, Φ102, Φ103, Φ104, Φ105, Φ106, Φ107, Φ108, Φ200, Φ201, Φ202, Φ203, Φ204, Φ205, Φ206, Φ207, Φ208, Φ209, Φ0, Φ1, Φ10, Φ300, Φ301, Φ302, Φ303, Φ304, Φ305, Φ306, Φ307, Φ308, Φ309, Φ310, Φ311, Φ312, Φ313, Φ314, Φ315, Φ316, Φ317, Φ318, Φ319, Φ20, Φ11, Φ30, Φ31, Φ32, Φ400, Φ401, Φ402, Φ403, Φ404, Φ405, Φ406, Φ407, pst, b2i_dec, w64]
            · exact out2 hx2 r1 r2 (by unfold Tch.row; rw [if_pos hc]) (by omega)
            · exact dec _ hx2 (by decide) rfl rfl
          · refine And.intro (?_ : Inv 2 _) (?_ : lt2 μ (2, _) _) <;> simp (disch := omega) only [Wb, Sb.val, List.map_cons, List.map_nil, d_vi, d_vb, d_vr, d_ci, d_cb, d_nr, d_nl, d_add, d_sub, d_mul, d_rem, d_quo, d_bit, d_mn2, d_mx2, d_w, d_nn, d_bn2, d_len, d_neg, d_cl, d_at1, d_at2, d_at3, d_at4, d_at5, d_at6, d_at7, d_set, d_app, d_cat, d_take, d_drop, d_rep, d_cons, d_lt_t, d_lt_f, d_le_t, d_le_f, d_eqi_t, d_eqi_f, d_eqb_t, d_eqb_f, d_nb_t, d_nb_f, nth0, nthS, d_api, d_apr, D_cons, D_nl, D_nr, D_vr, D_set, mkL_l, mkR_r, mkI_i, d_shr2, d_shr3, d_shr16, d_shr40, d_shl2, d_shl3, d_shl16, d_shl40, d_apb, mkB_b, Φ100, Φ101, Φ102, Φ103, Φ104, Φ105, Φ106, Φ107, Φ108, Φ200, Φ201, Φ202, Φ203, Φ204, Φ205, Φ206, Φ207, Φ208, Φ209, Φ0, Φ1, Φ10, Φ300, Φ301, Φ302, Φ303, Φ304, Φ305, Φ306, Φ307, Φ308, Φ309, Φ310, Φ311, Φ312, Φ313, Φ314, Φ315, Φ316, Φ317, Φ318, Φ319, Φ20, Φ11, Φ30, Φ31, Φ32, Φ400, Φ401, Φ402, Φ403, Φ404, Φ405, Φ406, Φ407, pst, b2i_dec, w64]
            · exact out2 hx2 _ _ (by unfold Tch.row; rw [if_neg (Int.not_lt.mpr hc)]) (by rw [List.length_append, List.length_singleton]; omega)
            · exact dec _ hx2 (by decide) rfl rfl
        · have hx3 : idx = 3 := by omega
          refine TOK.br' (fun hc => ?_) (fun hc => ?_) <;> simp only [Wb, d_vi, d_vb, d_vr, d_ci, d_cb, d_nr, d_nl, d_add, d_sub, d_mul, d_rem, d_quo, d_bit, d_mn2, d_mx2, d_w, d_nn, d_bn2, d_len, d_neg, d_cl, d_at1, d_at2, d_at3, d_at4, d_at5, d_at6, d_at7, d_set, d_app, d_cat, d_take, d_drop, d_rep, d_cons, d_lt_t, d_lt_f, d_le_t, d_le_f, d_eqi_t, d_eqi_f, d_eqb_t, d_eqb_f, d_nb_t, d_nb_f, nth0, nthS, d_api, d_apr, D_cons, D_nl, D_nr, D_vr, D_set, mkL_l, mkR_r, mkI_i, d_shr2, d_shr3, d_shr16, d_shr40, d_shl2, d_shl3, d_shl16, d_shl40, d_apb, mkB_b, Φ100, Φ101, Φ102, Φ103, Φ104, Φ105, Φ106, Φ107, Φ108, Φ200, Φ201, Φ202, Φ203, Φ204, Φ205, Φ206, Φ207, Φ208, Φ209, Φ0, Φ1, Φ10, Φ300, Φ301, Φ302, Φ303, Φ304, Φ305, Φ306, Φ307, Φ308, Φ309, Φ310, Φ311, Φ312, Φ313, Φ314, Φ315, Φ316, Φ317, Φ318, Φ319, Φ20, Φ11, Φ30, Φ31, Φ32, Φ400, Φ401, Φ402, Φ403, Φ404, Φ405, Φ406, Φ407, pst, b2i_dec] at hc <;> refine TOK.leaf' ?_
          · refine And.intro (?_ : Inv 2 _) (?_ : lt2 μ (2, _) _) <;> simp (disch := omega) only [Wb, Sb.val, List.map_cons, List.map_nil, d_vi, d_vb, d_vr, d_ci, d_cb, d_nr, d_nl, d_add, d_sub, d_mul, d_rem, d_quo, d_bit, d_mn2, d_mx2, d_w, d_nn, d_bn2, d_len, d_neg, d_cl, d_at1, d_at2, d_at3, d_at4, d_at5, d_at6, d_at7, d_set, d_app, d_cat, d_take, d_drop, d_rep, d_cons, d_lt_t, d_lt_f, d_le_t, d_le_f, d_eqi_t, d_eqi_f, d_eqb_t, d_eqb_f, d_nb_t, d_nb_f, nth0, nthS, d_api, d_apr, D_cons, D_nl, D_nr, D_vr, D_set, mkL_l, mkR_r, mkI_i, d_shr2, d_shr3, d_shr16, d_shr40, d_shl2, d_shl3, d_shl16, d_shl40, d_apb, mkB_b, Φ100, Φ101, Φ102, Φ103, Φ104, Φ105, Φ106, Φ107, Φ108, Φ200, Φ201, Φ202, Φ203, Φ204, Φ205, Φ206, Φ207, Φ208, Φ209, Φ0, Φ1, Φ10, Φ300, Φ301, Φ302, Φ303, Φ304, Φ305, Φ306, Φ307, Φ308, Φ309, Φ310, Φ311, Φ312, Φ313, Φ314, Φ315, Φ316, Φ317, Φ318, Φ319, Φ20, Φ11, Φ30, Φ31, Φ32, Φ400, Φ401, Φ402, Φ403, Φ404, Φ405, Φ406, Φ407, pst, b2i_dec, w64]
            · exact out3 hx3 r1 r2 (by unfold Tch.row; rw [if_pos hc]) (by omega)
            · exact dec _ hx3 (by decide) rfl rfl
          · refine And.intro (?_ : Inv 2 _) (?_ : lt2 μ (2, _) _) <;> simp (disch := omega) only [Wb, Sb.val, List.map_cons, List.map_nil, d_vi, d_vb, d_vr, d_ci, d_cb, d_nr, d_nl, d_add, d_sub, d_mul, d_rem, d_quo, d_bit, d_mn2, d_mx2, d_w, d_nn, d_bn2, d_len, d_neg, d_cl, d_at1, d_at2, d_at3, d_at4, d_at5, d_at6, d_at7, d_set, d_app, d_cat, d_take, d_drop, d_rep, d_cons, d_lt_t, d_lt_f, d_le_t, d_le_f, d_eqi_t, d_eqi_f, d_eqb_t, d_eqb_f, d_nb_t, d_nb_f, nth0, nthS, d_api, d_apr, D_cons, D_nl, D_nr, D_vr, D_set, mkL_l, mkR_r, mkI_i, d_shr2, d_shr3, d_shr16, d_shr40, d_shl2, d_shl3, d_shl16, d_shl40, d_apb, mkB_b, Φ100, Φ101, Φ102, Φ103, Φ104, Φ105, Φ106, Φ107, Φ108, Φ200, Φ201, Φ202, Φ203, Φ204, Φ205, Φ206, Φ207, Φ208, Φ209, Φ0, Φ1, Φ10, Φ300, Φ301, Φ302, Φ303, Φ304, Φ305, Φ306, Φ307, Φ308, Φ309, Φ310, Φ311, Φ312, Φ313, Φ314, Φ315, Φ316, Φ317, Φ318, Φ319, Φ20, Φ11, Φ30, Φ31, Φ32, Φ400, Φ401, Φ402, Φ403, Φ404, Φ405, Φ406, Φ407, pst, b2i_dec, w64]
            · exact out3 hx3 _ _ (by unfold Tch.row; rw [if_neg (Int.not_lt.mpr hc)]) (by rw [List.length_append, List.length_singleton]; omega)
            · exact dec _ hx3 (by decide) rfl rfl
  · refine TOK.leaf' ?_
    refine And.intro (?_ : Inv 1 _) (?_ : lt2 μ (1, _) _) <;> simp (disch := omega) only [Wb, Sb.val, List.map_cons, List.map_nil, d_vi, d_vb, d_vr, d_ci, d_cb, d_nr, d_nl, d_add, d_sub, d_mul, d_rem, d_quo, d_bit, d_mn2, d_mx2, d_w, d_nn, d_bn2, d_len, d_neg, d_cl, d_at1, d_at2, d_at3, d_at4, d_at5, d_at6, d_at7, d_set, d_app, d_cat, d_take, d_drop, d_rep, d_cons, d_lt_t, d_lt_f, d_le_t, d_le_f, d_eqi_t, d_eqi_f, d_eqb_t, d_eqb_f, d_nb_t, d_nb_f, nth0, nthS, d_api, d_apr, D_cons, D_nl, D_nr, D_vr, D_set, mkL_l, mkR_r, mkI_i, d_shr2, d_shr3, d_shr16, d_shr40, d_shl2, d_shl3, d_shl16, d_shl40, d_apb, mkB_b, w64]
    · exact .inr (.inl ⟨rfl, now, n + 1, S, src, p0, p1, p2, p3, r0, r1, r2, rfl, hC, ⟨h0, h1, h2, h3⟩, by omega, by omega, g4, (i0 (by omega)).mono (by omega), (i1 (by omega)).mono (by omega), (i2 (by omega)).mono (by omega), (i3 (by omega)).mono (by omega)⟩)
    · exact .inl (by show (300 - 2 * (n + 1)).toNat < (299 - 2 * n).toNat; omega)
theorem s3 : ∀ v, Inv 3 v → TOK v (fun _ g => LgOK v (fun q u => Inv q u ∧ lt2 μ (q, u) (3, v)) g) tr3 := by
  intro v hv
  obtain ⟨x, y, now, S, src, p0, p1, p2, p3, r0, r1, r2, rfl, hd, hC, ⟨h0, h1, h2, h3⟩, g1, g2, g3, q0, q1, q2, q3⟩ := inv3 hv
  subst hd
  have lb := hC.lb
  have nxt : y < 4 → Inv 3 (Wa 4 (y + 1) S src p0 p1 p2 p3 r0 r1 r2) ∧ lt2 μ (3, Wa 4 (y + 1) S src p0 p1 p2 p3 r0 r1 r2) (3, Wa 4 y S src p0 p1 p2 p3 r0 r1 r2) := fun z => ⟨.inr (.inr (.inr ⟨rfl, 4, y + 1, now, S, src, p0, p1, p2, p3, r0, r1, r2, rfl, rfl, hC, ⟨h0, h1, h2, h3⟩, by omega, g2, g3, q0, q1, q2, q3⟩)), .inr ⟨rfl, by show (10 - (y + 1)).toNat < (10 - y).toNat; omega⟩⟩
  obtain ⟨a0, b0, c0, d0, e0, f0, l0, m0⟩ := one_end (w := 0) hC (by decide) (by decide) h0 q0
  have d0' : cl r1 (4 * S + (0 * S + p0.c.k)) = 100 := (congrArg (cl r1) (by omega)).trans d0
  have e0' : Go.bits .and .u64 (cl r1 (0 * S + p0.c.k)) 3 = 1 := (congrArg (fun z => wS z) (congrArg (cl r1) (by omega))).trans e0
  have f0' : Go.bits .and .u64 ((cl r1 (0 * S + p0.c.k)).fdiv 4) 1 = 1 := (congrArg (fun z => wE z) (congrArg (cl r1) (by omega))).trans f0
  have l0' : Go.bits .and .u64 ((cl r1 (0 * S + p0.c.k)).fdiv 65536) 16777215 = p0.t.lo := (congrArg (fun z => wL z) (congrArg (cl r1) (by omega))).trans l0
  have m0' : Go.bits .and .u64 ((cl r1 (0 * S + p0.c.k)).fdiv 1099511627776) 16777215 = p0.t.hi := (congrArg (fun z => wH z) (congrArg (cl r1) (by omega))).trans m0
  obtain ⟨a1, b1, c1, d1, e1, f1, l1, m1⟩ := one_end (w := 1) hC (by decide) (by decide) h1 q1
  have d1' : cl r1 (4 * S + (S + p1.c.k)) = 101 := (congrArg (cl r1) (by omega)).trans d1
  have e1' : Go.bits .and .u64 (cl r1 (S + p1.c.k)) 3 = 1 := (congrArg (fun z => wS z) (congrArg (cl r1) (by omega))).trans e1
  have f1' : Go.bits .and .u64 ((cl r1 (S + p1.c.k)).fdiv 4) 1 = 1 := (congrArg (fun z => wE z) (congrArg (cl r1) (by omega))).trans f1
  have l1' : Go.bits .and .u64 ((cl r1 (S + p1.c.k)).fdiv 65536) 16777215 = p1.t.lo := (congrArg (fun z => wL z) (congrArg (cl r1) (by omega))).trans l1
  have m1' : Go.bits .and .u64 ((cl r1 (S + p1.c.k)).fdiv 1099511627776) 16777215 = p1.t.hi := (congrArg (fun z => wH z) (congrArg (cl r1) (by omega))).trans m1
  obtain ⟨a2, b2, c2, d2, e2, f2, l2, m2⟩ := one_end (w := 2) hC (by decide) (by decide) h2 q2
  have d2' : cl r1 (4 * S + (2 * S + p2.c.k)) = 102 := (congrArg (cl r1) (by omega)).trans d2
  have e2' : Go.bits .and .u64 (cl r1 (2 * S + p2.c.k)) 3 = 1 := (congrArg (fun z => wS z) (congrArg (cl r1) (by omega))).trans e2
  have f2' : Go.bits .and .u64 ((cl r1 (2 * S + p2.c.k)).fdiv 4) 1 = 1 := (congrArg (fun z => wE z) (congrArg (cl r1) (by omega))).trans f2
  have l2' : Go.bits .and .u64 ((cl r1 (2 * S + p2.c.k)).fdiv 65536) 16777215 = p2.t.lo := (congrArg (fun z => wL z) (congrArg (cl r1) (by omega))).trans l2
  have m2' : Go.bits .and .u64 ((cl r1 (2 * S + p2.c.k)).fdiv 1099511627776) 16777215 = p2.t.hi := (congrArg (fun z => wH z) (congrArg (cl r1) (by omega))).trans m2
  obtain ⟨a3, b3, c3, d3, e3, f3, l3, m3⟩ := one_end (w := 3) hC (by decide) (by decide) h3 q3
  have d3' : cl r1 (4 * S + (3 * S + p3.c.k)) = 103 := (congrArg (cl r1) (by omega)).trans d3
  have e3' : Go.bits .and .u64 (cl r1 (3 * S + p3.c.k)) 3 = 1 := (congrArg (fun z => wS z) (congrArg (cl r1) (by omega))).trans e3
  have f3' : Go.bits .and .u64 ((cl r1 (3 * S + p3.c.k)).fdiv 4) 1 = 1 := (congrArg (fun z => wE z) (congrArg (cl r1) (by omega))).trans f3
  have l3' : Go.bits .and .u64 ((cl r1 (3 * S + p3.c.k)).fdiv 65536) 16777215 = p3.t.lo := (congrArg (fun z => wL z) (congrArg (cl r1) (by omega))).trans l3
  have m3' : Go.bits .and .u64 ((cl r1 (3 * S + p3.c.k)).fdiv 1099511627776) 16777215 = p3.t.hi := (congrArg (fun z => wH z) (congrArg (cl r1) (by omega))).trans m3
  unfold tr3
  refine TOK.br' (fun hi => ?_) (fun hi => ?_) <;> simp only [Wa, d_vi, d_vb, d_vr, d_ci, d_cb, d_nr, d_nl, d_add, d_sub, d_mul, d_rem, d_quo, d_bit, d_mn2, d_mx2, d_w, d_nn, d_bn2, d_len, d_neg, d_cl, d_at1, d_at2, d_at3, d_at4, d_at5, d_at6, d_at7, d_set, d_app, d_cat, d_take, d_drop, d_rep, d_cons, d_lt_t, d_lt_f, d_le_t, d_le_f, d_eqi_t, d_eqi_f, d_eqb_t, d_eqb_f, d_nb_t, d_nb_f, nth0, nthS, d_api, d_apr, D_cons, D_nl, D_nr, D_vr, D_set, mkL_l, mkR_r, mkI_i, d_shr2, d_shr3, d_shr16, d_shr40, d_shl2, d_shl3, d_shl16, d_shl40, d_apb, mkB_b] at hi
  · refine TOK.need' (by simp only [Wa, d_vi, d_vb, d_vr, d_ci, d_cb, d_nr, d_nl, d_add, d_sub, d_mul, d_rem, d_quo, d_bit, d_mn2, d_mx2, d_w, d_nn, d_bn2, d_len, d_neg, d_cl, d_at1, d_at2, d_at3, d_at4, d_at5, d_at6, d_at7, d_set, d_app, d_cat, d_take, d_drop, d_rep, d_cons, d_lt_t, d_lt_f, d_le_t, d_le_f, d_eqi_t, d_eqi_f, d_eqb_t, d_eqb_f, d_nb_t, d_nb_f, nth0, nthS, d_api, d_apr, D_cons, D_nl, D_nr, D_vr, D_set, mkL_l, mkR_r, mkI_i, d_shr2, d_shr3, d_shr16, d_shr40, d_shl2, d_shl3, d_shl16, d_shl40, d_apb, mkB_b]; omega) ?_
    refine TOK.br' (fun hx0 => ?_) (fun hx0 => ?_) <;> simp only [Wa, d_vi, d_vb, d_vr, d_ci, d_cb, d_nr, d_nl, d_add, d_sub, d_mul, d_rem, d_quo, d_bit, d_mn2, d_mx2, d_w, d_nn, d_bn2, d_len, d_neg, d_cl, d_at1, d_at2, d_at3, d_at4, d_at5, d_at6, d_at7, d_set, d_app, d_cat, d_take, d_drop, d_rep, d_cons, d_lt_t, d_lt_f, d_le_t, d_le_f, d_eqi_t, d_eqi_f, d_eqb_t, d_eqb_f, d_nb_t, d_nb_f, nth0, nthS, d_api, d_apr, D_cons, D_nl, D_nr, D_vr, D_set, mkL_l, mkR_r, mkI_i, d_shr2, d_shr3, d_shr16, d_shr40, d_shl2, d_shl3, d_shl16, d_shl40, d_apb, mkB_b] at hx0
    · have hy : y = 0 := by omega
      repeat' (first
        | (refine TOK.br' (fun h => ?_) (fun h => ?_) <;> simp only [Wa, d_vi, d_vb, d_vr, d_ci, d_cb, d_nr, d_nl, d_add, d_sub, d_mul, d_rem, d_quo, d_bit, d_mn2, d_mx2, d_w, d_nn, d_bn2, d_len, d_neg, d_cl, d_at1, d_at2, d_at3, d_at4, d_at5, d_at6, d_at7, d_set, d_app, d_cat, d_take, d_drop, d_rep, d_cons, d_lt_t, d_lt_n, d_le_t, d_le_n, d_eqi_t, d_eqi_f, d_eqb_t, d_eqb_f, d_nb_t, d_nb_f, nth0, nthS, d_api, d_apr, D_cons, D_nl, D_nr, D_vr, D_set, mkL_l, mkR_r, mkI_i, d_shr2, d_shr3, d_shr16, d_shr40, d_shl2, d_shl3, d_shl16, d_shl40, d_apb, mkB_b] at h <;> (try rw [hy] at h) <;> (try (exfalso; omega)))
        | (with_reducible refine TOK.leaf' ?_)
        | (with_reducible refine both' ?_ ?_))
      all_goals (show _ ∧ _; exact nxt (by omega))
    · refine TOK.br' (fun hx1 => ?_) (fun hx1 => ?_) <;> simp only [Wa, d_vi, d_vb, d_vr, d_ci, d_cb, d_nr, d_nl, d_add, d_sub, d_mul, d_rem, d_quo, d_bit, d_mn2, d_mx2, d_w, d_nn, d_bn2, d_len, d_neg, d_cl, d_at1, d_at2, d_at3, d_at4, d_at5, d_at6, d_at7, d_set, d_app, d_cat, d_take, d_drop, d_rep, d_cons, d_lt_t, d_lt_f, d_le_t, d_le_f, d_eqi_t, d_eqi_f, d_eqb_t, d_eqb_f, d_nb_t, d_nb_f, nth0, nthS, d_api, d_apr, D_cons, D_nl, D_nr, D_vr, D_set, mkL_l, mkR_r, mkI_i, d_shr2, d_shr3, d_shr16, d_shr40, d_shl2, d_shl3, d_shl16, d_shl40, d_apb, mkB_b] at hx1
      · have hy : y = 1 := by omega
        repeat' (first
          | (refine TOK.br' (fun h => ?_) (fun h => ?_) <;> simp only [Wa, d_vi, d_vb, d_vr, d_ci, d_cb, d_nr, d_nl, d_add, d_sub, d_mul, d_rem, d_quo, d_bit, d_mn2, d_mx2, d_w, d_nn, d_bn2, d_len, d_neg, d_cl, d_at1, d_at2, d_at3, d_at4, d_at5, d_at6, d_at7, d_set, d_app, d_cat, d_take, d_drop, d_rep, d_cons, d_lt_t, d_lt_n, d_le_t, d_le_n, d_eqi_t, d_eqi_f, d_eqb_t, d_eqb_f, d_nb_t, d_nb_f, nth0, nthS, d_api, d_apr, D_cons, D_nl, D_nr, D_vr, D_set, mkL_l, mkR_r, mkI_i, d_shr2, d_shr3, d_shr16, d_shr40, d_shl2, d_shl3, d_shl16, d_shl40, d_apb, mkB_b] at h <;> (try rw [hy] at h) <;> (try (exfalso; omega)))
          | (with_reducible refine TOK.leaf' ?_)
          | (with_reducible refine both' ?_ ?_))
        all_goals (show _ ∧ _; exact nxt (by omega))
      · refine TOK.br' (fun hx2 => ?_) (fun hx2 => ?_) <;> simp only [Wa, d_vi, d_vb, d_vr, d_ci, d_cb, d_nr, d_nl, d_add, d_sub, d_mul, d_rem, d_quo, d_bit, d_mn2, d_mx2, d_w, d_nn, d_bn2, d_len, d_neg, d_cl, d_at1, d_at2, d_at3, d_at4, d_at5, d_at6, d_at7, d_set, d_app, d_cat, d_take, d_drop, d_rep, d_cons, d_lt_t, d_lt_f, d_le_t, d_le_f, d_eqi_t, d_eqi_f, d_eqb_t, d_eqb_f, d_nb_t, d_nb_f, nth0, nthS, d_api, d_apr, D_cons, D_nl, D_nr, D_vr, D_set, mkL_l, mkR_r, mkI_i, d_shr2, d_shr3, d_shr16, d_shr40, d_shl2, d_shl3, d_shl16, d_shl40, d_apb, mkB_b] at hx2
        · have hy : y = 2 := by omega
          repeat' (first
            | (refine TOK.br' (fun h => ?_) (fun h => ?_) <;> simp only [Wa, d_vi, d_vb, d_vr, d_ci, d_cb, d_nr, d_nl, d_add, d_sub, d_mul, d_rem, d_quo, d_bit, d_mn2, d_mx2, d_w, d_nn, d_bn2, d_len, d_neg, d_cl, d_at1, d_at2, d_at3, d_at4, d_at5, d_at6, d_at7, d_set, d_app, d_cat, d_take, d_drop, d_rep, d_cons, d_lt_t, d_lt_n, d_le_t, d_le_n, d_eqi_t, d_eqi_f, d_eqb_t, d_eqb_f, d_nb_t, d_nb_f, nth0, nthS, d_api, d_apr, D_cons, D_nl, D_nr, D_vr, D_set, mkL_l, mkR_r, mkI_i, d_shr2, d_shr3, d_shr16, d_shr40, d_shl2, d_shl3, d_shl16, d_shl40, d_apb, mkB_b] at h <;> (try rw [hy] at h) <;> (try (exfalso; omega)))
            | (with_reducible refine TOK.leaf' ?_)
            | (with_reducible refine both' ?_ ?_))
          all_goals (show _ ∧ _; exact nxt (by omega))
        · have hy : y = 3 := by omega
          repeat' (first
            | (refine TOK.br' (fun h => ?_) (fun h => ?_) <;> simp only [Wa, d_vi, d_vb, d_vr, d_ci, d_cb, d_nr, d_nl, d_add, d_sub, d_mul, d_rem, d_quo, d_bit, d_mn2, d_mx2, d_w, d_nn, d_bn2, d_len, d_neg, d_cl, d_at1, d_at2, d_at3, d_at4, d_at5, d_at6, d_at7, d_set, d_app, d_cat, d_take, d_drop, d_rep, d_cons, d_lt_t, d_lt_n, d_le_t, d_le_n, d_eqi_t, d_eqi_f, d_eqb_t, d_eqb_f, d_nb_t, d_nb_f, nth0, nthS, d_api, d_apr, D_cons, D_nl, D_nr, D_vr, D_set, mkL_l, mkR_r, mkI_i, d_shr2, d_shr3, d_shr16, d_shr40, d_shl2, d_shl3, d_shl16, d_shl40, d_apb, mkB_b] at h <;> (try rw [hy] at h) <;> (try (exfalso; omega)))
            | (with_reducible refine TOK.leaf' ?_)
            | (with_reducible refine both' ?_ ?_))
          all_goals (show _ ∧ _; exact nxt (by omega))
  · refine TOK.leaf' ?_
    exact rfl
theorem sS (a0 a1 a2 : Int) (l : Row) (h0 : a0 % 4 = 3) : TOK (⟨[a0, a1, a2], [], [l], [], Φ⟩ : Val) (fun _ g => LgOK (⟨[a0, a1, a2], [], [l], [], Φ⟩ : Val) Inv g) trS := by
  unfold trS
  have hU := u64_in a2
  refine TOK.br' (fun h => ?_) (fun h => ?_) <;> simp only [d_vi, d_vb, d_vr, d_ci, d_cb, d_nr, d_nl, d_add, d_sub, d_mul, d_rem, d_quo, d_bit, d_mn2, d_mx2, d_w, d_nn, d_bn2, d_len, d_neg, d_cl, d_at1, d_at2, d_at3, d_at4, d_at5, d_at6, d_at7, d_set, d_app, d_cat, d_take, d_drop, d_rep, d_cons, d_lt_t, d_lt_f, d_le_t, d_le_f, d_eqi_t, d_eqi_f, d_eqb_t, d_eqb_f, d_nb_t, d_nb_f, nth0, nthS, d_api, d_apr, D_cons, D_nl, D_nr, D_vr, D_set, mkL_l, mkR_r, mkI_i, d_shr2, d_shr3, d_shr16, d_shr40, d_shl2, d_shl3, d_shl16, d_shl40, d_apb, mkB_b] at h <;> refine TOK.leaf' ?_
  · exact rfl
  · refine (show Inv 0 _ from ?_)
    simp (disch := omega) only [Sb.val, List.map_cons, List.map_nil, d_vi, d_vb, d_vr, d_ci, d_cb, d_nr, d_nl, d_add, d_sub, d_mul, d_rem, d_quo, d_bit, d_mn2, d_mx2, d_w, d_nn, d_bn2, d_len, d_neg, d_cl, d_at1, d_at2, d_at3, d_at4, d_at5, d_at6, d_at7, d_set, d_app, d_cat, d_take, d_drop, d_rep, d_cons, d_lt_t, d_lt_f, d_le_t, d_le_f, d_eqi_t, d_eqi_f, d_eqb_t, d_eqb_f, d_nb_t, d_nb_f, nth0, nthS, d_api, d_apr, D_cons, D_nl, D_nr, D_vr, D_set, mkL_l, mkR_r, mkI_i, d_shr2, d_shr3, d_shr16, d_shr40, d_shl2, d_shl3, d_shl16, d_shl40, d_apb, mkB_b, Φ100, Φ101, Φ102, Φ103, Φ104, Φ105, Φ106, Φ107, Φ108, Φ200, Φ201, Φ202, Φ203, Φ204, Φ205, Φ206, Φ207, Φ208, Φ209, Φ0, Φ1, Φ10, Φ300, Φ301, Φ302, Φ303, Φ304, Φ305, Φ306, Φ307, Φ308, Φ309, Φ310, Φ311, Φ312, Φ313, Φ314, Φ315, Φ316, Φ317, Φ318, Φ319, Φ20, Φ11, Φ30, Φ31, Φ32, Φ400, Φ401, Φ402, Φ403, Φ404, Φ405, Φ406, Φ407, and3, and65535, tmod_pos]
    have hz : ∀ (n : Nat) (j : Int), cl (List.replicate n [0]) j = 0 := cl_rep
    have hC : ∀ n : Nat, (n : Int) = 2 * (4 * (a1 % 4 + 1)) + 2 * 4 → Com 4 (a1 % 4 + 1) (IntKind.u64.wrap a2 % 5) 0 (List.replicate n [0]) := fun n hn => ⟨by omega, by rw [List.length_replicate]; omega, fun j => by rw [hz]; exact ⟨by decide, by decide⟩, fun j _ _ => by rw [hz]; exact ⟨by decide, by decide⟩, by decide⟩
    have hp : PotB 4 (a1 % 4 + 1) (IntKind.u64.wrap a2 % 5) put0 (putMost 4 (a1 % 4 + 1) (IntKind.u64.wrap a2 % 5) 1) := fun _ => by rw [ppot0]; exact Int.le_refl _
    exact .inl ⟨rfl, 0, 0, _, _, put0, put0, put0, put0, l, _, [], rfl, hC _ (by omega), ⟨one0 (hC _ (by omega)) (by decide) (by decide) (hz _), one0 (hC _ (by omega)) (by decide) (by decide) (hz _), one0 (hC _ (by omega)) (by decide) (by decide) (hz _), one0 (hC _ (by omega)) (by decide) (by decide) (hz _)⟩, ⟨by decide, by omega⟩, by omega, rfl, by decide, hp, hp, hp, hp⟩
theorem hk0 (a0 a1 a2 : Int) (l : Row) (h0 : a0 % 4 = 3) : KV (⟨[a0, a1, a2], [], [l], [], Φ⟩ : Val) kn0 := by
  unfold KV kn0
  simp only [List.forall_mem_cons, d_vi, d_vb, d_vr, d_ci, d_cb, d_nr, d_nl, d_add, d_sub, d_mul, d_rem, d_quo, d_bit, d_mn, d_mx, d_w, d_nn, d_bn, d_len, d_neg, d_at0, d_at1, d_at2, d_at3, d_at4, d_at5, d_at6, d_at7, d_set, d_app, d_cat, d_take, d_drop, d_rep, d_cons, d_lt_t, d_lt_f, d_le_t, d_le_f, d_eqi_t, d_eqi_f, d_eqb_t, d_eqb_f, d_nb_t, d_nb_f, nth0, nthS, d_api, d_apr, D_cons, D_nl, D_nr, D_vr, D_set, mkL_l, mkR_r, mkI_i, d_apb, mkB_b, and3, h0]
  simp
theorem all (a0 a1 a2 : Int) (l : Row) (h0 : a0 % 4 = 3) : AW P0 fn.ntmps (dH (⟨[a0, a1, a2], [], [l], [], Φ⟩ : Val) KPutMany4.h0) bod (dT (⟨[a0, a1, a2], [], [l], [], Φ⟩ : Val) (sargs0 0 args)) (dH (⟨[a0, a1, a2], [], [l], [], Φ⟩ : Val) KPutMany4.h0) (Eng.Ends I0 fn fun u _ => u = .bool true) :=
  aw ⟨[a0, a1, a2], [], [l], [], Φ⟩ Inv μ rfl hΦ (hk0 a0 a1 a2 l h0) k0 k1 k2 k3 (sS a0 a1 a2 l h0) s0 s1 s2 s3
end Go.Proofs.Ytckbckijpdnlaaa.KPutMany4
