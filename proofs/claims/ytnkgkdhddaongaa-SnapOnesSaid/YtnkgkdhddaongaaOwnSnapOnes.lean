/- The law SnapOnes of snap: where no word ever is again what it was, all words were so at one time: it answers true for all numbers and all turns. No condition. -/
import Derived.Test.YtnkgkdhddaongaaOwnSnapOnesS
import Derived.Test.YtnkgkdhddaongaaOwnS14
set_option linter.unusedVariables false
set_option linter.unusedSimpArgs false
set_option maxRecDepth 100000
set_option maxHeartbeats 16000000
namespace Go.Proofs.Ytnkgkdhddaongaa.KSnapOnes
open Go Go.Lib Go.Proofs.Ytnkgkdhddaongaa.Eng Go.Proofs.Ytnkgkdhddaongaa.Sy Go.RowKit

/-- Turns ahead of a step; turns at a step. -/
def ct (n : Int) : List (List Int) → Nat
  | [] => 0
  | e :: l => (if nth 0 e 0 < n then 1 else 0) + ct n l
def ce (n : Int) : List (List Int) → Nat
  | [] => 0
  | e :: l => (if nth 0 e 0 = n then 1 else 0) + ce n l
theorem ct_len (n : Int) : ∀ l, ct n l ≤ l.length
  | [] => by simp [ct]
  | e :: l => by have := ct_len n l; simp only [ct, List.length_cons]; split <;> omega
theorem ct_add (n : Int) : ∀ l, ct n l + ce n l = ct (n + 1) l
  | [] => rfl
  | e :: l => by
    have := ct_add n l
    simp only [ct, ce]
    repeat' split
    all_goals omega
theorem ce_app (n : Int) : ∀ l m, ce n (l ++ m) = ce n l + ce n m
  | [], m => by simp [ce]
  | e :: l, m => by have := ce_app n l m; simp only [ce, List.cons_append, this]; omega
theorem ce_take (n : Int) (l : List (List Int)) (i : Int) (h0 : 0 ≤ i) (h : i < l.length) : ce n (l.take (i + 1).toNat) = ce n (l.take i.toNat) + if cl l i = n then 1 else 0 := by
  have hi : i.toNat < l.length := by omega
  rw [show (i + 1).toNat = i.toNat + 1 by omega, List.take_add_one, List.getElem?_eq_getElem hi, ce_app]
  congr 1
  have : cl l i = nth 0 l[i.toNat] 0 := by unfold cl; rw [List.getD_eq_getElem?_getD, List.getElem?_eq_getElem hi]; rfl
  simp only [Option.toList, ce, this]
  split <;> rfl
theorem ce_le (n : Int) (l : List (List Int)) (i : Nat) : ce n (l.take i) ≤ ce n l := by
  have := ce_app n (l.take i) (l.drop i)
  rw [List.take_append_drop] at this
  omega
theorem cl_app {r : List (List Int)} {x j : Int} (h0 : 0 ≤ j) : cl (r ++ [[x]]) j = if j = (r.length : Int) then x else cl r j := by
  unfold cl
  rw [List.getD_eq_getElem?_getD, List.getD_eq_getElem?_getD]
  split
  · rename_i h
    rw [show j.toNat = r.length by omega, List.getElem?_concat_length]; rfl
  · rename_i h
    rcases (by omega : j < (r.length : Int) ∨ (r.length : Int) < j) with g | g
    · rw [List.getElem?_append_left (by omega)]
    · rw [List.getElem?_eq_none (by simp; omega), List.getElem?_eq_none (by omega)]
/-- What holds everywhere. -/
def FB (N T S who st : Int) (r0 r2 r4 : List (List Int)) : Prop :=
  1 ≤ T ∧ T ≤ 4 ∧ 1 ≤ S ∧ S ≤ 4 ∧ T * S = N ∧ 1 ≤ N ∧ N ≤ 16 ∧ 0 ≤ who ∧ who < T ∧ 0 ≤ st ∧ st < N ∧ (r2.length : Int) = 2 * N + 2 * T ∧ (r4.length : Int) = N ∧ (r0.length : Int) ≤ 40
/-- Passes and turns. -/
def FP (N tn last n k ps : Int) : Prop :=
  0 ≤ k ∧ k < N ∧ 0 ≤ ps ∧ n = ps * N + k ∧ -1 ≤ last ∧ last ≤ ps ∧ 0 ≤ tn ∧ tn ≤ 40 ∧ (last = ps → ps ≤ 2 * tn - 1) ∧ (last < ps → 1 ≤ ps → last = ps - 1 → ps ≤ 2 * tn) ∧ (last < ps → ps ≤ 2 * tn + 1)
theorem FP.b {N tn last n k ps : Int} (h : FP N tn last n k ps) : 0 ≤ k ∧ k < N ∧ 0 ≤ ps ∧ ps ≤ 81 ∧ n = ps * N + k ∧ -1 ≤ last ∧ last ≤ ps ∧ 0 ≤ tn ∧ tn ≤ 40 := by
  obtain ⟨p1, p2, p3, p4, p5, p6, p7, p8, p9, p10, p11⟩ := h
  refine ⟨p1, p2, p3, ?_, p4, p5, p6, p7, p8⟩
  rcases Int.lt_or_eq_of_le p6 with z | z
  · have := p11 z; clear p9 p10 p11; omega
  · have := p9 z; clear p9 p10 p11; omega
/-- What was read. -/
def FW (N last k ps st : Int) (b : Bool) (r2 r4 : List (List Int)) : Prop :=
  (last < ps → ∀ q, 0 ≤ q → q < k → cl r4 ((st + q) % N) = cl r2 ((st + q) % N)) ∧
  (last < ps - 1 → 1 ≤ ps → (∀ j, 0 ≤ j → j < N → cl r4 j = cl r2 j) ∧ (0 < k → b = true))
/-- Words come later and later. -/
def FM (N fr : Int) (r2 r4 : List (List Int)) : Prop := ∀ j, 0 ≤ j → j < N → 0 ≤ cl r4 j ∧ cl r4 j ≤ cl r2 j ∧ cl r2 j < fr
/-- What was read against what was there ahead of the pass. -/
def FZ (N k st : Int) (b : Bool) (r1 r2 r4 : List (List Int)) : Prop :=
  (r1.length : Int) = N ∧ (∀ j, 0 ≤ j → j < N → cl r1 j ≤ cl r2 j) ∧ (∀ q, k ≤ q → q < N → cl r4 ((st + q) % N) ≤ cl r1 ((st + q) % N)) ∧ (0 < k → b = true → ∀ q, 0 ≤ q → q < k → cl r4 ((st + q) % N) = cl r1 ((st + q) % N))
def Inv0 (v : Val) : Prop := ∃ (N fr n T S who st k ps tn last : Int) (b : Bool) (r0 r1 r2 r3 r4 : List (List Int)), v = ⟨[N, fr, n, T, S, who, st, k, ps], [b], [r0, r1, r2, r3, r4], []⟩ ∧ FB N T S who st r0 r2 r4 ∧ FP N tn last n k ps ∧ FW N last k ps st b r2 r4 ∧ tn ≤ (ct n r0 : Int) ∧ FM N fr r2 r4 ∧ (0 < k → FZ N k st b r1 r2 r4) ∧
  ((r3.length : Int) ≤ 41 * n ∧ 1 ≤ fr ∧ fr ≤ 1 + 40 * n ∧ (r1.length : Int) ≤ 16)
def Inv1 (v : Val) : Prop := ∃ (N fr n i T S who st ps tn last : Int) (b : Bool) (r0 r1 r2 r3 r4 : List (List Int)), v = ⟨[N, fr, n, i, T, S, who, st, 0, ps], [b], [r0, r1, r2, r3, r4], []⟩ ∧ FB N T S who st r0 r2 r4 ∧ FP N tn last n 0 ps ∧ FW N last 0 ps st b r2 r4 ∧ tn ≤ (ct n r0 : Int) ∧ FM N fr r2 r4 ∧
  (0 ≤ i ∧ i ≤ N ∧ (r1.length : Int) = i) ∧ (∀ j, 0 ≤ j → j < i → cl r1 j = cl r2 j) ∧ ((r3.length : Int) ≤ 41 * n ∧ 1 ≤ fr ∧ fr ≤ 1 + 40 * n)
def Inv2 (v : Val) : Prop := ∃ (N fr n i T S who st k ps tn last : Int) (b : Bool) (r0 r1 r2 r3 r4 : List (List Int)), v = ⟨[N, fr, n, i, T, S, who, st, k, ps], [b], [r0, r1, r2, r3, r4], []⟩ ∧ FB N T S who st r0 r2 r4 ∧ FP N tn last n k ps ∧ FW N last k ps st b r2 r4 ∧ tn ≤ ((ct n r0 : Int) + (ce n (r0.take i.toNat) : Int)) ∧ FM N fr r2 r4 ∧ FZ N k st b r1 r2 r4 ∧
  (0 ≤ i ∧ i ≤ (r0.length : Int) ∧ (r3.length : Int) ≤ 41 * n + i ∧ 1 ≤ fr ∧ fr ≤ 1 + 40 * n + i)
def Inv3 (v : Val) : Prop := ∃ (N fr n T S who st ps : Int) (b : Bool) (r0 r1 r2 r3 r4 : List (List Int)), v = ⟨[N, fr, n, T, S, who, st, 0, ps], [b], [r0, r1, r2, r3, r4], []⟩ ∧ FB N T S who st r0 r2 r4 ∧ (0 ≤ n ∧ n ≤ 1600 ∧ 0 ≤ ps ∧ ps ≤ 82 ∧ (r1.length : Int) = N ∧ (r3.length : Int) ≤ 41 * n ∧ 1 ≤ fr ∧ fr ≤ 1 + 40 * n) ∧ (∀ j, 0 ≤ j → j < N → cl r4 j = cl r1 j)
def Inv4 (v : Val) : Prop := ∃ (N j : Int) (r0 r1 r2 : List (List Int)), v = ⟨[N, j], [], [r0, r1, r2], []⟩ ∧ (0 ≤ j ∧ j ≤ N ∧ N ≤ 16 ∧ (r1.length : Int) = N ∧ (r2.length : Int) = N) ∧ (∀ j, 0 ≤ j → j < N → cl r2 j = cl r1 j)
def Inv (p : Nat) (v : Val) : Prop := (p = 0 ∧ Inv0 v) ∨ (p = 1 ∧ Inv1 v) ∨ (p = 2 ∧ Inv2 v) ∨ (p = 3 ∧ Inv3 v) ∨ (p = 4 ∧ Inv4 v)
def μ (q : Nat × Val) : Nat × Nat := match q.1 with
  | 0 => ((4 * (2000 - nth 0 q.2.i 2) + 3).toNat, 0)
  | 1 => ((4 * (2000 - nth 0 q.2.i 2) + 2).toNat, (17 - nth 0 q.2.i 3).toNat)
  | 2 => ((4 * (2000 - nth 0 q.2.i 2) + 1).toNat, (nth [] q.2.r 0).length - (nth 0 q.2.i 3).toNat)
  | 3 => (1, 0)
  | _ => (0, (20 - nth 0 q.2.i 1).toNat)
theorem inv0 {v : Val} (h : Inv 0 v) : Inv0 v := by rcases h with ⟨_, h⟩ | ⟨h, _⟩ | ⟨h, _⟩ | ⟨h, _⟩ | ⟨h, _⟩ <;> first | exact h | (exact absurd h (by decide))
theorem inv1 {v : Val} (h : Inv 1 v) : Inv1 v := by rcases h with ⟨h, _⟩ | ⟨_, h⟩ | ⟨h, _⟩ | ⟨h, _⟩ | ⟨h, _⟩ <;> first | exact h | (exact absurd h (by decide))
theorem inv2 {v : Val} (h : Inv 2 v) : Inv2 v := by rcases h with ⟨h, _⟩ | ⟨h, _⟩ | ⟨_, h⟩ | ⟨h, _⟩ | ⟨h, _⟩ <;> first | exact h | (exact absurd h (by decide))
theorem inv3 {v : Val} (h : Inv 3 v) : Inv3 v := by rcases h with ⟨h, _⟩ | ⟨h, _⟩ | ⟨h, _⟩ | ⟨_, h⟩ | ⟨h, _⟩ <;> first | exact h | (exact absurd h (by decide))
theorem inv4 {v : Val} (h : Inv 4 v) : Inv4 v := by rcases h with ⟨h, _⟩ | ⟨h, _⟩ | ⟨h, _⟩ | ⟨h, _⟩ | ⟨_, h⟩ <;> first | exact h | (exact absurd h (by decide))
theorem le_mul {a b N : Int} (h : a ≤ b) (hN : 1 ≤ N) : a * N ≤ b * N := Int.mul_le_mul_of_nonneg_right h (by omega)
theorem k0 : ∀ v, Inv 0 v → KV v tm0.kn := by
  intro v hv
  obtain ⟨N, fr, n, T, S, who, st, k, ps, tn, last, b, r0, r1, r2, r3, r4, rfl, hB, hP, hW, hc, hM, hZ, hl⟩ := inv0 hv
  unfold FB at hB
  have hP := hP.b
  have h1 := le_mul (a := ps) (b := 81) (N := N) (by omega) (by omega)
  have h2 := le_mul (a := 0) (b := ps) (N := N) (by omega) (by omega)
  unfold tm0
  repeat' (first | exact KV.nil | refine KV.cons ?_ ?_)
  all_goals (simp (disch := omega) only [d_cl, d_vi, d_vb, d_vr, d_ci, d_cb, d_nr, d_nl, d_add, d_sub, d_mul, d_rem, d_quo, d_bit, d_mn, d_mx, d_w, d_nn, d_bn, d_len, d_neg, d_at0, d_at1, d_at2, d_at3, d_at4, d_at5, d_at6, d_at7, d_set, d_app, d_cat, d_take, d_drop, d_rep, d_cons, d_lt_t, d_lt_f, d_le_t, d_le_f, d_eqi_t, d_eqi_f, d_eqb_t, d_eqb_f, d_nb_t, d_nb_f, nth0, nthS, w64]; omega)
theorem k1 : ∀ v, Inv 1 v → KV v tm1.kn := by
  intro v hv
  obtain ⟨N, fr, n, i, T, S, who, st, ps, tn, last, b, r0, r1, r2, r3, r4, rfl, hB, hP, hW, hc, hM, hi, hE, hl⟩ := inv1 hv
  unfold FB at hB
  have hP := hP.b
  have h1 := le_mul (a := ps) (b := 81) (N := N) (by omega) (by omega)
  have h2 := le_mul (a := 0) (b := ps) (N := N) (by omega) (by omega)
  unfold tm1
  repeat' (first | exact KV.nil | refine KV.cons ?_ ?_)
  all_goals (simp (disch := omega) only [d_cl, d_vi, d_vb, d_vr, d_ci, d_cb, d_nr, d_nl, d_add, d_sub, d_mul, d_rem, d_quo, d_bit, d_mn, d_mx, d_w, d_nn, d_bn, d_len, d_neg, d_at0, d_at1, d_at2, d_at3, d_at4, d_at5, d_at6, d_at7, d_set, d_app, d_cat, d_take, d_drop, d_rep, d_cons, d_lt_t, d_lt_f, d_le_t, d_le_f, d_eqi_t, d_eqi_f, d_eqb_t, d_eqb_f, d_nb_t, d_nb_f, nth0, nthS, w64]; omega)
theorem k2 : ∀ v, Inv 2 v → KV v tm2.kn := by
  intro v hv
  obtain ⟨N, fr, n, i, T, S, who, st, k, ps, tn, last, b, r0, r1, r2, r3, r4, rfl, hB, hP, hW, hc, hM, hZ, hl⟩ := inv2 hv
  unfold FB at hB
  have hP := hP.b
  have h1 := le_mul (a := ps) (b := 81) (N := N) (by omega) (by omega)
  have h2 := le_mul (a := 0) (b := ps) (N := N) (by omega) (by omega)
  have hN : T * S = N := hB.2.2.2.2.1
  have hx := mod_in (a := st + k) (N := N) (by omega)
  have hy := mod_in (a := nth 0 (r0.getD i.toNat []) 1 % 65536) (N := N) (by omega)
  have hz := hZ.1
  unfold tm2
  repeat' (first | exact KV.nil | refine KV.cons ?_ ?_)
  all_goals (simp (disch := omega) only [d_cl, d_vi, d_vb, d_vr, d_ci, d_cb, d_nr, d_nl, d_add, d_sub, d_mul, d_rem, d_quo, d_bit, d_mn, d_mx, d_w, d_nn, d_bn, d_len, d_neg, d_at0, d_at1, d_at2, d_at3, d_at4, d_at5, d_at6, d_at7, d_set, d_app, d_cat, d_take, d_drop, d_rep, d_cons, d_lt_t, d_lt_f, d_le_t, d_le_f, d_eqi_t, d_eqi_f, d_eqb_t, d_eqb_f, d_nb_t, d_nb_f, nth0, nthS, w64, hN, and65535, tmod_pos]; omega)
theorem k3 : ∀ v, Inv 3 v → KV v tm3.kn := by
  intro v hv
  obtain ⟨N, fr, n, T, S, who, st, ps, b, r0, r1, r2, r3, r4, rfl, hB, hl, hE⟩ := inv3 hv
  unfold FB at hB
  unfold tm3
  repeat' (first | exact KV.nil | refine KV.cons ?_ ?_)
  all_goals (simp (disch := omega) only [d_cl, d_vi, d_vb, d_vr, d_ci, d_cb, d_nr, d_nl, d_add, d_sub, d_mul, d_rem, d_quo, d_bit, d_mn, d_mx, d_w, d_nn, d_bn, d_len, d_neg, d_at0, d_at1, d_at2, d_at3, d_at4, d_at5, d_at6, d_at7, d_set, d_app, d_cat, d_take, d_drop, d_rep, d_cons, d_lt_t, d_lt_f, d_le_t, d_le_f, d_eqi_t, d_eqi_f, d_eqb_t, d_eqb_f, d_nb_t, d_nb_f, nth0, nthS, w64]; omega)
theorem k4 : ∀ v, Inv 4 v → KV v tm4.kn := by
  intro v hv
  obtain ⟨N, j, r0, r1, r2, rfl, hl, hE⟩ := inv4 hv
  unfold tm4
  repeat' (first | exact KV.nil | refine KV.cons ?_ ?_)
  all_goals (simp (disch := omega) only [d_cl, d_vi, d_vb, d_vr, d_ci, d_cb, d_nr, d_nl, d_add, d_sub, d_mul, d_rem, d_quo, d_bit, d_mn, d_mx, d_w, d_nn, d_bn, d_len, d_neg, d_at0, d_at1, d_at2, d_at3, d_at4, d_at5, d_at6, d_at7, d_set, d_app, d_cat, d_take, d_drop, d_rep, d_cons, d_lt_t, d_lt_f, d_le_t, d_le_f, d_eqi_t, d_eqi_f, d_eqb_t, d_eqb_f, d_nb_t, d_nb_f, nth0, nthS, w64]; omega)
theorem s0 : ∀ v, Inv 0 v → TOK v (fun _ g => LgOK v (fun q u => Inv q u ∧ lt2 μ (q, u) (0, v)) g) tr0 := by
  intro v hv
  obtain ⟨N, fr, n, T, S, who, st, k, ps, tn, last, b, r0, r1, r2, r3, r4, rfl, hB, hP, hW, hc, hM, hZ, hl⟩ := inv0 hv
  have hB' := hB
  unfold FB at hB'
  have hP' := hP.b
  have h1 := le_mul (a := ps) (b := 81) (N := N) (by omega) (by omega)
  have h2 := le_mul (a := 0) (b := ps) (N := N) (by omega) (by omega)
  have hq : n % N = k := ((Int.ediv_emod_unique (a := n) (b := N) (q := ps) (r := k) (by omega)).2 ⟨by rw [Int.mul_comm]; omega, by omega, by omega⟩).2
  unfold tr0
  refine TOK.br' (fun h => ?_) (fun h => ?_) <;> simp only [d_vi, d_vb, d_vr, d_ci, d_cb, d_nr, d_nl, d_add, d_sub, d_mul, d_rem, d_quo, d_bit, d_mn, d_mx, d_w, d_nn, d_bn, d_len, d_neg, d_at0, d_at1, d_at2, d_at3, d_at4, d_at5, d_at6, d_at7, d_set, d_app, d_cat, d_take, d_drop, d_rep, d_cons, d_lt_t, d_lt_f, d_le_t, d_le_f, d_eqi_t, d_eqi_f, d_eqb_t, d_eqb_f, d_nb_t, d_nb_f, nth0, nthS] at h
  · refine TOK.br' (fun g => ?_) (fun g => ?_) <;> simp (disch := omega) only [d_vi, d_vb, d_vr, d_ci, d_cb, d_nr, d_nl, d_add, d_sub, d_mul, d_rem, d_quo, d_bit, d_mn, d_mx, d_w, d_nn, d_bn, d_len, d_neg, d_at0, d_at1, d_at2, d_at3, d_at4, d_at5, d_at6, d_at7, d_set, d_app, d_cat, d_take, d_drop, d_rep, d_cons, d_lt_t, d_lt_f, d_le_t, d_le_f, d_eqi_t, d_eqi_f, d_eqb_t, d_eqb_f, d_nb_t, d_nb_f, nth0, nthS, tmod_pos, hq] at g
    · subst g
      refine ⟨.inr (.inl ⟨rfl, N, fr, n, 0, T, S, who, st, ps, tn, last, b, r0, [], r2, r3, r4, rfl, hB, hP, hW, hc, hM, ⟨by omega, by omega, by simp⟩, fun j g1 g2 => by omega, by omega⟩), .inl ?_⟩
      simp only [μ, Sb.val, List.map_cons, List.map_nil, d_vi, d_vb, d_vr, d_ci, d_cb, d_nr, d_nl, d_add, d_sub, d_mul, d_rem, d_quo, d_bit, d_mn, d_mx, d_w, d_nn, d_bn, d_len, d_neg, d_at0, d_at1, d_at2, d_at3, d_at4, d_at5, d_at6, d_at7, d_set, d_app, d_cat, d_take, d_drop, d_rep, d_cons, d_lt_t, d_lt_f, d_le_t, d_le_f, d_eqi_t, d_eqi_f, d_eqb_t, d_eqb_f, d_nb_t, d_nb_f, nth0, nthS]; omega
    · refine ⟨.inr (.inr (.inl ⟨rfl, N, fr, n, 0, T, S, who, st, k, ps, tn, last, b, r0, r1, r2, r3, r4, rfl, hB, hP, hW, ?_, hM, hZ (by omega), by omega⟩)), .inl ?_⟩
      · simp only [Int.toNat_zero, List.take_zero, ce]; omega
      · simp only [μ, Sb.val, List.map_cons, List.map_nil, d_vi, d_vb, d_vr, d_ci, d_cb, d_nr, d_nl, d_add, d_sub, d_mul, d_rem, d_quo, d_bit, d_mn, d_mx, d_w, d_nn, d_bn, d_len, d_neg, d_at0, d_at1, d_at2, d_at3, d_at4, d_at5, d_at6, d_at7, d_set, d_app, d_cat, d_take, d_drop, d_rep, d_cons, d_lt_t, d_lt_f, d_le_t, d_le_f, d_eqi_t, d_eqi_f, d_eqb_t, d_eqb_f, d_nb_t, d_nb_f, nth0, nthS]; omega
  · exfalso; omega
theorem s1 : ∀ v, Inv 1 v → TOK v (fun _ g => LgOK v (fun q u => Inv q u ∧ lt2 μ (q, u) (1, v)) g) tr1 := by
  intro v hv
  obtain ⟨N, fr, n, i, T, S, who, st, ps, tn, last, b, r0, r1, r2, r3, r4, rfl, hB, hP, hW, hc, hM, hi, hE, hl⟩ := inv1 hv
  have hB' := hB
  unfold FB at hB'
  have hP' := hP.b
  have h1 := le_mul (a := ps) (b := 81) (N := N) (by omega) (by omega)
  unfold tr1
  refine TOK.br' (fun h => ?_) (fun h => ?_) <;> simp only [d_vi, d_vb, d_vr, d_ci, d_cb, d_nr, d_nl, d_add, d_sub, d_mul, d_rem, d_quo, d_bit, d_mn, d_mx, d_w, d_nn, d_bn, d_len, d_neg, d_at0, d_at1, d_at2, d_at3, d_at4, d_at5, d_at6, d_at7, d_set, d_app, d_cat, d_take, d_drop, d_rep, d_cons, d_lt_t, d_lt_f, d_le_t, d_le_f, d_eqi_t, d_eqi_f, d_eqb_t, d_eqb_f, d_nb_t, d_nb_f, nth0, nthS] at h
  · refine ⟨.inr (.inl ⟨rfl, N, fr, n, i + 1, T, S, who, st, ps, tn, last, b, r0, r1 ++ [[cl r2 i]], r2, r3, r4, rfl, hB, hP, hW, hc, hM, ⟨by omega, by omega, ?_⟩, fun j g1 g2 => ?_, by omega⟩), .inr ⟨?_, ?_⟩⟩
    · rw [List.length_append]; simp only [List.length_cons, List.length_nil]; omega
    · rw [cl_app g1, hi.2.2]
      split
      · rename_i e; rw [e]
      · exact hE j g1 (by omega)
    · simp only [μ, Sb.val, List.map_cons, List.map_nil, d_vi, d_vb, d_vr, d_ci, d_cb, d_nr, d_nl, d_add, d_sub, d_mul, d_rem, d_quo, d_bit, d_mn, d_mx, d_w, d_nn, d_bn, d_len, d_neg, d_at0, d_at1, d_at2, d_at3, d_at4, d_at5, d_at6, d_at7, d_set, d_app, d_cat, d_take, d_drop, d_rep, d_cons, d_lt_t, d_lt_f, d_le_t, d_le_f, d_eqi_t, d_eqi_f, d_eqb_t, d_eqb_f, d_nb_t, d_nb_f, nth0, nthS]
    · simp only [μ, Sb.val, List.map_cons, List.map_nil, d_vi, d_vb, d_vr, d_ci, d_cb, d_nr, d_nl, d_add, d_sub, d_mul, d_rem, d_quo, d_bit, d_mn, d_mx, d_w, d_nn, d_bn, d_len, d_neg, d_at0, d_at1, d_at2, d_at3, d_at4, d_at5, d_at6, d_at7, d_set, d_app, d_cat, d_take, d_drop, d_rep, d_cons, d_lt_t, d_lt_f, d_le_t, d_le_f, d_eqi_t, d_eqi_f, d_eqb_t, d_eqb_f, d_nb_t, d_nb_f, nth0, nthS]; omega
  · have hiN : i = N := by omega
    refine ⟨.inr (.inr (.inl ⟨rfl, N, fr, n, 0, T, S, who, st, 0, ps, tn, last, b, r0, r1, r2, r3, r4, rfl, hB, hP, hW, ?_, hM, ⟨by omega, fun j g1 g2 => ?_, fun q g1 g2 => ?_, fun z => by omega⟩, by omega⟩)), .inl ?_⟩
    · simp only [Int.toNat_zero, List.take_zero, ce]; omega
    · rw [hE j g1 (by omega)]; exact Int.le_refl _
    · have hx := mod_in (a := st + q) (N := N) (by omega)
      rw [hE _ hx.1 (by omega)]; exact (hM _ hx.1 hx.2).2.1
    · simp only [μ, Sb.val, List.map_cons, List.map_nil, d_vi, d_vb, d_vr, d_ci, d_cb, d_nr, d_nl, d_add, d_sub, d_mul, d_rem, d_quo, d_bit, d_mn, d_mx, d_w, d_nn, d_bn, d_len, d_neg, d_at0, d_at1, d_at2, d_at3, d_at4, d_at5, d_at6, d_at7, d_set, d_app, d_cat, d_take, d_drop, d_rep, d_cons, d_lt_t, d_lt_f, d_le_t, d_le_f, d_eqi_t, d_eqi_f, d_eqb_t, d_eqb_f, d_nb_t, d_nb_f, nth0, nthS]; omega
theorem s2 : ∀ v, Inv 2 v → TOK v (fun _ g => LgOK v (fun q u => Inv q u ∧ lt2 μ (q, u) (2, v)) g) tr2 := by
  intro v hv
  obtain ⟨N, fr, n, i, T, S, who, st, k, ps, tn, last, b, r0, r1, r2, r3, r4, rfl, hB, hP, hW, hc, hM, hZ, hl⟩ := inv2 hv
  have hB' := hB
  unfold FB at hB'
  have hP' := hP.b
  have h1 := le_mul (a := ps) (b := 81) (N := N) (by omega) (by omega)
  have h2 := le_mul (a := 0) (b := ps) (N := N) (by omega) (by omega)
  have hN : T * S = N := hB'.2.2.2.2.1
  have hx := mod_in (a := st + k) (N := N) (by omega)
  have hy := mod_in (a := nth 0 (r0.getD i.toNat []) 1 % 65536) (N := N) (by omega)
  unfold tr2
  refine TOK.br' (fun h => ?_) (fun h => ?_) <;> simp only [d_vi, d_vb, d_vr, d_ci, d_cb, d_nr, d_nl, d_add, d_sub, d_mul, d_rem, d_quo, d_bit, d_mn, d_mx, d_w, d_nn, d_bn, d_len, d_neg, d_at0, d_at1, d_at2, d_at3, d_at4, d_at5, d_at6, d_at7, d_set, d_app, d_cat, d_take, d_drop, d_rep, d_cons, d_lt_t, d_lt_f, d_le_t, d_le_f, d_eqi_t, d_eqi_f, d_eqb_t, d_eqb_f, d_nb_t, d_nb_f, nth0, nthS] at h
  · -- a turn, perhaps
    have hct := ce_take n r0 i (by omega) h
    have hlim : ((ct n r0 : Int) + (ce n (r0.take (i + 1).toNat) : Int)) ≤ 40 := by
      have e1 := ct_add n r0
      have e2 := ce_le n r0 (i + 1).toNat
      have e3 := ct_len (n + 1) r0
      omega
    refine TOK.br' (fun g => ?_) (fun g => ?_) <;> simp only [d_cl, d_vi, d_vb, d_vr, d_ci, d_cb, d_nr, d_nl, d_add, d_sub, d_mul, d_rem, d_quo, d_bit, d_mn, d_mx, d_w, d_nn, d_bn, d_len, d_neg, d_at0, d_at1, d_at2, d_at3, d_at4, d_at5, d_at6, d_at7, d_set, d_app, d_cat, d_take, d_drop, d_rep, d_cons, d_lt_t, d_lt_f, d_le_t, d_le_f, d_eqi_t, d_eqi_f, d_eqb_t, d_eqb_f, d_nb_t, d_nb_f, nth0, nthS] at g
    · rw [if_pos g] at hct
      have hM' : FM N (fr + 1) (r2.set (nth 0 (r0.getD i.toNat []) 1 % 65536 % N).toNat [fr]) r4 := fun j g1 g2 => by
        have := hM j g1 g2
        rcases cl_or r2 (nth 0 (r0.getD i.toNat []) 1 % 65536 % N) j fr with e | e <;> rw [e] <;> omega
      have hZ' : FZ N k st b r1 (r2.set (nth 0 (r0.getD i.toNat []) 1 % 65536 % N).toNat [fr]) r4 := ⟨hZ.1, fun j g1 g2 => by
        have e1 := hM j g1 g2
        have e2 := hZ.2.1 j g1 g2
        rcases cl_or r2 (nth 0 (r0.getD i.toNat []) 1 % 65536 % N) j fr with e | e <;> rw [e] <;> omega, hZ.2.2⟩
      have hB2 : FB N T S who st r0 (r2.set (nth 0 (r0.getD i.toNat []) 1 % 65536 % N).toNat [fr]) r4 := by unfold FB; rw [List.length_set]; exact hB
      refine And.intro (?_ : Inv 2 _) (?_ : lt2 μ (2, _) _)
      · simp (disch := omega) only [Sb.val, List.map_cons, List.map_nil, d_vi, d_vb, d_vr, d_ci, d_cb, d_nr, d_nl, d_add, d_sub, d_mul, d_rem, d_quo, d_bit, d_mn, d_mx, d_w, d_nn, d_bn, d_len, d_neg, d_at0, d_at1, d_at2, d_at3, d_at4, d_at5, d_at6, d_at7, d_set, d_app, d_cat, d_take, d_drop, d_rep, d_cons, d_lt_t, d_lt_f, d_le_t, d_le_f, d_eqi_t, d_eqi_f, d_eqb_t, d_eqb_f, d_nb_t, d_nb_f, nth0, nthS, tmod_pos, and65535]
        rcases (by omega : last = ps ∨ last < ps) with e | e
        · refine .inr (.inr (.inl ⟨rfl, N, fr + 1, n, i + 1, T, S, who, st, k, ps, tn, last, b, r0, r1, _, _, r4, rfl, hB2, hP, ⟨fun z => by omega, fun z => by omega⟩, by omega, hM', hZ', ?_⟩))
          rw [List.length_append]; simp only [List.length_cons, List.length_nil]; omega
        · refine .inr (.inr (.inl ⟨rfl, N, fr + 1, n, i + 1, T, S, who, st, k, ps, tn + 1, ps, b, r0, r1, _, _, r4, rfl, hB2, ?_, ⟨fun z => by omega, fun z => by omega⟩, by omega, hM', hZ', ?_⟩))
          · obtain ⟨q1, q2, q3, q4, q5, q6, q7, q8, q9, q10, q11⟩ := hP
            have f := q11 e
            refine ⟨q1, q2, q3, q4, ?_, ?_, ?_, ?_, fun _ => ?_, fun z => ?_, fun z => ?_⟩ <;> (clear q9 q10 q11; omega)
          · rw [List.length_append]; simp only [List.length_cons, List.length_nil]; omega
      · refine .inr ⟨?_, ?_⟩
        · simp only [μ, Sb.val, List.map_cons, List.map_nil, d_vi, d_vb, d_vr, d_ci, d_cb, d_nr, d_nl, d_add, d_sub, d_mul, d_rem, d_quo, d_bit, d_mn, d_mx, d_w, d_nn, d_bn, d_len, d_neg, d_at0, d_at1, d_at2, d_at3, d_at4, d_at5, d_at6, d_at7, d_set, d_app, d_cat, d_take, d_drop, d_rep, d_cons, d_lt_t, d_lt_f, d_le_t, d_le_f, d_eqi_t, d_eqi_f, d_eqb_t, d_eqb_f, d_nb_t, d_nb_f, nth0, nthS]
        · simp only [μ, Sb.val, List.map_cons, List.map_nil, d_vi, d_vb, d_vr, d_ci, d_cb, d_nr, d_nl, d_add, d_sub, d_mul, d_rem, d_quo, d_bit, d_mn, d_mx, d_w, d_nn, d_bn, d_len, d_neg, d_at0, d_at1, d_at2, d_at3, d_at4, d_at5, d_at6, d_at7, d_set, d_app, d_cat, d_take, d_drop, d_rep, d_cons, d_lt_t, d_lt_f, d_le_t, d_le_f, d_eqi_t, d_eqi_f, d_eqb_t, d_eqb_f, d_nb_t, d_nb_f, nth0, nthS]; omega
    · rw [if_neg g] at hct
      refine ⟨.inr (.inr (.inl ⟨rfl, N, fr, n, i + 1, T, S, who, st, k, ps, tn, last, b, r0, r1, r2, r3, r4, rfl, hB, hP, hW, by omega, hM, hZ, by omega⟩)), .inr ⟨?_, ?_⟩⟩
      · simp only [μ, Sb.val, List.map_cons, List.map_nil, d_vi, d_vb, d_vr, d_ci, d_cb, d_nr, d_nl, d_add, d_sub, d_mul, d_rem, d_quo, d_bit, d_mn, d_mx, d_w, d_nn, d_bn, d_len, d_neg, d_at0, d_at1, d_at2, d_at3, d_at4, d_at5, d_at6, d_at7, d_set, d_app, d_cat, d_take, d_drop, d_rep, d_cons, d_lt_t, d_lt_f, d_le_t, d_le_f, d_eqi_t, d_eqi_f, d_eqb_t, d_eqb_f, d_nb_t, d_nb_f, nth0, nthS]
      · simp only [μ, Sb.val, List.map_cons, List.map_nil, d_vi, d_vb, d_vr, d_ci, d_cb, d_nr, d_nl, d_add, d_sub, d_mul, d_rem, d_quo, d_bit, d_mn, d_mx, d_w, d_nn, d_bn, d_len, d_neg, d_at0, d_at1, d_at2, d_at3, d_at4, d_at5, d_at6, d_at7, d_set, d_app, d_cat, d_take, d_drop, d_rep, d_cons, d_lt_t, d_lt_f, d_le_t, d_le_f, d_eqi_t, d_eqi_f, d_eqb_t, d_eqb_f, d_nb_t, d_nb_f, nth0, nthS]; omega
  · -- a step
    obtain ⟨p1, p2, p3, p4, p5, p6, p7, p8, p9, p10, p11⟩ := id hP
    have f1 : ps ≤ 2 * tn + 1 := by
      rcases Int.lt_or_eq_of_le p6 with z | z
      · exact p11 z
      · have := p9 z; clear p9 p10 p11; omega
    have f2 : last = ps → ps + 1 ≤ 2 * tn := fun z => by have := p9 z; clear p9 p10 p11; omega
    have f3 : ¬ (last < ps - 1 ∧ 1 ≤ ps) → ps + 1 ≤ 2 * tn + 1 := fun z => by
      rcases Int.lt_or_eq_of_le p6 with y | y
      · rcases Int.lt_or_eq_of_le p3 with x | x
        · have y2 : last = ps - 1 := by clear p9 p10 p11; omega
          have := p10 y (by clear p9 p10 p11; omega) y2
          clear p9 p10 p11; omega
        · clear p9 p10 p11; omega
      · have := p9 y; clear p9 p10 p11; omega
    clear p9 p10 p11
    have hi : i = (r0.length : Int) := by omega
    have hc' : tn ≤ (ct (n + 1) r0 : Int) := by
      rw [hi, Int.toNat_natCast, List.take_length] at hc
      have := ct_add n r0
      omega
    obtain ⟨hW1, hW2⟩ := hW
    obtain ⟨hZ1, hZ2, hZ3, hZ4⟩ := hZ
    have hE1 : last < ps → ∀ q, 0 ≤ q → q < k + 1 → cl (r4.set ((st + k) % N).toNat [cl r2 ((st + k) % N)]) ((st + q) % N) = cl (r2.set ((st + k) % N).toNat [cl r2 ((st + k) % N)]) ((st + q) % N) := fun z q g1 g2 => by
      rw [cl_load]
      rcases (by omega : q < k ∨ q = k) with g | g
      · exact cl_copy hx.1 (mod_in (by omega)).1 (hW1 z q g1 g)
      · rw [g]; exact cl_self hx.1 (by omega)
    have hE2 : last < ps - 1 → 1 ≤ ps → ∀ j, 0 ≤ j → j < N → cl (r4.set ((st + k) % N).toNat [cl r2 ((st + k) % N)]) j = cl (r2.set ((st + k) % N).toNat [cl r2 ((st + k) % N)]) j := fun z1 z2 j g1 g2 => by
      rw [cl_load]; exact cl_copy hx.1 g1 ((hW2 z1 z2).1 j g1 g2)
    have hE3 : last < ps - 1 → 1 ≤ ps → cl r2 ((st + k) % N) = cl r4 ((st + k) % N) := fun z1 z2 => ((hW2 z1 z2).1 _ hx.1 hx.2).symm
    have hB2 : FB N T S who st r0 (r2.set ((st + k) % N).toNat [cl r2 ((st + k) % N)]) (r4.set ((st + k) % N).toNat [cl r2 ((st + k) % N)]) := by unfold FB; rw [List.length_set, List.length_set]; exact hB
    have hM2 : FM N fr (r2.set ((st + k) % N).toNat [cl r2 ((st + k) % N)]) (r4.set ((st + k) % N).toNat [cl r2 ((st + k) % N)]) := fun j g1 g2 => by
      have e := hM j g1 g2
      rw [cl_load]
      by_cases z : (st + k) % N = j
      · rw [← z, cl_self hx.1 (by omega)]; rw [← z] at e; omega
      · rw [cl_other hx.1 g1 z]; exact e
    have hne : ∀ q, 0 ≤ q → q < N → q ≠ k → (st + k) % N ≠ (st + q) % N := fun q g1 g2 g3 e => g3 (mod_inj (st := st) (N := N) (by omega) (by omega) (by omega) (by omega) g1 g2 e).symm
    have hall : (0 < k → b = true) → cl r2 ((st + k) % N) = cl r4 ((st + k) % N) → ∀ q, 0 ≤ q → q < k + 1 → cl (r4.set ((st + k) % N).toNat [cl r2 ((st + k) % N)]) ((st + q) % N) = cl r1 ((st + q) % N) := fun z1 z2 q g1 g2 => by
      rcases (by omega : q < k ∨ q = k) with g | g
      · rw [cl_other hx.1 (mod_in (by omega)).1 (hne q g1 (by omega) (by omega))]
        exact hZ4 (by omega) (z1 (by omega)) q g1 g
      · rw [g, cl_self hx.1 (by omega)]
        have e1 := hZ3 k (by omega) (by omega)
        have e2 := hZ2 _ hx.1 hx.2
        omega
    have stepA : ∀ (b' : Bool) (l : List Int), k + 1 < N → (last < ps - 1 → 1 ≤ ps → b' = true) → (b' = true → (0 < k → b = true) ∧ cl r2 ((st + k) % N) = cl r4 ((st + k) % N)) → Inv 0 ⟨[N, fr, n + 1, T, S, who, st, k + 1, ps], [b'], [r0, r1, r2.set ((st + k) % N).toNat [cl r2 ((st + k) % N)], r3 ++ [l], r4.set ((st + k) % N).toNat [cl r2 ((st + k) % N)]], []⟩ := fun b' l g1 g2 g3 => by
      refine .inl ⟨rfl, N, fr, n + 1, T, S, who, st, k + 1, ps, tn, last, b', r0, r1, _, _, _, rfl, hB2, ?_, ⟨hE1, fun z1 z2 => ⟨hE2 z1 z2, fun _ => g2 z1 z2⟩⟩, hc', hM2, fun _ => ⟨hZ1, fun j e1 e2 => ?_, fun q e1 e2 => ?_, fun _ z q e1 e2 => hall (g3 z).1 (g3 z).2 q e1 e2⟩, ?_⟩
      · obtain ⟨q1, q2, q3, q4, q5, q6, q7, q8, q9, q10, q11⟩ := hP
        refine ⟨?_, g1, q3, ?_, q5, q6, q7, q8, q9, q10, q11⟩ <;> (clear q9 q10 q11; omega)
      · rw [cl_load]; exact hZ2 j e1 e2
      · rw [cl_other hx.1 (mod_in (by omega)).1 (hne q (by omega) e2 (by omega))]; exact hZ3 q (by omega) e2
      · rw [List.length_append]; simp only [List.length_cons, List.length_nil]; omega
    have hmul : k + 1 = N → n + 1 = (ps + 1) * N := fun g => by rw [Int.add_mul]; omega
    have stepB : ∀ (b' : Bool) (l : List Int), k + 1 = N → ¬ (last < ps - 1 ∧ 1 ≤ ps) → Inv 0 ⟨[N, fr, n + 1, T, S, who, st, 0, ps + 1], [b'], [r0, r1, r2.set ((st + k) % N).toNat [cl r2 ((st + k) % N)], r3 ++ [l], r4.set ((st + k) % N).toNat [cl r2 ((st + k) % N)]], []⟩ := fun b' l g1 g2 => by
      have := hmul g1
      refine .inl ⟨rfl, N, fr, n + 1, T, S, who, st, 0, ps + 1, tn, last, b', r0, r1, _, _, _, rfl, hB2, ?_, ⟨fun z q e1 e2 => by omega, fun z1 z2 => ⟨fun j e1 e2 => ?_, fun z => by omega⟩⟩, hc', hM2, fun z => by omega, ?_⟩
      · refine ⟨by omega, by omega, by omega, by rw [this]; omega, p5, by omega, p7, p8, fun z => by omega, fun _ _ z => f2 (by omega), fun _ => f3 g2⟩
      · obtain ⟨q, e1', e2', e3'⟩ := mod_sur (st := st) (s := j) (N := N) (by omega) (by omega) e1 e2
        rw [← e3']; exact hE1 (by omega) q e1' (by omega)
      · rw [List.length_append]; simp only [List.length_cons, List.length_nil]; omega
    have stepC : ∀ (b' : Bool) (l : List Int), k + 1 = N → (0 < k → b = true) → cl r2 ((st + k) % N) = cl r4 ((st + k) % N) → Inv 3 ⟨[N, fr, n + 1, T, S, who, st, 0, ps + 1], [b'], [r0, r1, r2.set ((st + k) % N).toNat [cl r2 ((st + k) % N)], r3 ++ [l], r4.set ((st + k) % N).toNat [cl r2 ((st + k) % N)]], []⟩ := fun b' l g1 z1 z2 => by
      refine .inr (.inr (.inr (.inl ⟨rfl, N, fr, n + 1, T, S, who, st, ps + 1, b', r0, r1, _, _, _, rfl, hB2, ?_, fun j e1 e2 => ?_⟩)))
      · rw [List.length_append]; simp only [List.length_cons, List.length_nil]; omega
      · obtain ⟨q, e1', e2', e3'⟩ := mod_sur (st := st) (s := j) (N := N) (by omega) (by omega) e1 e2
        rw [← e3']; exact hall z1 z2 q e1' (by omega)
    have dec : ∀ (k' ps' : Int) (b' : Bool) (l l1 l2 l3 l4 : List (List Int)), lt2 μ (0, ⟨[N, fr, n + 1, T, S, who, st, k', ps'], [b'], [l, l1, l2, l3, l4], []⟩) (2, ⟨[N, fr, n, i, T, S, who, st, k, ps], [b], [r0, r1, r2, r3, r4], []⟩) := fun k' ps' b' l l1 l2 l3 l4 => .inl (by simp only [μ, nth0, nthS]; omega)
    have dec3 : ∀ (k' ps' : Int) (b' : Bool) (l l1 l2 l3 l4 : List (List Int)), lt2 μ (3, ⟨[N, fr, n + 1, T, S, who, st, k', ps'], [b'], [l, l1, l2, l3, l4], []⟩) (2, ⟨[N, fr, n, i, T, S, who, st, k, ps], [b], [r0, r1, r2, r3, r4], []⟩) := fun k' ps' b' l l1 l2 l3 l4 => .inl (by simp only [μ, nth0, nthS]; omega)
    repeat' (first
      | (refine TOK.br' (fun h => ?_) (fun h => ?_) <;> (try simp (disch := omega) only [d_cl, d_vi, d_vb, d_vr, d_ci, d_cb, d_nr, d_nl, d_add, d_sub, d_mul, d_rem, d_quo, d_bit, d_mn, d_mx, d_w, d_nn, d_bn, d_len, d_neg, d_at0, d_at1, d_at2, d_at3, d_at4, d_at5, d_at6, d_at7, d_set, d_app, d_cat, d_take, d_drop, d_rep, d_cons, d_lt_t, d_lt_f, d_le_t, d_le_f, d_eqi_t, d_eqi_f, d_eqb_t, d_eqb_f, d_nb_t, d_nb_f, nth0, nthS, hN, tmod_pos] at h) <;> (try (exfalso; omega)))
      | (with_reducible refine TOK.leaf' ?_))
    all_goals
      first
      | (refine And.intro (?_ : Inv 0 _) (?_ : lt2 μ (0, _) _) <;> simp (disch := omega) only [Sb.val, List.map_cons, List.map_nil, d_cl, d_vi, d_vb, d_vr, d_ci, d_cb, d_nr, d_nl, d_add, d_sub, d_mul, d_rem, d_quo, d_bit, d_mn, d_mx, d_w, d_nn, d_bn, d_len, d_neg, d_at0, d_at1, d_at2, d_at3, d_at4, d_at5, d_at6, d_at7, d_set, d_app, d_cat, d_take, d_drop, d_rep, d_cons, d_lt_t, d_lt_f, d_le_t, d_le_f, d_eqi_t, d_eqi_f, d_eqb_t, d_eqb_f, d_nb_t, d_nb_f, nth0, nthS, hN, tmod_pos]
         · first
           | (refine stepA _ _ (by omega) ?_ ?_
              · first
                | (intro z1 z2; exfalso; omega)
                | (intro z1 z2; rw [d_eqi_t]; simp (disch := omega) only [d_cl, d_vi, d_vb, d_vr, d_ci, d_cb, d_nr, d_nl, d_add, d_sub, d_mul, d_rem, d_quo, d_bit, d_mn, d_mx, d_w, d_nn, d_bn, d_len, d_neg, d_at0, d_at1, d_at2, d_at3, d_at4, d_at5, d_at6, d_at7, d_set, d_app, d_cat, d_take, d_drop, d_rep, d_cons, d_lt_t, d_lt_f, d_le_t, d_le_f, d_eqi_t, d_eqi_f, d_eqb_t, d_eqb_f, d_nb_t, d_nb_f, nth0, nthS, hN, tmod_pos]; exact hE3 z1 z2)
                | (intro z1 z2; exfalso; have := (hW2 z1 z2).2 (by omega); subst this; contradiction)
              · first
                | (intro z; exact absurd z (by decide))
                | (intro z; rw [d_eqi_t] at z; simp (disch := omega) only [d_cl, d_vi, d_vb, d_vr, d_ci, d_cb, d_nr, d_nl, d_add, d_sub, d_mul, d_rem, d_quo, d_bit, d_mn, d_mx, d_w, d_nn, d_bn, d_len, d_neg, d_at0, d_at1, d_at2, d_at3, d_at4, d_at5, d_at6, d_at7, d_set, d_app, d_cat, d_take, d_drop, d_rep, d_cons, d_lt_t, d_lt_f, d_le_t, d_le_f, d_eqi_t, d_eqi_f, d_eqb_t, d_eqb_f, d_nb_t, d_nb_f, nth0, nthS, hN, tmod_pos] at z; first | exact ⟨fun y => by omega, z⟩ | exact ⟨fun _ => by assumption, z⟩))
           | (refine stepB _ _ (by omega) ?_
              first
              | omega
              | (intro z; exact absurd (hE3 z.1 z.2) (by assumption))
              | (intro z; have := (hW2 z.1 z.2).2 (by omega); subst this; contradiction))
         · exact dec _ _ _ _ _ _ _ _)
      | (refine And.intro (?_ : Inv 3 _) (?_ : lt2 μ (3, _) _) <;> simp (disch := omega) only [Sb.val, List.map_cons, List.map_nil, d_cl, d_vi, d_vb, d_vr, d_ci, d_cb, d_nr, d_nl, d_add, d_sub, d_mul, d_rem, d_quo, d_bit, d_mn, d_mx, d_w, d_nn, d_bn, d_len, d_neg, d_at0, d_at1, d_at2, d_at3, d_at4, d_at5, d_at6, d_at7, d_set, d_app, d_cat, d_take, d_drop, d_rep, d_cons, d_lt_t, d_lt_f, d_le_t, d_le_f, d_eqi_t, d_eqi_f, d_eqb_t, d_eqb_f, d_nb_t, d_nb_f, nth0, nthS, hN, tmod_pos]
         · first
           | exact stepC _ _ (by omega) (fun y => by omega) (by assumption)
           | exact stepC _ _ (by omega) (fun _ => by assumption) (by assumption)
         · exact dec3 _ _ _ _ _ _ _ _)
      | skip
theorem s3 : ∀ v, Inv 3 v → TOK v (fun _ g => LgOK v (fun q u => Inv q u ∧ lt2 μ (q, u) (3, v)) g) tr3 := by
  intro v hv
  obtain ⟨N, fr, n, T, S, who, st, ps, b, r0, r1, r2, r3, r4, rfl, hB, hl, hE⟩ := inv3 hv
  have hB' := hB
  unfold FB at hB'
  have go : Inv 4 ⟨[N, 0], [], [r0, r1, r4], []⟩ := .inr (.inr (.inr (.inr ⟨rfl, N, 0, r0, r1, r4, rfl, by omega, hE⟩)))
  unfold tr3
  repeat' (first
    | (refine TOK.br' (fun h => ?_) (fun h => ?_) <;> (try simp (disch := omega) only [d_cl, d_vi, d_vb, d_vr, d_ci, d_cb, d_nr, d_nl, d_add, d_sub, d_mul, d_rem, d_quo, d_bit, d_mn, d_mx, d_w, d_nn, d_bn, d_len, d_neg, d_at0, d_at1, d_at2, d_at3, d_at4, d_at5, d_at6, d_at7, d_set, d_app, d_cat, d_take, d_drop, d_rep, d_cons, d_lt_t, d_lt_f, d_le_t, d_le_f, d_eqi_t, d_eqi_f, d_eqb_t, d_eqb_f, d_nb_t, d_nb_f, nth0, nthS] at h) <;> (try (exfalso; omega)))
    | (with_reducible refine TOK.leaf' ?_))
  all_goals
    refine And.intro (?_ : Inv 4 _) (.inl (by simp [μ]))
    simp only [Sb.val, List.map_cons, List.map_nil, d_vi, d_vb, d_vr, d_ci, d_cb, d_nr, d_nl, d_add, d_sub, d_mul, d_rem, d_quo, d_bit, d_mn, d_mx, d_w, d_nn, d_bn, d_len, d_neg, d_at0, d_at1, d_at2, d_at3, d_at4, d_at5, d_at6, d_at7, d_set, d_app, d_cat, d_take, d_drop, d_rep, d_cons, d_lt_t, d_lt_f, d_le_t, d_le_f, d_eqi_t, d_eqi_f, d_eqb_t, d_eqb_f, d_nb_t, d_nb_f, nth0, nthS]
    rw [show ((r4.length : Nat) : Int) = N by omega]
    exact go
theorem s4 : ∀ v, Inv 4 v → TOK v (fun _ g => LgOK v (fun q u => Inv q u ∧ lt2 μ (q, u) (4, v)) g) tr4 := by
  intro v hv
  obtain ⟨N, j, r0, r1, r2, rfl, hl, hE⟩ := inv4 hv
  have e1 : j < N → cl r2 j = cl r1 j := fun g => hE j hl.1 g
  unfold tr4
  repeat' (first
    | (refine TOK.br' (fun h => ?_) (fun h => ?_) <;> (try simp (disch := omega) only [d_cl, d_vi, d_vb, d_vr, d_ci, d_cb, d_nr, d_nl, d_add, d_sub, d_mul, d_rem, d_quo, d_bit, d_mn, d_mx, d_w, d_nn, d_bn, d_len, d_neg, d_at0, d_at1, d_at2, d_at3, d_at4, d_at5, d_at6, d_at7, d_set, d_app, d_cat, d_take, d_drop, d_rep, d_cons, d_lt_t, d_lt_f, d_le_t, d_le_f, d_eqi_t, d_eqi_f, d_eqb_t, d_eqb_f, d_nb_t, d_nb_f, nth0, nthS] at h) <;> (try (exfalso; omega)))
    | (with_reducible refine TOK.leaf' ?_))
  all_goals first
    | exact rfl
    | (refine ⟨.inr (.inr (.inr (.inr ⟨rfl, N, j + 1, r0, r1, r2, rfl, by omega, hE⟩))), .inr ⟨rfl, ?_⟩⟩
       simp only [μ, Sb.val, List.map_cons, List.map_nil, d_vi, d_vb, d_vr, d_ci, d_cb, d_nr, d_nl, d_add, d_sub, d_mul, d_rem, d_quo, d_bit, d_mn, d_mx, d_w, d_nn, d_bn, d_len, d_neg, d_at0, d_at1, d_at2, d_at3, d_at4, d_at5, d_at6, d_at7, d_set, d_app, d_cat, d_take, d_drop, d_rep, d_cons, d_lt_t, d_lt_f, d_le_t, d_le_f, d_eqi_t, d_eqi_f, d_eqb_t, d_eqb_f, d_nb_t, d_nb_f, nth0, nthS]; omega)
/-- At the begin. -/
theorem sS (a0 a1 a2 a3 : Int) (l4 : List (List Int)) : TOK ⟨[a0, a1, a2, a3], [], [l4], []⟩ (fun _ g => LgOK ⟨[a0, a1, a2, a3], [], [l4], []⟩ Inv g) trS := by
  unfold trS
  have hT : 0 ≤ a0 % 4 ∧ a0 % 4 < 4 := by omega
  have hS : 0 ≤ a1 % 4 ∧ a1 % 4 < 4 := by omega
  have hU : 0 ≤ IntKind.u64.wrap a3 := by rw [wu64']; omega
  have hN := prod4 (T := a0 % 4 + 1) (S := a1 % 4 + 1) (by omega) (by omega) (by omega) (by omega)
  have h1 := mod_in (a := a2 % 65536) (N := a0 % 4 + 1) (by omega)
  have h2 := mod_in (a := IntKind.u64.wrap a3) (N := (a0 % 4 + 1) * (a1 % 4 + 1)) (by omega)
  refine TOK.br' (fun h => ?_) (fun h => ?_)
  · exact rfl
  simp (disch := omega) only [d_vi, d_vb, d_vr, d_ci, d_cb, d_nr, d_nl, d_add, d_sub, d_mul, d_rem, d_quo, d_bit, d_mn, d_mx, d_w, d_nn, d_bn, d_len, d_neg, d_at0, d_at1, d_at2, d_at3, d_at4, d_at5, d_at6, d_at7, d_set, d_app, d_cat, d_take, d_drop, d_rep, d_cons, d_lt_t, d_lt_f, d_le_t, d_le_f, d_eqi_t, d_eqi_f, d_eqb_t, d_eqb_f, d_nb_t, d_nb_f, nth0, nthS] at h
  refine (show Inv 0 _ from ?_)
  simp (disch := omega) only [Sb.val, List.map_cons, List.map_nil, d_vi, d_vb, d_vr, d_ci, d_cb, d_nr, d_nl, d_add, d_sub, d_mul, d_rem, d_quo, d_bit, d_mn, d_mx, d_w, d_nn, d_bn, d_len, d_neg, d_at0, d_at1, d_at2, d_at3, d_at4, d_at5, d_at6, d_at7, d_set, d_app, d_cat, d_take, d_drop, d_rep, d_cons, d_lt_t, d_lt_f, d_le_t, d_le_f, d_eqi_t, d_eqi_f, d_eqb_t, d_eqb_f, d_nb_t, d_nb_f, nth0, nthS, and3, and15, and65535, tmod_pos]
  refine .inl ⟨rfl, (a0 % 4 + 1) * (a1 % 4 + 1), 1, 0, a0 % 4 + 1, a1 % 4 + 1, (a2 % 65536) % (a0 % 4 + 1), IntKind.u64.wrap a3 % ((a0 % 4 + 1) * (a1 % 4 + 1)), 0, 0, 0, -1, false, _, _, _, _, _, rfl, ?_, ?_, ⟨fun _ q g1 g2 => by omega, fun _ g => by omega⟩, by omega, ?_, fun z => by omega, by simp⟩
  · unfold FB; rw [List.length_replicate, List.length_replicate]; generalize (a0 % 4 + 1) * (a1 % 4 + 1) = N at *; omega
  · unfold FP; generalize (a0 % 4 + 1) * (a1 % 4 + 1) = N at *; omega
  · intro j _ _; rw [cl_rep, cl_rep]; omega
theorem SnapOnes_walk (a0 a1 a2 a3 : Int) (A4 : Option Addr) (n4 c4 : Nat) (l4 : List (List Int)) (w : World) (wa0 : (Lit.int .i64 a0).wf = true) (wa1 : (Lit.int .i64 a1).wf = true) (wa2 : (Lit.int .i64 a2).wf = true) (wa3 : (Lit.int .i64 a3).wf = true) (hr4 : ArgRow w [.i .i64, .i .i64, .i .u64] A4 n4 c4 l4) :
    Calls Try.prog 5 #[.int .i64 a0, .int .i64 a1, .int .i64 a2, .int .i64 a3, .slice A4 n4 c4] w fun e w' => e = .returned (.bool true) ∧ Below w.heap.size w w' :=
  law_calls (v := ⟨[a0, a1, a2, a3], [], [l4], []⟩) (l := [⟨A4, n4, c4, [.i .i64, .i .i64, .i .u64], l4⟩]) (args := args) (args' := [.int .i64 a0, .int .i64 a1, .int .i64 a2, .int .i64 a3, .slice A4 n4 c4]) hI0 hfn hbod (by decide) rfl (by simpa using hr4)
    (.cons (.int _ _) (.cons (.int _ _) (.cons (.int _ _) (.cons (.int _ _) (.cons (arg_slice (id := 0) (s := ⟨A4, n4, c4, [.i .i64, .i .i64, .i .u64], l4⟩) (l := [⟨A4, n4, c4, [.i .i64, .i .i64, .i .u64], l4⟩]) rfl rfl hr4) (.nil _))))))
    (aw ⟨[a0, a1, a2, a3], [], [l4], []⟩ Inv μ KV.nil k0 k1 k2 k3 k4 (sS a0 a1 a2 a3 l4) s0 s1 s2 s3 s4)
end Go.Proofs.Ytnkgkdhddaongaa.KSnapOnes
