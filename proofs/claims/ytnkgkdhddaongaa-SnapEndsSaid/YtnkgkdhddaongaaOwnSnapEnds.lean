/- The law SnapEnds of snap: it ends behind two passes without a turn: it answers true for all numbers and all turns. No condition. -/
import Derived.Test.YtnkgkdhddaongaaOwnSnapEndsS
import Derived.Test.YtnkgkdhddaongaaOwnS14
set_option linter.unusedVariables false
set_option linter.unusedSimpArgs false
set_option maxRecDepth 100000
set_option maxHeartbeats 8000000
namespace Go.Proofs.Ytnkgkdhddaongaa.KSnapEnds
open Go Go.Lib Go.Proofs.Ytnkgkdhddaongaa.Eng Go.Proofs.Ytnkgkdhddaongaa.Sy Go.RowKit

/-- Turns ahead of a step; turns at a step. -/
def ct (n : Int) : List (List Int) → Nat
  | [] => 0
  | e :: l => (if nth 0 e 0 < n then 1 else 0) + ct n l
def ce (n : Int) : List (List Int) → Nat
  | [] => 0
  | e :: l => (if nth 0 e 0 = n then 1 else 0) + ce n l
theorem ct_len (n : Int) : ∀ l, ct n l ≤ l.length
  | [] => by simp [ct]
  | e :: l => by have := ct_len n l; simp only [ct, List.length_cons]; split <;> omega
theorem ct_add (n : Int) : ∀ l, ct n l + ce n l = ct (n + 1) l
  | [] => rfl
  | e :: l => by
    have := ct_add n l
    simp only [ct, ce]
    repeat' split
    all_goals omega
theorem ce_app (n : Int) : ∀ l m, ce n (l ++ m) = ce n l + ce n m
  | [], m => by simp [ce]
  | e :: l, m => by have := ce_app n l m; simp only [ce, List.cons_append, this]; omega
theorem ce_take (n : Int) (l : List (List Int)) (i : Int) (h0 : 0 ≤ i) (h : i < l.length) : ce n (l.take (i + 1).toNat) = ce n (l.take i.toNat) + if cl l i = n then 1 else 0 := by
  have hi : i.toNat < l.length := by omega
  rw [show (i + 1).toNat = i.toNat + 1 by omega, List.take_add_one, List.getElem?_eq_getElem hi, ce_app]
  congr 1
  have : cl l i = nth 0 l[i.toNat] 0 := by unfold cl; rw [List.getD_eq_getElem?_getD, List.getElem?_eq_getElem hi]; rfl
  simp only [Option.toList, ce, this]
  split <;> rfl
theorem ce_le (n : Int) (l : List (List Int)) (i : Nat) : ce n (l.take i) ≤ ce n l := by
  have := ce_app n (l.take i) (l.drop i)
  rw [List.take_append_drop] at this
  omega
/-- What holds everywhere. -/
def FB (N T S who st : Int) (r0 r1 r3 : List (List Int)) : Prop :=
  1 ≤ T ∧ T ≤ 4 ∧ 1 ≤ S ∧ S ≤ 4 ∧ T * S = N ∧ 1 ≤ N ∧ N ≤ 16 ∧ 0 ≤ who ∧ who < T ∧ 0 ≤ st ∧ st < N ∧ (r1.length : Int) = 2 * N + 2 * T ∧ (r3.length : Int) = N ∧ (r0.length : Int) ≤ 40
/-- Passes and turns. -/
def FP (N tn last n k ps : Int) : Prop :=
  0 ≤ k ∧ k < N ∧ 0 ≤ ps ∧ n = ps * N + k ∧ -1 ≤ last ∧ last ≤ ps ∧ 0 ≤ tn ∧ tn ≤ 40 ∧ (last = ps → ps ≤ 2 * tn - 1) ∧ (last < ps → 1 ≤ ps → last = ps - 1 → ps ≤ 2 * tn) ∧ (last < ps → ps ≤ 2 * tn + 1)
/-- What was read. -/
def FW (N last k ps st : Int) (b : Bool) (r1 r3 : List (List Int)) : Prop :=
  (last < ps → ∀ q, 0 ≤ q → q < k → cl r3 ((st + q) % N) = cl r1 ((st + q) % N)) ∧
  (last < ps - 1 → 1 ≤ ps → (∀ j, 0 ≤ j → j < N → cl r3 j = cl r1 j) ∧ (0 < k → b = true))
def Inv0 (v : Val) : Prop := ∃ (N tn last n T S who st k ps : Int) (b : Bool) (r0 r1 r2 r3 : List (List Int)), v = ⟨[N, tn, last, n, T, S, who, st, k, ps], [b], [r0, r1, r2, r3], []⟩ ∧ FB N T S who st r0 r1 r3 ∧ FP N tn last n k ps ∧ FW N last k ps st b r1 r3 ∧ tn ≤ (ct n r0 : Int) ∧ (r2.length : Int) ≤ 41 * n
def Inv1 (v : Val) : Prop := ∃ (N tn last n i T S who st k ps : Int) (b : Bool) (r0 r1 r2 r3 : List (List Int)), v = ⟨[N, tn, last, n, i, T, S, who, st, k, ps], [b], [r0, r1, r2, r3], []⟩ ∧ FB N T S who st r0 r1 r3 ∧ FP N tn last n k ps ∧ FW N last k ps st b r1 r3 ∧ tn ≤ ((ct n r0 : Int) + (ce n (r0.take i.toNat) : Int)) ∧ (0 ≤ i ∧ i ≤ (r0.length : Int) ∧ (r2.length : Int) ≤ 41 * n + i)
def Inv2 (v : Val) : Prop := ∃ (N tn last n T S who st ps : Int) (b : Bool) (r0 r1 r2 r3 : List (List Int)), v = ⟨[N, tn, last, n, T, S, who, st, 0, ps], [b], [r0, r1, r2, r3], []⟩ ∧ FB N T S who st r0 r1 r3 ∧ (n = ps * N ∧ 0 ≤ ps ∧ ps ≤ 2 * tn + 2 ∧ 0 ≤ tn ∧ tn ≤ 40 ∧ -1 ≤ last ∧ last ≤ 90 ∧ 0 ≤ n ∧ (r2.length : Int) ≤ 41 * n)
def Inv (p : Nat) (v : Val) : Prop := (p = 0 ∧ Inv0 v) ∨ (p = 1 ∧ Inv1 v) ∨ (p = 2 ∧ Inv2 v)
def μ (q : Nat × Val) : Nat × Nat := match q.1 with
  | 0 => ((3 * (2000 - nth 0 q.2.i 3) + 2).toNat, 0)
  | 1 => ((3 * (2000 - nth 0 q.2.i 3) + 1).toNat, (nth [] q.2.r 0).length - (nth 0 q.2.i 4).toNat)
  | _ => (0, 0)
theorem inv0 {v : Val} (h : Inv 0 v) : Inv0 v := by rcases h with ⟨_, h⟩ | ⟨h, _⟩ | ⟨h, _⟩ <;> first | exact h | (exact absurd h (by decide))
theorem inv1 {v : Val} (h : Inv 1 v) : Inv1 v := by rcases h with ⟨h, _⟩ | ⟨_, h⟩ | ⟨h, _⟩ <;> first | exact h | (exact absurd h (by decide))
theorem inv2 {v : Val} (h : Inv 2 v) : Inv2 v := by rcases h with ⟨h, _⟩ | ⟨h, _⟩ | ⟨_, h⟩ <;> first | exact h | (exact absurd h (by decide))
theorem le_mul {a b N : Int} (h : a ≤ b) (hN : 1 ≤ N) : a * N ≤ b * N := Int.mul_le_mul_of_nonneg_right h (by omega)
theorem k0 : ∀ v, Inv 0 v → KV v tm0.kn := by
  intro v hv
  obtain ⟨N, tn, last, n, T, S, who, st, k, ps, b, r0, r1, r2, r3, rfl, hB, hP, hW, hc, hl⟩ := inv0 hv
  unfold FB at hB
  unfold FP at hP
  have h1 := le_mul (a := ps) (b := 81) (N := N) (by omega) (by omega)
  have h2 := le_mul (a := 0) (b := ps) (N := N) (by omega) (by omega)
  unfold tm0
  repeat' (first | exact KV.nil | refine KV.cons ?_ ?_)
  all_goals (simp (disch := omega) only [d_cl, d_vi, d_vb, d_vr, d_ci, d_cb, d_nr, d_nl, d_add, d_sub, d_mul, d_rem, d_quo, d_bit, d_mn, d_mx, d_w, d_nn, d_bn, d_len, d_neg, d_at0, d_at1, d_at2, d_at3, d_at4, d_at5, d_at6, d_at7, d_set, d_app, d_cat, d_take, d_drop, d_rep, d_cons, d_lt_t, d_lt_f, d_le_t, d_le_f, d_eqi_t, d_eqi_f, d_eqb_t, d_eqb_f, d_nb_t, d_nb_f, nth0, nthS, w64]; omega)
theorem k1 : ∀ v, Inv 1 v → KV v tm1.kn := by
  intro v hv
  obtain ⟨N, tn, last, n, i, T, S, who, st, k, ps, b, r0, r1, r2, r3, rfl, hB, hP, hW, hc, hl⟩ := inv1 hv
  unfold FB at hB
  unfold FP at hP
  have h1 := le_mul (a := ps) (b := 81) (N := N) (by omega) (by omega)
  have h2 := le_mul (a := 0) (b := ps) (N := N) (by omega) (by omega)
  have hN : T * S = N := hB.2.2.2.2.1
  have hx := mod_in (a := st + k) (N := N) (by omega)
  have hy := mod_in (a := nth 0 (r0.getD i.toNat []) 1 % 65536) (N := N) (by omega)
  unfold tm1
  repeat' (first | exact KV.nil | refine KV.cons ?_ ?_)
  all_goals (simp (disch := omega) only [d_cl, d_vi, d_vb, d_vr, d_ci, d_cb, d_nr, d_nl, d_add, d_sub, d_mul, d_rem, d_quo, d_bit, d_mn, d_mx, d_w, d_nn, d_bn, d_len, d_neg, d_at0, d_at1, d_at2, d_at3, d_at4, d_at5, d_at6, d_at7, d_set, d_app, d_cat, d_take, d_drop, d_rep, d_cons, d_lt_t, d_lt_f, d_le_t, d_le_f, d_eqi_t, d_eqi_f, d_eqb_t, d_eqb_f, d_nb_t, d_nb_f, nth0, nthS, w64, hN, and65535, tmod_pos]; omega)
theorem k2 : ∀ v, Inv 2 v → KV v tm2.kn := by
  intro v hv
  obtain ⟨N, tn, last, n, T, S, who, st, ps, b, r0, r1, r2, r3, rfl, hB, hP⟩ := inv2 hv
  unfold FB at hB
  have h1 := le_mul (a := ps) (b := 82) (N := N) (by omega) (by omega)
  unfold tm2
  repeat' (first | exact KV.nil | refine KV.cons ?_ ?_)
  all_goals (simp (disch := omega) only [d_cl, d_vi, d_vb, d_vr, d_ci, d_cb, d_nr, d_nl, d_add, d_sub, d_mul, d_rem, d_quo, d_bit, d_mn, d_mx, d_w, d_nn, d_bn, d_len, d_neg, d_at0, d_at1, d_at2, d_at3, d_at4, d_at5, d_at6, d_at7, d_set, d_app, d_cat, d_take, d_drop, d_rep, d_cons, d_lt_t, d_lt_f, d_le_t, d_le_f, d_eqi_t, d_eqi_f, d_eqb_t, d_eqb_f, d_nb_t, d_nb_f, nth0, nthS, w64]; omega)
theorem s0 : ∀ v, Inv 0 v → TOK v (fun _ g => LgOK v (fun q u => Inv q u ∧ lt2 μ (q, u) (0, v)) g) tr0 := by
  intro v hv
  obtain ⟨N, tn, last, n, T, S, who, st, k, ps, b, r0, r1, r2, r3, rfl, hB, hP, hW, hc, hl⟩ := inv0 hv
  have hB' := hB
  have hP' := hP
  unfold FB at hB'
  unfold FP at hP'
  have h1 := le_mul (a := ps) (b := 81) (N := N) (by omega) (by omega)
  have h2 := le_mul (a := 0) (b := ps) (N := N) (by omega) (by omega)
  unfold tr0
  refine TOK.br' (fun h => ?_) (fun h => ?_) <;> simp only [d_vi, d_vb, d_vr, d_ci, d_cb, d_nr, d_nl, d_add, d_sub, d_mul, d_rem, d_quo, d_bit, d_mn, d_mx, d_w, d_nn, d_bn, d_len, d_neg, d_at0, d_at1, d_at2, d_at3, d_at4, d_at5, d_at6, d_at7, d_set, d_app, d_cat, d_take, d_drop, d_rep, d_cons, d_lt_t, d_lt_f, d_le_t, d_le_f, d_eqi_t, d_eqi_f, d_eqb_t, d_eqb_f, d_nb_t, d_nb_f, nth0, nthS] at h
  · refine ⟨.inr (.inl ⟨rfl, N, tn, last, n, 0, T, S, who, st, k, ps, b, r0, r1, r2, r3, rfl, hB, hP, hW, ?_, ?_⟩), .inl ?_⟩
    · simp only [Int.toNat_zero, List.take_zero, ce]; omega
    · omega
    · simp only [μ, Sb.val, List.map_cons, List.map_nil, d_vi, d_vb, d_vr, d_ci, d_cb, d_nr, d_nl, d_add, d_sub, d_mul, d_rem, d_quo, d_bit, d_mn, d_mx, d_w, d_nn, d_bn, d_len, d_neg, d_at0, d_at1, d_at2, d_at3, d_at4, d_at5, d_at6, d_at7, d_set, d_app, d_cat, d_take, d_drop, d_rep, d_cons, d_lt_t, d_lt_f, d_le_t, d_le_f, d_eqi_t, d_eqi_f, d_eqb_t, d_eqb_f, d_nb_t, d_nb_f, nth0, nthS]; omega
  · exfalso; omega
theorem s1 : ∀ v, Inv 1 v → TOK v (fun _ g => LgOK v (fun q u => Inv q u ∧ lt2 μ (q, u) (1, v)) g) tr1 := by
  intro v hv
  obtain ⟨N, tn, last, n, i, T, S, who, st, k, ps, b, r0, r1, r2, r3, rfl, hB, hP, hW, hc, hl⟩ := inv1 hv
  have hB' := hB
  have hP' := hP
  unfold FB at hB'
  unfold FP at hP'
  have h1 := le_mul (a := ps) (b := 81) (N := N) (by omega) (by omega)
  have h2 := le_mul (a := 0) (b := ps) (N := N) (by omega) (by omega)
  have hN : T * S = N := hB'.2.2.2.2.1
  have hx := mod_in (a := st + k) (N := N) (by omega)
  have hy := mod_in (a := nth 0 (r0.getD i.toNat []) 1 % 65536) (N := N) (by omega)
  have hq : n / N = ps := ((Int.ediv_emod_unique (a := n) (b := N) (q := ps) (r := k) (by omega)).2 ⟨by rw [Int.mul_comm]; omega, by omega, by omega⟩).1
  unfold tr1
  refine TOK.br' (fun h => ?_) (fun h => ?_) <;> simp only [d_vi, d_vb, d_vr, d_ci, d_cb, d_nr, d_nl, d_add, d_sub, d_mul, d_rem, d_quo, d_bit, d_mn, d_mx, d_w, d_nn, d_bn, d_len, d_neg, d_at0, d_at1, d_at2, d_at3, d_at4, d_at5, d_at6, d_at7, d_set, d_app, d_cat, d_take, d_drop, d_rep, d_cons, d_lt_t, d_lt_f, d_le_t, d_le_f, d_eqi_t, d_eqi_f, d_eqb_t, d_eqb_f, d_nb_t, d_nb_f, nth0, nthS] at h
  · -- a turn, perhaps
    have hct := ce_take n r0 i (by omega) h
    have hlim : ((ct n r0 : Int) + (ce n (r0.take (i + 1).toNat) : Int)) ≤ 40 := by
      have e1 := ct_add n r0
      have e2 := ce_le n r0 (i + 1).toNat
      have e3 := ct_len (n + 1) r0
      omega
    refine TOK.br' (fun g => ?_) (fun g => ?_) <;> simp only [d_cl, d_vi, d_vb, d_vr, d_ci, d_cb, d_nr, d_nl, d_add, d_sub, d_mul, d_rem, d_quo, d_bit, d_mn, d_mx, d_w, d_nn, d_bn, d_len, d_neg, d_at0, d_at1, d_at2, d_at3, d_at4, d_at5, d_at6, d_at7, d_set, d_app, d_cat, d_take, d_drop, d_rep, d_cons, d_lt_t, d_lt_f, d_le_t, d_le_f, d_eqi_t, d_eqi_f, d_eqb_t, d_eqb_f, d_nb_t, d_nb_f, nth0, nthS] at g
    · rw [if_pos g] at hct
      refine TOK.br' (fun e => ?_) (fun e => ?_) <;> simp (disch := omega) only [d_vi, d_vb, d_vr, d_ci, d_cb, d_nr, d_nl, d_add, d_sub, d_mul, d_rem, d_quo, d_bit, d_mn, d_mx, d_w, d_nn, d_bn, d_len, d_neg, d_at0, d_at1, d_at2, d_at3, d_at4, d_at5, d_at6, d_at7, d_set, d_app, d_cat, d_take, d_drop, d_rep, d_cons, d_lt_t, d_lt_f, d_le_t, d_le_f, d_eqi_t, d_eqi_f, d_eqb_t, d_eqb_f, d_nb_t, d_nb_f, nth0, nthS, tdiv_pos, hq, w64] at e
      · subst e
        refine ⟨.inr (.inl ⟨rfl, N, tn, ps, n, i + 1, T, S, who, st, k, ps, b, r0, _, _, r3, rfl, ?_, hP, ⟨fun z => by omega, fun z => by omega⟩, by omega, ?_⟩), .inr ⟨?_, ?_⟩⟩
        · unfold FB at hB ⊢; simp only [d_vi, d_vb, d_vr, d_ci, d_cb, d_nr, d_nl, d_add, d_sub, d_mul, d_rem, d_quo, d_bit, d_mn, d_mx, d_w, d_nn, d_bn, d_len, d_neg, d_at0, d_at1, d_at2, d_at3, d_at4, d_at5, d_at6, d_at7, d_set, d_app, d_cat, d_take, d_drop, d_rep, d_cons, d_lt_t, d_lt_f, d_le_t, d_le_f, d_eqi_t, d_eqi_f, d_eqb_t, d_eqb_f, d_nb_t, d_nb_f, nth0, nthS, List.length_set]; exact hB
        · simp only [d_vi, d_vb, d_vr, d_ci, d_cb, d_nr, d_nl, d_add, d_sub, d_mul, d_rem, d_quo, d_bit, d_mn, d_mx, d_w, d_nn, d_bn, d_len, d_neg, d_at0, d_at1, d_at2, d_at3, d_at4, d_at5, d_at6, d_at7, d_set, d_app, d_cat, d_take, d_drop, d_rep, d_cons, d_lt_t, d_lt_f, d_le_t, d_le_f, d_eqi_t, d_eqi_f, d_eqb_t, d_eqb_f, d_nb_t, d_nb_f, nth0, nthS, List.length_append, List.length_cons, List.length_nil]; omega
        · simp only [μ, Sb.val, List.map_cons, List.map_nil, d_vi, d_vb, d_vr, d_ci, d_cb, d_nr, d_nl, d_add, d_sub, d_mul, d_rem, d_quo, d_bit, d_mn, d_mx, d_w, d_nn, d_bn, d_len, d_neg, d_at0, d_at1, d_at2, d_at3, d_at4, d_at5, d_at6, d_at7, d_set, d_app, d_cat, d_take, d_drop, d_rep, d_cons, d_lt_t, d_lt_f, d_le_t, d_le_f, d_eqi_t, d_eqi_f, d_eqb_t, d_eqb_f, d_nb_t, d_nb_f, nth0, nthS]
        · simp only [μ, Sb.val, List.map_cons, List.map_nil, d_vi, d_vb, d_vr, d_ci, d_cb, d_nr, d_nl, d_add, d_sub, d_mul, d_rem, d_quo, d_bit, d_mn, d_mx, d_w, d_nn, d_bn, d_len, d_neg, d_at0, d_at1, d_at2, d_at3, d_at4, d_at5, d_at6, d_at7, d_set, d_app, d_cat, d_take, d_drop, d_rep, d_cons, d_lt_t, d_lt_f, d_le_t, d_le_f, d_eqi_t, d_eqi_f, d_eqb_t, d_eqb_f, d_nb_t, d_nb_f, nth0, nthS]; omega
      · refine And.intro (?_ : Inv 1 _) (?_ : lt2 μ (1, _) _)
        · simp (disch := omega) only [Sb.val, List.map_cons, List.map_nil, d_vi, d_vb, d_vr, d_ci, d_cb, d_nr, d_nl, d_add, d_sub, d_mul, d_rem, d_quo, d_bit, d_mn, d_mx, d_w, d_nn, d_bn, d_len, d_neg, d_at0, d_at1, d_at2, d_at3, d_at4, d_at5, d_at6, d_at7, d_set, d_app, d_cat, d_take, d_drop, d_rep, d_cons, d_lt_t, d_lt_f, d_le_t, d_le_f, d_eqi_t, d_eqi_f, d_eqb_t, d_eqb_f, d_nb_t, d_nb_f, nth0, nthS, tdiv_pos, hq, w64]
          refine .inr (.inl ⟨rfl, N, tn + 1, ps, n, i + 1, T, S, who, st, k, ps, b, r0, _, _, r3, rfl, ?_, ?_, ⟨fun z => by omega, fun z => by omega⟩, by omega, ?_⟩)
          · unfold FB at hB ⊢; rw [List.length_set]; exact hB
          · unfold FP; omega
          · rw [List.length_append]; simp only [List.length_cons, List.length_nil]; omega
        · refine .inr ⟨?_, ?_⟩
          · simp only [μ, Sb.val, List.map_cons, List.map_nil, d_vi, d_vb, d_vr, d_ci, d_cb, d_nr, d_nl, d_add, d_sub, d_mul, d_rem, d_quo, d_bit, d_mn, d_mx, d_w, d_nn, d_bn, d_len, d_neg, d_at0, d_at1, d_at2, d_at3, d_at4, d_at5, d_at6, d_at7, d_set, d_app, d_cat, d_take, d_drop, d_rep, d_cons, d_lt_t, d_lt_f, d_le_t, d_le_f, d_eqi_t, d_eqi_f, d_eqb_t, d_eqb_f, d_nb_t, d_nb_f, nth0, nthS]
          · simp only [μ, Sb.val, List.map_cons, List.map_nil, d_vi, d_vb, d_vr, d_ci, d_cb, d_nr, d_nl, d_add, d_sub, d_mul, d_rem, d_quo, d_bit, d_mn, d_mx, d_w, d_nn, d_bn, d_len, d_neg, d_at0, d_at1, d_at2, d_at3, d_at4, d_at5, d_at6, d_at7, d_set, d_app, d_cat, d_take, d_drop, d_rep, d_cons, d_lt_t, d_lt_f, d_le_t, d_le_f, d_eqi_t, d_eqi_f, d_eqb_t, d_eqb_f, d_nb_t, d_nb_f, nth0, nthS]; omega
    · rw [if_neg g] at hct
      refine ⟨.inr (.inl ⟨rfl, N, tn, last, n, i + 1, T, S, who, st, k, ps, b, r0, r1, r2, r3, rfl, hB, hP, hW, by omega, by omega⟩), .inr ⟨?_, ?_⟩⟩
      · simp only [μ, Sb.val, List.map_cons, List.map_nil, d_vi, d_vb, d_vr, d_ci, d_cb, d_nr, d_nl, d_add, d_sub, d_mul, d_rem, d_quo, d_bit, d_mn, d_mx, d_w, d_nn, d_bn, d_len, d_neg, d_at0, d_at1, d_at2, d_at3, d_at4, d_at5, d_at6, d_at7, d_set, d_app, d_cat, d_take, d_drop, d_rep, d_cons, d_lt_t, d_lt_f, d_le_t, d_le_f, d_eqi_t, d_eqi_f, d_eqb_t, d_eqb_f, d_nb_t, d_nb_f, nth0, nthS]
      · simp only [μ, Sb.val, List.map_cons, List.map_nil, d_vi, d_vb, d_vr, d_ci, d_cb, d_nr, d_nl, d_add, d_sub, d_mul, d_rem, d_quo, d_bit, d_mn, d_mx, d_w, d_nn, d_bn, d_len, d_neg, d_at0, d_at1, d_at2, d_at3, d_at4, d_at5, d_at6, d_at7, d_set, d_app, d_cat, d_take, d_drop, d_rep, d_cons, d_lt_t, d_lt_f, d_le_t, d_le_f, d_eqi_t, d_eqi_f, d_eqb_t, d_eqb_f, d_nb_t, d_nb_f, nth0, nthS]; omega
  · -- a step
    obtain ⟨p1, p2, p3, p4, p5, p6, p7, p8, p9, p10, p11⟩ := hP'
    have f1 : ps ≤ 2 * tn + 1 := by
      rcases Int.lt_or_eq_of_le p6 with z | z
      · exact p11 z
      · have := p9 z; clear p9 p10 p11; omega
    have f2 : last = ps → ps + 1 ≤ 2 * tn := fun z => by have := p9 z; clear p9 p10 p11; omega
    have f3 : ¬ (last < ps - 1 ∧ 1 ≤ ps) → ps + 1 ≤ 2 * tn + 1 := fun z => by
      rcases Int.lt_or_eq_of_le p6 with y | y
      · rcases Int.lt_or_eq_of_le p3 with x | x
        · have y2 : last = ps - 1 := by clear p9 p10 p11; omega
          have := p10 y (by clear p9 p10 p11; omega) y2
          clear p9 p10 p11; omega
        · clear p9 p10 p11; omega
      · have := p9 y; clear p9 p10 p11; omega
    clear p9 p10 p11
    have hi : i = (r0.length : Int) := by omega
    have hc' : tn ≤ (ct (n + 1) r0 : Int) := by
      rw [hi, Int.toNat_natCast, List.take_length] at hc
      have := ct_add n r0
      omega
    obtain ⟨hW1, hW2⟩ := hW
    have hE1 : last < ps → ∀ q, 0 ≤ q → q < k + 1 → cl (r3.set ((st + k) % N).toNat [cl r1 ((st + k) % N)]) ((st + q) % N) = cl (r1.set ((st + k) % N).toNat [cl r1 ((st + k) % N)]) ((st + q) % N) := fun z q g1 g2 => by
      rw [cl_load]
      rcases (by omega : q < k ∨ q = k) with g | g
      · exact cl_copy hx.1 (mod_in (by omega)).1 (hW1 z q g1 g)
      · rw [g]; exact cl_self hx.1 (by omega)
    have hE2 : last < ps - 1 → 1 ≤ ps → ∀ j, 0 ≤ j → j < N → cl (r3.set ((st + k) % N).toNat [cl r1 ((st + k) % N)]) j = cl (r1.set ((st + k) % N).toNat [cl r1 ((st + k) % N)]) j := fun z1 z2 j g1 g2 => by
      rw [cl_load]; exact cl_copy hx.1 g1 ((hW2 z1 z2).1 j g1 g2)
    have hE3 : last < ps - 1 → 1 ≤ ps → cl r1 ((st + k) % N) = cl r3 ((st + k) % N) := fun z1 z2 => ((hW2 z1 z2).1 _ hx.1 hx.2).symm
    have hB2 : FB N T S who st r0 (r1.set ((st + k) % N).toNat [cl r1 ((st + k) % N)]) (r3.set ((st + k) % N).toNat [cl r1 ((st + k) % N)]) := by unfold FB; rw [List.length_set, List.length_set]; exact hB
    have stepA : ∀ (b' : Bool) (l : List Int), k + 1 < N → (last < ps - 1 → 1 ≤ ps → b' = true) → Inv 0 ⟨[N, tn, last, n + 1, T, S, who, st, k + 1, ps], [b'], [r0, r1.set ((st + k) % N).toNat [cl r1 ((st + k) % N)], r2 ++ [l], r3.set ((st + k) % N).toNat [cl r1 ((st + k) % N)]], []⟩ := fun b' l g1 g2 => by
      refine .inl ⟨rfl, N, tn, last, n + 1, T, S, who, st, k + 1, ps, b', r0, _, _, _, rfl, hB2, ?_, ⟨hE1, fun z1 z2 => ⟨hE2 z1 z2, fun _ => g2 z1 z2⟩⟩, hc', ?_⟩
      · obtain ⟨q1, q2, q3, q4, q5, q6, q7, q8, q9, q10, q11⟩ := hP
        refine ⟨?_, g1, q3, ?_, q5, q6, q7, q8, q9, q10, q11⟩ <;> (clear q9 q10 q11; omega)
      · rw [List.length_append]; simp only [List.length_cons, List.length_nil]; omega
    have hmul : k + 1 = N → n + 1 = (ps + 1) * N := fun g => by rw [Int.add_mul]; omega
    have stepB : ∀ (b' : Bool) (l : List Int), k + 1 = N → ¬ (last < ps - 1 ∧ 1 ≤ ps) → Inv 0 ⟨[N, tn, last, n + 1, T, S, who, st, 0, ps + 1], [b'], [r0, r1.set ((st + k) % N).toNat [cl r1 ((st + k) % N)], r2 ++ [l], r3.set ((st + k) % N).toNat [cl r1 ((st + k) % N)]], []⟩ := fun b' l g1 g2 => by
      have := hmul g1
      refine .inl ⟨rfl, N, tn, last, n + 1, T, S, who, st, 0, ps + 1, b', r0, _, _, _, rfl, hB2, ?_, ⟨fun z q e1 e2 => by omega, fun z1 z2 => ⟨fun j e1 e2 => ?_, fun z => by omega⟩⟩, hc', ?_⟩
      · refine ⟨by omega, by omega, by omega, by rw [this]; omega, p5, by omega, p7, p8, fun z => by omega, fun _ _ z => f2 (by omega), fun _ => f3 g2⟩
      · obtain ⟨q, f1, f2, f3⟩ := mod_sur (st := st) (s := j) (N := N) (by omega) (by omega) e1 e2
        rw [← f3]; exact hE1 (by omega) q f1 (by omega)
      · rw [List.length_append]; simp only [List.length_cons, List.length_nil]; omega
    have stepC : ∀ (b' : Bool) (l : List Int), k + 1 = N → Inv 2 ⟨[N, tn, last, n + 1, T, S, who, st, 0, ps + 1], [b'], [r0, r1.set ((st + k) % N).toNat [cl r1 ((st + k) % N)], r2 ++ [l], r3.set ((st + k) % N).toNat [cl r1 ((st + k) % N)]], []⟩ := fun b' l g1 => by
      have := hmul g1
      refine .inr (.inr ⟨rfl, N, tn, last, n + 1, T, S, who, st, ps + 1, b', r0, _, _, _, rfl, hB2, ?_⟩)
      rw [List.length_append]; simp only [List.length_cons, List.length_nil]; omega
    have dec : ∀ (k' ps' : Int) (b' : Bool) (l l1 l2 l3 : List (List Int)), lt2 μ (0, ⟨[N, tn, last, n + 1, T, S, who, st, k', ps'], [b'], [l, l1, l2, l3], []⟩) (1, ⟨[N, tn, last, n, i, T, S, who, st, k, ps], [b], [r0, r1, r2, r3], []⟩) := fun k' ps' b' l l1 l2 l3 => .inl (by simp only [μ, nth0, nthS]; omega)
    have dec2 : ∀ (k' ps' : Int) (b' : Bool) (l l1 l2 l3 : List (List Int)), lt2 μ (2, ⟨[N, tn, last, n + 1, T, S, who, st, k', ps'], [b'], [l, l1, l2, l3], []⟩) (1, ⟨[N, tn, last, n, i, T, S, who, st, k, ps], [b], [r0, r1, r2, r3], []⟩) := fun k' ps' b' l l1 l2 l3 => .inl (by simp only [μ, nth0, nthS]; omega)
    repeat' (first
      | (refine TOK.br' (fun h => ?_) (fun h => ?_) <;> (try simp (disch := omega) only [d_cl, d_vi, d_vb, d_vr, d_ci, d_cb, d_nr, d_nl, d_add, d_sub, d_mul, d_rem, d_quo, d_bit, d_mn, d_mx, d_w, d_nn, d_bn, d_len, d_neg, d_at0, d_at1, d_at2, d_at3, d_at4, d_at5, d_at6, d_at7, d_set, d_app, d_cat, d_take, d_drop, d_rep, d_cons, d_lt_t, d_lt_f, d_le_t, d_le_f, d_eqi_t, d_eqi_f, d_eqb_t, d_eqb_f, d_nb_t, d_nb_f, nth0, nthS, hN, tmod_pos] at h) <;> (try (exfalso; omega)))
      | (with_reducible refine TOK.leaf' ?_))
    all_goals
      first
      | (refine And.intro (?_ : Inv 0 _) (?_ : lt2 μ (0, _) _) <;> simp (disch := omega) only [Sb.val, List.map_cons, List.map_nil, d_cl, d_vi, d_vb, d_vr, d_ci, d_cb, d_nr, d_nl, d_add, d_sub, d_mul, d_rem, d_quo, d_bit, d_mn, d_mx, d_w, d_nn, d_bn, d_len, d_neg, d_at0, d_at1, d_at2, d_at3, d_at4, d_at5, d_at6, d_at7, d_set, d_app, d_cat, d_take, d_drop, d_rep, d_cons, d_lt_t, d_lt_f, d_le_t, d_le_f, d_eqi_t, d_eqi_f, d_eqb_t, d_eqb_f, d_nb_t, d_nb_f, nth0, nthS, hN, tmod_pos]
         · first
           | (refine stepA _ _ (by omega) ?_
              first
              | (intro z1 z2; exfalso; omega)
              | (intro z1 z2; rw [d_eqi_t]; simp (disch := omega) only [d_cl, d_vi, d_vb, d_vr, d_ci, d_cb, d_nr, d_nl, d_add, d_sub, d_mul, d_rem, d_quo, d_bit, d_mn, d_mx, d_w, d_nn, d_bn, d_len, d_neg, d_at0, d_at1, d_at2, d_at3, d_at4, d_at5, d_at6, d_at7, d_set, d_app, d_cat, d_take, d_drop, d_rep, d_cons, d_lt_t, d_lt_f, d_le_t, d_le_f, d_eqi_t, d_eqi_f, d_eqb_t, d_eqb_f, d_nb_t, d_nb_f, nth0, nthS, hN, tmod_pos]; exact hE3 z1 z2)
              | (intro z1 z2; exfalso; have := (hW2 z1 z2).2 (by omega); subst this; contradiction))
           | (refine stepB _ _ (by omega) ?_
              first
              | omega
              | (intro z; exact absurd (hE3 z.1 z.2) (by assumption))
              | (intro z; have := (hW2 z.1 z.2).2 (by omega); subst this; contradiction))
         · exact dec _ _ _ _ _ _ _)
      | (refine And.intro (?_ : Inv 2 _) (?_ : lt2 μ (2, _) _) <;> simp (disch := omega) only [Sb.val, List.map_cons, List.map_nil, d_cl, d_vi, d_vb, d_vr, d_ci, d_cb, d_nr, d_nl, d_add, d_sub, d_mul, d_rem, d_quo, d_bit, d_mn, d_mx, d_w, d_nn, d_bn, d_len, d_neg, d_at0, d_at1, d_at2, d_at3, d_at4, d_at5, d_at6, d_at7, d_set, d_app, d_cat, d_take, d_drop, d_rep, d_cons, d_lt_t, d_lt_f, d_le_t, d_le_f, d_eqi_t, d_eqi_f, d_eqb_t, d_eqb_f, d_nb_t, d_nb_f, nth0, nthS, hN, tmod_pos]
         · exact stepC _ _ (by omega)
         · exact dec2 _ _ _ _ _ _ _)
      | skip
theorem s2 : ∀ v, Inv 2 v → TOK v (fun _ g => LgOK v (fun q u => Inv q u ∧ lt2 μ (q, u) (2, v)) g) tr2 := by
  intro v hv
  obtain ⟨N, tn, last, n, T, S, who, st, ps, b, r0, r1, r2, r3, rfl, hB, hP⟩ := inv2 hv
  unfold FB at hB
  have h1 := le_mul (a := ps) (b := 2 * tn + 2) (N := N) (by omega) (by omega)
  unfold tr2
  refine TOK.br' (fun h => ?_) (fun h => ?_) <;> simp only [d_vi, d_vb, d_vr, d_ci, d_cb, d_nr, d_nl, d_add, d_sub, d_mul, d_rem, d_quo, d_bit, d_mn, d_mx, d_w, d_nn, d_bn, d_len, d_neg, d_at0, d_at1, d_at2, d_at3, d_at4, d_at5, d_at6, d_at7, d_set, d_app, d_cat, d_take, d_drop, d_rep, d_cons, d_lt_t, d_lt_f, d_le_t, d_le_f, d_eqi_t, d_eqi_f, d_eqb_t, d_eqb_f, d_nb_t, d_nb_f, nth0, nthS] at h
  · show (den _ _).b = true
    rw [d_eqi_t]; simp only [d_vi, d_vb, d_vr, d_ci, d_cb, d_nr, d_nl, d_add, d_sub, d_mul, d_rem, d_quo, d_bit, d_mn, d_mx, d_w, d_nn, d_bn, d_len, d_neg, d_at0, d_at1, d_at2, d_at3, d_at4, d_at5, d_at6, d_at7, d_set, d_app, d_cat, d_take, d_drop, d_rep, d_cons, d_lt_t, d_lt_f, d_le_t, d_le_f, d_eqi_t, d_eqi_f, d_eqb_t, d_eqb_f, d_nb_t, d_nb_f, nth0, nthS]; exact hP.1
  · exfalso; omega
/-- At the begin. -/
theorem sS (a0 a1 a2 a3 : Int) (l4 : List (List Int)) : TOK ⟨[a0, a1, a2, a3], [], [l4], []⟩ (fun _ g => LgOK ⟨[a0, a1, a2, a3], [], [l4], []⟩ Inv g) trS := by
  unfold trS
  have hT : 0 ≤ a0 % 4 ∧ a0 % 4 < 4 := by omega
  have hS : 0 ≤ a1 % 4 ∧ a1 % 4 < 4 := by omega
  have hU : 0 ≤ IntKind.u64.wrap a3 := by rw [wu64']; omega
  have hN := prod4 (T := a0 % 4 + 1) (S := a1 % 4 + 1) (by omega) (by omega) (by omega) (by omega)
  have h1 := mod_in (a := a2 % 65536) (N := a0 % 4 + 1) (by omega)
  have h2 := mod_in (a := IntKind.u64.wrap a3) (N := (a0 % 4 + 1) * (a1 % 4 + 1)) (by omega)
  refine TOK.br' (fun h => ?_) (fun h => ?_)
  · exact rfl
  simp (disch := omega) only [d_vi, d_vb, d_vr, d_ci, d_cb, d_nr, d_nl, d_add, d_sub, d_mul, d_rem, d_quo, d_bit, d_mn, d_mx, d_w, d_nn, d_bn, d_len, d_neg, d_at0, d_at1, d_at2, d_at3, d_at4, d_at5, d_at6, d_at7, d_set, d_app, d_cat, d_take, d_drop, d_rep, d_cons, d_lt_t, d_lt_f, d_le_t, d_le_f, d_eqi_t, d_eqi_f, d_eqb_t, d_eqb_f, d_nb_t, d_nb_f, nth0, nthS] at h
  refine (show Inv 0 _ from ?_)
  simp (disch := omega) only [Sb.val, List.map_cons, List.map_nil, d_vi, d_vb, d_vr, d_ci, d_cb, d_nr, d_nl, d_add, d_sub, d_mul, d_rem, d_quo, d_bit, d_mn, d_mx, d_w, d_nn, d_bn, d_len, d_neg, d_at0, d_at1, d_at2, d_at3, d_at4, d_at5, d_at6, d_at7, d_set, d_app, d_cat, d_take, d_drop, d_rep, d_cons, d_lt_t, d_lt_f, d_le_t, d_le_f, d_eqi_t, d_eqi_f, d_eqb_t, d_eqb_f, d_nb_t, d_nb_f, nth0, nthS, and3, and15, and65535, tmod_pos]
  refine .inl ⟨rfl, (a0 % 4 + 1) * (a1 % 4 + 1), 0, -1, 0, a0 % 4 + 1, a1 % 4 + 1, (a2 % 65536) % (a0 % 4 + 1), IntKind.u64.wrap a3 % ((a0 % 4 + 1) * (a1 % 4 + 1)), 0, 0, false, _, _, _, _, rfl, ?_, ?_, ⟨fun _ q g1 g2 => by omega, fun _ g => by omega⟩, by omega, by simp⟩
  · unfold FB; rw [List.length_replicate, List.length_replicate]; generalize (a0 % 4 + 1) * (a1 % 4 + 1) = N at *; omega
  · unfold FP; generalize (a0 % 4 + 1) * (a1 % 4 + 1) = N at *; omega
theorem SnapEnds_walk (a0 a1 a2 a3 : Int) (A4 : Option Addr) (n4 c4 : Nat) (l4 : List (List Int)) (w : World) (wa0 : (Lit.int .i64 a0).wf = true) (wa1 : (Lit.int .i64 a1).wf = true) (wa2 : (Lit.int .i64 a2).wf = true) (wa3 : (Lit.int .i64 a3).wf = true) (hr4 : ArgRow w [.i .i64, .i .i64, .i .u64] A4 n4 c4 l4) :
    Calls Try.prog 3 #[.int .i64 a0, .int .i64 a1, .int .i64 a2, .int .i64 a3, .slice A4 n4 c4] w fun e w' => e = .returned (.bool true) ∧ Below w.heap.size w w' :=
  law_calls (v := ⟨[a0, a1, a2, a3], [], [l4], []⟩) (l := [⟨A4, n4, c4, [.i .i64, .i .i64, .i .u64], l4⟩]) (args := args) (args' := [.int .i64 a0, .int .i64 a1, .int .i64 a2, .int .i64 a3, .slice A4 n4 c4]) hI0 hfn hbod (by decide) rfl (by simpa using hr4)
    (.cons (.int _ _) (.cons (.int _ _) (.cons (.int _ _) (.cons (.int _ _) (.cons (arg_slice (id := 0) (s := ⟨A4, n4, c4, [.i .i64, .i .i64, .i .u64], l4⟩) (l := [⟨A4, n4, c4, [.i .i64, .i .i64, .i .u64], l4⟩]) rfl rfl hr4) (.nil _))))))
    (aw ⟨[a0, a1, a2, a3], [], [l4], []⟩ Inv μ KV.nil k0 k1 k2 (sS a0 a1 a2 a3 l4) s0 s1 s2)
end Go.Proofs.Ytnkgkdhddaongaa.KSnapEnds
