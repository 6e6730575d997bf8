/- The law TickSteps of tick: whatever others do between the steps, whatever the time, each step touches just what the page says, and what comes of it is the stamp: it answers true for all numbers and all turns. No condition. -/
import Derived.Test.YtnkgkdhddaongaaOwnTickStepsS
import Derived.Test.YtnkgkdhddaongaaOwnS14
set_option linter.unusedVariables false
set_option linter.unusedSimpArgs false
set_option maxRecDepth 100000
set_option maxHeartbeats 32000000
namespace Go.Proofs.Ytnkgkdhddaongaa.KTickSteps
open Go Go.Lib Go.Proofs.Ytnkgkdhddaongaa.Eng Go.Proofs.Ytnkgkdhddaongaa.Sy Go.RowKit

theorem nthN {α : Type} (d : α) (n : Nat) : nth d [] n = d := rfl
def NN (r : List (List Int)) : Prop := ∀ j, 0 ≤ cl r j
theorem NN.set {r : List (List Int)} {i x : Int} (h : NN r) (hx : 0 ≤ x) : NN (r.set i.toNat [x]) := fun j => by
  rcases cl_or r i j x with e | e <;> rw [e]
  · exact hx
  · exact h j
/-- The turns' numbers are no less than nought. -/
def XX (r : List (List Int)) : Prop := ∀ j, 0 ≤ nth 0 (r.getD j []) 1
/-- What holds everywhere. -/
def FB (who now i T src D k a b : Int) (r0 r1 r2 : List (List Int)) : Prop :=
  (0 ≤ who ∧ who < T ∧ 0 ≤ now ∧ now ≤ 1073741824 ∧ 0 ≤ i ∧ i ≤ 12 ∧ 1 ≤ T ∧ T ≤ 4 ∧ 0 ≤ src ∧ src ≤ 4 ∧ 0 ≤ D ∧ D ≤ 3 ∧ 0 ≤ k ∧ k ≤ 7) ∧ (0 ≤ a ∧ a ≤ 16777215 ∧ 0 ≤ b ∧ b ≤ 16777215) ∧ ((r0.length : Int) ≤ 20 ∧ (r1.length : Int) = 4 * T ∧ (r2.length : Int) ≤ 2 * i)
/-- How far it is, as long as it isn't done. -/
def FS (i T src D k : Int) : Prop := k = i ∧ (src = 0 → i = 0) ∧ (src = 1 → i ≤ T) ∧ (src = 2 → i ≤ 3) ∧ (src = 3 → i = 0) ∧ (src = 4 → i ≤ D + 1)
theorem u64_nn (x : Int) : 0 ≤ IntKind.u64.wrap x := by rw [wu64']; omega
def μ (q : Nat × Val) : Nat × Nat := ((100 - nth 0 q.2.i 2).toNat, 0)
def Inv0 (v : Val) : Prop := ∃ (who now i T src D k a b z1 z2 z3 : Int) (r0 r1 : List (List Int)), v = ⟨[who, now, i, T, src, D, k, a, b, z1, z2, z3], [], [r0, r1], []⟩ ∧ FB who now i T src D k a b r0 r1 [] ∧ FS i T src D k ∧ NN r1 ∧ XX r0
def Inv1 (v : Val) : Prop := ∃ (who now i T src D k a b z1 z2 z3 : Int) (r0 r1 r2 : List (List Int)), v = ⟨[who, now, i, T, src, D, k, a, b, z1, z2, z3], [], [r0, r1, r2], []⟩ ∧ FB who now i T src D k a b r0 r1 r2 ∧ FS i T src D k ∧ NN r1 ∧ XX r0
def Inv2 (v : Val) : Prop := ∃ (who now i T src D k a b z1 z2 z3 z4 z5 : Int) (r0 r1 r2 : List (List Int)), v = ⟨[who, now, i, T, src, D, k, a, b, z1, z2, z3, z4, z5], [], [r0, r1, r2], []⟩ ∧ FB who now i T src D k a b r0 r1 r2 ∧ NN r1 ∧ XX r0
def Inv3 (v : Val) : Prop := ∃ (who now i T src D k a b z1 z2 z3 : Int) (r0 r1 r2 : List (List Int)), v = ⟨[who, now, i, T, src, D, k, a, b, z1, z2, z3], [], [r0, r1, r2], []⟩ ∧ FB who now i T src D k a b r0 r1 r2 ∧ NN r1 ∧ XX r0
def Inv4 (v : Val) : Prop := ∃ (who now i T src D k a b z1 z2 z3 : Int) (r0 r1 : List (List Int)), v = ⟨[who, now, i, T, src, D, k, a, b, z1, z2, z3], [], [r0, r1], []⟩ ∧ FB who now i T src D k a b r0 r1 [] ∧ NN r1 ∧ XX r0
def Inv5 (v : Val) : Prop := ∃ (who now i T src D k a b z1 z2 z3 z4 : Int) (r0 r1 r2 : List (List Int)), v = ⟨[who, now, i, T, src, D, k, a, b, z1, z2, z3, z4], [], [r0, r1, r2], []⟩ ∧ FB who now i T src D k a b r0 r1 r2 ∧ NN r1 ∧ XX r0
def Inv6 (v : Val) : Prop := ∃ (who now i T src D k a b z1 z2 z3 z4 z5 : Int) (r0 r1 : List (List Int)), v = ⟨[who, now, i, T, src, D, k, a, b, z1, z2, z3, z4, z5], [], [r0, r1], []⟩ ∧ FB who now i T src D k a b r0 r1 [] ∧ NN r1 ∧ XX r0
def Inv (p : Nat) (v : Val) : Prop := (p = 0 ∧ Inv0 v) ∨ (p = 1 ∧ Inv1 v) ∨ (p = 2 ∧ Inv2 v) ∨ (p = 3 ∧ Inv3 v) ∨ (p = 4 ∧ Inv4 v) ∨ (p = 5 ∧ Inv5 v) ∨ (p = 6 ∧ Inv6 v)
theorem inv0 {v : Val} (h : Inv 0 v) : Inv0 v := by rcases h with ⟨_, h⟩ | ⟨h, _⟩ | ⟨h, _⟩ | ⟨h, _⟩ | ⟨h, _⟩ | ⟨h, _⟩ | ⟨h, _⟩ <;> first | exact h | (exact absurd h (by decide))
theorem inv1 {v : Val} (h : Inv 1 v) : Inv1 v := by rcases h with ⟨h, _⟩ | ⟨_, h⟩ | ⟨h, _⟩ | ⟨h, _⟩ | ⟨h, _⟩ | ⟨h, _⟩ | ⟨h, _⟩ <;> first | exact h | (exact absurd h (by decide))
theorem inv2 {v : Val} (h : Inv 2 v) : Inv2 v := by rcases h with ⟨h, _⟩ | ⟨h, _⟩ | ⟨_, h⟩ | ⟨h, _⟩ | ⟨h, _⟩ | ⟨h, _⟩ | ⟨h, _⟩ <;> first | exact h | (exact absurd h (by decide))
theorem inv3 {v : Val} (h : Inv 3 v) : Inv3 v := by rcases h with ⟨h, _⟩ | ⟨h, _⟩ | ⟨h, _⟩ | ⟨_, h⟩ | ⟨h, _⟩ | ⟨h, _⟩ | ⟨h, _⟩ <;> first | exact h | (exact absurd h (by decide))
theorem inv4 {v : Val} (h : Inv 4 v) : Inv4 v := by rcases h with ⟨h, _⟩ | ⟨h, _⟩ | ⟨h, _⟩ | ⟨h, _⟩ | ⟨_, h⟩ | ⟨h, _⟩ | ⟨h, _⟩ <;> first | exact h | (exact absurd h (by decide))
theorem inv5 {v : Val} (h : Inv 5 v) : Inv5 v := by rcases h with ⟨h, _⟩ | ⟨h, _⟩ | ⟨h, _⟩ | ⟨h, _⟩ | ⟨h, _⟩ | ⟨_, h⟩ | ⟨h, _⟩ <;> first | exact h | (exact absurd h (by decide))
theorem inv6 {v : Val} (h : Inv 6 v) : Inv6 v := by rcases h with ⟨h, _⟩ | ⟨h, _⟩ | ⟨h, _⟩ | ⟨h, _⟩ | ⟨h, _⟩ | ⟨h, _⟩ | ⟨_, h⟩ <;> first | exact h | (exact absurd h (by decide))
theorem s0c0 (who now i T D k a b z1 z2 z3 : Int) (r0 r1 : List (List Int)) (hB : FB who now i T 0 D k a b r0 r1 []) (hS : FS i T 0 D k) (hc : NN r1) (hX : XX r0) :
    ∃ kn, KV ⟨[who, now, i, T, 0, D, k, a, b, z1, z2, z3], [], [r0, r1], []⟩ kn ∧ TOK ⟨[who, now, i, T, 0, D, k, a, b, z1, z2, z3], [], [r0, r1], []⟩ (fun _ g => LgOK ⟨[who, now, i, T, 0, D, k, a, b, z1, z2, z3], [], [r0, r1], []⟩ (fun q u => Inv q u ∧ lt2 μ (q, u) (0, ⟨[who, now, i, T, 0, D, k, a, b, z1, z2, z3], [], [r0, r1], []⟩)) g) (segLp I0 G fn.ntmps bod fn.results.toList 1 tms ul 3000 [0, 1, 0, 1, 1, 1, 1, 1, 1, 1, 1, 1] { tm0 with kn := kn }) := by
  unfold FB at hB
  unfold FS at hS
  simp only [List.length_nil] at hB
  simp only [reduceCtorEq, Int.reduceEq, false_imp_iff, true_imp_iff, true_and, and_true, forall_const, imp_false, imp_self, not_false_eq_true] at hS
  have ht := mod_in (a := cl r0 i % 65536) (N := T) (by omega)
  have hx := hX i.toNat
  have c1 := hc (2 * T + T)
  have c2 := hc (2 * T + T + k)
  have c3 : 0 ≤ cl (r1.set (2 * T + T + cl r0 i % 65536 % T).toNat [nth 0 (r0.getD i.toNat []) 1]) (2 * T + T) := (hc.set hx) _
  have c4 : 0 ≤ cl (r1.set (2 * T + T + cl r0 i % 65536 % T).toNat [nth 0 (r0.getD i.toNat []) 1]) (2 * T + T + k) := (hc.set hx) _
  refine ⟨kn0c0, ?_, ?_⟩
  · unfold kn0c0
    repeat' (first | exact KV.nil | refine KV.cons ?_ ?_)
    all_goals (first | (simp (disch := omega) only [d_cl, d_vi, d_vb, d_vr, d_ci, d_cb, d_nr, d_nl, d_add, d_sub, d_mul, d_rem, d_quo, d_bit, d_mn, d_mx, d_w, d_nn, d_bn, d_len, d_neg, d_at0, d_at1, d_at2, d_at3, d_at4, d_at5, d_at6, d_at7, d_set, d_app, d_cat, d_take, d_drop, d_rep, d_cons, d_lt_t, d_lt_f, d_le_t, d_le_f, d_eqi_t, d_eqi_f, d_eqb_t, d_eqb_f, d_nb_t, d_nb_f, nth0, nthS, nthN, w64, and24, and65535, tmod_pos]; done) | (simp (disch := omega) only [d_cl, d_vi, d_vb, d_vr, d_ci, d_cb, d_nr, d_nl, d_add, d_sub, d_mul, d_rem, d_quo, d_bit, d_mn, d_mx, d_w, d_nn, d_bn, d_len, d_neg, d_at0, d_at1, d_at2, d_at3, d_at4, d_at5, d_at6, d_at7, d_set, d_app, d_cat, d_take, d_drop, d_rep, d_cons, d_lt_t, d_lt_f, d_le_t, d_le_f, d_eqi_t, d_eqi_f, d_eqb_t, d_eqb_f, d_nb_t, d_nb_f, nth0, nthS, nthN, w64, and24, and65535, tmod_pos, List.length_set, List.length_append, List.length_cons, List.length_nil]; first | omega | exact hc _ | exact (hc.set hx) _))
  · rw [seg0c0]
    unfold tr0c0
    repeat' (first
      | (refine TOK.br' (fun h => ?_) (fun h => ?_) <;> (try simp (disch := omega) only [d_cl, d_vi, d_vb, d_vr, d_ci, d_cb, d_nr, d_nl, d_add, d_sub, d_mul, d_rem, d_quo, d_bit, d_mn, d_mx, d_w, d_nn, d_bn, d_len, d_neg, d_at0, d_at1, d_at2, d_at3, d_at4, d_at5, d_at6, d_at7, d_set, d_app, d_cat, d_take, d_drop, d_rep, d_cons, d_lt_t, d_lt_f, d_le_t, d_le_f, d_eqi_t, d_eqi_f, d_eqb_t, d_eqb_f, d_nb_t, d_nb_f, nth0, nthS, nthN, w64, and24, and65535, tmod_pos, Int.reduceEq, not_true_eq_false, not_false_eq_true] at h) <;> (try (exfalso; omega)))
      | (with_reducible refine TOK.leaf' ?_))
    all_goals first
      | exact rfl
      | refine ⟨.inl ⟨rfl, _, _, _, _, _, _, _, _, _, _, _, _, _, _, rfl, ?_, ?_, ?_, hX⟩, .inl ?_⟩
      | refine ⟨.inr (.inl ⟨rfl, _, _, _, _, _, _, _, _, _, _, _, _, _, _, _, rfl, ?_, ?_, ?_, hX⟩), .inl ?_⟩
      | refine ⟨.inr (.inr (.inl ⟨rfl, _, _, _, _, _, _, _, _, _, _, _, _, _, _, _, _, _, rfl, ?_, ?_, hX⟩)), .inl ?_⟩
      | refine ⟨.inr (.inr (.inr (.inl ⟨rfl, _, _, _, _, _, _, _, _, _, _, _, _, _, _, _, rfl, ?_, ?_, hX⟩))), .inl ?_⟩
      | refine ⟨.inr (.inr (.inr (.inr (.inl ⟨rfl, _, _, _, _, _, _, _, _, _, _, _, _, _, _, rfl, ?_, ?_, hX⟩)))), .inl ?_⟩
      | refine ⟨.inr (.inr (.inr (.inr (.inr (.inl ⟨rfl, _, _, _, _, _, _, _, _, _, _, _, _, _, _, _, _, rfl, ?_, ?_, hX⟩))))), .inl ?_⟩
      | refine ⟨.inr (.inr (.inr (.inr (.inr (.inr (⟨rfl, _, _, _, _, _, _, _, _, _, _, _, _, _, _, _, _, rfl, ?_, ?_, hX⟩)))))), .inl ?_⟩
    all_goals first
      | (unfold FB; simp (disch := omega) only [d_cl, d_vi, d_vb, d_vr, d_ci, d_cb, d_nr, d_nl, d_add, d_sub, d_mul, d_rem, d_quo, d_bit, d_mn, d_mx, d_w, d_nn, d_bn, d_len, d_neg, d_at0, d_at1, d_at2, d_at3, d_at4, d_at5, d_at6, d_at7, d_set, d_app, d_cat, d_take, d_drop, d_rep, d_cons, d_lt_t, d_lt_f, d_le_t, d_le_f, d_eqi_t, d_eqi_f, d_eqb_t, d_eqb_f, d_nb_t, d_nb_f, nth0, nthS, nthN, w64, and24, and65535, tmod_pos, List.length_set, List.length_append, List.length_cons, List.length_nil]; repeat' (first | omega | split))
      | (unfold FS; simp (disch := omega) only [d_cl, d_vi, d_vb, d_vr, d_ci, d_cb, d_nr, d_nl, d_add, d_sub, d_mul, d_rem, d_quo, d_bit, d_mn, d_mx, d_w, d_nn, d_bn, d_len, d_neg, d_at0, d_at1, d_at2, d_at3, d_at4, d_at5, d_at6, d_at7, d_set, d_app, d_cat, d_take, d_drop, d_rep, d_cons, d_lt_t, d_lt_f, d_le_t, d_le_f, d_eqi_t, d_eqi_f, d_eqb_t, d_eqb_f, d_nb_t, d_nb_f, nth0, nthS, nthN, w64, and24, and65535, tmod_pos, reduceCtorEq, Int.reduceEq, false_imp_iff, true_imp_iff, true_and, and_true, forall_const, imp_false, imp_self, not_false_eq_true]; omega)
      | (simp (disch := omega) only [d_cl, d_vi, d_vb, d_vr, d_ci, d_cb, d_nr, d_nl, d_add, d_sub, d_mul, d_rem, d_quo, d_bit, d_mn, d_mx, d_w, d_nn, d_bn, d_len, d_neg, d_at0, d_at1, d_at2, d_at3, d_at4, d_at5, d_at6, d_at7, d_set, d_app, d_cat, d_take, d_drop, d_rep, d_cons, d_lt_t, d_lt_f, d_le_t, d_le_f, d_eqi_t, d_eqi_f, d_eqb_t, d_eqb_f, d_nb_t, d_nb_f, nth0, nthS, nthN, w64, and24, and65535, tmod_pos]; repeat' (first | exact hc | refine NN.set ?_ ?_)
         all_goals first | exact hx | exact hc _ | exact (hc.set hx) _ | exact u64_nn _ | omega)
      | (simp only [μ, Sb.val, List.map_cons, List.map_nil, d_vi, d_vb, d_vr, d_ci, d_cb, d_nr, d_nl, d_add, d_sub, d_mul, d_rem, d_quo, d_bit, d_mn, d_mx, d_w, d_nn, d_bn, d_len, d_neg, d_at0, d_at1, d_at2, d_at3, d_at4, d_at5, d_at6, d_at7, d_set, d_app, d_cat, d_take, d_drop, d_rep, d_cons, d_lt_t, d_lt_f, d_le_t, d_le_f, d_eqi_t, d_eqi_f, d_eqb_t, d_eqb_f, d_nb_t, d_nb_f, nth0, nthS]; omega)
theorem s0c1 (who now i T D k a b z1 z2 z3 : Int) (r0 r1 : List (List Int)) (hB : FB who now i T 1 D k a b r0 r1 []) (hS : FS i T 1 D k) (hc : NN r1) (hX : XX r0) :
    ∃ kn, KV ⟨[who, now, i, T, 1, D, k, a, b, z1, z2, z3], [], [r0, r1], []⟩ kn ∧ TOK ⟨[who, now, i, T, 1, D, k, a, b, z1, z2, z3], [], [r0, r1], []⟩ (fun _ g => LgOK ⟨[who, now, i, T, 1, D, k, a, b, z1, z2, z3], [], [r0, r1], []⟩ (fun q u => Inv q u ∧ lt2 μ (q, u) (0, ⟨[who, now, i, T, 1, D, k, a, b, z1, z2, z3], [], [r0, r1], []⟩)) g) (segLp I0 G fn.ntmps bod fn.results.toList 1 tms ul 3000 [0, 1, 0, 1, 1, 1, 1, 1, 1, 1, 1, 1] { tm0 with kn := kn }) := by
  unfold FB at hB
  unfold FS at hS
  simp only [List.length_nil] at hB
  simp only [reduceCtorEq, Int.reduceEq, false_imp_iff, true_imp_iff, true_and, and_true, forall_const, imp_false, imp_self, not_false_eq_true] at hS
  have ht := mod_in (a := cl r0 i % 65536) (N := T) (by omega)
  have hx := hX i.toNat
  have c1 := hc (2 * T + T)
  have c2 := hc (2 * T + T + k)
  have c3 : 0 ≤ cl (r1.set (2 * T + T + cl r0 i % 65536 % T).toNat [nth 0 (r0.getD i.toNat []) 1]) (2 * T + T) := (hc.set hx) _
  have c4 : 0 ≤ cl (r1.set (2 * T + T + cl r0 i % 65536 % T).toNat [nth 0 (r0.getD i.toNat []) 1]) (2 * T + T + k) := (hc.set hx) _
  refine ⟨kn0c1, ?_, ?_⟩
  · unfold kn0c1
    repeat' (first | exact KV.nil | refine KV.cons ?_ ?_)
    all_goals (first | (simp (disch := omega) only [d_cl, d_vi, d_vb, d_vr, d_ci, d_cb, d_nr, d_nl, d_add, d_sub, d_mul, d_rem, d_quo, d_bit, d_mn, d_mx, d_w, d_nn, d_bn, d_len, d_neg, d_at0, d_at1, d_at2, d_at3, d_at4, d_at5, d_at6, d_at7, d_set, d_app, d_cat, d_take, d_drop, d_rep, d_cons, d_lt_t, d_lt_f, d_le_t, d_le_f, d_eqi_t, d_eqi_f, d_eqb_t, d_eqb_f, d_nb_t, d_nb_f, nth0, nthS, nthN, w64, and24, and65535, tmod_pos]; done) | (simp (disch := omega) only [d_cl, d_vi, d_vb, d_vr, d_ci, d_cb, d_nr, d_nl, d_add, d_sub, d_mul, d_rem, d_quo, d_bit, d_mn, d_mx, d_w, d_nn, d_bn, d_len, d_neg, d_at0, d_at1, d_at2, d_at3, d_at4, d_at5, d_at6, d_at7, d_set, d_app, d_cat, d_take, d_drop, d_rep, d_cons, d_lt_t, d_lt_f, d_le_t, d_le_f, d_eqi_t, d_eqi_f, d_eqb_t, d_eqb_f, d_nb_t, d_nb_f, nth0, nthS, nthN, w64, and24, and65535, tmod_pos, List.length_set, List.length_append, List.length_cons, List.length_nil]; first | omega | exact hc _ | exact (hc.set hx) _))
  · rw [seg0c1]
    unfold tr0c1
    repeat' (first
      | (refine TOK.br' (fun h => ?_) (fun h => ?_) <;> (try simp (disch := omega) only [d_cl, d_vi, d_vb, d_vr, d_ci, d_cb, d_nr, d_nl, d_add, d_sub, d_mul, d_rem, d_quo, d_bit, d_mn, d_mx, d_w, d_nn, d_bn, d_len, d_neg, d_at0, d_at1, d_at2, d_at3, d_at4, d_at5, d_at6, d_at7, d_set, d_app, d_cat, d_take, d_drop, d_rep, d_cons, d_lt_t, d_lt_f, d_le_t, d_le_f, d_eqi_t, d_eqi_f, d_eqb_t, d_eqb_f, d_nb_t, d_nb_f, nth0, nthS, nthN, w64, and24, and65535, tmod_pos, Int.reduceEq, not_true_eq_false, not_false_eq_true] at h) <;> (try (exfalso; omega)))
      | (with_reducible refine TOK.leaf' ?_))
    all_goals first
      | exact rfl
      | refine ⟨.inl ⟨rfl, _, _, _, _, _, _, _, _, _, _, _, _, _, _, rfl, ?_, ?_, ?_, hX⟩, .inl ?_⟩
      | refine ⟨.inr (.inl ⟨rfl, _, _, _, _, _, _, _, _, _, _, _, _, _, _, _, rfl, ?_, ?_, ?_, hX⟩), .inl ?_⟩
      | refine ⟨.inr (.inr (.inl ⟨rfl, _, _, _, _, _, _, _, _, _, _, _, _, _, _, _, _, _, rfl, ?_, ?_, hX⟩)), .inl ?_⟩
      | refine ⟨.inr (.inr (.inr (.inl ⟨rfl, _, _, _, _, _, _, _, _, _, _, _, _, _, _, _, rfl, ?_, ?_, hX⟩))), .inl ?_⟩
      | refine ⟨.inr (.inr (.inr (.inr (.inl ⟨rfl, _, _, _, _, _, _, _, _, _, _, _, _, _, _, rfl, ?_, ?_, hX⟩)))), .inl ?_⟩
      | refine ⟨.inr (.inr (.inr (.inr (.inr (.inl ⟨rfl, _, _, _, _, _, _, _, _, _, _, _, _, _, _, _, _, rfl, ?_, ?_, hX⟩))))), .inl ?_⟩
      | refine ⟨.inr (.inr (.inr (.inr (.inr (.inr (⟨rfl, _, _, _, _, _, _, _, _, _, _, _, _, _, _, _, _, rfl, ?_, ?_, hX⟩)))))), .inl ?_⟩
    all_goals first
      | (unfold FB; simp (disch := omega) only [d_cl, d_vi, d_vb, d_vr, d_ci, d_cb, d_nr, d_nl, d_add, d_sub, d_mul, d_rem, d_quo, d_bit, d_mn, d_mx, d_w, d_nn, d_bn, d_len, d_neg, d_at0, d_at1, d_at2, d_at3, d_at4, d_at5, d_at6, d_at7, d_set, d_app, d_cat, d_take, d_drop, d_rep, d_cons, d_lt_t, d_lt_f, d_le_t, d_le_f, d_eqi_t, d_eqi_f, d_eqb_t, d_eqb_f, d_nb_t, d_nb_f, nth0, nthS, nthN, w64, and24, and65535, tmod_pos, List.length_set, List.length_append, List.length_cons, List.length_nil]; repeat' (first | omega | split))
      | (unfold FS; simp (disch := omega) only [d_cl, d_vi, d_vb, d_vr, d_ci, d_cb, d_nr, d_nl, d_add, d_sub, d_mul, d_rem, d_quo, d_bit, d_mn, d_mx, d_w, d_nn, d_bn, d_len, d_neg, d_at0, d_at1, d_at2, d_at3, d_at4, d_at5, d_at6, d_at7, d_set, d_app, d_cat, d_take, d_drop, d_rep, d_cons, d_lt_t, d_lt_f, d_le_t, d_le_f, d_eqi_t, d_eqi_f, d_eqb_t, d_eqb_f, d_nb_t, d_nb_f, nth0, nthS, nthN, w64, and24, and65535, tmod_pos, reduceCtorEq, Int.reduceEq, false_imp_iff, true_imp_iff, true_and, and_true, forall_const, imp_false, imp_self, not_false_eq_true]; omega)
      | (simp (disch := omega) only [d_cl, d_vi, d_vb, d_vr, d_ci, d_cb, d_nr, d_nl, d_add, d_sub, d_mul, d_rem, d_quo, d_bit, d_mn, d_mx, d_w, d_nn, d_bn, d_len, d_neg, d_at0, d_at1, d_at2, d_at3, d_at4, d_at5, d_at6, d_at7, d_set, d_app, d_cat, d_take, d_drop, d_rep, d_cons, d_lt_t, d_lt_f, d_le_t, d_le_f, d_eqi_t, d_eqi_f, d_eqb_t, d_eqb_f, d_nb_t, d_nb_f, nth0, nthS, nthN, w64, and24, and65535, tmod_pos]; repeat' (first | exact hc | refine NN.set ?_ ?_)
         all_goals first | exact hx | exact hc _ | exact (hc.set hx) _ | exact u64_nn _ | omega)
      | (simp only [μ, Sb.val, List.map_cons, List.map_nil, d_vi, d_vb, d_vr, d_ci, d_cb, d_nr, d_nl, d_add, d_sub, d_mul, d_rem, d_quo, d_bit, d_mn, d_mx, d_w, d_nn, d_bn, d_len, d_neg, d_at0, d_at1, d_at2, d_at3, d_at4, d_at5, d_at6, d_at7, d_set, d_app, d_cat, d_take, d_drop, d_rep, d_cons, d_lt_t, d_lt_f, d_le_t, d_le_f, d_eqi_t, d_eqi_f, d_eqb_t, d_eqb_f, d_nb_t, d_nb_f, nth0, nthS]; omega)
theorem s0c2 (who now i T D a b z1 z2 z3 : Int) (r0 r1 : List (List Int)) (hB : FB who now i T 2 D 0 a b r0 r1 []) (hS : FS i T 2 D 0) (hc : NN r1) (hX : XX r0) :
    ∃ kn, KV ⟨[who, now, i, T, 2, D, 0, a, b, z1, z2, z3], [], [r0, r1], []⟩ kn ∧ TOK ⟨[who, now, i, T, 2, D, 0, a, b, z1, z2, z3], [], [r0, r1], []⟩ (fun _ g => LgOK ⟨[who, now, i, T, 2, D, 0, a, b, z1, z2, z3], [], [r0, r1], []⟩ (fun q u => Inv q u ∧ lt2 μ (q, u) (0, ⟨[who, now, i, T, 2, D, 0, a, b, z1, z2, z3], [], [r0, r1], []⟩)) g) (segLp I0 G fn.ntmps bod fn.results.toList 1 tms ul 3000 [0, 1, 0, 1, 1, 1, 1, 1, 1, 1, 1, 1] { tm0 with kn := kn }) := by
  unfold FB at hB
  unfold FS at hS
  simp only [List.length_nil] at hB
  simp only [reduceCtorEq, Int.reduceEq, false_imp_iff, true_imp_iff, true_and, and_true, forall_const, imp_false, imp_self, not_false_eq_true] at hS
  have ht := mod_in (a := cl r0 i % 65536) (N := T) (by omega)
  have hx := hX i.toNat
  have c1 := hc (2 * T + T)
  have c2 := hc (2 * T + T + 0)
  have c3 : 0 ≤ cl (r1.set (2 * T + T + cl r0 i % 65536 % T).toNat [nth 0 (r0.getD i.toNat []) 1]) (2 * T + T) := (hc.set hx) _
  have c4 : 0 ≤ cl (r1.set (2 * T + T + cl r0 i % 65536 % T).toNat [nth 0 (r0.getD i.toNat []) 1]) (2 * T + T + 0) := (hc.set hx) _
  refine ⟨kn0c2, ?_, ?_⟩
  · unfold kn0c2
    repeat' (first | exact KV.nil | refine KV.cons ?_ ?_)
    all_goals (first | (simp (disch := omega) only [d_cl, d_vi, d_vb, d_vr, d_ci, d_cb, d_nr, d_nl, d_add, d_sub, d_mul, d_rem, d_quo, d_bit, d_mn, d_mx, d_w, d_nn, d_bn, d_len, d_neg, d_at0, d_at1, d_at2, d_at3, d_at4, d_at5, d_at6, d_at7, d_set, d_app, d_cat, d_take, d_drop, d_rep, d_cons, d_lt_t, d_lt_f, d_le_t, d_le_f, d_eqi_t, d_eqi_f, d_eqb_t, d_eqb_f, d_nb_t, d_nb_f, nth0, nthS, nthN, w64, and24, and65535, tmod_pos]; done) | (simp (disch := omega) only [d_cl, d_vi, d_vb, d_vr, d_ci, d_cb, d_nr, d_nl, d_add, d_sub, d_mul, d_rem, d_quo, d_bit, d_mn, d_mx, d_w, d_nn, d_bn, d_len, d_neg, d_at0, d_at1, d_at2, d_at3, d_at4, d_at5, d_at6, d_at7, d_set, d_app, d_cat, d_take, d_drop, d_rep, d_cons, d_lt_t, d_lt_f, d_le_t, d_le_f, d_eqi_t, d_eqi_f, d_eqb_t, d_eqb_f, d_nb_t, d_nb_f, nth0, nthS, nthN, w64, and24, and65535, tmod_pos, List.length_set, List.length_append, List.length_cons, List.length_nil]; first | omega | exact hc _ | exact (hc.set hx) _))
  · rw [seg0c2]
    unfold tr0c2
    repeat' (first
      | (refine TOK.br' (fun h => ?_) (fun h => ?_) <;> (try simp (disch := omega) only [d_cl, d_vi, d_vb, d_vr, d_ci, d_cb, d_nr, d_nl, d_add, d_sub, d_mul, d_rem, d_quo, d_bit, d_mn, d_mx, d_w, d_nn, d_bn, d_len, d_neg, d_at0, d_at1, d_at2, d_at3, d_at4, d_at5, d_at6, d_at7, d_set, d_app, d_cat, d_take, d_drop, d_rep, d_cons, d_lt_t, d_lt_f, d_le_t, d_le_f, d_eqi_t, d_eqi_f, d_eqb_t, d_eqb_f, d_nb_t, d_nb_f, nth0, nthS, nthN, w64, and24, and65535, tmod_pos, Int.reduceEq, not_true_eq_false, not_false_eq_true] at h) <;> (try (exfalso; omega)))
      | (with_reducible refine TOK.leaf' ?_))
    all_goals first
      | exact rfl
      | refine ⟨.inl ⟨rfl, _, _, _, _, _, _, _, _, _, _, _, _, _, _, rfl, ?_, ?_, ?_, hX⟩, .inl ?_⟩
      | refine ⟨.inr (.inl ⟨rfl, _, _, _, _, _, _, _, _, _, _, _, _, _, _, _, rfl, ?_, ?_, ?_, hX⟩), .inl ?_⟩
      | refine ⟨.inr (.inr (.inl ⟨rfl, _, _, _, _, _, _, _, _, _, _, _, _, _, _, _, _, _, rfl, ?_, ?_, hX⟩)), .inl ?_⟩
      | refine ⟨.inr (.inr (.inr (.inl ⟨rfl, _, _, _, _, _, _, _, _, _, _, _, _, _, _, _, rfl, ?_, ?_, hX⟩))), .inl ?_⟩
      | refine ⟨.inr (.inr (.inr (.inr (.inl ⟨rfl, _, _, _, _, _, _, _, _, _, _, _, _, _, _, rfl, ?_, ?_, hX⟩)))), .inl ?_⟩
      | refine ⟨.inr (.inr (.inr (.inr (.inr (.inl ⟨rfl, _, _, _, _, _, _, _, _, _, _, _, _, _, _, _, _, rfl, ?_, ?_, hX⟩))))), .inl ?_⟩
      | refine ⟨.inr (.inr (.inr (.inr (.inr (.inr (⟨rfl, _, _, _, _, _, _, _, _, _, _, _, _, _, _, _, _, rfl, ?_, ?_, hX⟩)))))), .inl ?_⟩
    all_goals first
      | (unfold FB; simp (disch := omega) only [d_cl, d_vi, d_vb, d_vr, d_ci, d_cb, d_nr, d_nl, d_add, d_sub, d_mul, d_rem, d_quo, d_bit, d_mn, d_mx, d_w, d_nn, d_bn, d_len, d_neg, d_at0, d_at1, d_at2, d_at3, d_at4, d_at5, d_at6, d_at7, d_set, d_app, d_cat, d_take, d_drop, d_rep, d_cons, d_lt_t, d_lt_f, d_le_t, d_le_f, d_eqi_t, d_eqi_f, d_eqb_t, d_eqb_f, d_nb_t, d_nb_f, nth0, nthS, nthN, w64, and24, and65535, tmod_pos, List.length_set, List.length_append, List.length_cons, List.length_nil]; repeat' (first | omega | split))
      | (unfold FS; simp (disch := omega) only [d_cl, d_vi, d_vb, d_vr, d_ci, d_cb, d_nr, d_nl, d_add, d_sub, d_mul, d_rem, d_quo, d_bit, d_mn, d_mx, d_w, d_nn, d_bn, d_len, d_neg, d_at0, d_at1, d_at2, d_at3, d_at4, d_at5, d_at6, d_at7, d_set, d_app, d_cat, d_take, d_drop, d_rep, d_cons, d_lt_t, d_lt_f, d_le_t, d_le_f, d_eqi_t, d_eqi_f, d_eqb_t, d_eqb_f, d_nb_t, d_nb_f, nth0, nthS, nthN, w64, and24, and65535, tmod_pos, reduceCtorEq, Int.reduceEq, false_imp_iff, true_imp_iff, true_and, and_true, forall_const, imp_false, imp_self, not_false_eq_true]; omega)
      | (simp (disch := omega) only [d_cl, d_vi, d_vb, d_vr, d_ci, d_cb, d_nr, d_nl, d_add, d_sub, d_mul, d_rem, d_quo, d_bit, d_mn, d_mx, d_w, d_nn, d_bn, d_len, d_neg, d_at0, d_at1, d_at2, d_at3, d_at4, d_at5, d_at6, d_at7, d_set, d_app, d_cat, d_take, d_drop, d_rep, d_cons, d_lt_t, d_lt_f, d_le_t, d_le_f, d_eqi_t, d_eqi_f, d_eqb_t, d_eqb_f, d_nb_t, d_nb_f, nth0, nthS, nthN, w64, and24, and65535, tmod_pos]; repeat' (first | exact hc | refine NN.set ?_ ?_)
         all_goals first | exact hx | exact hc _ | exact (hc.set hx) _ | exact u64_nn _ | omega)
      | (simp only [μ, Sb.val, List.map_cons, List.map_nil, d_vi, d_vb, d_vr, d_ci, d_cb, d_nr, d_nl, d_add, d_sub, d_mul, d_rem, d_quo, d_bit, d_mn, d_mx, d_w, d_nn, d_bn, d_len, d_neg, d_at0, d_at1, d_at2, d_at3, d_at4, d_at5, d_at6, d_at7, d_set, d_app, d_cat, d_take, d_drop, d_rep, d_cons, d_lt_t, d_lt_f, d_le_t, d_le_f, d_eqi_t, d_eqi_f, d_eqb_t, d_eqb_f, d_nb_t, d_nb_f, nth0, nthS]; omega)
theorem s0c3 (who now i T D a b z1 z2 z3 : Int) (r0 r1 : List (List Int)) (hB : FB who now i T 2 D 1 a b r0 r1 []) (hS : FS i T 2 D 1) (hc : NN r1) (hX : XX r0) :
    ∃ kn, KV ⟨[who, now, i, T, 2, D, 1, a, b, z1, z2, z3], [], [r0, r1], []⟩ kn ∧ TOK ⟨[who, now, i, T, 2, D, 1, a, b, z1, z2, z3], [], [r0, r1], []⟩ (fun _ g => LgOK ⟨[who, now, i, T, 2, D, 1, a, b, z1, z2, z3], [], [r0, r1], []⟩ (fun q u => Inv q u ∧ lt2 μ (q, u) (0, ⟨[who, now, i, T, 2, D, 1, a, b, z1, z2, z3], [], [r0, r1], []⟩)) g) (segLp I0 G fn.ntmps bod fn.results.toList 1 tms ul 3000 [0, 1, 0, 1, 1, 1, 1, 1, 1, 1, 1, 1] { tm0 with kn := kn }) := by
  unfold FB at hB
  unfold FS at hS
  simp only [List.length_nil] at hB
  simp only [reduceCtorEq, Int.reduceEq, false_imp_iff, true_imp_iff, true_and, and_true, forall_const, imp_false, imp_self, not_false_eq_true] at hS
  have ht := mod_in (a := cl r0 i % 65536) (N := T) (by omega)
  have hx := hX i.toNat
  have c1 := hc (2 * T + T)
  have c2 := hc (2 * T + T + 1)
  have c3 : 0 ≤ cl (r1.set (2 * T + T + cl r0 i % 65536 % T).toNat [nth 0 (r0.getD i.toNat []) 1]) (2 * T + T) := (hc.set hx) _
  have c4 : 0 ≤ cl (r1.set (2 * T + T + cl r0 i % 65536 % T).toNat [nth 0 (r0.getD i.toNat []) 1]) (2 * T + T + 1) := (hc.set hx) _
  refine ⟨kn0c3, ?_, ?_⟩
  · unfold kn0c3
    repeat' (first | exact KV.nil | refine KV.cons ?_ ?_)
    all_goals (first | (simp (disch := omega) only [d_cl, d_vi, d_vb, d_vr, d_ci, d_cb, d_nr, d_nl, d_add, d_sub, d_mul, d_rem, d_quo, d_bit, d_mn, d_mx, d_w, d_nn, d_bn, d_len, d_neg, d_at0, d_at1, d_at2, d_at3, d_at4, d_at5, d_at6, d_at7, d_set, d_app, d_cat, d_take, d_drop, d_rep, d_cons, d_lt_t, d_lt_f, d_le_t, d_le_f, d_eqi_t, d_eqi_f, d_eqb_t, d_eqb_f, d_nb_t, d_nb_f, nth0, nthS, nthN, w64, and24, and65535, tmod_pos]; done) | (simp (disch := omega) only [d_cl, d_vi, d_vb, d_vr, d_ci, d_cb, d_nr, d_nl, d_add, d_sub, d_mul, d_rem, d_quo, d_bit, d_mn, d_mx, d_w, d_nn, d_bn, d_len, d_neg, d_at0, d_at1, d_at2, d_at3, d_at4, d_at5, d_at6, d_at7, d_set, d_app, d_cat, d_take, d_drop, d_rep, d_cons, d_lt_t, d_lt_f, d_le_t, d_le_f, d_eqi_t, d_eqi_f, d_eqb_t, d_eqb_f, d_nb_t, d_nb_f, nth0, nthS, nthN, w64, and24, and65535, tmod_pos, List.length_set, List.length_append, List.length_cons, List.length_nil]; first | omega | exact hc _ | exact (hc.set hx) _))
  · rw [seg0c3]
    unfold tr0c3
    repeat' (first
      | (refine TOK.br' (fun h => ?_) (fun h => ?_) <;> (try simp (disch := omega) only [d_cl, d_vi, d_vb, d_vr, d_ci, d_cb, d_nr, d_nl, d_add, d_sub, d_mul, d_rem, d_quo, d_bit, d_mn, d_mx, d_w, d_nn, d_bn, d_len, d_neg, d_at0, d_at1, d_at2, d_at3, d_at4, d_at5, d_at6, d_at7, d_set, d_app, d_cat, d_take, d_drop, d_rep, d_cons, d_lt_t, d_lt_f, d_le_t, d_le_f, d_eqi_t, d_eqi_f, d_eqb_t, d_eqb_f, d_nb_t, d_nb_f, nth0, nthS, nthN, w64, and24, and65535, tmod_pos, Int.reduceEq, not_true_eq_false, not_false_eq_true] at h) <;> (try (exfalso; omega)))
      | (with_reducible refine TOK.leaf' ?_))
    all_goals first
      | exact rfl
      | refine ⟨.inl ⟨rfl, _, _, _, _, _, _, _, _, _, _, _, _, _, _, rfl, ?_, ?_, ?_, hX⟩, .inl ?_⟩
      | refine ⟨.inr (.inl ⟨rfl, _, _, _, _, _, _, _, _, _, _, _, _, _, _, _, rfl, ?_, ?_, ?_, hX⟩), .inl ?_⟩
      | refine ⟨.inr (.inr (.inl ⟨rfl, _, _, _, _, _, _, _, _, _, _, _, _, _, _, _, _, _, rfl, ?_, ?_, hX⟩)), .inl ?_⟩
      | refine ⟨.inr (.inr (.inr (.inl ⟨rfl, _, _, _, _, _, _, _, _, _, _, _, _, _, _, _, rfl, ?_, ?_, hX⟩))), .inl ?_⟩
      | refine ⟨.inr (.inr (.inr (.inr (.inl ⟨rfl, _, _, _, _, _, _, _, _, _, _, _, _, _, _, rfl, ?_, ?_, hX⟩)))), .inl ?_⟩
      | refine ⟨.inr (.inr (.inr (.inr (.inr (.inl ⟨rfl, _, _, _, _, _, _, _, _, _, _, _, _, _, _, _, _, rfl, ?_, ?_, hX⟩))))), .inl ?_⟩
      | refine ⟨.inr (.inr (.inr (.inr (.inr (.inr (⟨rfl, _, _, _, _, _, _, _, _, _, _, _, _, _, _, _, _, rfl, ?_, ?_, hX⟩)))))), .inl ?_⟩
    all_goals first
      | (unfold FB; simp (disch := omega) only [d_cl, d_vi, d_vb, d_vr, d_ci, d_cb, d_nr, d_nl, d_add, d_sub, d_mul, d_rem, d_quo, d_bit, d_mn, d_mx, d_w, d_nn, d_bn, d_len, d_neg, d_at0, d_at1, d_at2, d_at3, d_at4, d_at5, d_at6, d_at7, d_set, d_app, d_cat, d_take, d_drop, d_rep, d_cons, d_lt_t, d_lt_f, d_le_t, d_le_f, d_eqi_t, d_eqi_f, d_eqb_t, d_eqb_f, d_nb_t, d_nb_f, nth0, nthS, nthN, w64, and24, and65535, tmod_pos, List.length_set, List.length_append, List.length_cons, List.length_nil]; repeat' (first | omega | split))
      | (unfold FS; simp (disch := omega) only [d_cl, d_vi, d_vb, d_vr, d_ci, d_cb, d_nr, d_nl, d_add, d_sub, d_mul, d_rem, d_quo, d_bit, d_mn, d_mx, d_w, d_nn, d_bn, d_len, d_neg, d_at0, d_at1, d_at2, d_at3, d_at4, d_at5, d_at6, d_at7, d_set, d_app, d_cat, d_take, d_drop, d_rep, d_cons, d_lt_t, d_lt_f, d_le_t, d_le_f, d_eqi_t, d_eqi_f, d_eqb_t, d_eqb_f, d_nb_t, d_nb_f, nth0, nthS, nthN, w64, and24, and65535, tmod_pos, reduceCtorEq, Int.reduceEq, false_imp_iff, true_imp_iff, true_and, and_true, forall_const, imp_false, imp_self, not_false_eq_true]; omega)
      | (simp (disch := omega) only [d_cl, d_vi, d_vb, d_vr, d_ci, d_cb, d_nr, d_nl, d_add, d_sub, d_mul, d_rem, d_quo, d_bit, d_mn, d_mx, d_w, d_nn, d_bn, d_len, d_neg, d_at0, d_at1, d_at2, d_at3, d_at4, d_at5, d_at6, d_at7, d_set, d_app, d_cat, d_take, d_drop, d_rep, d_cons, d_lt_t, d_lt_f, d_le_t, d_le_f, d_eqi_t, d_eqi_f, d_eqb_t, d_eqb_f, d_nb_t, d_nb_f, nth0, nthS, nthN, w64, and24, and65535, tmod_pos]; repeat' (first | exact hc | refine NN.set ?_ ?_)
         all_goals first | exact hx | exact hc _ | exact (hc.set hx) _ | exact u64_nn _ | omega)
      | (simp only [μ, Sb.val, List.map_cons, List.map_nil, d_vi, d_vb, d_vr, d_ci, d_cb, d_nr, d_nl, d_add, d_sub, d_mul, d_rem, d_quo, d_bit, d_mn, d_mx, d_w, d_nn, d_bn, d_len, d_neg, d_at0, d_at1, d_at2, d_at3, d_at4, d_at5, d_at6, d_at7, d_set, d_app, d_cat, d_take, d_drop, d_rep, d_cons, d_lt_t, d_lt_f, d_le_t, d_le_f, d_eqi_t, d_eqi_f, d_eqb_t, d_eqb_f, d_nb_t, d_nb_f, nth0, nthS]; omega)
theorem s0c4 (who now i T D a b z1 z2 z3 : Int) (r0 r1 : List (List Int)) (hB : FB who now i T 2 D 2 a b r0 r1 []) (hS : FS i T 2 D 2) (hc : NN r1) (hX : XX r0) :
    ∃ kn, KV ⟨[who, now, i, T, 2, D, 2, a, b, z1, z2, z3], [], [r0, r1], []⟩ kn ∧ TOK ⟨[who, now, i, T, 2, D, 2, a, b, z1, z2, z3], [], [r0, r1], []⟩ (fun _ g => LgOK ⟨[who, now, i, T, 2, D, 2, a, b, z1, z2, z3], [], [r0, r1], []⟩ (fun q u => Inv q u ∧ lt2 μ (q, u) (0, ⟨[who, now, i, T, 2, D, 2, a, b, z1, z2, z3], [], [r0, r1], []⟩)) g) (segLp I0 G fn.ntmps bod fn.results.toList 1 tms ul 3000 [0, 1, 0, 1, 1, 1, 1, 1, 1, 1, 1, 1] { tm0 with kn := kn }) := by
  unfold FB at hB
  unfold FS at hS
  simp only [List.length_nil] at hB
  simp only [reduceCtorEq, Int.reduceEq, false_imp_iff, true_imp_iff, true_and, and_true, forall_const, imp_false, imp_self, not_false_eq_true] at hS
  have ht := mod_in (a := cl r0 i % 65536) (N := T) (by omega)
  have hx := hX i.toNat
  have c1 := hc (2 * T + T)
  have c2 := hc (2 * T + T + 2)
  have c3 : 0 ≤ cl (r1.set (2 * T + T + cl r0 i % 65536 % T).toNat [nth 0 (r0.getD i.toNat []) 1]) (2 * T + T) := (hc.set hx) _
  have c4 : 0 ≤ cl (r1.set (2 * T + T + cl r0 i % 65536 % T).toNat [nth 0 (r0.getD i.toNat []) 1]) (2 * T + T + 2) := (hc.set hx) _
  refine ⟨kn0c4, ?_, ?_⟩
  · unfold kn0c4
    repeat' (first | exact KV.nil | refine KV.cons ?_ ?_)
    all_goals (first | (simp (disch := omega) only [d_cl, d_vi, d_vb, d_vr, d_ci, d_cb, d_nr, d_nl, d_add, d_sub, d_mul, d_rem, d_quo, d_bit, d_mn, d_mx, d_w, d_nn, d_bn, d_len, d_neg, d_at0, d_at1, d_at2, d_at3, d_at4, d_at5, d_at6, d_at7, d_set, d_app, d_cat, d_take, d_drop, d_rep, d_cons, d_lt_t, d_lt_f, d_le_t, d_le_f, d_eqi_t, d_eqi_f, d_eqb_t, d_eqb_f, d_nb_t, d_nb_f, nth0, nthS, nthN, w64, and24, and65535, tmod_pos]; done) | (simp (disch := omega) only [d_cl, d_vi, d_vb, d_vr, d_ci, d_cb, d_nr, d_nl, d_add, d_sub, d_mul, d_rem, d_quo, d_bit, d_mn, d_mx, d_w, d_nn, d_bn, d_len, d_neg, d_at0, d_at1, d_at2, d_at3, d_at4, d_at5, d_at6, d_at7, d_set, d_app, d_cat, d_take, d_drop, d_rep, d_cons, d_lt_t, d_lt_f, d_le_t, d_le_f, d_eqi_t, d_eqi_f, d_eqb_t, d_eqb_f, d_nb_t, d_nb_f, nth0, nthS, nthN, w64, and24, and65535, tmod_pos, List.length_set, List.length_append, List.length_cons, List.length_nil]; first | omega | exact hc _ | exact (hc.set hx) _))
  · rw [seg0c4]
    unfold tr0c4
    repeat' (first
      | (refine TOK.br' (fun h => ?_) (fun h => ?_) <;> (try simp (disch := omega) only [d_cl, d_vi, d_vb, d_vr, d_ci, d_cb, d_nr, d_nl, d_add, d_sub, d_mul, d_rem, d_quo, d_bit, d_mn, d_mx, d_w, d_nn, d_bn, d_len, d_neg, d_at0, d_at1, d_at2, d_at3, d_at4, d_at5, d_at6, d_at7, d_set, d_app, d_cat, d_take, d_drop, d_rep, d_cons, d_lt_t, d_lt_f, d_le_t, d_le_f, d_eqi_t, d_eqi_f, d_eqb_t, d_eqb_f, d_nb_t, d_nb_f, nth0, nthS, nthN, w64, and24, and65535, tmod_pos, Int.reduceEq, not_true_eq_false, not_false_eq_true] at h) <;> (try (exfalso; omega)))
      | (with_reducible refine TOK.leaf' ?_))
    all_goals first
      | exact rfl
      | refine ⟨.inl ⟨rfl, _, _, _, _, _, _, _, _, _, _, _, _, _, _, rfl, ?_, ?_, ?_, hX⟩, .inl ?_⟩
      | refine ⟨.inr (.inl ⟨rfl, _, _, _, _, _, _, _, _, _, _, _, _, _, _, _, rfl, ?_, ?_, ?_, hX⟩), .inl ?_⟩
      | refine ⟨.inr (.inr (.inl ⟨rfl, _, _, _, _, _, _, _, _, _, _, _, _, _, _, _, _, _, rfl, ?_, ?_, hX⟩)), .inl ?_⟩
      | refine ⟨.inr (.inr (.inr (.inl ⟨rfl, _, _, _, _, _, _, _, _, _, _, _, _, _, _, _, rfl, ?_, ?_, hX⟩))), .inl ?_⟩
      | refine ⟨.inr (.inr (.inr (.inr (.inl ⟨rfl, _, _, _, _, _, _, _, _, _, _, _, _, _, _, rfl, ?_, ?_, hX⟩)))), .inl ?_⟩
      | refine ⟨.inr (.inr (.inr (.inr (.inr (.inl ⟨rfl, _, _, _, _, _, _, _, _, _, _, _, _, _, _, _, _, rfl, ?_, ?_, hX⟩))))), .inl ?_⟩
      | refine ⟨.inr (.inr (.inr (.inr (.inr (.inr (⟨rfl, _, _, _, _, _, _, _, _, _, _, _, _, _, _, _, _, rfl, ?_, ?_, hX⟩)))))), .inl ?_⟩
    all_goals first
      | (unfold FB; simp (disch := omega) only [d_cl, d_vi, d_vb, d_vr, d_ci, d_cb, d_nr, d_nl, d_add, d_sub, d_mul, d_rem, d_quo, d_bit, d_mn, d_mx, d_w, d_nn, d_bn, d_len, d_neg, d_at0, d_at1, d_at2, d_at3, d_at4, d_at5, d_at6, d_at7, d_set, d_app, d_cat, d_take, d_drop, d_rep, d_cons, d_lt_t, d_lt_f, d_le_t, d_le_f, d_eqi_t, d_eqi_f, d_eqb_t, d_eqb_f, d_nb_t, d_nb_f, nth0, nthS, nthN, w64, and24, and65535, tmod_pos, List.length_set, List.length_append, List.length_cons, List.length_nil]; repeat' (first | omega | split))
      | (unfold FS; simp (disch := omega) only [d_cl, d_vi, d_vb, d_vr, d_ci, d_cb, d_nr, d_nl, d_add, d_sub, d_mul, d_rem, d_quo, d_bit, d_mn, d_mx, d_w, d_nn, d_bn, d_len, d_neg, d_at0, d_at1, d_at2, d_at3, d_at4, d_at5, d_at6, d_at7, d_set, d_app, d_cat, d_take, d_drop, d_rep, d_cons, d_lt_t, d_lt_f, d_le_t, d_le_f, d_eqi_t, d_eqi_f, d_eqb_t, d_eqb_f, d_nb_t, d_nb_f, nth0, nthS, nthN, w64, and24, and65535, tmod_pos, reduceCtorEq, Int.reduceEq, false_imp_iff, true_imp_iff, true_and, and_true, forall_const, imp_false, imp_self, not_false_eq_true]; omega)
      | (simp (disch := omega) only [d_cl, d_vi, d_vb, d_vr, d_ci, d_cb, d_nr, d_nl, d_add, d_sub, d_mul, d_rem, d_quo, d_bit, d_mn, d_mx, d_w, d_nn, d_bn, d_len, d_neg, d_at0, d_at1, d_at2, d_at3, d_at4, d_at5, d_at6, d_at7, d_set, d_app, d_cat, d_take, d_drop, d_rep, d_cons, d_lt_t, d_lt_f, d_le_t, d_le_f, d_eqi_t, d_eqi_f, d_eqb_t, d_eqb_f, d_nb_t, d_nb_f, nth0, nthS, nthN, w64, and24, and65535, tmod_pos]; repeat' (first | exact hc | refine NN.set ?_ ?_)
         all_goals first | exact hx | exact hc _ | exact (hc.set hx) _ | exact u64_nn _ | omega)
      | (simp only [μ, Sb.val, List.map_cons, List.map_nil, d_vi, d_vb, d_vr, d_ci, d_cb, d_nr, d_nl, d_add, d_sub, d_mul, d_rem, d_quo, d_bit, d_mn, d_mx, d_w, d_nn, d_bn, d_len, d_neg, d_at0, d_at1, d_at2, d_at3, d_at4, d_at5, d_at6, d_at7, d_set, d_app, d_cat, d_take, d_drop, d_rep, d_cons, d_lt_t, d_lt_f, d_le_t, d_le_f, d_eqi_t, d_eqi_f, d_eqb_t, d_eqb_f, d_nb_t, d_nb_f, nth0, nthS]; omega)
theorem s0c5 (who now i T D a b z1 z2 z3 : Int) (r0 r1 : List (List Int)) (hB : FB who now i T 2 D 3 a b r0 r1 []) (hS : FS i T 2 D 3) (hc : NN r1) (hX : XX r0) :
    ∃ kn, KV ⟨[who, now, i, T, 2, D, 3, a, b, z1, z2, z3], [], [r0, r1], []⟩ kn ∧ TOK ⟨[who, now, i, T, 2, D, 3, a, b, z1, z2, z3], [], [r0, r1], []⟩ (fun _ g => LgOK ⟨[who, now, i, T, 2, D, 3, a, b, z1, z2, z3], [], [r0, r1], []⟩ (fun q u => Inv q u ∧ lt2 μ (q, u) (0, ⟨[who, now, i, T, 2, D, 3, a, b, z1, z2, z3], [], [r0, r1], []⟩)) g) (segLp I0 G fn.ntmps bod fn.results.toList 1 tms ul 3000 [0, 1, 0, 1, 1, 1, 1, 1, 1, 1, 1, 1] { tm0 with kn := kn }) := by
  unfold FB at hB
  unfold FS at hS
  simp only [List.length_nil] at hB
  simp only [reduceCtorEq, Int.reduceEq, false_imp_iff, true_imp_iff, true_and, and_true, forall_const, imp_false, imp_self, not_false_eq_true] at hS
  have ht := mod_in (a := cl r0 i % 65536) (N := T) (by omega)
  have hx := hX i.toNat
  have c1 := hc (2 * T + T)
  have c2 := hc (2 * T + T + 3)
  have c3 : 0 ≤ cl (r1.set (2 * T + T + cl r0 i % 65536 % T).toNat [nth 0 (r0.getD i.toNat []) 1]) (2 * T + T) := (hc.set hx) _
  have c4 : 0 ≤ cl (r1.set (2 * T + T + cl r0 i % 65536 % T).toNat [nth 0 (r0.getD i.toNat []) 1]) (2 * T + T + 3) := (hc.set hx) _
  refine ⟨kn0c5, ?_, ?_⟩
  · unfold kn0c5
    repeat' (first | exact KV.nil | refine KV.cons ?_ ?_)
    all_goals (first | (simp (disch := omega) only [d_cl, d_vi, d_vb, d_vr, d_ci, d_cb, d_nr, d_nl, d_add, d_sub, d_mul, d_rem, d_quo, d_bit, d_mn, d_mx, d_w, d_nn, d_bn, d_len, d_neg, d_at0, d_at1, d_at2, d_at3, d_at4, d_at5, d_at6, d_at7, d_set, d_app, d_cat, d_take, d_drop, d_rep, d_cons, d_lt_t, d_lt_f, d_le_t, d_le_f, d_eqi_t, d_eqi_f, d_eqb_t, d_eqb_f, d_nb_t, d_nb_f, nth0, nthS, nthN, w64, and24, and65535, tmod_pos]; done) | (simp (disch := omega) only [d_cl, d_vi, d_vb, d_vr, d_ci, d_cb, d_nr, d_nl, d_add, d_sub, d_mul, d_rem, d_quo, d_bit, d_mn, d_mx, d_w, d_nn, d_bn, d_len, d_neg, d_at0, d_at1, d_at2, d_at3, d_at4, d_at5, d_at6, d_at7, d_set, d_app, d_cat, d_take, d_drop, d_rep, d_cons, d_lt_t, d_lt_f, d_le_t, d_le_f, d_eqi_t, d_eqi_f, d_eqb_t, d_eqb_f, d_nb_t, d_nb_f, nth0, nthS, nthN, w64, and24, and65535, tmod_pos, List.length_set, List.length_append, List.length_cons, List.length_nil]; first | omega | exact hc _ | exact (hc.set hx) _))
  · rw [seg0c5]
    unfold tr0c5
    repeat' (first
      | (refine TOK.br' (fun h => ?_) (fun h => ?_) <;> (try simp (disch := omega) only [d_cl, d_vi, d_vb, d_vr, d_ci, d_cb, d_nr, d_nl, d_add, d_sub, d_mul, d_rem, d_quo, d_bit, d_mn, d_mx, d_w, d_nn, d_bn, d_len, d_neg, d_at0, d_at1, d_at2, d_at3, d_at4, d_at5, d_at6, d_at7, d_set, d_app, d_cat, d_take, d_drop, d_rep, d_cons, d_lt_t, d_lt_f, d_le_t, d_le_f, d_eqi_t, d_eqi_f, d_eqb_t, d_eqb_f, d_nb_t, d_nb_f, nth0, nthS, nthN, w64, and24, and65535, tmod_pos, Int.reduceEq, not_true_eq_false, not_false_eq_true] at h) <;> (try (exfalso; omega)))
      | (with_reducible refine TOK.leaf' ?_))
    all_goals first
      | exact rfl
      | refine ⟨.inl ⟨rfl, _, _, _, _, _, _, _, _, _, _, _, _, _, _, rfl, ?_, ?_, ?_, hX⟩, .inl ?_⟩
      | refine ⟨.inr (.inl ⟨rfl, _, _, _, _, _, _, _, _, _, _, _, _, _, _, _, rfl, ?_, ?_, ?_, hX⟩), .inl ?_⟩
      | refine ⟨.inr (.inr (.inl ⟨rfl, _, _, _, _, _, _, _, _, _, _, _, _, _, _, _, _, _, rfl, ?_, ?_, hX⟩)), .inl ?_⟩
      | refine ⟨.inr (.inr (.inr (.inl ⟨rfl, _, _, _, _, _, _, _, _, _, _, _, _, _, _, _, rfl, ?_, ?_, hX⟩))), .inl ?_⟩
      | refine ⟨.inr (.inr (.inr (.inr (.inl ⟨rfl, _, _, _, _, _, _, _, _, _, _, _, _, _, _, rfl, ?_, ?_, hX⟩)))), .inl ?_⟩
      | refine ⟨.inr (.inr (.inr (.inr (.inr (.inl ⟨rfl, _, _, _, _, _, _, _, _, _, _, _, _, _, _, _, _, rfl, ?_, ?_, hX⟩))))), .inl ?_⟩
      | refine ⟨.inr (.inr (.inr (.inr (.inr (.inr (⟨rfl, _, _, _, _, _, _, _, _, _, _, _, _, _, _, _, _, rfl, ?_, ?_, hX⟩)))))), .inl ?_⟩
    all_goals first
      | (unfold FB; simp (disch := omega) only [d_cl, d_vi, d_vb, d_vr, d_ci, d_cb, d_nr, d_nl, d_add, d_sub, d_mul, d_rem, d_quo, d_bit, d_mn, d_mx, d_w, d_nn, d_bn, d_len, d_neg, d_at0, d_at1, d_at2, d_at3, d_at4, d_at5, d_at6, d_at7, d_set, d_app, d_cat, d_take, d_drop, d_rep, d_cons, d_lt_t, d_lt_f, d_le_t, d_le_f, d_eqi_t, d_eqi_f, d_eqb_t, d_eqb_f, d_nb_t, d_nb_f, nth0, nthS, nthN, w64, and24, and65535, tmod_pos, List.length_set, List.length_append, List.length_cons, List.length_nil]; repeat' (first | omega | split))
      | (unfold FS; simp (disch := omega) only [d_cl, d_vi, d_vb, d_vr, d_ci, d_cb, d_nr, d_nl, d_add, d_sub, d_mul, d_rem, d_quo, d_bit, d_mn, d_mx, d_w, d_nn, d_bn, d_len, d_neg, d_at0, d_at1, d_at2, d_at3, d_at4, d_at5, d_at6, d_at7, d_set, d_app, d_cat, d_take, d_drop, d_rep, d_cons, d_lt_t, d_lt_f, d_le_t, d_le_f, d_eqi_t, d_eqi_f, d_eqb_t, d_eqb_f, d_nb_t, d_nb_f, nth0, nthS, nthN, w64, and24, and65535, tmod_pos, reduceCtorEq, Int.reduceEq, false_imp_iff, true_imp_iff, true_and, and_true, forall_const, imp_false, imp_self, not_false_eq_true]; omega)
      | (simp (disch := omega) only [d_cl, d_vi, d_vb, d_vr, d_ci, d_cb, d_nr, d_nl, d_add, d_sub, d_mul, d_rem, d_quo, d_bit, d_mn, d_mx, d_w, d_nn, d_bn, d_len, d_neg, d_at0, d_at1, d_at2, d_at3, d_at4, d_at5, d_at6, d_at7, d_set, d_app, d_cat, d_take, d_drop, d_rep, d_cons, d_lt_t, d_lt_f, d_le_t, d_le_f, d_eqi_t, d_eqi_f, d_eqb_t, d_eqb_f, d_nb_t, d_nb_f, nth0, nthS, nthN, w64, and24, and65535, tmod_pos]; repeat' (first | exact hc | refine NN.set ?_ ?_)
         all_goals first | exact hx | exact hc _ | exact (hc.set hx) _ | exact u64_nn _ | omega)
      | (simp only [μ, Sb.val, List.map_cons, List.map_nil, d_vi, d_vb, d_vr, d_ci, d_cb, d_nr, d_nl, d_add, d_sub, d_mul, d_rem, d_quo, d_bit, d_mn, d_mx, d_w, d_nn, d_bn, d_len, d_neg, d_at0, d_at1, d_at2, d_at3, d_at4, d_at5, d_at6, d_at7, d_set, d_app, d_cat, d_take, d_drop, d_rep, d_cons, d_lt_t, d_lt_f, d_le_t, d_le_f, d_eqi_t, d_eqi_f, d_eqb_t, d_eqb_f, d_nb_t, d_nb_f, nth0, nthS]; omega)
theorem s0c6 (who now i T D k a b z1 z2 z3 : Int) (r0 r1 : List (List Int)) (hB : FB who now i T 3 D k a b r0 r1 []) (hS : FS i T 3 D k) (hc : NN r1) (hX : XX r0) :
    ∃ kn, KV ⟨[who, now, i, T, 3, D, k, a, b, z1, z2, z3], [], [r0, r1], []⟩ kn ∧ TOK ⟨[who, now, i, T, 3, D, k, a, b, z1, z2, z3], [], [r0, r1], []⟩ (fun _ g => LgOK ⟨[who, now, i, T, 3, D, k, a, b, z1, z2, z3], [], [r0, r1], []⟩ (fun q u => Inv q u ∧ lt2 μ (q, u) (0, ⟨[who, now, i, T, 3, D, k, a, b, z1, z2, z3], [], [r0, r1], []⟩)) g) (segLp I0 G fn.ntmps bod fn.results.toList 1 tms ul 3000 [0, 1, 0, 1, 1, 1, 1, 1, 1, 1, 1, 1] { tm0 with kn := kn }) := by
  unfold FB at hB
  unfold FS at hS
  simp only [List.length_nil] at hB
  simp only [reduceCtorEq, Int.reduceEq, false_imp_iff, true_imp_iff, true_and, and_true, forall_const, imp_false, imp_self, not_false_eq_true] at hS
  have ht := mod_in (a := cl r0 i % 65536) (N := T) (by omega)
  have hx := hX i.toNat
  have c1 := hc (2 * T + T)
  have c2 := hc (2 * T + T + k)
  have c3 : 0 ≤ cl (r1.set (2 * T + T + cl r0 i % 65536 % T).toNat [nth 0 (r0.getD i.toNat []) 1]) (2 * T + T) := (hc.set hx) _
  have c4 : 0 ≤ cl (r1.set (2 * T + T + cl r0 i % 65536 % T).toNat [nth 0 (r0.getD i.toNat []) 1]) (2 * T + T + k) := (hc.set hx) _
  refine ⟨kn0c6, ?_, ?_⟩
  · unfold kn0c6
    repeat' (first | exact KV.nil | refine KV.cons ?_ ?_)
    all_goals (first | (simp (disch := omega) only [d_cl, d_vi, d_vb, d_vr, d_ci, d_cb, d_nr, d_nl, d_add, d_sub, d_mul, d_rem, d_quo, d_bit, d_mn, d_mx, d_w, d_nn, d_bn, d_len, d_neg, d_at0, d_at1, d_at2, d_at3, d_at4, d_at5, d_at6, d_at7, d_set, d_app, d_cat, d_take, d_drop, d_rep, d_cons, d_lt_t, d_lt_f, d_le_t, d_le_f, d_eqi_t, d_eqi_f, d_eqb_t, d_eqb_f, d_nb_t, d_nb_f, nth0, nthS, nthN, w64, and24, and65535, tmod_pos]; done) | (simp (disch := omega) only [d_cl, d_vi, d_vb, d_vr, d_ci, d_cb, d_nr, d_nl, d_add, d_sub, d_mul, d_rem, d_quo, d_bit, d_mn, d_mx, d_w, d_nn, d_bn, d_len, d_neg, d_at0, d_at1, d_at2, d_at3, d_at4, d_at5, d_at6, d_at7, d_set, d_app, d_cat, d_take, d_drop, d_rep, d_cons, d_lt_t, d_lt_f, d_le_t, d_le_f, d_eqi_t, d_eqi_f, d_eqb_t, d_eqb_f, d_nb_t, d_nb_f, nth0, nthS, nthN, w64, and24, and65535, tmod_pos, List.length_set, List.length_append, List.length_cons, List.length_nil]; first | omega | exact hc _ | exact (hc.set hx) _))
  · rw [seg0c6]
    unfold tr0c6
    repeat' (first
      | (refine TOK.br' (fun h => ?_) (fun h => ?_) <;> (try simp (disch := omega) only [d_cl, d_vi, d_vb, d_vr, d_ci, d_cb, d_nr, d_nl, d_add, d_sub, d_mul, d_rem, d_quo, d_bit, d_mn, d_mx, d_w, d_nn, d_bn, d_len, d_neg, d_at0, d_at1, d_at2, d_at3, d_at4, d_at5, d_at6, d_at7, d_set, d_app, d_cat, d_take, d_drop, d_rep, d_cons, d_lt_t, d_lt_f, d_le_t, d_le_f, d_eqi_t, d_eqi_f, d_eqb_t, d_eqb_f, d_nb_t, d_nb_f, nth0, nthS, nthN, w64, and24, and65535, tmod_pos, Int.reduceEq, not_true_eq_false, not_false_eq_true] at h) <;> (try (exfalso; omega)))
      | (with_reducible refine TOK.leaf' ?_))
    all_goals first
      | exact rfl
      | refine ⟨.inl ⟨rfl, _, _, _, _, _, _, _, _, _, _, _, _, _, _, rfl, ?_, ?_, ?_, hX⟩, .inl ?_⟩
      | refine ⟨.inr (.inl ⟨rfl, _, _, _, _, _, _, _, _, _, _, _, _, _, _, _, rfl, ?_, ?_, ?_, hX⟩), .inl ?_⟩
      | refine ⟨.inr (.inr (.inl ⟨rfl, _, _, _, _, _, _, _, _, _, _, _, _, _, _, _, _, _, rfl, ?_, ?_, hX⟩)), .inl ?_⟩
      | refine ⟨.inr (.inr (.inr (.inl ⟨rfl, _, _, _, _, _, _, _, _, _, _, _, _, _, _, _, rfl, ?_, ?_, hX⟩))), .inl ?_⟩
      | refine ⟨.inr (.inr (.inr (.inr (.inl ⟨rfl, _, _, _, _, _, _, _, _, _, _, _, _, _, _, rfl, ?_, ?_, hX⟩)))), .inl ?_⟩
      | refine ⟨.inr (.inr (.inr (.inr (.inr (.inl ⟨rfl, _, _, _, _, _, _, _, _, _, _, _, _, _, _, _, _, rfl, ?_, ?_, hX⟩))))), .inl ?_⟩
      | refine ⟨.inr (.inr (.inr (.inr (.inr (.inr (⟨rfl, _, _, _, _, _, _, _, _, _, _, _, _, _, _, _, _, rfl, ?_, ?_, hX⟩)))))), .inl ?_⟩
    all_goals first
      | (unfold FB; simp (disch := omega) only [d_cl, d_vi, d_vb, d_vr, d_ci, d_cb, d_nr, d_nl, d_add, d_sub, d_mul, d_rem, d_quo, d_bit, d_mn, d_mx, d_w, d_nn, d_bn, d_len, d_neg, d_at0, d_at1, d_at2, d_at3, d_at4, d_at5, d_at6, d_at7, d_set, d_app, d_cat, d_take, d_drop, d_rep, d_cons, d_lt_t, d_lt_f, d_le_t, d_le_f, d_eqi_t, d_eqi_f, d_eqb_t, d_eqb_f, d_nb_t, d_nb_f, nth0, nthS, nthN, w64, and24, and65535, tmod_pos, List.length_set, List.length_append, List.length_cons, List.length_nil]; repeat' (first | omega | split))
      | (unfold FS; simp (disch := omega) only [d_cl, d_vi, d_vb, d_vr, d_ci, d_cb, d_nr, d_nl, d_add, d_sub, d_mul, d_rem, d_quo, d_bit, d_mn, d_mx, d_w, d_nn, d_bn, d_len, d_neg, d_at0, d_at1, d_at2, d_at3, d_at4, d_at5, d_at6, d_at7, d_set, d_app, d_cat, d_take, d_drop, d_rep, d_cons, d_lt_t, d_lt_f, d_le_t, d_le_f, d_eqi_t, d_eqi_f, d_eqb_t, d_eqb_f, d_nb_t, d_nb_f, nth0, nthS, nthN, w64, and24, and65535, tmod_pos, reduceCtorEq, Int.reduceEq, false_imp_iff, true_imp_iff, true_and, and_true, forall_const, imp_false, imp_self, not_false_eq_true]; omega)
      | (simp (disch := omega) only [d_cl, d_vi, d_vb, d_vr, d_ci, d_cb, d_nr, d_nl, d_add, d_sub, d_mul, d_rem, d_quo, d_bit, d_mn, d_mx, d_w, d_nn, d_bn, d_len, d_neg, d_at0, d_at1, d_at2, d_at3, d_at4, d_at5, d_at6, d_at7, d_set, d_app, d_cat, d_take, d_drop, d_rep, d_cons, d_lt_t, d_lt_f, d_le_t, d_le_f, d_eqi_t, d_eqi_f, d_eqb_t, d_eqb_f, d_nb_t, d_nb_f, nth0, nthS, nthN, w64, and24, and65535, tmod_pos]; repeat' (first | exact hc | refine NN.set ?_ ?_)
         all_goals first | exact hx | exact hc _ | exact (hc.set hx) _ | exact u64_nn _ | omega)
      | (simp only [μ, Sb.val, List.map_cons, List.map_nil, d_vi, d_vb, d_vr, d_ci, d_cb, d_nr, d_nl, d_add, d_sub, d_mul, d_rem, d_quo, d_bit, d_mn, d_mx, d_w, d_nn, d_bn, d_len, d_neg, d_at0, d_at1, d_at2, d_at3, d_at4, d_at5, d_at6, d_at7, d_set, d_app, d_cat, d_take, d_drop, d_rep, d_cons, d_lt_t, d_lt_f, d_le_t, d_le_f, d_eqi_t, d_eqi_f, d_eqb_t, d_eqb_f, d_nb_t, d_nb_f, nth0, nthS]; omega)
theorem s0c7 (who now i T D k a b z1 z2 z3 : Int) (r0 r1 : List (List Int)) (hB : FB who now i T 4 D k a b r0 r1 []) (hS : FS i T 4 D k) (hc : NN r1) (hX : XX r0) :
    ∃ kn, KV ⟨[who, now, i, T, 4, D, k, a, b, z1, z2, z3], [], [r0, r1], []⟩ kn ∧ TOK ⟨[who, now, i, T, 4, D, k, a, b, z1, z2, z3], [], [r0, r1], []⟩ (fun _ g => LgOK ⟨[who, now, i, T, 4, D, k, a, b, z1, z2, z3], [], [r0, r1], []⟩ (fun q u => Inv q u ∧ lt2 μ (q, u) (0, ⟨[who, now, i, T, 4, D, k, a, b, z1, z2, z3], [], [r0, r1], []⟩)) g) (segLp I0 G fn.ntmps bod fn.results.toList 1 tms ul 3000 [0, 1, 0, 1, 1, 1, 1, 1, 1, 1, 1, 1] { tm0 with kn := kn }) := by
  unfold FB at hB
  unfold FS at hS
  simp only [List.length_nil] at hB
  simp only [reduceCtorEq, Int.reduceEq, false_imp_iff, true_imp_iff, true_and, and_true, forall_const, imp_false, imp_self, not_false_eq_true] at hS
  have ht := mod_in (a := cl r0 i % 65536) (N := T) (by omega)
  have hx := hX i.toNat
  have c1 := hc (2 * T + T)
  have c2 := hc (2 * T + T + k)
  have c3 : 0 ≤ cl (r1.set (2 * T + T + cl r0 i % 65536 % T).toNat [nth 0 (r0.getD i.toNat []) 1]) (2 * T + T) := (hc.set hx) _
  have c4 : 0 ≤ cl (r1.set (2 * T + T + cl r0 i % 65536 % T).toNat [nth 0 (r0.getD i.toNat []) 1]) (2 * T + T + k) := (hc.set hx) _
  refine ⟨kn0c7, ?_, ?_⟩
  · unfold kn0c7
    repeat' (first | exact KV.nil | refine KV.cons ?_ ?_)
    all_goals (first | (simp (disch := omega) only [d_cl, d_vi, d_vb, d_vr, d_ci, d_cb, d_nr, d_nl, d_add, d_sub, d_mul, d_rem, d_quo, d_bit, d_mn, d_mx, d_w, d_nn, d_bn, d_len, d_neg, d_at0, d_at1, d_at2, d_at3, d_at4, d_at5, d_at6, d_at7, d_set, d_app, d_cat, d_take, d_drop, d_rep, d_cons, d_lt_t, d_lt_f, d_le_t, d_le_f, d_eqi_t, d_eqi_f, d_eqb_t, d_eqb_f, d_nb_t, d_nb_f, nth0, nthS, nthN, w64, and24, and65535, tmod_pos]; done) | (simp (disch := omega) only [d_cl, d_vi, d_vb, d_vr, d_ci, d_cb, d_nr, d_nl, d_add, d_sub, d_mul, d_rem, d_quo, d_bit, d_mn, d_mx, d_w, d_nn, d_bn, d_len, d_neg, d_at0, d_at1, d_at2, d_at3, d_at4, d_at5, d_at6, d_at7, d_set, d_app, d_cat, d_take, d_drop, d_rep, d_cons, d_lt_t, d_lt_f, d_le_t, d_le_f, d_eqi_t, d_eqi_f, d_eqb_t, d_eqb_f, d_nb_t, d_nb_f, nth0, nthS, nthN, w64, and24, and65535, tmod_pos, List.length_set, List.length_append, List.length_cons, List.length_nil]; first | omega | exact hc _ | exact (hc.set hx) _))
  · rw [seg0c7]
    unfold tr0c7
    repeat' (first
      | (refine TOK.br' (fun h => ?_) (fun h => ?_) <;> (try simp (disch := omega) only [d_cl, d_vi, d_vb, d_vr, d_ci, d_cb, d_nr, d_nl, d_add, d_sub, d_mul, d_rem, d_quo, d_bit, d_mn, d_mx, d_w, d_nn, d_bn, d_len, d_neg, d_at0, d_at1, d_at2, d_at3, d_at4, d_at5, d_at6, d_at7, d_set, d_app, d_cat, d_take, d_drop, d_rep, d_cons, d_lt_t, d_lt_f, d_le_t, d_le_f, d_eqi_t, d_eqi_f, d_eqb_t, d_eqb_f, d_nb_t, d_nb_f, nth0, nthS, nthN, w64, and24, and65535, tmod_pos, Int.reduceEq, not_true_eq_false, not_false_eq_true] at h) <;> (try (exfalso; omega)))
      | (with_reducible refine TOK.leaf' ?_))
    all_goals first
      | exact rfl
      | refine ⟨.inl ⟨rfl, _, _, _, _, _, _, _, _, _, _, _, _, _, _, rfl, ?_, ?_, ?_, hX⟩, .inl ?_⟩
      | refine ⟨.inr (.inl ⟨rfl, _, _, _, _, _, _, _, _, _, _, _, _, _, _, _, rfl, ?_, ?_, ?_, hX⟩), .inl ?_⟩
      | refine ⟨.inr (.inr (.inl ⟨rfl, _, _, _, _, _, _, _, _, _, _, _, _, _, _, _, _, _, rfl, ?_, ?_, hX⟩)), .inl ?_⟩
      | refine ⟨.inr (.inr (.inr (.inl ⟨rfl, _, _, _, _, _, _, _, _, _, _, _, _, _, _, _, rfl, ?_, ?_, hX⟩))), .inl ?_⟩
      | refine ⟨.inr (.inr (.inr (.inr (.inl ⟨rfl, _, _, _, _, _, _, _, _, _, _, _, _, _, _, rfl, ?_, ?_, hX⟩)))), .inl ?_⟩
      | refine ⟨.inr (.inr (.inr (.inr (.inr (.inl ⟨rfl, _, _, _, _, _, _, _, _, _, _, _, _, _, _, _, _, rfl, ?_, ?_, hX⟩))))), .inl ?_⟩
      | refine ⟨.inr (.inr (.inr (.inr (.inr (.inr (⟨rfl, _, _, _, _, _, _, _, _, _, _, _, _, _, _, _, _, rfl, ?_, ?_, hX⟩)))))), .inl ?_⟩
    all_goals first
      | (unfold FB; simp (disch := omega) only [d_cl, d_vi, d_vb, d_vr, d_ci, d_cb, d_nr, d_nl, d_add, d_sub, d_mul, d_rem, d_quo, d_bit, d_mn, d_mx, d_w, d_nn, d_bn, d_len, d_neg, d_at0, d_at1, d_at2, d_at3, d_at4, d_at5, d_at6, d_at7, d_set, d_app, d_cat, d_take, d_drop, d_rep, d_cons, d_lt_t, d_lt_f, d_le_t, d_le_f, d_eqi_t, d_eqi_f, d_eqb_t, d_eqb_f, d_nb_t, d_nb_f, nth0, nthS, nthN, w64, and24, and65535, tmod_pos, List.length_set, List.length_append, List.length_cons, List.length_nil]; repeat' (first | omega | split))
      | (unfold FS; simp (disch := omega) only [d_cl, d_vi, d_vb, d_vr, d_ci, d_cb, d_nr, d_nl, d_add, d_sub, d_mul, d_rem, d_quo, d_bit, d_mn, d_mx, d_w, d_nn, d_bn, d_len, d_neg, d_at0, d_at1, d_at2, d_at3, d_at4, d_at5, d_at6, d_at7, d_set, d_app, d_cat, d_take, d_drop, d_rep, d_cons, d_lt_t, d_lt_f, d_le_t, d_le_f, d_eqi_t, d_eqi_f, d_eqb_t, d_eqb_f, d_nb_t, d_nb_f, nth0, nthS, nthN, w64, and24, and65535, tmod_pos, reduceCtorEq, Int.reduceEq, false_imp_iff, true_imp_iff, true_and, and_true, forall_const, imp_false, imp_self, not_false_eq_true]; omega)
      | (simp (disch := omega) only [d_cl, d_vi, d_vb, d_vr, d_ci, d_cb, d_nr, d_nl, d_add, d_sub, d_mul, d_rem, d_quo, d_bit, d_mn, d_mx, d_w, d_nn, d_bn, d_len, d_neg, d_at0, d_at1, d_at2, d_at3, d_at4, d_at5, d_at6, d_at7, d_set, d_app, d_cat, d_take, d_drop, d_rep, d_cons, d_lt_t, d_lt_f, d_le_t, d_le_f, d_eqi_t, d_eqi_f, d_eqb_t, d_eqb_f, d_nb_t, d_nb_f, nth0, nthS, nthN, w64, and24, and65535, tmod_pos]; repeat' (first | exact hc | refine NN.set ?_ ?_)
         all_goals first | exact hx | exact hc _ | exact (hc.set hx) _ | exact u64_nn _ | omega)
      | (simp only [μ, Sb.val, List.map_cons, List.map_nil, d_vi, d_vb, d_vr, d_ci, d_cb, d_nr, d_nl, d_add, d_sub, d_mul, d_rem, d_quo, d_bit, d_mn, d_mx, d_w, d_nn, d_bn, d_len, d_neg, d_at0, d_at1, d_at2, d_at3, d_at4, d_at5, d_at6, d_at7, d_set, d_app, d_cat, d_take, d_drop, d_rep, d_cons, d_lt_t, d_lt_f, d_le_t, d_le_f, d_eqi_t, d_eqi_f, d_eqb_t, d_eqb_f, d_nb_t, d_nb_f, nth0, nthS]; omega)
theorem s0 : ∀ v, Inv 0 v → ∃ kn, KV v kn ∧ TOK v (fun _ g => LgOK v (fun q u => Inv q u ∧ lt2 μ (q, u) (0, v)) g) (segLp I0 G fn.ntmps bod fn.results.toList 1 tms ul 3000 [0, 1, 0, 1, 1, 1, 1, 1, 1, 1, 1, 1] { tm0 with kn := kn }) := by
  intro v hv
  obtain ⟨who, now, i, T, src, D, k, a, b, z1, z2, z3, r0, r1, rfl, hB, hS, hc, hX⟩ := inv0 hv
  have hs : src = 0 ∨ src = 1 ∨ src = 2 ∨ src = 3 ∨ src = 4 := by unfold FB at hB; omega
  rcases hs with rfl | rfl | rfl | rfl | rfl
  · exact s0c0 _ _ _ _ _ _ _ _ _ _ _ _ _ hB hS hc hX
  · exact s0c1 _ _ _ _ _ _ _ _ _ _ _ _ _ hB hS hc hX
  · have hk : k = 0 ∨ k = 1 ∨ k = 2 ∨ k = 3 := by
      have h1 := hS.1
      have h2 := hS.2.2.2.1 rfl
      unfold FB at hB; omega
    rcases hk with rfl | rfl | rfl | rfl
    · exact s0c2 _ _ _ _ _ _ _ _ _ _ _ _ hB hS hc hX
    · exact s0c3 _ _ _ _ _ _ _ _ _ _ _ _ hB hS hc hX
    · exact s0c4 _ _ _ _ _ _ _ _ _ _ _ _ hB hS hc hX
    · exact s0c5 _ _ _ _ _ _ _ _ _ _ _ _ hB hS hc hX
  · exact s0c6 _ _ _ _ _ _ _ _ _ _ _ _ _ hB hS hc hX
  · exact s0c7 _ _ _ _ _ _ _ _ _ _ _ _ _ hB hS hc hX
theorem s1c0 (who now i T D k a b z1 z2 z3 : Int) (r0 r1 r2 : List (List Int)) (hB : FB who now i T 0 D k a b r0 r1 r2) (hS : FS i T 0 D k) (hc : NN r1) (hX : XX r0) :
    ∃ kn, KV ⟨[who, now, i, T, 0, D, k, a, b, z1, z2, z3], [], [r0, r1, r2], []⟩ kn ∧ TOK ⟨[who, now, i, T, 0, D, k, a, b, z1, z2, z3], [], [r0, r1, r2], []⟩ (fun _ g => LgOK ⟨[who, now, i, T, 0, D, k, a, b, z1, z2, z3], [], [r0, r1, r2], []⟩ (fun q u => Inv q u ∧ lt2 μ (q, u) (1, ⟨[who, now, i, T, 0, D, k, a, b, z1, z2, z3], [], [r0, r1, r2], []⟩)) g) (segLp I0 G fn.ntmps bod fn.results.toList 1 tms ul 3000 [0, 1, 0, 1, 1, 1, 1, 1, 1, 1, 1, 1] { tm1 with kn := kn }) := by
  unfold FB at hB
  unfold FS at hS
  simp only [reduceCtorEq, Int.reduceEq, false_imp_iff, true_imp_iff, true_and, and_true, forall_const, imp_false, imp_self, not_false_eq_true] at hS
  have ht := mod_in (a := cl r0 i % 65536) (N := T) (by omega)
  have hx := hX i.toNat
  have c1 := hc (2 * T + T)
  have c2 := hc (2 * T + T + k)
  have c3 : 0 ≤ cl (r1.set (2 * T + T + cl r0 i % 65536 % T).toNat [nth 0 (r0.getD i.toNat []) 1]) (2 * T + T) := (hc.set hx) _
  have c4 : 0 ≤ cl (r1.set (2 * T + T + cl r0 i % 65536 % T).toNat [nth 0 (r0.getD i.toNat []) 1]) (2 * T + T + k) := (hc.set hx) _
  refine ⟨kn1c0, ?_, ?_⟩
  · unfold kn1c0
    repeat' (first | exact KV.nil | refine KV.cons ?_ ?_)
    all_goals (first | (simp (disch := omega) only [d_cl, d_vi, d_vb, d_vr, d_ci, d_cb, d_nr, d_nl, d_add, d_sub, d_mul, d_rem, d_quo, d_bit, d_mn, d_mx, d_w, d_nn, d_bn, d_len, d_neg, d_at0, d_at1, d_at2, d_at3, d_at4, d_at5, d_at6, d_at7, d_set, d_app, d_cat, d_take, d_drop, d_rep, d_cons, d_lt_t, d_lt_f, d_le_t, d_le_f, d_eqi_t, d_eqi_f, d_eqb_t, d_eqb_f, d_nb_t, d_nb_f, nth0, nthS, nthN, w64, and24, and65535, tmod_pos]; done) | (simp (disch := omega) only [d_cl, d_vi, d_vb, d_vr, d_ci, d_cb, d_nr, d_nl, d_add, d_sub, d_mul, d_rem, d_quo, d_bit, d_mn, d_mx, d_w, d_nn, d_bn, d_len, d_neg, d_at0, d_at1, d_at2, d_at3, d_at4, d_at5, d_at6, d_at7, d_set, d_app, d_cat, d_take, d_drop, d_rep, d_cons, d_lt_t, d_lt_f, d_le_t, d_le_f, d_eqi_t, d_eqi_f, d_eqb_t, d_eqb_f, d_nb_t, d_nb_f, nth0, nthS, nthN, w64, and24, and65535, tmod_pos, List.length_set, List.length_append, List.length_cons, List.length_nil]; first | omega | exact hc _ | exact (hc.set hx) _))
  · rw [seg1c0]
    unfold tr1c0
    repeat' (first
      | (refine TOK.br' (fun h => ?_) (fun h => ?_) <;> (try simp (disch := omega) only [d_cl, d_vi, d_vb, d_vr, d_ci, d_cb, d_nr, d_nl, d_add, d_sub, d_mul, d_rem, d_quo, d_bit, d_mn, d_mx, d_w, d_nn, d_bn, d_len, d_neg, d_at0, d_at1, d_at2, d_at3, d_at4, d_at5, d_at6, d_at7, d_set, d_app, d_cat, d_take, d_drop, d_rep, d_cons, d_lt_t, d_lt_f, d_le_t, d_le_f, d_eqi_t, d_eqi_f, d_eqb_t, d_eqb_f, d_nb_t, d_nb_f, nth0, nthS, nthN, w64, and24, and65535, tmod_pos, Int.reduceEq, not_true_eq_false, not_false_eq_true] at h) <;> (try (exfalso; omega)))
      | (with_reducible refine TOK.leaf' ?_))
    all_goals first
      | exact rfl
      | refine ⟨.inl ⟨rfl, _, _, _, _, _, _, _, _, _, _, _, _, _, _, rfl, ?_, ?_, ?_, hX⟩, .inl ?_⟩
      | refine ⟨.inr (.inl ⟨rfl, _, _, _, _, _, _, _, _, _, _, _, _, _, _, _, rfl, ?_, ?_, ?_, hX⟩), .inl ?_⟩
      | refine ⟨.inr (.inr (.inl ⟨rfl, _, _, _, _, _, _, _, _, _, _, _, _, _, _, _, _, _, rfl, ?_, ?_, hX⟩)), .inl ?_⟩
      | refine ⟨.inr (.inr (.inr (.inl ⟨rfl, _, _, _, _, _, _, _, _, _, _, _, _, _, _, _, rfl, ?_, ?_, hX⟩))), .inl ?_⟩
      | refine ⟨.inr (.inr (.inr (.inr (.inl ⟨rfl, _, _, _, _, _, _, _, _, _, _, _, _, _, _, rfl, ?_, ?_, hX⟩)))), .inl ?_⟩
      | refine ⟨.inr (.inr (.inr (.inr (.inr (.inl ⟨rfl, _, _, _, _, _, _, _, _, _, _, _, _, _, _, _, _, rfl, ?_, ?_, hX⟩))))), .inl ?_⟩
      | refine ⟨.inr (.inr (.inr (.inr (.inr (.inr (⟨rfl, _, _, _, _, _, _, _, _, _, _, _, _, _, _, _, _, rfl, ?_, ?_, hX⟩)))))), .inl ?_⟩
    all_goals first
      | (unfold FB; simp (disch := omega) only [d_cl, d_vi, d_vb, d_vr, d_ci, d_cb, d_nr, d_nl, d_add, d_sub, d_mul, d_rem, d_quo, d_bit, d_mn, d_mx, d_w, d_nn, d_bn, d_len, d_neg, d_at0, d_at1, d_at2, d_at3, d_at4, d_at5, d_at6, d_at7, d_set, d_app, d_cat, d_take, d_drop, d_rep, d_cons, d_lt_t, d_lt_f, d_le_t, d_le_f, d_eqi_t, d_eqi_f, d_eqb_t, d_eqb_f, d_nb_t, d_nb_f, nth0, nthS, nthN, w64, and24, and65535, tmod_pos, List.length_set, List.length_append, List.length_cons, List.length_nil]; repeat' (first | omega | split))
      | (unfold FS; simp (disch := omega) only [d_cl, d_vi, d_vb, d_vr, d_ci, d_cb, d_nr, d_nl, d_add, d_sub, d_mul, d_rem, d_quo, d_bit, d_mn, d_mx, d_w, d_nn, d_bn, d_len, d_neg, d_at0, d_at1, d_at2, d_at3, d_at4, d_at5, d_at6, d_at7, d_set, d_app, d_cat, d_take, d_drop, d_rep, d_cons, d_lt_t, d_lt_f, d_le_t, d_le_f, d_eqi_t, d_eqi_f, d_eqb_t, d_eqb_f, d_nb_t, d_nb_f, nth0, nthS, nthN, w64, and24, and65535, tmod_pos, reduceCtorEq, Int.reduceEq, false_imp_iff, true_imp_iff, true_and, and_true, forall_const, imp_false, imp_self, not_false_eq_true]; omega)
      | (simp (disch := omega) only [d_cl, d_vi, d_vb, d_vr, d_ci, d_cb, d_nr, d_nl, d_add, d_sub, d_mul, d_rem, d_quo, d_bit, d_mn, d_mx, d_w, d_nn, d_bn, d_len, d_neg, d_at0, d_at1, d_at2, d_at3, d_at4, d_at5, d_at6, d_at7, d_set, d_app, d_cat, d_take, d_drop, d_rep, d_cons, d_lt_t, d_lt_f, d_le_t, d_le_f, d_eqi_t, d_eqi_f, d_eqb_t, d_eqb_f, d_nb_t, d_nb_f, nth0, nthS, nthN, w64, and24, and65535, tmod_pos]; repeat' (first | exact hc | refine NN.set ?_ ?_)
         all_goals first | exact hx | exact hc _ | exact (hc.set hx) _ | exact u64_nn _ | omega)
      | (simp only [μ, Sb.val, List.map_cons, List.map_nil, d_vi, d_vb, d_vr, d_ci, d_cb, d_nr, d_nl, d_add, d_sub, d_mul, d_rem, d_quo, d_bit, d_mn, d_mx, d_w, d_nn, d_bn, d_len, d_neg, d_at0, d_at1, d_at2, d_at3, d_at4, d_at5, d_at6, d_at7, d_set, d_app, d_cat, d_take, d_drop, d_rep, d_cons, d_lt_t, d_lt_f, d_le_t, d_le_f, d_eqi_t, d_eqi_f, d_eqb_t, d_eqb_f, d_nb_t, d_nb_f, nth0, nthS]; omega)
theorem s1c1 (who now i T D k a b z1 z2 z3 : Int) (r0 r1 r2 : List (List Int)) (hB : FB who now i T 1 D k a b r0 r1 r2) (hS : FS i T 1 D k) (hc : NN r1) (hX : XX r0) :
    ∃ kn, KV ⟨[who, now, i, T, 1, D, k, a, b, z1, z2, z3], [], [r0, r1, r2], []⟩ kn ∧ TOK ⟨[who, now, i, T, 1, D, k, a, b, z1, z2, z3], [], [r0, r1, r2], []⟩ (fun _ g => LgOK ⟨[who, now, i, T, 1, D, k, a, b, z1, z2, z3], [], [r0, r1, r2], []⟩ (fun q u => Inv q u ∧ lt2 μ (q, u) (1, ⟨[who, now, i, T, 1, D, k, a, b, z1, z2, z3], [], [r0, r1, r2], []⟩)) g) (segLp I0 G fn.ntmps bod fn.results.toList 1 tms ul 3000 [0, 1, 0, 1, 1, 1, 1, 1, 1, 1, 1, 1] { tm1 with kn := kn }) := by
  unfold FB at hB
  unfold FS at hS
  simp only [reduceCtorEq, Int.reduceEq, false_imp_iff, true_imp_iff, true_and, and_true, forall_const, imp_false, imp_self, not_false_eq_true] at hS
  have ht := mod_in (a := cl r0 i % 65536) (N := T) (by omega)
  have hx := hX i.toNat
  have c1 := hc (2 * T + T)
  have c2 := hc (2 * T + T + k)
  have c3 : 0 ≤ cl (r1.set (2 * T + T + cl r0 i % 65536 % T).toNat [nth 0 (r0.getD i.toNat []) 1]) (2 * T + T) := (hc.set hx) _
  have c4 : 0 ≤ cl (r1.set (2 * T + T + cl r0 i % 65536 % T).toNat [nth 0 (r0.getD i.toNat []) 1]) (2 * T + T + k) := (hc.set hx) _
  refine ⟨kn1c1, ?_, ?_⟩
  · unfold kn1c1
    repeat' (first | exact KV.nil | refine KV.cons ?_ ?_)
    all_goals (first | (simp (disch := omega) only [d_cl, d_vi, d_vb, d_vr, d_ci, d_cb, d_nr, d_nl, d_add, d_sub, d_mul, d_rem, d_quo, d_bit, d_mn, d_mx, d_w, d_nn, d_bn, d_len, d_neg, d_at0, d_at1, d_at2, d_at3, d_at4, d_at5, d_at6, d_at7, d_set, d_app, d_cat, d_take, d_drop, d_rep, d_cons, d_lt_t, d_lt_f, d_le_t, d_le_f, d_eqi_t, d_eqi_f, d_eqb_t, d_eqb_f, d_nb_t, d_nb_f, nth0, nthS, nthN, w64, and24, and65535, tmod_pos]; done) | (simp (disch := omega) only [d_cl, d_vi, d_vb, d_vr, d_ci, d_cb, d_nr, d_nl, d_add, d_sub, d_mul, d_rem, d_quo, d_bit, d_mn, d_mx, d_w, d_nn, d_bn, d_len, d_neg, d_at0, d_at1, d_at2, d_at3, d_at4, d_at5, d_at6, d_at7, d_set, d_app, d_cat, d_take, d_drop, d_rep, d_cons, d_lt_t, d_lt_f, d_le_t, d_le_f, d_eqi_t, d_eqi_f, d_eqb_t, d_eqb_f, d_nb_t, d_nb_f, nth0, nthS, nthN, w64, and24, and65535, tmod_pos, List.length_set, List.length_append, List.length_cons, List.length_nil]; first | omega | exact hc _ | exact (hc.set hx) _))
  · rw [seg1c1]
    unfold tr1c1
    repeat' (first
      | (refine TOK.br' (fun h => ?_) (fun h => ?_) <;> (try simp (disch := omega) only [d_cl, d_vi, d_vb, d_vr, d_ci, d_cb, d_nr, d_nl, d_add, d_sub, d_mul, d_rem, d_quo, d_bit, d_mn, d_mx, d_w, d_nn, d_bn, d_len, d_neg, d_at0, d_at1, d_at2, d_at3, d_at4, d_at5, d_at6, d_at7, d_set, d_app, d_cat, d_take, d_drop, d_rep, d_cons, d_lt_t, d_lt_f, d_le_t, d_le_f, d_eqi_t, d_eqi_f, d_eqb_t, d_eqb_f, d_nb_t, d_nb_f, nth0, nthS, nthN, w64, and24, and65535, tmod_pos, Int.reduceEq, not_true_eq_false, not_false_eq_true] at h) <;> (try (exfalso; omega)))
      | (with_reducible refine TOK.leaf' ?_))
    all_goals first
      | exact rfl
      | refine ⟨.inl ⟨rfl, _, _, _, _, _, _, _, _, _, _, _, _, _, _, rfl, ?_, ?_, ?_, hX⟩, .inl ?_⟩
      | refine ⟨.inr (.inl ⟨rfl, _, _, _, _, _, _, _, _, _, _, _, _, _, _, _, rfl, ?_, ?_, ?_, hX⟩), .inl ?_⟩
      | refine ⟨.inr (.inr (.inl ⟨rfl, _, _, _, _, _, _, _, _, _, _, _, _, _, _, _, _, _, rfl, ?_, ?_, hX⟩)), .inl ?_⟩
      | refine ⟨.inr (.inr (.inr (.inl ⟨rfl, _, _, _, _, _, _, _, _, _, _, _, _, _, _, _, rfl, ?_, ?_, hX⟩))), .inl ?_⟩
      | refine ⟨.inr (.inr (.inr (.inr (.inl ⟨rfl, _, _, _, _, _, _, _, _, _, _, _, _, _, _, rfl, ?_, ?_, hX⟩)))), .inl ?_⟩
      | refine ⟨.inr (.inr (.inr (.inr (.inr (.inl ⟨rfl, _, _, _, _, _, _, _, _, _, _, _, _, _, _, _, _, rfl, ?_, ?_, hX⟩))))), .inl ?_⟩
      | refine ⟨.inr (.inr (.inr (.inr (.inr (.inr (⟨rfl, _, _, _, _, _, _, _, _, _, _, _, _, _, _, _, _, rfl, ?_, ?_, hX⟩)))))), .inl ?_⟩
    all_goals first
      | (unfold FB; simp (disch := omega) only [d_cl, d_vi, d_vb, d_vr, d_ci, d_cb, d_nr, d_nl, d_add, d_sub, d_mul, d_rem, d_quo, d_bit, d_mn, d_mx, d_w, d_nn, d_bn, d_len, d_neg, d_at0, d_at1, d_at2, d_at3, d_at4, d_at5, d_at6, d_at7, d_set, d_app, d_cat, d_take, d_drop, d_rep, d_cons, d_lt_t, d_lt_f, d_le_t, d_le_f, d_eqi_t, d_eqi_f, d_eqb_t, d_eqb_f, d_nb_t, d_nb_f, nth0, nthS, nthN, w64, and24, and65535, tmod_pos, List.length_set, List.length_append, List.length_cons, List.length_nil]; repeat' (first | omega | split))
      | (unfold FS; simp (disch := omega) only [d_cl, d_vi, d_vb, d_vr, d_ci, d_cb, d_nr, d_nl, d_add, d_sub, d_mul, d_rem, d_quo, d_bit, d_mn, d_mx, d_w, d_nn, d_bn, d_len, d_neg, d_at0, d_at1, d_at2, d_at3, d_at4, d_at5, d_at6, d_at7, d_set, d_app, d_cat, d_take, d_drop, d_rep, d_cons, d_lt_t, d_lt_f, d_le_t, d_le_f, d_eqi_t, d_eqi_f, d_eqb_t, d_eqb_f, d_nb_t, d_nb_f, nth0, nthS, nthN, w64, and24, and65535, tmod_pos, reduceCtorEq, Int.reduceEq, false_imp_iff, true_imp_iff, true_and, and_true, forall_const, imp_false, imp_self, not_false_eq_true]; omega)
      | (simp (disch := omega) only [d_cl, d_vi, d_vb, d_vr, d_ci, d_cb, d_nr, d_nl, d_add, d_sub, d_mul, d_rem, d_quo, d_bit, d_mn, d_mx, d_w, d_nn, d_bn, d_len, d_neg, d_at0, d_at1, d_at2, d_at3, d_at4, d_at5, d_at6, d_at7, d_set, d_app, d_cat, d_take, d_drop, d_rep, d_cons, d_lt_t, d_lt_f, d_le_t, d_le_f, d_eqi_t, d_eqi_f, d_eqb_t, d_eqb_f, d_nb_t, d_nb_f, nth0, nthS, nthN, w64, and24, and65535, tmod_pos]; repeat' (first | exact hc | refine NN.set ?_ ?_)
         all_goals first | exact hx | exact hc _ | exact (hc.set hx) _ | exact u64_nn _ | omega)
      | (simp only [μ, Sb.val, List.map_cons, List.map_nil, d_vi, d_vb, d_vr, d_ci, d_cb, d_nr, d_nl, d_add, d_sub, d_mul, d_rem, d_quo, d_bit, d_mn, d_mx, d_w, d_nn, d_bn, d_len, d_neg, d_at0, d_at1, d_at2, d_at3, d_at4, d_at5, d_at6, d_at7, d_set, d_app, d_cat, d_take, d_drop, d_rep, d_cons, d_lt_t, d_lt_f, d_le_t, d_le_f, d_eqi_t, d_eqi_f, d_eqb_t, d_eqb_f, d_nb_t, d_nb_f, nth0, nthS]; omega)
theorem s1c2 (who now i T D a b z1 z2 z3 : Int) (r0 r1 r2 : List (List Int)) (hB : FB who now i T 2 D 0 a b r0 r1 r2) (hS : FS i T 2 D 0) (hc : NN r1) (hX : XX r0) :
    ∃ kn, KV ⟨[who, now, i, T, 2, D, 0, a, b, z1, z2, z3], [], [r0, r1, r2], []⟩ kn ∧ TOK ⟨[who, now, i, T, 2, D, 0, a, b, z1, z2, z3], [], [r0, r1, r2], []⟩ (fun _ g => LgOK ⟨[who, now, i, T, 2, D, 0, a, b, z1, z2, z3], [], [r0, r1, r2], []⟩ (fun q u => Inv q u ∧ lt2 μ (q, u) (1, ⟨[who, now, i, T, 2, D, 0, a, b, z1, z2, z3], [], [r0, r1, r2], []⟩)) g) (segLp I0 G fn.ntmps bod fn.results.toList 1 tms ul 3000 [0, 1, 0, 1, 1, 1, 1, 1, 1, 1, 1, 1] { tm1 with kn := kn }) := by
  unfold FB at hB
  unfold FS at hS
  simp only [reduceCtorEq, Int.reduceEq, false_imp_iff, true_imp_iff, true_and, and_true, forall_const, imp_false, imp_self, not_false_eq_true] at hS
  have ht := mod_in (a := cl r0 i % 65536) (N := T) (by omega)
  have hx := hX i.toNat
  have c1 := hc (2 * T + T)
  have c2 := hc (2 * T + T + 0)
  have c3 : 0 ≤ cl (r1.set (2 * T + T + cl r0 i % 65536 % T).toNat [nth 0 (r0.getD i.toNat []) 1]) (2 * T + T) := (hc.set hx) _
  have c4 : 0 ≤ cl (r1.set (2 * T + T + cl r0 i % 65536 % T).toNat [nth 0 (r0.getD i.toNat []) 1]) (2 * T + T + 0) := (hc.set hx) _
  refine ⟨kn1c2, ?_, ?_⟩
  · unfold kn1c2
    repeat' (first | exact KV.nil | refine KV.cons ?_ ?_)
    all_goals (first | (simp (disch := omega) only [d_cl, d_vi, d_vb, d_vr, d_ci, d_cb, d_nr, d_nl, d_add, d_sub, d_mul, d_rem, d_quo, d_bit, d_mn, d_mx, d_w, d_nn, d_bn, d_len, d_neg, d_at0, d_at1, d_at2, d_at3, d_at4, d_at5, d_at6, d_at7, d_set, d_app, d_cat, d_take, d_drop, d_rep, d_cons, d_lt_t, d_lt_f, d_le_t, d_le_f, d_eqi_t, d_eqi_f, d_eqb_t, d_eqb_f, d_nb_t, d_nb_f, nth0, nthS, nthN, w64, and24, and65535, tmod_pos]; done) | (simp (disch := omega) only [d_cl, d_vi, d_vb, d_vr, d_ci, d_cb, d_nr, d_nl, d_add, d_sub, d_mul, d_rem, d_quo, d_bit, d_mn, d_mx, d_w, d_nn, d_bn, d_len, d_neg, d_at0, d_at1, d_at2, d_at3, d_at4, d_at5, d_at6, d_at7, d_set, d_app, d_cat, d_take, d_drop, d_rep, d_cons, d_lt_t, d_lt_f, d_le_t, d_le_f, d_eqi_t, d_eqi_f, d_eqb_t, d_eqb_f, d_nb_t, d_nb_f, nth0, nthS, nthN, w64, and24, and65535, tmod_pos, List.length_set, List.length_append, List.length_cons, List.length_nil]; first | omega | exact hc _ | exact (hc.set hx) _))
  · rw [seg1c2]
    unfold tr1c2
    repeat' (first
      | (refine TOK.br' (fun h => ?_) (fun h => ?_) <;> (try simp (disch := omega) only [d_cl, d_vi, d_vb, d_vr, d_ci, d_cb, d_nr, d_nl, d_add, d_sub, d_mul, d_rem, d_quo, d_bit, d_mn, d_mx, d_w, d_nn, d_bn, d_len, d_neg, d_at0, d_at1, d_at2, d_at3, d_at4, d_at5, d_at6, d_at7, d_set, d_app, d_cat, d_take, d_drop, d_rep, d_cons, d_lt_t, d_lt_f, d_le_t, d_le_f, d_eqi_t, d_eqi_f, d_eqb_t, d_eqb_f, d_nb_t, d_nb_f, nth0, nthS, nthN, w64, and24, and65535, tmod_pos, Int.reduceEq, not_true_eq_false, not_false_eq_true] at h) <;> (try (exfalso; omega)))
      | (with_reducible refine TOK.leaf' ?_))
    all_goals first
      | exact rfl
      | refine ⟨.inl ⟨rfl, _, _, _, _, _, _, _, _, _, _, _, _, _, _, rfl, ?_, ?_, ?_, hX⟩, .inl ?_⟩
      | refine ⟨.inr (.inl ⟨rfl, _, _, _, _, _, _, _, _, _, _, _, _, _, _, _, rfl, ?_, ?_, ?_, hX⟩), .inl ?_⟩
      | refine ⟨.inr (.inr (.inl ⟨rfl, _, _, _, _, _, _, _, _, _, _, _, _, _, _, _, _, _, rfl, ?_, ?_, hX⟩)), .inl ?_⟩
      | refine ⟨.inr (.inr (.inr (.inl ⟨rfl, _, _, _, _, _, _, _, _, _, _, _, _, _, _, _, rfl, ?_, ?_, hX⟩))), .inl ?_⟩
      | refine ⟨.inr (.inr (.inr (.inr (.inl ⟨rfl, _, _, _, _, _, _, _, _, _, _, _, _, _, _, rfl, ?_, ?_, hX⟩)))), .inl ?_⟩
      | refine ⟨.inr (.inr (.inr (.inr (.inr (.inl ⟨rfl, _, _, _, _, _, _, _, _, _, _, _, _, _, _, _, _, rfl, ?_, ?_, hX⟩))))), .inl ?_⟩
      | refine ⟨.inr (.inr (.inr (.inr (.inr (.inr (⟨rfl, _, _, _, _, _, _, _, _, _, _, _, _, _, _, _, _, rfl, ?_, ?_, hX⟩)))))), .inl ?_⟩
    all_goals first
      | (unfold FB; simp (disch := omega) only [d_cl, d_vi, d_vb, d_vr, d_ci, d_cb, d_nr, d_nl, d_add, d_sub, d_mul, d_rem, d_quo, d_bit, d_mn, d_mx, d_w, d_nn, d_bn, d_len, d_neg, d_at0, d_at1, d_at2, d_at3, d_at4, d_at5, d_at6, d_at7, d_set, d_app, d_cat, d_take, d_drop, d_rep, d_cons, d_lt_t, d_lt_f, d_le_t, d_le_f, d_eqi_t, d_eqi_f, d_eqb_t, d_eqb_f, d_nb_t, d_nb_f, nth0, nthS, nthN, w64, and24, and65535, tmod_pos, List.length_set, List.length_append, List.length_cons, List.length_nil]; repeat' (first | omega | split))
      | (unfold FS; simp (disch := omega) only [d_cl, d_vi, d_vb, d_vr, d_ci, d_cb, d_nr, d_nl, d_add, d_sub, d_mul, d_rem, d_quo, d_bit, d_mn, d_mx, d_w, d_nn, d_bn, d_len, d_neg, d_at0, d_at1, d_at2, d_at3, d_at4, d_at5, d_at6, d_at7, d_set, d_app, d_cat, d_take, d_drop, d_rep, d_cons, d_lt_t, d_lt_f, d_le_t, d_le_f, d_eqi_t, d_eqi_f, d_eqb_t, d_eqb_f, d_nb_t, d_nb_f, nth0, nthS, nthN, w64, and24, and65535, tmod_pos, reduceCtorEq, Int.reduceEq, false_imp_iff, true_imp_iff, true_and, and_true, forall_const, imp_false, imp_self, not_false_eq_true]; omega)
      | (simp (disch := omega) only [d_cl, d_vi, d_vb, d_vr, d_ci, d_cb, d_nr, d_nl, d_add, d_sub, d_mul, d_rem, d_quo, d_bit, d_mn, d_mx, d_w, d_nn, d_bn, d_len, d_neg, d_at0, d_at1, d_at2, d_at3, d_at4, d_at5, d_at6, d_at7, d_set, d_app, d_cat, d_take, d_drop, d_rep, d_cons, d_lt_t, d_lt_f, d_le_t, d_le_f, d_eqi_t, d_eqi_f, d_eqb_t, d_eqb_f, d_nb_t, d_nb_f, nth0, nthS, nthN, w64, and24, and65535, tmod_pos]; repeat' (first | exact hc | refine NN.set ?_ ?_)
         all_goals first | exact hx | exact hc _ | exact (hc.set hx) _ | exact u64_nn _ | omega)
      | (simp only [μ, Sb.val, List.map_cons, List.map_nil, d_vi, d_vb, d_vr, d_ci, d_cb, d_nr, d_nl, d_add, d_sub, d_mul, d_rem, d_quo, d_bit, d_mn, d_mx, d_w, d_nn, d_bn, d_len, d_neg, d_at0, d_at1, d_at2, d_at3, d_at4, d_at5, d_at6, d_at7, d_set, d_app, d_cat, d_take, d_drop, d_rep, d_cons, d_lt_t, d_lt_f, d_le_t, d_le_f, d_eqi_t, d_eqi_f, d_eqb_t, d_eqb_f, d_nb_t, d_nb_f, nth0, nthS]; omega)
theorem s1c3 (who now i T D a b z1 z2 z3 : Int) (r0 r1 r2 : List (List Int)) (hB : FB who now i T 2 D 1 a b r0 r1 r2) (hS : FS i T 2 D 1) (hc : NN r1) (hX : XX r0) :
    ∃ kn, KV ⟨[who, now, i, T, 2, D, 1, a, b, z1, z2, z3], [], [r0, r1, r2], []⟩ kn ∧ TOK ⟨[who, now, i, T, 2, D, 1, a, b, z1, z2, z3], [], [r0, r1, r2], []⟩ (fun _ g => LgOK ⟨[who, now, i, T, 2, D, 1, a, b, z1, z2, z3], [], [r0, r1, r2], []⟩ (fun q u => Inv q u ∧ lt2 μ (q, u) (1, ⟨[who, now, i, T, 2, D, 1, a, b, z1, z2, z3], [], [r0, r1, r2], []⟩)) g) (segLp I0 G fn.ntmps bod fn.results.toList 1 tms ul 3000 [0, 1, 0, 1, 1, 1, 1, 1, 1, 1, 1, 1] { tm1 with kn := kn }) := by
  unfold FB at hB
  unfold FS at hS
  simp only [reduceCtorEq, Int.reduceEq, false_imp_iff, true_imp_iff, true_and, and_true, forall_const, imp_false, imp_self, not_false_eq_true] at hS
  have ht := mod_in (a := cl r0 i % 65536) (N := T) (by omega)
  have hx := hX i.toNat
  have c1 := hc (2 * T + T)
  have c2 := hc (2 * T + T + 1)
  have c3 : 0 ≤ cl (r1.set (2 * T + T + cl r0 i % 65536 % T).toNat [nth 0 (r0.getD i.toNat []) 1]) (2 * T + T) := (hc.set hx) _
  have c4 : 0 ≤ cl (r1.set (2 * T + T + cl r0 i % 65536 % T).toNat [nth 0 (r0.getD i.toNat []) 1]) (2 * T + T + 1) := (hc.set hx) _
  refine ⟨kn1c3, ?_, ?_⟩
  · unfold kn1c3
    repeat' (first | exact KV.nil | refine KV.cons ?_ ?_)
    all_goals (first | (simp (disch := omega) only [d_cl, d_vi, d_vb, d_vr, d_ci, d_cb, d_nr, d_nl, d_add, d_sub, d_mul, d_rem, d_quo, d_bit, d_mn, d_mx, d_w, d_nn, d_bn, d_len, d_neg, d_at0, d_at1, d_at2, d_at3, d_at4, d_at5, d_at6, d_at7, d_set, d_app, d_cat, d_take, d_drop, d_rep, d_cons, d_lt_t, d_lt_f, d_le_t, d_le_f, d_eqi_t, d_eqi_f, d_eqb_t, d_eqb_f, d_nb_t, d_nb_f, nth0, nthS, nthN, w64, and24, and65535, tmod_pos]; done) | (simp (disch := omega) only [d_cl, d_vi, d_vb, d_vr, d_ci, d_cb, d_nr, d_nl, d_add, d_sub, d_mul, d_rem, d_quo, d_bit, d_mn, d_mx, d_w, d_nn, d_bn, d_len, d_neg, d_at0, d_at1, d_at2, d_at3, d_at4, d_at5, d_at6, d_at7, d_set, d_app, d_cat, d_take, d_drop, d_rep, d_cons, d_lt_t, d_lt_f, d_le_t, d_le_f, d_eqi_t, d_eqi_f, d_eqb_t, d_eqb_f, d_nb_t, d_nb_f, nth0, nthS, nthN, w64, and24, and65535, tmod_pos, List.length_set, List.length_append, List.length_cons, List.length_nil]; first | omega | exact hc _ | exact (hc.set hx) _))
  · rw [seg1c3]
    unfold tr1c3
    repeat' (first
      | (refine TOK.br' (fun h => ?_) (fun h => ?_) <;> (try simp (disch := omega) only [d_cl, d_vi, d_vb, d_vr, d_ci, d_cb, d_nr, d_nl, d_add, d_sub, d_mul, d_rem, d_quo, d_bit, d_mn, d_mx, d_w, d_nn, d_bn, d_len, d_neg, d_at0, d_at1, d_at2, d_at3, d_at4, d_at5, d_at6, d_at7, d_set, d_app, d_cat, d_take, d_drop, d_rep, d_cons, d_lt_t, d_lt_f, d_le_t, d_le_f, d_eqi_t, d_eqi_f, d_eqb_t, d_eqb_f, d_nb_t, d_nb_f, nth0, nthS, nthN, w64, and24, and65535, tmod_pos, Int.reduceEq, not_true_eq_false, not_false_eq_true] at h) <;> (try (exfalso; omega)))
      | (with_reducible refine TOK.leaf' ?_))
    all_goals first
      | exact rfl
      | refine ⟨.inl ⟨rfl, _, _, _, _, _, _, _, _, _, _, _, _, _, _, rfl, ?_, ?_, ?_, hX⟩, .inl ?_⟩
      | refine ⟨.inr (.inl ⟨rfl, _, _, _, _, _, _, _, _, _, _, _, _, _, _, _, rfl, ?_, ?_, ?_, hX⟩), .inl ?_⟩
      | refine ⟨.inr (.inr (.inl ⟨rfl, _, _, _, _, _, _, _, _, _, _, _, _, _, _, _, _, _, rfl, ?_, ?_, hX⟩)), .inl ?_⟩
      | refine ⟨.inr (.inr (.inr (.inl ⟨rfl, _, _, _, _, _, _, _, _, _, _, _, _, _, _, _, rfl, ?_, ?_, hX⟩))), .inl ?_⟩
      | refine ⟨.inr (.inr (.inr (.inr (.inl ⟨rfl, _, _, _, _, _, _, _, _, _, _, _, _, _, _, rfl, ?_, ?_, hX⟩)))), .inl ?_⟩
      | refine ⟨.inr (.inr (.inr (.inr (.inr (.inl ⟨rfl, _, _, _, _, _, _, _, _, _, _, _, _, _, _, _, _, rfl, ?_, ?_, hX⟩))))), .inl ?_⟩
      | refine ⟨.inr (.inr (.inr (.inr (.inr (.inr (⟨rfl, _, _, _, _, _, _, _, _, _, _, _, _, _, _, _, _, rfl, ?_, ?_, hX⟩)))))), .inl ?_⟩
    all_goals first
      | (unfold FB; simp (disch := omega) only [d_cl, d_vi, d_vb, d_vr, d_ci, d_cb, d_nr, d_nl, d_add, d_sub, d_mul, d_rem, d_quo, d_bit, d_mn, d_mx, d_w, d_nn, d_bn, d_len, d_neg, d_at0, d_at1, d_at2, d_at3, d_at4, d_at5, d_at6, d_at7, d_set, d_app, d_cat, d_take, d_drop, d_rep, d_cons, d_lt_t, d_lt_f, d_le_t, d_le_f, d_eqi_t, d_eqi_f, d_eqb_t, d_eqb_f, d_nb_t, d_nb_f, nth0, nthS, nthN, w64, and24, and65535, tmod_pos, List.length_set, List.length_append, List.length_cons, List.length_nil]; repeat' (first | omega | split))
      | (unfold FS; simp (disch := omega) only [d_cl, d_vi, d_vb, d_vr, d_ci, d_cb, d_nr, d_nl, d_add, d_sub, d_mul, d_rem, d_quo, d_bit, d_mn, d_mx, d_w, d_nn, d_bn, d_len, d_neg, d_at0, d_at1, d_at2, d_at3, d_at4, d_at5, d_at6, d_at7, d_set, d_app, d_cat, d_take, d_drop, d_rep, d_cons, d_lt_t, d_lt_f, d_le_t, d_le_f, d_eqi_t, d_eqi_f, d_eqb_t, d_eqb_f, d_nb_t, d_nb_f, nth0, nthS, nthN, w64, and24, and65535, tmod_pos, reduceCtorEq, Int.reduceEq, false_imp_iff, true_imp_iff, true_and, and_true, forall_const, imp_false, imp_self, not_false_eq_true]; omega)
      | (simp (disch := omega) only [d_cl, d_vi, d_vb, d_vr, d_ci, d_cb, d_nr, d_nl, d_add, d_sub, d_mul, d_rem, d_quo, d_bit, d_mn, d_mx, d_w, d_nn, d_bn, d_len, d_neg, d_at0, d_at1, d_at2, d_at3, d_at4, d_at5, d_at6, d_at7, d_set, d_app, d_cat, d_take, d_drop, d_rep, d_cons, d_lt_t, d_lt_f, d_le_t, d_le_f, d_eqi_t, d_eqi_f, d_eqb_t, d_eqb_f, d_nb_t, d_nb_f, nth0, nthS, nthN, w64, and24, and65535, tmod_pos]; repeat' (first | exact hc | refine NN.set ?_ ?_)
         all_goals first | exact hx | exact hc _ | exact (hc.set hx) _ | exact u64_nn _ | omega)
      | (simp only [μ, Sb.val, List.map_cons, List.map_nil, d_vi, d_vb, d_vr, d_ci, d_cb, d_nr, d_nl, d_add, d_sub, d_mul, d_rem, d_quo, d_bit, d_mn, d_mx, d_w, d_nn, d_bn, d_len, d_neg, d_at0, d_at1, d_at2, d_at3, d_at4, d_at5, d_at6, d_at7, d_set, d_app, d_cat, d_take, d_drop, d_rep, d_cons, d_lt_t, d_lt_f, d_le_t, d_le_f, d_eqi_t, d_eqi_f, d_eqb_t, d_eqb_f, d_nb_t, d_nb_f, nth0, nthS]; omega)
theorem s1c4 (who now i T D a b z1 z2 z3 : Int) (r0 r1 r2 : List (List Int)) (hB : FB who now i T 2 D 2 a b r0 r1 r2) (hS : FS i T 2 D 2) (hc : NN r1) (hX : XX r0) :
    ∃ kn, KV ⟨[who, now, i, T, 2, D, 2, a, b, z1, z2, z3], [], [r0, r1, r2], []⟩ kn ∧ TOK ⟨[who, now, i, T, 2, D, 2, a, b, z1, z2, z3], [], [r0, r1, r2], []⟩ (fun _ g => LgOK ⟨[who, now, i, T, 2, D, 2, a, b, z1, z2, z3], [], [r0, r1, r2], []⟩ (fun q u => Inv q u ∧ lt2 μ (q, u) (1, ⟨[who, now, i, T, 2, D, 2, a, b, z1, z2, z3], [], [r0, r1, r2], []⟩)) g) (segLp I0 G fn.ntmps bod fn.results.toList 1 tms ul 3000 [0, 1, 0, 1, 1, 1, 1, 1, 1, 1, 1, 1] { tm1 with kn := kn }) := by
  unfold FB at hB
  unfold FS at hS
  simp only [reduceCtorEq, Int.reduceEq, false_imp_iff, true_imp_iff, true_and, and_true, forall_const, imp_false, imp_self, not_false_eq_true] at hS
  have ht := mod_in (a := cl r0 i % 65536) (N := T) (by omega)
  have hx := hX i.toNat
  have c1 := hc (2 * T + T)
  have c2 := hc (2 * T + T + 2)
  have c3 : 0 ≤ cl (r1.set (2 * T + T + cl r0 i % 65536 % T).toNat [nth 0 (r0.getD i.toNat []) 1]) (2 * T + T) := (hc.set hx) _
  have c4 : 0 ≤ cl (r1.set (2 * T + T + cl r0 i % 65536 % T).toNat [nth 0 (r0.getD i.toNat []) 1]) (2 * T + T + 2) := (hc.set hx) _
  refine ⟨kn1c4, ?_, ?_⟩
  · unfold kn1c4
    repeat' (first | exact KV.nil | refine KV.cons ?_ ?_)
    all_goals (first | (simp (disch := omega) only [d_cl, d_vi, d_vb, d_vr, d_ci, d_cb, d_nr, d_nl, d_add, d_sub, d_mul, d_rem, d_quo, d_bit, d_mn, d_mx, d_w, d_nn, d_bn, d_len, d_neg, d_at0, d_at1, d_at2, d_at3, d_at4, d_at5, d_at6, d_at7, d_set, d_app, d_cat, d_take, d_drop, d_rep, d_cons, d_lt_t, d_lt_f, d_le_t, d_le_f, d_eqi_t, d_eqi_f, d_eqb_t, d_eqb_f, d_nb_t, d_nb_f, nth0, nthS, nthN, w64, and24, and65535, tmod_pos]; done) | (simp (disch := omega) only [d_cl, d_vi, d_vb, d_vr, d_ci, d_cb, d_nr, d_nl, d_add, d_sub, d_mul, d_rem, d_quo, d_bit, d_mn, d_mx, d_w, d_nn, d_bn, d_len, d_neg, d_at0, d_at1, d_at2, d_at3, d_at4, d_at5, d_at6, d_at7, d_set, d_app, d_cat, d_take, d_drop, d_rep, d_cons, d_lt_t, d_lt_f, d_le_t, d_le_f, d_eqi_t, d_eqi_f, d_eqb_t, d_eqb_f, d_nb_t, d_nb_f, nth0, nthS, nthN, w64, and24, and65535, tmod_pos, List.length_set, List.length_append, List.length_cons, List.length_nil]; first | omega | exact hc _ | exact (hc.set hx) _))
  · rw [seg1c4]
    unfold tr1c4
    repeat' (first
      | (refine TOK.br' (fun h => ?_) (fun h => ?_) <;> (try simp (disch := omega) only [d_cl, d_vi, d_vb, d_vr, d_ci, d_cb, d_nr, d_nl, d_add, d_sub, d_mul, d_rem, d_quo, d_bit, d_mn, d_mx, d_w, d_nn, d_bn, d_len, d_neg, d_at0, d_at1, d_at2, d_at3, d_at4, d_at5, d_at6, d_at7, d_set, d_app, d_cat, d_take, d_drop, d_rep, d_cons, d_lt_t, d_lt_f, d_le_t, d_le_f, d_eqi_t, d_eqi_f, d_eqb_t, d_eqb_f, d_nb_t, d_nb_f, nth0, nthS, nthN, w64, and24, and65535, tmod_pos, Int.reduceEq, not_true_eq_false, not_false_eq_true] at h) <;> (try (exfalso; omega)))
      | (with_reducible refine TOK.leaf' ?_))
    all_goals first
      | exact rfl
      | refine ⟨.inl ⟨rfl, _, _, _, _, _, _, _, _, _, _, _, _, _, _, rfl, ?_, ?_, ?_, hX⟩, .inl ?_⟩
      | refine ⟨.inr (.inl ⟨rfl, _, _, _, _, _, _, _, _, _, _, _, _, _, _, _, rfl, ?_, ?_, ?_, hX⟩), .inl ?_⟩
      | refine ⟨.inr (.inr (.inl ⟨rfl, _, _, _, _, _, _, _, _, _, _, _, _, _, _, _, _, _, rfl, ?_, ?_, hX⟩)), .inl ?_⟩
      | refine ⟨.inr (.inr (.inr (.inl ⟨rfl, _, _, _, _, _, _, _, _, _, _, _, _, _, _, _, rfl, ?_, ?_, hX⟩))), .inl ?_⟩
      | refine ⟨.inr (.inr (.inr (.inr (.inl ⟨rfl, _, _, _, _, _, _, _, _, _, _, _, _, _, _, rfl, ?_, ?_, hX⟩)))), .inl ?_⟩
      | refine ⟨.inr (.inr (.inr (.inr (.inr (.inl ⟨rfl, _, _, _, _, _, _, _, _, _, _, _, _, _, _, _, _, rfl, ?_, ?_, hX⟩))))), .inl ?_⟩
      | refine ⟨.inr (.inr (.inr (.inr (.inr (.inr (⟨rfl, _, _, _, _, _, _, _, _, _, _, _, _, _, _, _, _, rfl, ?_, ?_, hX⟩)))))), .inl ?_⟩
    all_goals first
      | (unfold FB; simp (disch := omega) only [d_cl, d_vi, d_vb, d_vr, d_ci, d_cb, d_nr, d_nl, d_add, d_sub, d_mul, d_rem, d_quo, d_bit, d_mn, d_mx, d_w, d_nn, d_bn, d_len, d_neg, d_at0, d_at1, d_at2, d_at3, d_at4, d_at5, d_at6, d_at7, d_set, d_app, d_cat, d_take, d_drop, d_rep, d_cons, d_lt_t, d_lt_f, d_le_t, d_le_f, d_eqi_t, d_eqi_f, d_eqb_t, d_eqb_f, d_nb_t, d_nb_f, nth0, nthS, nthN, w64, and24, and65535, tmod_pos, List.length_set, List.length_append, List.length_cons, List.length_nil]; repeat' (first | omega | split))
      | (unfold FS; simp (disch := omega) only [d_cl, d_vi, d_vb, d_vr, d_ci, d_cb, d_nr, d_nl, d_add, d_sub, d_mul, d_rem, d_quo, d_bit, d_mn, d_mx, d_w, d_nn, d_bn, d_len, d_neg, d_at0, d_at1, d_at2, d_at3, d_at4, d_at5, d_at6, d_at7, d_set, d_app, d_cat, d_take, d_drop, d_rep, d_cons, d_lt_t, d_lt_f, d_le_t, d_le_f, d_eqi_t, d_eqi_f, d_eqb_t, d_eqb_f, d_nb_t, d_nb_f, nth0, nthS, nthN, w64, and24, and65535, tmod_pos, reduceCtorEq, Int.reduceEq, false_imp_iff, true_imp_iff, true_and, and_true, forall_const, imp_false, imp_self, not_false_eq_true]; omega)
      | (simp (disch := omega) only [d_cl, d_vi, d_vb, d_vr, d_ci, d_cb, d_nr, d_nl, d_add, d_sub, d_mul, d_rem, d_quo, d_bit, d_mn, d_mx, d_w, d_nn, d_bn, d_len, d_neg, d_at0, d_at1, d_at2, d_at3, d_at4, d_at5, d_at6, d_at7, d_set, d_app, d_cat, d_take, d_drop, d_rep, d_cons, d_lt_t, d_lt_f, d_le_t, d_le_f, d_eqi_t, d_eqi_f, d_eqb_t, d_eqb_f, d_nb_t, d_nb_f, nth0, nthS, nthN, w64, and24, and65535, tmod_pos]; repeat' (first | exact hc | refine NN.set ?_ ?_)
         all_goals first | exact hx | exact hc _ | exact (hc.set hx) _ | exact u64_nn _ | omega)
      | (simp only [μ, Sb.val, List.map_cons, List.map_nil, d_vi, d_vb, d_vr, d_ci, d_cb, d_nr, d_nl, d_add, d_sub, d_mul, d_rem, d_quo, d_bit, d_mn, d_mx, d_w, d_nn, d_bn, d_len, d_neg, d_at0, d_at1, d_at2, d_at3, d_at4, d_at5, d_at6, d_at7, d_set, d_app, d_cat, d_take, d_drop, d_rep, d_cons, d_lt_t, d_lt_f, d_le_t, d_le_f, d_eqi_t, d_eqi_f, d_eqb_t, d_eqb_f, d_nb_t, d_nb_f, nth0, nthS]; omega)
theorem s1c5 (who now i T D a b z1 z2 z3 : Int) (r0 r1 r2 : List (List Int)) (hB : FB who now i T 2 D 3 a b r0 r1 r2) (hS : FS i T 2 D 3) (hc : NN r1) (hX : XX r0) :
    ∃ kn, KV ⟨[who, now, i, T, 2, D, 3, a, b, z1, z2, z3], [], [r0, r1, r2], []⟩ kn ∧ TOK ⟨[who, now, i, T, 2, D, 3, a, b, z1, z2, z3], [], [r0, r1, r2], []⟩ (fun _ g => LgOK ⟨[who, now, i, T, 2, D, 3, a, b, z1, z2, z3], [], [r0, r1, r2], []⟩ (fun q u => Inv q u ∧ lt2 μ (q, u) (1, ⟨[who, now, i, T, 2, D, 3, a, b, z1, z2, z3], [], [r0, r1, r2], []⟩)) g) (segLp I0 G fn.ntmps bod fn.results.toList 1 tms ul 3000 [0, 1, 0, 1, 1, 1, 1, 1, 1, 1, 1, 1] { tm1 with kn := kn }) := by
  unfold FB at hB
  unfold FS at hS
  simp only [reduceCtorEq, Int.reduceEq, false_imp_iff, true_imp_iff, true_and, and_true, forall_const, imp_false, imp_self, not_false_eq_true] at hS
  have ht := mod_in (a := cl r0 i % 65536) (N := T) (by omega)
  have hx := hX i.toNat
  have c1 := hc (2 * T + T)
  have c2 := hc (2 * T + T + 3)
  have c3 : 0 ≤ cl (r1.set (2 * T + T + cl r0 i % 65536 % T).toNat [nth 0 (r0.getD i.toNat []) 1]) (2 * T + T) := (hc.set hx) _
  have c4 : 0 ≤ cl (r1.set (2 * T + T + cl r0 i % 65536 % T).toNat [nth 0 (r0.getD i.toNat []) 1]) (2 * T + T + 3) := (hc.set hx) _
  refine ⟨kn1c5, ?_, ?_⟩
  · unfold kn1c5
    repeat' (first | exact KV.nil | refine KV.cons ?_ ?_)
    all_goals (first | (simp (disch := omega) only [d_cl, d_vi, d_vb, d_vr, d_ci, d_cb, d_nr, d_nl, d_add, d_sub, d_mul, d_rem, d_quo, d_bit, d_mn, d_mx, d_w, d_nn, d_bn, d_len, d_neg, d_at0, d_at1, d_at2, d_at3, d_at4, d_at5, d_at6, d_at7, d_set, d_app, d_cat, d_take, d_drop, d_rep, d_cons, d_lt_t, d_lt_f, d_le_t, d_le_f, d_eqi_t, d_eqi_f, d_eqb_t, d_eqb_f, d_nb_t, d_nb_f, nth0, nthS, nthN, w64, and24, and65535, tmod_pos]; done) | (simp (disch := omega) only [d_cl, d_vi, d_vb, d_vr, d_ci, d_cb, d_nr, d_nl, d_add, d_sub, d_mul, d_rem, d_quo, d_bit, d_mn, d_mx, d_w, d_nn, d_bn, d_len, d_neg, d_at0, d_at1, d_at2, d_at3, d_at4, d_at5, d_at6, d_at7, d_set, d_app, d_cat, d_take, d_drop, d_rep, d_cons, d_lt_t, d_lt_f, d_le_t, d_le_f, d_eqi_t, d_eqi_f, d_eqb_t, d_eqb_f, d_nb_t, d_nb_f, nth0, nthS, nthN, w64, and24, and65535, tmod_pos, List.length_set, List.length_append, List.length_cons, List.length_nil]; first | omega | exact hc _ | exact (hc.set hx) _))
  · rw [seg1c5]
    unfold tr1c5
    repeat' (first
      | (refine TOK.br' (fun h => ?_) (fun h => ?_) <;> (try simp (disch := omega) only [d_cl, d_vi, d_vb, d_vr, d_ci, d_cb, d_nr, d_nl, d_add, d_sub, d_mul, d_rem, d_quo, d_bit, d_mn, d_mx, d_w, d_nn, d_bn, d_len, d_neg, d_at0, d_at1, d_at2, d_at3, d_at4, d_at5, d_at6, d_at7, d_set, d_app, d_cat, d_take, d_drop, d_rep, d_cons, d_lt_t, d_lt_f, d_le_t, d_le_f, d_eqi_t, d_eqi_f, d_eqb_t, d_eqb_f, d_nb_t, d_nb_f, nth0, nthS, nthN, w64, and24, and65535, tmod_pos, Int.reduceEq, not_true_eq_false, not_false_eq_true] at h) <;> (try (exfalso; omega)))
      | (with_reducible refine TOK.leaf' ?_))
    all_goals first
      | exact rfl
      | refine ⟨.inl ⟨rfl, _, _, _, _, _, _, _, _, _, _, _, _, _, _, rfl, ?_, ?_, ?_, hX⟩, .inl ?_⟩
      | refine ⟨.inr (.inl ⟨rfl, _, _, _, _, _, _, _, _, _, _, _, _, _, _, _, rfl, ?_, ?_, ?_, hX⟩), .inl ?_⟩
      | refine ⟨.inr (.inr (.inl ⟨rfl, _, _, _, _, _, _, _, _, _, _, _, _, _, _, _, _, _, rfl, ?_, ?_, hX⟩)), .inl ?_⟩
      | refine ⟨.inr (.inr (.inr (.inl ⟨rfl, _, _, _, _, _, _, _, _, _, _, _, _, _, _, _, rfl, ?_, ?_, hX⟩))), .inl ?_⟩
      | refine ⟨.inr (.inr (.inr (.inr (.inl ⟨rfl, _, _, _, _, _, _, _, _, _, _, _, _, _, _, rfl, ?_, ?_, hX⟩)))), .inl ?_⟩
      | refine ⟨.inr (.inr (.inr (.inr (.inr (.inl ⟨rfl, _, _, _, _, _, _, _, _, _, _, _, _, _, _, _, _, rfl, ?_, ?_, hX⟩))))), .inl ?_⟩
      | refine ⟨.inr (.inr (.inr (.inr (.inr (.inr (⟨rfl, _, _, _, _, _, _, _, _, _, _, _, _, _, _, _, _, rfl, ?_, ?_, hX⟩)))))), .inl ?_⟩
    all_goals first
      | (unfold FB; simp (disch := omega) only [d_cl, d_vi, d_vb, d_vr, d_ci, d_cb, d_nr, d_nl, d_add, d_sub, d_mul, d_rem, d_quo, d_bit, d_mn, d_mx, d_w, d_nn, d_bn, d_len, d_neg, d_at0, d_at1, d_at2, d_at3, d_at4, d_at5, d_at6, d_at7, d_set, d_app, d_cat, d_take, d_drop, d_rep, d_cons, d_lt_t, d_lt_f, d_le_t, d_le_f, d_eqi_t, d_eqi_f, d_eqb_t, d_eqb_f, d_nb_t, d_nb_f, nth0, nthS, nthN, w64, and24, and65535, tmod_pos, List.length_set, List.length_append, List.length_cons, List.length_nil]; repeat' (first | omega | split))
      | (unfold FS; simp (disch := omega) only [d_cl, d_vi, d_vb, d_vr, d_ci, d_cb, d_nr, d_nl, d_add, d_sub, d_mul, d_rem, d_quo, d_bit, d_mn, d_mx, d_w, d_nn, d_bn, d_len, d_neg, d_at0, d_at1, d_at2, d_at3, d_at4, d_at5, d_at6, d_at7, d_set, d_app, d_cat, d_take, d_drop, d_rep, d_cons, d_lt_t, d_lt_f, d_le_t, d_le_f, d_eqi_t, d_eqi_f, d_eqb_t, d_eqb_f, d_nb_t, d_nb_f, nth0, nthS, nthN, w64, and24, and65535, tmod_pos, reduceCtorEq, Int.reduceEq, false_imp_iff, true_imp_iff, true_and, and_true, forall_const, imp_false, imp_self, not_false_eq_true]; omega)
      | (simp (disch := omega) only [d_cl, d_vi, d_vb, d_vr, d_ci, d_cb, d_nr, d_nl, d_add, d_sub, d_mul, d_rem, d_quo, d_bit, d_mn, d_mx, d_w, d_nn, d_bn, d_len, d_neg, d_at0, d_at1, d_at2, d_at3, d_at4, d_at5, d_at6, d_at7, d_set, d_app, d_cat, d_take, d_drop, d_rep, d_cons, d_lt_t, d_lt_f, d_le_t, d_le_f, d_eqi_t, d_eqi_f, d_eqb_t, d_eqb_f, d_nb_t, d_nb_f, nth0, nthS, nthN, w64, and24, and65535, tmod_pos]; repeat' (first | exact hc | refine NN.set ?_ ?_)
         all_goals first | exact hx | exact hc _ | exact (hc.set hx) _ | exact u64_nn _ | omega)
      | (simp only [μ, Sb.val, List.map_cons, List.map_nil, d_vi, d_vb, d_vr, d_ci, d_cb, d_nr, d_nl, d_add, d_sub, d_mul, d_rem, d_quo, d_bit, d_mn, d_mx, d_w, d_nn, d_bn, d_len, d_neg, d_at0, d_at1, d_at2, d_at3, d_at4, d_at5, d_at6, d_at7, d_set, d_app, d_cat, d_take, d_drop, d_rep, d_cons, d_lt_t, d_lt_f, d_le_t, d_le_f, d_eqi_t, d_eqi_f, d_eqb_t, d_eqb_f, d_nb_t, d_nb_f, nth0, nthS]; omega)
theorem s1c6 (who now i T D k a b z1 z2 z3 : Int) (r0 r1 r2 : List (List Int)) (hB : FB who now i T 3 D k a b r0 r1 r2) (hS : FS i T 3 D k) (hc : NN r1) (hX : XX r0) :
    ∃ kn, KV ⟨[who, now, i, T, 3, D, k, a, b, z1, z2, z3], [], [r0, r1, r2], []⟩ kn ∧ TOK ⟨[who, now, i, T, 3, D, k, a, b, z1, z2, z3], [], [r0, r1, r2], []⟩ (fun _ g => LgOK ⟨[who, now, i, T, 3, D, k, a, b, z1, z2, z3], [], [r0, r1, r2], []⟩ (fun q u => Inv q u ∧ lt2 μ (q, u) (1, ⟨[who, now, i, T, 3, D, k, a, b, z1, z2, z3], [], [r0, r1, r2], []⟩)) g) (segLp I0 G fn.ntmps bod fn.results.toList 1 tms ul 3000 [0, 1, 0, 1, 1, 1, 1, 1, 1, 1, 1, 1] { tm1 with kn := kn }) := by
  unfold FB at hB
  unfold FS at hS
  simp only [reduceCtorEq, Int.reduceEq, false_imp_iff, true_imp_iff, true_and, and_true, forall_const, imp_false, imp_self, not_false_eq_true] at hS
  have ht := mod_in (a := cl r0 i % 65536) (N := T) (by omega)
  have hx := hX i.toNat
  have c1 := hc (2 * T + T)
  have c2 := hc (2 * T + T + k)
  have c3 : 0 ≤ cl (r1.set (2 * T + T + cl r0 i % 65536 % T).toNat [nth 0 (r0.getD i.toNat []) 1]) (2 * T + T) := (hc.set hx) _
  have c4 : 0 ≤ cl (r1.set (2 * T + T + cl r0 i % 65536 % T).toNat [nth 0 (r0.getD i.toNat []) 1]) (2 * T + T + k) := (hc.set hx) _
  refine ⟨kn1c6, ?_, ?_⟩
  · unfold kn1c6
    repeat' (first | exact KV.nil | refine KV.cons ?_ ?_)
    all_goals (first | (simp (disch := omega) only [d_cl, d_vi, d_vb, d_vr, d_ci, d_cb, d_nr, d_nl, d_add, d_sub, d_mul, d_rem, d_quo, d_bit, d_mn, d_mx, d_w, d_nn, d_bn, d_len, d_neg, d_at0, d_at1, d_at2, d_at3, d_at4, d_at5, d_at6, d_at7, d_set, d_app, d_cat, d_take, d_drop, d_rep, d_cons, d_lt_t, d_lt_f, d_le_t, d_le_f, d_eqi_t, d_eqi_f, d_eqb_t, d_eqb_f, d_nb_t, d_nb_f, nth0, nthS, nthN, w64, and24, and65535, tmod_pos]; done) | (simp (disch := omega) only [d_cl, d_vi, d_vb, d_vr, d_ci, d_cb, d_nr, d_nl, d_add, d_sub, d_mul, d_rem, d_quo, d_bit, d_mn, d_mx, d_w, d_nn, d_bn, d_len, d_neg, d_at0, d_at1, d_at2, d_at3, d_at4, d_at5, d_at6, d_at7, d_set, d_app, d_cat, d_take, d_drop, d_rep, d_cons, d_lt_t, d_lt_f, d_le_t, d_le_f, d_eqi_t, d_eqi_f, d_eqb_t, d_eqb_f, d_nb_t, d_nb_f, nth0, nthS, nthN, w64, and24, and65535, tmod_pos, List.length_set, List.length_append, List.length_cons, List.length_nil]; first | omega | exact hc _ | exact (hc.set hx) _))
  · rw [seg1c6]
    unfold tr1c6
    repeat' (first
      | (refine TOK.br' (fun h => ?_) (fun h => ?_) <;> (try simp (disch := omega) only [d_cl, d_vi, d_vb, d_vr, d_ci, d_cb, d_nr, d_nl, d_add, d_sub, d_mul, d_rem, d_quo, d_bit, d_mn, d_mx, d_w, d_nn, d_bn, d_len, d_neg, d_at0, d_at1, d_at2, d_at3, d_at4, d_at5, d_at6, d_at7, d_set, d_app, d_cat, d_take, d_drop, d_rep, d_cons, d_lt_t, d_lt_f, d_le_t, d_le_f, d_eqi_t, d_eqi_f, d_eqb_t, d_eqb_f, d_nb_t, d_nb_f, nth0, nthS, nthN, w64, and24, and65535, tmod_pos, Int.reduceEq, not_true_eq_false, not_false_eq_true] at h) <;> (try (exfalso; omega)))
      | (with_reducible refine TOK.leaf' ?_))
    all_goals first
      | exact rfl
      | refine ⟨.inl ⟨rfl, _, _, _, _, _, _, _, _, _, _, _, _, _, _, rfl, ?_, ?_, ?_, hX⟩, .inl ?_⟩
      | refine ⟨.inr (.inl ⟨rfl, _, _, _, _, _, _, _, _, _, _, _, _, _, _, _, rfl, ?_, ?_, ?_, hX⟩), .inl ?_⟩
      | refine ⟨.inr (.inr (.inl ⟨rfl, _, _, _, _, _, _, _, _, _, _, _, _, _, _, _, _, _, rfl, ?_, ?_, hX⟩)), .inl ?_⟩
      | refine ⟨.inr (.inr (.inr (.inl ⟨rfl, _, _, _, _, _, _, _, _, _, _, _, _, _, _, _, rfl, ?_, ?_, hX⟩))), .inl ?_⟩
      | refine ⟨.inr (.inr (.inr (.inr (.inl ⟨rfl, _, _, _, _, _, _, _, _, _, _, _, _, _, _, rfl, ?_, ?_, hX⟩)))), .inl ?_⟩
      | refine ⟨.inr (.inr (.inr (.inr (.inr (.inl ⟨rfl, _, _, _, _, _, _, _, _, _, _, _, _, _, _, _, _, rfl, ?_, ?_, hX⟩))))), .inl ?_⟩
      | refine ⟨.inr (.inr (.inr (.inr (.inr (.inr (⟨rfl, _, _, _, _, _, _, _, _, _, _, _, _, _, _, _, _, rfl, ?_, ?_, hX⟩)))))), .inl ?_⟩
    all_goals first
      | (unfold FB; simp (disch := omega) only [d_cl, d_vi, d_vb, d_vr, d_ci, d_cb, d_nr, d_nl, d_add, d_sub, d_mul, d_rem, d_quo, d_bit, d_mn, d_mx, d_w, d_nn, d_bn, d_len, d_neg, d_at0, d_at1, d_at2, d_at3, d_at4, d_at5, d_at6, d_at7, d_set, d_app, d_cat, d_take, d_drop, d_rep, d_cons, d_lt_t, d_lt_f, d_le_t, d_le_f, d_eqi_t, d_eqi_f, d_eqb_t, d_eqb_f, d_nb_t, d_nb_f, nth0, nthS, nthN, w64, and24, and65535, tmod_pos, List.length_set, List.length_append, List.length_cons, List.length_nil]; repeat' (first | omega | split))
      | (unfold FS; simp (disch := omega) only [d_cl, d_vi, d_vb, d_vr, d_ci, d_cb, d_nr, d_nl, d_add, d_sub, d_mul, d_rem, d_quo, d_bit, d_mn, d_mx, d_w, d_nn, d_bn, d_len, d_neg, d_at0, d_at1, d_at2, d_at3, d_at4, d_at5, d_at6, d_at7, d_set, d_app, d_cat, d_take, d_drop, d_rep, d_cons, d_lt_t, d_lt_f, d_le_t, d_le_f, d_eqi_t, d_eqi_f, d_eqb_t, d_eqb_f, d_nb_t, d_nb_f, nth0, nthS, nthN, w64, and24, and65535, tmod_pos, reduceCtorEq, Int.reduceEq, false_imp_iff, true_imp_iff, true_and, and_true, forall_const, imp_false, imp_self, not_false_eq_true]; omega)
      | (simp (disch := omega) only [d_cl, d_vi, d_vb, d_vr, d_ci, d_cb, d_nr, d_nl, d_add, d_sub, d_mul, d_rem, d_quo, d_bit, d_mn, d_mx, d_w, d_nn, d_bn, d_len, d_neg, d_at0, d_at1, d_at2, d_at3, d_at4, d_at5, d_at6, d_at7, d_set, d_app, d_cat, d_take, d_drop, d_rep, d_cons, d_lt_t, d_lt_f, d_le_t, d_le_f, d_eqi_t, d_eqi_f, d_eqb_t, d_eqb_f, d_nb_t, d_nb_f, nth0, nthS, nthN, w64, and24, and65535, tmod_pos]; repeat' (first | exact hc | refine NN.set ?_ ?_)
         all_goals first | exact hx | exact hc _ | exact (hc.set hx) _ | exact u64_nn _ | omega)
      | (simp only [μ, Sb.val, List.map_cons, List.map_nil, d_vi, d_vb, d_vr, d_ci, d_cb, d_nr, d_nl, d_add, d_sub, d_mul, d_rem, d_quo, d_bit, d_mn, d_mx, d_w, d_nn, d_bn, d_len, d_neg, d_at0, d_at1, d_at2, d_at3, d_at4, d_at5, d_at6, d_at7, d_set, d_app, d_cat, d_take, d_drop, d_rep, d_cons, d_lt_t, d_lt_f, d_le_t, d_le_f, d_eqi_t, d_eqi_f, d_eqb_t, d_eqb_f, d_nb_t, d_nb_f, nth0, nthS]; omega)
theorem s1c7 (who now i T D k a b z1 z2 z3 : Int) (r0 r1 r2 : List (List Int)) (hB : FB who now i T 4 D k a b r0 r1 r2) (hS : FS i T 4 D k) (hc : NN r1) (hX : XX r0) :
    ∃ kn, KV ⟨[who, now, i, T, 4, D, k, a, b, z1, z2, z3], [], [r0, r1, r2], []⟩ kn ∧ TOK ⟨[who, now, i, T, 4, D, k, a, b, z1, z2, z3], [], [r0, r1, r2], []⟩ (fun _ g => LgOK ⟨[who, now, i, T, 4, D, k, a, b, z1, z2, z3], [], [r0, r1, r2], []⟩ (fun q u => Inv q u ∧ lt2 μ (q, u) (1, ⟨[who, now, i, T, 4, D, k, a, b, z1, z2, z3], [], [r0, r1, r2], []⟩)) g) (segLp I0 G fn.ntmps bod fn.results.toList 1 tms ul 3000 [0, 1, 0, 1, 1, 1, 1, 1, 1, 1, 1, 1] { tm1 with kn := kn }) := by
  unfold FB at hB
  unfold FS at hS
  simp only [reduceCtorEq, Int.reduceEq, false_imp_iff, true_imp_iff, true_and, and_true, forall_const, imp_false, imp_self, not_false_eq_true] at hS
  have ht := mod_in (a := cl r0 i % 65536) (N := T) (by omega)
  have hx := hX i.toNat
  have c1 := hc (2 * T + T)
  have c2 := hc (2 * T + T + k)
  have c3 : 0 ≤ cl (r1.set (2 * T + T + cl r0 i % 65536 % T).toNat [nth 0 (r0.getD i.toNat []) 1]) (2 * T + T) := (hc.set hx) _
  have c4 : 0 ≤ cl (r1.set (2 * T + T + cl r0 i % 65536 % T).toNat [nth 0 (r0.getD i.toNat []) 1]) (2 * T + T + k) := (hc.set hx) _
  refine ⟨kn1c7, ?_, ?_⟩
  · unfold kn1c7
    repeat' (first | exact KV.nil | refine KV.cons ?_ ?_)
    all_goals (first | (simp (disch := omega) only [d_cl, d_vi, d_vb, d_vr, d_ci, d_cb, d_nr, d_nl, d_add, d_sub, d_mul, d_rem, d_quo, d_bit, d_mn, d_mx, d_w, d_nn, d_bn, d_len, d_neg, d_at0, d_at1, d_at2, d_at3, d_at4, d_at5, d_at6, d_at7, d_set, d_app, d_cat, d_take, d_drop, d_rep, d_cons, d_lt_t, d_lt_f, d_le_t, d_le_f, d_eqi_t, d_eqi_f, d_eqb_t, d_eqb_f, d_nb_t, d_nb_f, nth0, nthS, nthN, w64, and24, and65535, tmod_pos]; done) | (simp (disch := omega) only [d_cl, d_vi, d_vb, d_vr, d_ci, d_cb, d_nr, d_nl, d_add, d_sub, d_mul, d_rem, d_quo, d_bit, d_mn, d_mx, d_w, d_nn, d_bn, d_len, d_neg, d_at0, d_at1, d_at2, d_at3, d_at4, d_at5, d_at6, d_at7, d_set, d_app, d_cat, d_take, d_drop, d_rep, d_cons, d_lt_t, d_lt_f, d_le_t, d_le_f, d_eqi_t, d_eqi_f, d_eqb_t, d_eqb_f, d_nb_t, d_nb_f, nth0, nthS, nthN, w64, and24, and65535, tmod_pos, List.length_set, List.length_append, List.length_cons, List.length_nil]; first | omega | exact hc _ | exact (hc.set hx) _))
  · rw [seg1c7]
    unfold tr1c7
    repeat' (first
      | (refine TOK.br' (fun h => ?_) (fun h => ?_) <;> (try simp (disch := omega) only [d_cl, d_vi, d_vb, d_vr, d_ci, d_cb, d_nr, d_nl, d_add, d_sub, d_mul, d_rem, d_quo, d_bit, d_mn, d_mx, d_w, d_nn, d_bn, d_len, d_neg, d_at0, d_at1, d_at2, d_at3, d_at4, d_at5, d_at6, d_at7, d_set, d_app, d_cat, d_take, d_drop, d_rep, d_cons, d_lt_t, d_lt_f, d_le_t, d_le_f, d_eqi_t, d_eqi_f, d_eqb_t, d_eqb_f, d_nb_t, d_nb_f, nth0, nthS, nthN, w64, and24, and65535, tmod_pos, Int.reduceEq, not_true_eq_false, not_false_eq_true] at h) <;> (try (exfalso; omega)))
      | (with_reducible refine TOK.leaf' ?_))
    all_goals first
      | exact rfl
      | refine ⟨.inl ⟨rfl, _, _, _, _, _, _, _, _, _, _, _, _, _, _, rfl, ?_, ?_, ?_, hX⟩, .inl ?_⟩
      | refine ⟨.inr (.inl ⟨rfl, _, _, _, _, _, _, _, _, _, _, _, _, _, _, _, rfl, ?_, ?_, ?_, hX⟩), .inl ?_⟩
      | refine ⟨.inr (.inr (.inl ⟨rfl, _, _, _, _, _, _, _, _, _, _, _, _, _, _, _, _, _, rfl, ?_, ?_, hX⟩)), .inl ?_⟩
      | refine ⟨.inr (.inr (.inr (.inl ⟨rfl, _, _, _, _, _, _, _, _, _, _, _, _, _, _, _, rfl, ?_, ?_, hX⟩))), .inl ?_⟩
      | refine ⟨.inr (.inr (.inr (.inr (.inl ⟨rfl, _, _, _, _, _, _, _, _, _, _, _, _, _, _, rfl, ?_, ?_, hX⟩)))), .inl ?_⟩
      | refine ⟨.inr (.inr (.inr (.inr (.inr (.inl ⟨rfl, _, _, _, _, _, _, _, _, _, _, _, _, _, _, _, _, rfl, ?_, ?_, hX⟩))))), .inl ?_⟩
      | refine ⟨.inr (.inr (.inr (.inr (.inr (.inr (⟨rfl, _, _, _, _, _, _, _, _, _, _, _, _, _, _, _, _, rfl, ?_, ?_, hX⟩)))))), .inl ?_⟩
    all_goals first
      | (unfold FB; simp (disch := omega) only [d_cl, d_vi, d_vb, d_vr, d_ci, d_cb, d_nr, d_nl, d_add, d_sub, d_mul, d_rem, d_quo, d_bit, d_mn, d_mx, d_w, d_nn, d_bn, d_len, d_neg, d_at0, d_at1, d_at2, d_at3, d_at4, d_at5, d_at6, d_at7, d_set, d_app, d_cat, d_take, d_drop, d_rep, d_cons, d_lt_t, d_lt_f, d_le_t, d_le_f, d_eqi_t, d_eqi_f, d_eqb_t, d_eqb_f, d_nb_t, d_nb_f, nth0, nthS, nthN, w64, and24, and65535, tmod_pos, List.length_set, List.length_append, List.length_cons, List.length_nil]; repeat' (first | omega | split))
      | (unfold FS; simp (disch := omega) only [d_cl, d_vi, d_vb, d_vr, d_ci, d_cb, d_nr, d_nl, d_add, d_sub, d_mul, d_rem, d_quo, d_bit, d_mn, d_mx, d_w, d_nn, d_bn, d_len, d_neg, d_at0, d_at1, d_at2, d_at3, d_at4, d_at5, d_at6, d_at7, d_set, d_app, d_cat, d_take, d_drop, d_rep, d_cons, d_lt_t, d_lt_f, d_le_t, d_le_f, d_eqi_t, d_eqi_f, d_eqb_t, d_eqb_f, d_nb_t, d_nb_f, nth0, nthS, nthN, w64, and24, and65535, tmod_pos, reduceCtorEq, Int.reduceEq, false_imp_iff, true_imp_iff, true_and, and_true, forall_const, imp_false, imp_self, not_false_eq_true]; omega)
      | (simp (disch := omega) only [d_cl, d_vi, d_vb, d_vr, d_ci, d_cb, d_nr, d_nl, d_add, d_sub, d_mul, d_rem, d_quo, d_bit, d_mn, d_mx, d_w, d_nn, d_bn, d_len, d_neg, d_at0, d_at1, d_at2, d_at3, d_at4, d_at5, d_at6, d_at7, d_set, d_app, d_cat, d_take, d_drop, d_rep, d_cons, d_lt_t, d_lt_f, d_le_t, d_le_f, d_eqi_t, d_eqi_f, d_eqb_t, d_eqb_f, d_nb_t, d_nb_f, nth0, nthS, nthN, w64, and24, and65535, tmod_pos]; repeat' (first | exact hc | refine NN.set ?_ ?_)
         all_goals first | exact hx | exact hc _ | exact (hc.set hx) _ | exact u64_nn _ | omega)
      | (simp only [μ, Sb.val, List.map_cons, List.map_nil, d_vi, d_vb, d_vr, d_ci, d_cb, d_nr, d_nl, d_add, d_sub, d_mul, d_rem, d_quo, d_bit, d_mn, d_mx, d_w, d_nn, d_bn, d_len, d_neg, d_at0, d_at1, d_at2, d_at3, d_at4, d_at5, d_at6, d_at7, d_set, d_app, d_cat, d_take, d_drop, d_rep, d_cons, d_lt_t, d_lt_f, d_le_t, d_le_f, d_eqi_t, d_eqi_f, d_eqb_t, d_eqb_f, d_nb_t, d_nb_f, nth0, nthS]; omega)
theorem s1 : ∀ v, Inv 1 v → ∃ kn, KV v kn ∧ TOK v (fun _ g => LgOK v (fun q u => Inv q u ∧ lt2 μ (q, u) (1, v)) g) (segLp I0 G fn.ntmps bod fn.results.toList 1 tms ul 3000 [0, 1, 0, 1, 1, 1, 1, 1, 1, 1, 1, 1] { tm1 with kn := kn }) := by
  intro v hv
  obtain ⟨who, now, i, T, src, D, k, a, b, z1, z2, z3, r0, r1, r2, rfl, hB, hS, hc, hX⟩ := inv1 hv
  have hs : src = 0 ∨ src = 1 ∨ src = 2 ∨ src = 3 ∨ src = 4 := by unfold FB at hB; omega
  rcases hs with rfl | rfl | rfl | rfl | rfl
  · exact s1c0 _ _ _ _ _ _ _ _ _ _ _ _ _ _ hB hS hc hX
  · exact s1c1 _ _ _ _ _ _ _ _ _ _ _ _ _ _ hB hS hc hX
  · have hk : k = 0 ∨ k = 1 ∨ k = 2 ∨ k = 3 := by
      have h1 := hS.1
      have h2 := hS.2.2.2.1 rfl
      unfold FB at hB; omega
    rcases hk with rfl | rfl | rfl | rfl
    · exact s1c2 _ _ _ _ _ _ _ _ _ _ _ _ _ hB hS hc hX
    · exact s1c3 _ _ _ _ _ _ _ _ _ _ _ _ _ hB hS hc hX
    · exact s1c4 _ _ _ _ _ _ _ _ _ _ _ _ _ hB hS hc hX
    · exact s1c5 _ _ _ _ _ _ _ _ _ _ _ _ _ hB hS hc hX
  · exact s1c6 _ _ _ _ _ _ _ _ _ _ _ _ _ _ hB hS hc hX
  · exact s1c7 _ _ _ _ _ _ _ _ _ _ _ _ _ _ hB hS hc hX
theorem k2 : ∀ v, Inv 2 v → KV v tm2.kn := by
  intro v hv
  obtain ⟨who, now, i, T, src, D, k, a, b, z1, z2, z3, z4, z5, r0, r1, r2, rfl, hB, hc, hX⟩ := inv2 hv
  unfold FB at hB
  have ht := mod_in (a := cl r0 i % 65536) (N := T) (by omega)
  have hx := hX i.toNat
  have c1 := hc (2 * T + T)
  have c2 := hc (2 * T + T + k)
  have c3 : 0 ≤ cl (r1.set (2 * T + T + cl r0 i % 65536 % T).toNat [nth 0 (r0.getD i.toNat []) 1]) (2 * T + T) := (hc.set hx) _
  have c4 : 0 ≤ cl (r1.set (2 * T + T + cl r0 i % 65536 % T).toNat [nth 0 (r0.getD i.toNat []) 1]) (2 * T + T + k) := (hc.set hx) _
  unfold tm2
  repeat' (first | exact KV.nil | refine KV.cons ?_ ?_)
  all_goals (first | (simp (disch := omega) only [d_cl, d_vi, d_vb, d_vr, d_ci, d_cb, d_nr, d_nl, d_add, d_sub, d_mul, d_rem, d_quo, d_bit, d_mn, d_mx, d_w, d_nn, d_bn, d_len, d_neg, d_at0, d_at1, d_at2, d_at3, d_at4, d_at5, d_at6, d_at7, d_set, d_app, d_cat, d_take, d_drop, d_rep, d_cons, d_lt_t, d_lt_f, d_le_t, d_le_f, d_eqi_t, d_eqi_f, d_eqb_t, d_eqb_f, d_nb_t, d_nb_f, nth0, nthS, nthN, w64, and24, and65535, tmod_pos]; done) | (simp (disch := omega) only [d_cl, d_vi, d_vb, d_vr, d_ci, d_cb, d_nr, d_nl, d_add, d_sub, d_mul, d_rem, d_quo, d_bit, d_mn, d_mx, d_w, d_nn, d_bn, d_len, d_neg, d_at0, d_at1, d_at2, d_at3, d_at4, d_at5, d_at6, d_at7, d_set, d_app, d_cat, d_take, d_drop, d_rep, d_cons, d_lt_t, d_lt_f, d_le_t, d_le_f, d_eqi_t, d_eqi_f, d_eqb_t, d_eqb_f, d_nb_t, d_nb_f, nth0, nthS, nthN, w64, and24, and65535, tmod_pos, List.length_set, List.length_append, List.length_cons, List.length_nil]; first | omega | exact hc _ | exact (hc.set hx) _))
theorem s2 : ∀ v, Inv 2 v → TOK v (fun _ g => LgOK v (fun q u => Inv q u ∧ lt2 μ (q, u) (2, v)) g) tr2 := by
  intro v hv
  obtain ⟨who, now, i, T, src, D, k, a, b, z1, z2, z3, z4, z5, r0, r1, r2, rfl, hB, hc, hX⟩ := inv2 hv
  unfold FB at hB
  have ht := mod_in (a := cl r0 i % 65536) (N := T) (by omega)
  have hx := hX i.toNat
  have c1 := hc (2 * T + T)
  have c2 := hc (2 * T + T + k)
  have c3 : 0 ≤ cl (r1.set (2 * T + T + cl r0 i % 65536 % T).toNat [nth 0 (r0.getD i.toNat []) 1]) (2 * T + T) := (hc.set hx) _
  have c4 : 0 ≤ cl (r1.set (2 * T + T + cl r0 i % 65536 % T).toNat [nth 0 (r0.getD i.toNat []) 1]) (2 * T + T + k) := (hc.set hx) _
  unfold tr2
  repeat' (first
    | (refine TOK.br' (fun h => ?_) (fun h => ?_) <;> (try simp (disch := omega) only [d_cl, d_vi, d_vb, d_vr, d_ci, d_cb, d_nr, d_nl, d_add, d_sub, d_mul, d_rem, d_quo, d_bit, d_mn, d_mx, d_w, d_nn, d_bn, d_len, d_neg, d_at0, d_at1, d_at2, d_at3, d_at4, d_at5, d_at6, d_at7, d_set, d_app, d_cat, d_take, d_drop, d_rep, d_cons, d_lt_t, d_lt_f, d_le_t, d_le_f, d_eqi_t, d_eqi_f, d_eqb_t, d_eqb_f, d_nb_t, d_nb_f, nth0, nthS, nthN, w64, and24, and65535, tmod_pos, Int.reduceEq, not_true_eq_false, not_false_eq_true] at h) <;> (try (exfalso; omega)))
    | (with_reducible refine TOK.leaf' ?_))
  all_goals first
    | exact rfl
    | refine ⟨.inl ⟨rfl, _, _, _, _, _, _, _, _, _, _, _, _, _, _, rfl, ?_, ?_, ?_, hX⟩, .inl ?_⟩
    | refine ⟨.inr (.inl ⟨rfl, _, _, _, _, _, _, _, _, _, _, _, _, _, _, _, rfl, ?_, ?_, ?_, hX⟩), .inl ?_⟩
    | refine ⟨.inr (.inr (.inl ⟨rfl, _, _, _, _, _, _, _, _, _, _, _, _, _, _, _, _, _, rfl, ?_, ?_, hX⟩)), .inl ?_⟩
    | refine ⟨.inr (.inr (.inr (.inl ⟨rfl, _, _, _, _, _, _, _, _, _, _, _, _, _, _, _, rfl, ?_, ?_, hX⟩))), .inl ?_⟩
    | refine ⟨.inr (.inr (.inr (.inr (.inl ⟨rfl, _, _, _, _, _, _, _, _, _, _, _, _, _, _, rfl, ?_, ?_, hX⟩)))), .inl ?_⟩
    | refine ⟨.inr (.inr (.inr (.inr (.inr (.inl ⟨rfl, _, _, _, _, _, _, _, _, _, _, _, _, _, _, _, _, rfl, ?_, ?_, hX⟩))))), .inl ?_⟩
    | refine ⟨.inr (.inr (.inr (.inr (.inr (.inr (⟨rfl, _, _, _, _, _, _, _, _, _, _, _, _, _, _, _, _, rfl, ?_, ?_, hX⟩)))))), .inl ?_⟩
  all_goals first
    | (unfold FB; simp (disch := omega) only [d_cl, d_vi, d_vb, d_vr, d_ci, d_cb, d_nr, d_nl, d_add, d_sub, d_mul, d_rem, d_quo, d_bit, d_mn, d_mx, d_w, d_nn, d_bn, d_len, d_neg, d_at0, d_at1, d_at2, d_at3, d_at4, d_at5, d_at6, d_at7, d_set, d_app, d_cat, d_take, d_drop, d_rep, d_cons, d_lt_t, d_lt_f, d_le_t, d_le_f, d_eqi_t, d_eqi_f, d_eqb_t, d_eqb_f, d_nb_t, d_nb_f, nth0, nthS, nthN, w64, and24, and65535, tmod_pos, List.length_set, List.length_append, List.length_cons, List.length_nil]; repeat' (first | omega | split))
    | (unfold FS; simp (disch := omega) only [d_cl, d_vi, d_vb, d_vr, d_ci, d_cb, d_nr, d_nl, d_add, d_sub, d_mul, d_rem, d_quo, d_bit, d_mn, d_mx, d_w, d_nn, d_bn, d_len, d_neg, d_at0, d_at1, d_at2, d_at3, d_at4, d_at5, d_at6, d_at7, d_set, d_app, d_cat, d_take, d_drop, d_rep, d_cons, d_lt_t, d_lt_f, d_le_t, d_le_f, d_eqi_t, d_eqi_f, d_eqb_t, d_eqb_f, d_nb_t, d_nb_f, nth0, nthS, nthN, w64, and24, and65535, tmod_pos, reduceCtorEq, Int.reduceEq, false_imp_iff, true_imp_iff, true_and, and_true, forall_const, imp_false, imp_self, not_false_eq_true]; omega)
    | (simp (disch := omega) only [d_cl, d_vi, d_vb, d_vr, d_ci, d_cb, d_nr, d_nl, d_add, d_sub, d_mul, d_rem, d_quo, d_bit, d_mn, d_mx, d_w, d_nn, d_bn, d_len, d_neg, d_at0, d_at1, d_at2, d_at3, d_at4, d_at5, d_at6, d_at7, d_set, d_app, d_cat, d_take, d_drop, d_rep, d_cons, d_lt_t, d_lt_f, d_le_t, d_le_f, d_eqi_t, d_eqi_f, d_eqb_t, d_eqb_f, d_nb_t, d_nb_f, nth0, nthS, nthN, w64, and24, and65535, tmod_pos]; repeat' (first | exact hc | refine NN.set ?_ ?_)
       all_goals first | exact hx | exact hc _ | exact (hc.set hx) _ | exact u64_nn _ | omega)
    | (simp only [μ, Sb.val, List.map_cons, List.map_nil, d_vi, d_vb, d_vr, d_ci, d_cb, d_nr, d_nl, d_add, d_sub, d_mul, d_rem, d_quo, d_bit, d_mn, d_mx, d_w, d_nn, d_bn, d_len, d_neg, d_at0, d_at1, d_at2, d_at3, d_at4, d_at5, d_at6, d_at7, d_set, d_app, d_cat, d_take, d_drop, d_rep, d_cons, d_lt_t, d_lt_f, d_le_t, d_le_f, d_eqi_t, d_eqi_f, d_eqb_t, d_eqb_f, d_nb_t, d_nb_f, nth0, nthS]; omega)
theorem k3 : ∀ v, Inv 3 v → KV v tm3.kn := by
  intro v hv
  obtain ⟨who, now, i, T, src, D, k, a, b, z1, z2, z3, r0, r1, r2, rfl, hB, hc, hX⟩ := inv3 hv
  unfold FB at hB
  have ht := mod_in (a := cl r0 i % 65536) (N := T) (by omega)
  have hx := hX i.toNat
  have c1 := hc (2 * T + T)
  have c2 := hc (2 * T + T + k)
  have c3 : 0 ≤ cl (r1.set (2 * T + T + cl r0 i % 65536 % T).toNat [nth 0 (r0.getD i.toNat []) 1]) (2 * T + T) := (hc.set hx) _
  have c4 : 0 ≤ cl (r1.set (2 * T + T + cl r0 i % 65536 % T).toNat [nth 0 (r0.getD i.toNat []) 1]) (2 * T + T + k) := (hc.set hx) _
  unfold tm3
  repeat' (first | exact KV.nil | refine KV.cons ?_ ?_)
  all_goals (first | (simp (disch := omega) only [d_cl, d_vi, d_vb, d_vr, d_ci, d_cb, d_nr, d_nl, d_add, d_sub, d_mul, d_rem, d_quo, d_bit, d_mn, d_mx, d_w, d_nn, d_bn, d_len, d_neg, d_at0, d_at1, d_at2, d_at3, d_at4, d_at5, d_at6, d_at7, d_set, d_app, d_cat, d_take, d_drop, d_rep, d_cons, d_lt_t, d_lt_f, d_le_t, d_le_f, d_eqi_t, d_eqi_f, d_eqb_t, d_eqb_f, d_nb_t, d_nb_f, nth0, nthS, nthN, w64, and24, and65535, tmod_pos]; done) | (simp (disch := omega) only [d_cl, d_vi, d_vb, d_vr, d_ci, d_cb, d_nr, d_nl, d_add, d_sub, d_mul, d_rem, d_quo, d_bit, d_mn, d_mx, d_w, d_nn, d_bn, d_len, d_neg, d_at0, d_at1, d_at2, d_at3, d_at4, d_at5, d_at6, d_at7, d_set, d_app, d_cat, d_take, d_drop, d_rep, d_cons, d_lt_t, d_lt_f, d_le_t, d_le_f, d_eqi_t, d_eqi_f, d_eqb_t, d_eqb_f, d_nb_t, d_nb_f, nth0, nthS, nthN, w64, and24, and65535, tmod_pos, List.length_set, List.length_append, List.length_cons, List.length_nil]; first | omega | exact hc _ | exact (hc.set hx) _))
theorem s3 : ∀ v, Inv 3 v → TOK v (fun _ g => LgOK v (fun q u => Inv q u ∧ lt2 μ (q, u) (3, v)) g) tr3 := by
  intro v hv
  obtain ⟨who, now, i, T, src, D, k, a, b, z1, z2, z3, r0, r1, r2, rfl, hB, hc, hX⟩ := inv3 hv
  unfold FB at hB
  have ht := mod_in (a := cl r0 i % 65536) (N := T) (by omega)
  have hx := hX i.toNat
  have c1 := hc (2 * T + T)
  have c2 := hc (2 * T + T + k)
  have c3 : 0 ≤ cl (r1.set (2 * T + T + cl r0 i % 65536 % T).toNat [nth 0 (r0.getD i.toNat []) 1]) (2 * T + T) := (hc.set hx) _
  have c4 : 0 ≤ cl (r1.set (2 * T + T + cl r0 i % 65536 % T).toNat [nth 0 (r0.getD i.toNat []) 1]) (2 * T + T + k) := (hc.set hx) _
  unfold tr3
  repeat' (first
    | (refine TOK.br' (fun h => ?_) (fun h => ?_) <;> (try simp (disch := omega) only [d_cl, d_vi, d_vb, d_vr, d_ci, d_cb, d_nr, d_nl, d_add, d_sub, d_mul, d_rem, d_quo, d_bit, d_mn, d_mx, d_w, d_nn, d_bn, d_len, d_neg, d_at0, d_at1, d_at2, d_at3, d_at4, d_at5, d_at6, d_at7, d_set, d_app, d_cat, d_take, d_drop, d_rep, d_cons, d_lt_t, d_lt_f, d_le_t, d_le_f, d_eqi_t, d_eqi_f, d_eqb_t, d_eqb_f, d_nb_t, d_nb_f, nth0, nthS, nthN, w64, and24, and65535, tmod_pos, Int.reduceEq, not_true_eq_false, not_false_eq_true] at h) <;> (try (exfalso; omega)))
    | (with_reducible refine TOK.leaf' ?_))
  all_goals first
    | exact rfl
    | refine ⟨.inl ⟨rfl, _, _, _, _, _, _, _, _, _, _, _, _, _, _, rfl, ?_, ?_, ?_, hX⟩, .inl ?_⟩
    | refine ⟨.inr (.inl ⟨rfl, _, _, _, _, _, _, _, _, _, _, _, _, _, _, _, rfl, ?_, ?_, ?_, hX⟩), .inl ?_⟩
    | refine ⟨.inr (.inr (.inl ⟨rfl, _, _, _, _, _, _, _, _, _, _, _, _, _, _, _, _, _, rfl, ?_, ?_, hX⟩)), .inl ?_⟩
    | refine ⟨.inr (.inr (.inr (.inl ⟨rfl, _, _, _, _, _, _, _, _, _, _, _, _, _, _, _, rfl, ?_, ?_, hX⟩))), .inl ?_⟩
    | refine ⟨.inr (.inr (.inr (.inr (.inl ⟨rfl, _, _, _, _, _, _, _, _, _, _, _, _, _, _, rfl, ?_, ?_, hX⟩)))), .inl ?_⟩
    | refine ⟨.inr (.inr (.inr (.inr (.inr (.inl ⟨rfl, _, _, _, _, _, _, _, _, _, _, _, _, _, _, _, _, rfl, ?_, ?_, hX⟩))))), .inl ?_⟩
    | refine ⟨.inr (.inr (.inr (.inr (.inr (.inr (⟨rfl, _, _, _, _, _, _, _, _, _, _, _, _, _, _, _, _, rfl, ?_, ?_, hX⟩)))))), .inl ?_⟩
  all_goals first
    | (unfold FB; simp (disch := omega) only [d_cl, d_vi, d_vb, d_vr, d_ci, d_cb, d_nr, d_nl, d_add, d_sub, d_mul, d_rem, d_quo, d_bit, d_mn, d_mx, d_w, d_nn, d_bn, d_len, d_neg, d_at0, d_at1, d_at2, d_at3, d_at4, d_at5, d_at6, d_at7, d_set, d_app, d_cat, d_take, d_drop, d_rep, d_cons, d_lt_t, d_lt_f, d_le_t, d_le_f, d_eqi_t, d_eqi_f, d_eqb_t, d_eqb_f, d_nb_t, d_nb_f, nth0, nthS, nthN, w64, and24, and65535, tmod_pos, List.length_set, List.length_append, List.length_cons, List.length_nil]; repeat' (first | omega | split))
    | (unfold FS; simp (disch := omega) only [d_cl, d_vi, d_vb, d_vr, d_ci, d_cb, d_nr, d_nl, d_add, d_sub, d_mul, d_rem, d_quo, d_bit, d_mn, d_mx, d_w, d_nn, d_bn, d_len, d_neg, d_at0, d_at1, d_at2, d_at3, d_at4, d_at5, d_at6, d_at7, d_set, d_app, d_cat, d_take, d_drop, d_rep, d_cons, d_lt_t, d_lt_f, d_le_t, d_le_f, d_eqi_t, d_eqi_f, d_eqb_t, d_eqb_f, d_nb_t, d_nb_f, nth0, nthS, nthN, w64, and24, and65535, tmod_pos, reduceCtorEq, Int.reduceEq, false_imp_iff, true_imp_iff, true_and, and_true, forall_const, imp_false, imp_self, not_false_eq_true]; omega)
    | (simp (disch := omega) only [d_cl, d_vi, d_vb, d_vr, d_ci, d_cb, d_nr, d_nl, d_add, d_sub, d_mul, d_rem, d_quo, d_bit, d_mn, d_mx, d_w, d_nn, d_bn, d_len, d_neg, d_at0, d_at1, d_at2, d_at3, d_at4, d_at5, d_at6, d_at7, d_set, d_app, d_cat, d_take, d_drop, d_rep, d_cons, d_lt_t, d_lt_f, d_le_t, d_le_f, d_eqi_t, d_eqi_f, d_eqb_t, d_eqb_f, d_nb_t, d_nb_f, nth0, nthS, nthN, w64, and24, and65535, tmod_pos]; repeat' (first | exact hc | refine NN.set ?_ ?_)
       all_goals first | exact hx | exact hc _ | exact (hc.set hx) _ | exact u64_nn _ | omega)
    | (simp only [μ, Sb.val, List.map_cons, List.map_nil, d_vi, d_vb, d_vr, d_ci, d_cb, d_nr, d_nl, d_add, d_sub, d_mul, d_rem, d_quo, d_bit, d_mn, d_mx, d_w, d_nn, d_bn, d_len, d_neg, d_at0, d_at1, d_at2, d_at3, d_at4, d_at5, d_at6, d_at7, d_set, d_app, d_cat, d_take, d_drop, d_rep, d_cons, d_lt_t, d_lt_f, d_le_t, d_le_f, d_eqi_t, d_eqi_f, d_eqb_t, d_eqb_f, d_nb_t, d_nb_f, nth0, nthS]; omega)
theorem k4 : ∀ v, Inv 4 v → KV v tm4.kn := by
  intro v hv
  obtain ⟨who, now, i, T, src, D, k, a, b, z1, z2, z3, r0, r1, rfl, hB, hc, hX⟩ := inv4 hv
  unfold FB at hB
  simp only [List.length_nil] at hB
  have ht := mod_in (a := cl r0 i % 65536) (N := T) (by omega)
  have hx := hX i.toNat
  have c1 := hc (2 * T + T)
  have c2 := hc (2 * T + T + k)
  have c3 : 0 ≤ cl (r1.set (2 * T + T + cl r0 i % 65536 % T).toNat [nth 0 (r0.getD i.toNat []) 1]) (2 * T + T) := (hc.set hx) _
  have c4 : 0 ≤ cl (r1.set (2 * T + T + cl r0 i % 65536 % T).toNat [nth 0 (r0.getD i.toNat []) 1]) (2 * T + T + k) := (hc.set hx) _
  unfold tm4
  repeat' (first | exact KV.nil | refine KV.cons ?_ ?_)
  all_goals (first | (simp (disch := omega) only [d_cl, d_vi, d_vb, d_vr, d_ci, d_cb, d_nr, d_nl, d_add, d_sub, d_mul, d_rem, d_quo, d_bit, d_mn, d_mx, d_w, d_nn, d_bn, d_len, d_neg, d_at0, d_at1, d_at2, d_at3, d_at4, d_at5, d_at6, d_at7, d_set, d_app, d_cat, d_take, d_drop, d_rep, d_cons, d_lt_t, d_lt_f, d_le_t, d_le_f, d_eqi_t, d_eqi_f, d_eqb_t, d_eqb_f, d_nb_t, d_nb_f, nth0, nthS, nthN, w64, and24, and65535, tmod_pos]; done) | (simp (disch := omega) only [d_cl, d_vi, d_vb, d_vr, d_ci, d_cb, d_nr, d_nl, d_add, d_sub, d_mul, d_rem, d_quo, d_bit, d_mn, d_mx, d_w, d_nn, d_bn, d_len, d_neg, d_at0, d_at1, d_at2, d_at3, d_at4, d_at5, d_at6, d_at7, d_set, d_app, d_cat, d_take, d_drop, d_rep, d_cons, d_lt_t, d_lt_f, d_le_t, d_le_f, d_eqi_t, d_eqi_f, d_eqb_t, d_eqb_f, d_nb_t, d_nb_f, nth0, nthS, nthN, w64, and24, and65535, tmod_pos, List.length_set, List.length_append, List.length_cons, List.length_nil]; first | omega | exact hc _ | exact (hc.set hx) _))
theorem s4 : ∀ v, Inv 4 v → TOK v (fun _ g => LgOK v (fun q u => Inv q u ∧ lt2 μ (q, u) (4, v)) g) tr4 := by
  intro v hv
  obtain ⟨who, now, i, T, src, D, k, a, b, z1, z2, z3, r0, r1, rfl, hB, hc, hX⟩ := inv4 hv
  unfold FB at hB
  simp only [List.length_nil] at hB
  have ht := mod_in (a := cl r0 i % 65536) (N := T) (by omega)
  have hx := hX i.toNat
  have c1 := hc (2 * T + T)
  have c2 := hc (2 * T + T + k)
  have c3 : 0 ≤ cl (r1.set (2 * T + T + cl r0 i % 65536 % T).toNat [nth 0 (r0.getD i.toNat []) 1]) (2 * T + T) := (hc.set hx) _
  have c4 : 0 ≤ cl (r1.set (2 * T + T + cl r0 i % 65536 % T).toNat [nth 0 (r0.getD i.toNat []) 1]) (2 * T + T + k) := (hc.set hx) _
  unfold tr4
  repeat' (first
    | (refine TOK.br' (fun h => ?_) (fun h => ?_) <;> (try simp (disch := omega) only [d_cl, d_vi, d_vb, d_vr, d_ci, d_cb, d_nr, d_nl, d_add, d_sub, d_mul, d_rem, d_quo, d_bit, d_mn, d_mx, d_w, d_nn, d_bn, d_len, d_neg, d_at0, d_at1, d_at2, d_at3, d_at4, d_at5, d_at6, d_at7, d_set, d_app, d_cat, d_take, d_drop, d_rep, d_cons, d_lt_t, d_lt_f, d_le_t, d_le_f, d_eqi_t, d_eqi_f, d_eqb_t, d_eqb_f, d_nb_t, d_nb_f, nth0, nthS, nthN, w64, and24, and65535, tmod_pos, Int.reduceEq, not_true_eq_false, not_false_eq_true] at h) <;> (try (exfalso; omega)))
    | (with_reducible refine TOK.leaf' ?_))
  all_goals first
    | exact rfl
    | refine ⟨.inl ⟨rfl, _, _, _, _, _, _, _, _, _, _, _, _, _, _, rfl, ?_, ?_, ?_, hX⟩, .inl ?_⟩
    | refine ⟨.inr (.inl ⟨rfl, _, _, _, _, _, _, _, _, _, _, _, _, _, _, _, rfl, ?_, ?_, ?_, hX⟩), .inl ?_⟩
    | refine ⟨.inr (.inr (.inl ⟨rfl, _, _, _, _, _, _, _, _, _, _, _, _, _, _, _, _, _, rfl, ?_, ?_, hX⟩)), .inl ?_⟩
    | refine ⟨.inr (.inr (.inr (.inl ⟨rfl, _, _, _, _, _, _, _, _, _, _, _, _, _, _, _, rfl, ?_, ?_, hX⟩))), .inl ?_⟩
    | refine ⟨.inr (.inr (.inr (.inr (.inl ⟨rfl, _, _, _, _, _, _, _, _, _, _, _, _, _, _, rfl, ?_, ?_, hX⟩)))), .inl ?_⟩
    | refine ⟨.inr (.inr (.inr (.inr (.inr (.inl ⟨rfl, _, _, _, _, _, _, _, _, _, _, _, _, _, _, _, _, rfl, ?_, ?_, hX⟩))))), .inl ?_⟩
    | refine ⟨.inr (.inr (.inr (.inr (.inr (.inr (⟨rfl, _, _, _, _, _, _, _, _, _, _, _, _, _, _, _, _, rfl, ?_, ?_, hX⟩)))))), .inl ?_⟩
  all_goals first
    | (unfold FB; simp (disch := omega) only [d_cl, d_vi, d_vb, d_vr, d_ci, d_cb, d_nr, d_nl, d_add, d_sub, d_mul, d_rem, d_quo, d_bit, d_mn, d_mx, d_w, d_nn, d_bn, d_len, d_neg, d_at0, d_at1, d_at2, d_at3, d_at4, d_at5, d_at6, d_at7, d_set, d_app, d_cat, d_take, d_drop, d_rep, d_cons, d_lt_t, d_lt_f, d_le_t, d_le_f, d_eqi_t, d_eqi_f, d_eqb_t, d_eqb_f, d_nb_t, d_nb_f, nth0, nthS, nthN, w64, and24, and65535, tmod_pos, List.length_set, List.length_append, List.length_cons, List.length_nil]; repeat' (first | omega | split))
    | (unfold FS; simp (disch := omega) only [d_cl, d_vi, d_vb, d_vr, d_ci, d_cb, d_nr, d_nl, d_add, d_sub, d_mul, d_rem, d_quo, d_bit, d_mn, d_mx, d_w, d_nn, d_bn, d_len, d_neg, d_at0, d_at1, d_at2, d_at3, d_at4, d_at5, d_at6, d_at7, d_set, d_app, d_cat, d_take, d_drop, d_rep, d_cons, d_lt_t, d_lt_f, d_le_t, d_le_f, d_eqi_t, d_eqi_f, d_eqb_t, d_eqb_f, d_nb_t, d_nb_f, nth0, nthS, nthN, w64, and24, and65535, tmod_pos, reduceCtorEq, Int.reduceEq, false_imp_iff, true_imp_iff, true_and, and_true, forall_const, imp_false, imp_self, not_false_eq_true]; omega)
    | (simp (disch := omega) only [d_cl, d_vi, d_vb, d_vr, d_ci, d_cb, d_nr, d_nl, d_add, d_sub, d_mul, d_rem, d_quo, d_bit, d_mn, d_mx, d_w, d_nn, d_bn, d_len, d_neg, d_at0, d_at1, d_at2, d_at3, d_at4, d_at5, d_at6, d_at7, d_set, d_app, d_cat, d_take, d_drop, d_rep, d_cons, d_lt_t, d_lt_f, d_le_t, d_le_f, d_eqi_t, d_eqi_f, d_eqb_t, d_eqb_f, d_nb_t, d_nb_f, nth0, nthS, nthN, w64, and24, and65535, tmod_pos]; repeat' (first | exact hc | refine NN.set ?_ ?_)
       all_goals first | exact hx | exact hc _ | exact (hc.set hx) _ | exact u64_nn _ | omega)
    | (simp only [μ, Sb.val, List.map_cons, List.map_nil, d_vi, d_vb, d_vr, d_ci, d_cb, d_nr, d_nl, d_add, d_sub, d_mul, d_rem, d_quo, d_bit, d_mn, d_mx, d_w, d_nn, d_bn, d_len, d_neg, d_at0, d_at1, d_at2, d_at3, d_at4, d_at5, d_at6, d_at7, d_set, d_app, d_cat, d_take, d_drop, d_rep, d_cons, d_lt_t, d_lt_f, d_le_t, d_le_f, d_eqi_t, d_eqi_f, d_eqb_t, d_eqb_f, d_nb_t, d_nb_f, nth0, nthS]; omega)
theorem k5 : ∀ v, Inv 5 v → KV v tm5.kn := by
  intro v hv
  obtain ⟨who, now, i, T, src, D, k, a, b, z1, z2, z3, z4, r0, r1, r2, rfl, hB, hc, hX⟩ := inv5 hv
  unfold FB at hB
  have ht := mod_in (a := cl r0 i % 65536) (N := T) (by omega)
  have hx := hX i.toNat
  have c1 := hc (2 * T + T)
  have c2 := hc (2 * T + T + k)
  have c3 : 0 ≤ cl (r1.set (2 * T + T + cl r0 i % 65536 % T).toNat [nth 0 (r0.getD i.toNat []) 1]) (2 * T + T) := (hc.set hx) _
  have c4 : 0 ≤ cl (r1.set (2 * T + T + cl r0 i % 65536 % T).toNat [nth 0 (r0.getD i.toNat []) 1]) (2 * T + T + k) := (hc.set hx) _
  unfold tm5
  repeat' (first | exact KV.nil | refine KV.cons ?_ ?_)
  all_goals (first | (simp (disch := omega) only [d_cl, d_vi, d_vb, d_vr, d_ci, d_cb, d_nr, d_nl, d_add, d_sub, d_mul, d_rem, d_quo, d_bit, d_mn, d_mx, d_w, d_nn, d_bn, d_len, d_neg, d_at0, d_at1, d_at2, d_at3, d_at4, d_at5, d_at6, d_at7, d_set, d_app, d_cat, d_take, d_drop, d_rep, d_cons, d_lt_t, d_lt_f, d_le_t, d_le_f, d_eqi_t, d_eqi_f, d_eqb_t, d_eqb_f, d_nb_t, d_nb_f, nth0, nthS, nthN, w64, and24, and65535, tmod_pos]; done) | (simp (disch := omega) only [d_cl, d_vi, d_vb, d_vr, d_ci, d_cb, d_nr, d_nl, d_add, d_sub, d_mul, d_rem, d_quo, d_bit, d_mn, d_mx, d_w, d_nn, d_bn, d_len, d_neg, d_at0, d_at1, d_at2, d_at3, d_at4, d_at5, d_at6, d_at7, d_set, d_app, d_cat, d_take, d_drop, d_rep, d_cons, d_lt_t, d_lt_f, d_le_t, d_le_f, d_eqi_t, d_eqi_f, d_eqb_t, d_eqb_f, d_nb_t, d_nb_f, nth0, nthS, nthN, w64, and24, and65535, tmod_pos, List.length_set, List.length_append, List.length_cons, List.length_nil]; first | omega | exact hc _ | exact (hc.set hx) _))
theorem s5 : ∀ v, Inv 5 v → TOK v (fun _ g => LgOK v (fun q u => Inv q u ∧ lt2 μ (q, u) (5, v)) g) tr5 := by
  intro v hv
  obtain ⟨who, now, i, T, src, D, k, a, b, z1, z2, z3, z4, r0, r1, r2, rfl, hB, hc, hX⟩ := inv5 hv
  unfold FB at hB
  have ht := mod_in (a := cl r0 i % 65536) (N := T) (by omega)
  have hx := hX i.toNat
  have c1 := hc (2 * T + T)
  have c2 := hc (2 * T + T + k)
  have c3 : 0 ≤ cl (r1.set (2 * T + T + cl r0 i % 65536 % T).toNat [nth 0 (r0.getD i.toNat []) 1]) (2 * T + T) := (hc.set hx) _
  have c4 : 0 ≤ cl (r1.set (2 * T + T + cl r0 i % 65536 % T).toNat [nth 0 (r0.getD i.toNat []) 1]) (2 * T + T + k) := (hc.set hx) _
  unfold tr5
  repeat' (first
    | (refine TOK.br' (fun h => ?_) (fun h => ?_) <;> (try simp (disch := omega) only [d_cl, d_vi, d_vb, d_vr, d_ci, d_cb, d_nr, d_nl, d_add, d_sub, d_mul, d_rem, d_quo, d_bit, d_mn, d_mx, d_w, d_nn, d_bn, d_len, d_neg, d_at0, d_at1, d_at2, d_at3, d_at4, d_at5, d_at6, d_at7, d_set, d_app, d_cat, d_take, d_drop, d_rep, d_cons, d_lt_t, d_lt_f, d_le_t, d_le_f, d_eqi_t, d_eqi_f, d_eqb_t, d_eqb_f, d_nb_t, d_nb_f, nth0, nthS, nthN, w64, and24, and65535, tmod_pos, Int.reduceEq, not_true_eq_false, not_false_eq_true] at h) <;> (try (exfalso; omega)))
    | (with_reducible refine TOK.leaf' ?_))
  all_goals first
    | exact rfl
    | refine ⟨.inl ⟨rfl, _, _, _, _, _, _, _, _, _, _, _, _, _, _, rfl, ?_, ?_, ?_, hX⟩, .inl ?_⟩
    | refine ⟨.inr (.inl ⟨rfl, _, _, _, _, _, _, _, _, _, _, _, _, _, _, _, rfl, ?_, ?_, ?_, hX⟩), .inl ?_⟩
    | refine ⟨.inr (.inr (.inl ⟨rfl, _, _, _, _, _, _, _, _, _, _, _, _, _, _, _, _, _, rfl, ?_, ?_, hX⟩)), .inl ?_⟩
    | refine ⟨.inr (.inr (.inr (.inl ⟨rfl, _, _, _, _, _, _, _, _, _, _, _, _, _, _, _, rfl, ?_, ?_, hX⟩))), .inl ?_⟩
    | refine ⟨.inr (.inr (.inr (.inr (.inl ⟨rfl, _, _, _, _, _, _, _, _, _, _, _, _, _, _, rfl, ?_, ?_, hX⟩)))), .inl ?_⟩
    | refine ⟨.inr (.inr (.inr (.inr (.inr (.inl ⟨rfl, _, _, _, _, _, _, _, _, _, _, _, _, _, _, _, _, rfl, ?_, ?_, hX⟩))))), .inl ?_⟩
    | refine ⟨.inr (.inr (.inr (.inr (.inr (.inr (⟨rfl, _, _, _, _, _, _, _, _, _, _, _, _, _, _, _, _, rfl, ?_, ?_, hX⟩)))))), .inl ?_⟩
  all_goals first
    | (unfold FB; simp (disch := omega) only [d_cl, d_vi, d_vb, d_vr, d_ci, d_cb, d_nr, d_nl, d_add, d_sub, d_mul, d_rem, d_quo, d_bit, d_mn, d_mx, d_w, d_nn, d_bn, d_len, d_neg, d_at0, d_at1, d_at2, d_at3, d_at4, d_at5, d_at6, d_at7, d_set, d_app, d_cat, d_take, d_drop, d_rep, d_cons, d_lt_t, d_lt_f, d_le_t, d_le_f, d_eqi_t, d_eqi_f, d_eqb_t, d_eqb_f, d_nb_t, d_nb_f, nth0, nthS, nthN, w64, and24, and65535, tmod_pos, List.length_set, List.length_append, List.length_cons, List.length_nil]; repeat' (first | omega | split))
    | (unfold FS; simp (disch := omega) only [d_cl, d_vi, d_vb, d_vr, d_ci, d_cb, d_nr, d_nl, d_add, d_sub, d_mul, d_rem, d_quo, d_bit, d_mn, d_mx, d_w, d_nn, d_bn, d_len, d_neg, d_at0, d_at1, d_at2, d_at3, d_at4, d_at5, d_at6, d_at7, d_set, d_app, d_cat, d_take, d_drop, d_rep, d_cons, d_lt_t, d_lt_f, d_le_t, d_le_f, d_eqi_t, d_eqi_f, d_eqb_t, d_eqb_f, d_nb_t, d_nb_f, nth0, nthS, nthN, w64, and24, and65535, tmod_pos, reduceCtorEq, Int.reduceEq, false_imp_iff, true_imp_iff, true_and, and_true, forall_const, imp_false, imp_self, not_false_eq_true]; omega)
    | (simp (disch := omega) only [d_cl, d_vi, d_vb, d_vr, d_ci, d_cb, d_nr, d_nl, d_add, d_sub, d_mul, d_rem, d_quo, d_bit, d_mn, d_mx, d_w, d_nn, d_bn, d_len, d_neg, d_at0, d_at1, d_at2, d_at3, d_at4, d_at5, d_at6, d_at7, d_set, d_app, d_cat, d_take, d_drop, d_rep, d_cons, d_lt_t, d_lt_f, d_le_t, d_le_f, d_eqi_t, d_eqi_f, d_eqb_t, d_eqb_f, d_nb_t, d_nb_f, nth0, nthS, nthN, w64, and24, and65535, tmod_pos]; repeat' (first | exact hc | refine NN.set ?_ ?_)
       all_goals first | exact hx | exact hc _ | exact (hc.set hx) _ | exact u64_nn _ | omega)
    | (simp only [μ, Sb.val, List.map_cons, List.map_nil, d_vi, d_vb, d_vr, d_ci, d_cb, d_nr, d_nl, d_add, d_sub, d_mul, d_rem, d_quo, d_bit, d_mn, d_mx, d_w, d_nn, d_bn, d_len, d_neg, d_at0, d_at1, d_at2, d_at3, d_at4, d_at5, d_at6, d_at7, d_set, d_app, d_cat, d_take, d_drop, d_rep, d_cons, d_lt_t, d_lt_f, d_le_t, d_le_f, d_eqi_t, d_eqi_f, d_eqb_t, d_eqb_f, d_nb_t, d_nb_f, nth0, nthS]; omega)
theorem k6 : ∀ v, Inv 6 v → KV v tm6.kn := by
  intro v hv
  obtain ⟨who, now, i, T, src, D, k, a, b, z1, z2, z3, z4, z5, r0, r1, rfl, hB, hc, hX⟩ := inv6 hv
  unfold FB at hB
  simp only [List.length_nil] at hB
  have ht := mod_in (a := cl r0 i % 65536) (N := T) (by omega)
  have hx := hX i.toNat
  have c1 := hc (2 * T + T)
  have c2 := hc (2 * T + T + k)
  have c3 : 0 ≤ cl (r1.set (2 * T + T + cl r0 i % 65536 % T).toNat [nth 0 (r0.getD i.toNat []) 1]) (2 * T + T) := (hc.set hx) _
  have c4 : 0 ≤ cl (r1.set (2 * T + T + cl r0 i % 65536 % T).toNat [nth 0 (r0.getD i.toNat []) 1]) (2 * T + T + k) := (hc.set hx) _
  unfold tm6
  repeat' (first | exact KV.nil | refine KV.cons ?_ ?_)
  all_goals (first | (simp (disch := omega) only [d_cl, d_vi, d_vb, d_vr, d_ci, d_cb, d_nr, d_nl, d_add, d_sub, d_mul, d_rem, d_quo, d_bit, d_mn, d_mx, d_w, d_nn, d_bn, d_len, d_neg, d_at0, d_at1, d_at2, d_at3, d_at4, d_at5, d_at6, d_at7, d_set, d_app, d_cat, d_take, d_drop, d_rep, d_cons, d_lt_t, d_lt_f, d_le_t, d_le_f, d_eqi_t, d_eqi_f, d_eqb_t, d_eqb_f, d_nb_t, d_nb_f, nth0, nthS, nthN, w64, and24, and65535, tmod_pos]; done) | (simp (disch := omega) only [d_cl, d_vi, d_vb, d_vr, d_ci, d_cb, d_nr, d_nl, d_add, d_sub, d_mul, d_rem, d_quo, d_bit, d_mn, d_mx, d_w, d_nn, d_bn, d_len, d_neg, d_at0, d_at1, d_at2, d_at3, d_at4, d_at5, d_at6, d_at7, d_set, d_app, d_cat, d_take, d_drop, d_rep, d_cons, d_lt_t, d_lt_f, d_le_t, d_le_f, d_eqi_t, d_eqi_f, d_eqb_t, d_eqb_f, d_nb_t, d_nb_f, nth0, nthS, nthN, w64, and24, and65535, tmod_pos, List.length_set, List.length_append, List.length_cons, List.length_nil]; first | omega | exact hc _ | exact (hc.set hx) _))
theorem s6 : ∀ v, Inv 6 v → TOK v (fun _ g => LgOK v (fun q u => Inv q u ∧ lt2 μ (q, u) (6, v)) g) tr6 := by
  intro v hv
  obtain ⟨who, now, i, T, src, D, k, a, b, z1, z2, z3, z4, z5, r0, r1, rfl, hB, hc, hX⟩ := inv6 hv
  unfold FB at hB
  simp only [List.length_nil] at hB
  have ht := mod_in (a := cl r0 i % 65536) (N := T) (by omega)
  have hx := hX i.toNat
  have c1 := hc (2 * T + T)
  have c2 := hc (2 * T + T + k)
  have c3 : 0 ≤ cl (r1.set (2 * T + T + cl r0 i % 65536 % T).toNat [nth 0 (r0.getD i.toNat []) 1]) (2 * T + T) := (hc.set hx) _
  have c4 : 0 ≤ cl (r1.set (2 * T + T + cl r0 i % 65536 % T).toNat [nth 0 (r0.getD i.toNat []) 1]) (2 * T + T + k) := (hc.set hx) _
  unfold tr6
  repeat' (first
    | (refine TOK.br' (fun h => ?_) (fun h => ?_) <;> (try simp (disch := omega) only [d_cl, d_vi, d_vb, d_vr, d_ci, d_cb, d_nr, d_nl, d_add, d_sub, d_mul, d_rem, d_quo, d_bit, d_mn, d_mx, d_w, d_nn, d_bn, d_len, d_neg, d_at0, d_at1, d_at2, d_at3, d_at4, d_at5, d_at6, d_at7, d_set, d_app, d_cat, d_take, d_drop, d_rep, d_cons, d_lt_t, d_lt_f, d_le_t, d_le_f, d_eqi_t, d_eqi_f, d_eqb_t, d_eqb_f, d_nb_t, d_nb_f, nth0, nthS, nthN, w64, and24, and65535, tmod_pos, Int.reduceEq, not_true_eq_false, not_false_eq_true] at h) <;> (try (exfalso; omega)))
    | (with_reducible refine TOK.leaf' ?_))
  all_goals first
    | exact rfl
    | refine ⟨.inl ⟨rfl, _, _, _, _, _, _, _, _, _, _, _, _, _, _, rfl, ?_, ?_, ?_, hX⟩, .inl ?_⟩
    | refine ⟨.inr (.inl ⟨rfl, _, _, _, _, _, _, _, _, _, _, _, _, _, _, _, rfl, ?_, ?_, ?_, hX⟩), .inl ?_⟩
    | refine ⟨.inr (.inr (.inl ⟨rfl, _, _, _, _, _, _, _, _, _, _, _, _, _, _, _, _, _, rfl, ?_, ?_, hX⟩)), .inl ?_⟩
    | refine ⟨.inr (.inr (.inr (.inl ⟨rfl, _, _, _, _, _, _, _, _, _, _, _, _, _, _, _, rfl, ?_, ?_, hX⟩))), .inl ?_⟩
    | refine ⟨.inr (.inr (.inr (.inr (.inl ⟨rfl, _, _, _, _, _, _, _, _, _, _, _, _, _, _, rfl, ?_, ?_, hX⟩)))), .inl ?_⟩
    | refine ⟨.inr (.inr (.inr (.inr (.inr (.inl ⟨rfl, _, _, _, _, _, _, _, _, _, _, _, _, _, _, _, _, rfl, ?_, ?_, hX⟩))))), .inl ?_⟩
    | refine ⟨.inr (.inr (.inr (.inr (.inr (.inr (⟨rfl, _, _, _, _, _, _, _, _, _, _, _, _, _, _, _, _, rfl, ?_, ?_, hX⟩)))))), .inl ?_⟩
  all_goals first
    | (unfold FB; simp (disch := omega) only [d_cl, d_vi, d_vb, d_vr, d_ci, d_cb, d_nr, d_nl, d_add, d_sub, d_mul, d_rem, d_quo, d_bit, d_mn, d_mx, d_w, d_nn, d_bn, d_len, d_neg, d_at0, d_at1, d_at2, d_at3, d_at4, d_at5, d_at6, d_at7, d_set, d_app, d_cat, d_take, d_drop, d_rep, d_cons, d_lt_t, d_lt_f, d_le_t, d_le_f, d_eqi_t, d_eqi_f, d_eqb_t, d_eqb_f, d_nb_t, d_nb_f, nth0, nthS, nthN, w64, and24, and65535, tmod_pos, List.length_set, List.length_append, List.length_cons, List.length_nil]; repeat' (first | omega | split))
    | (unfold FS; simp (disch := omega) only [d_cl, d_vi, d_vb, d_vr, d_ci, d_cb, d_nr, d_nl, d_add, d_sub, d_mul, d_rem, d_quo, d_bit, d_mn, d_mx, d_w, d_nn, d_bn, d_len, d_neg, d_at0, d_at1, d_at2, d_at3, d_at4, d_at5, d_at6, d_at7, d_set, d_app, d_cat, d_take, d_drop, d_rep, d_cons, d_lt_t, d_lt_f, d_le_t, d_le_f, d_eqi_t, d_eqi_f, d_eqb_t, d_eqb_f, d_nb_t, d_nb_f, nth0, nthS, nthN, w64, and24, and65535, tmod_pos, reduceCtorEq, Int.reduceEq, false_imp_iff, true_imp_iff, true_and, and_true, forall_const, imp_false, imp_self, not_false_eq_true]; omega)
    | (simp (disch := omega) only [d_cl, d_vi, d_vb, d_vr, d_ci, d_cb, d_nr, d_nl, d_add, d_sub, d_mul, d_rem, d_quo, d_bit, d_mn, d_mx, d_w, d_nn, d_bn, d_len, d_neg, d_at0, d_at1, d_at2, d_at3, d_at4, d_at5, d_at6, d_at7, d_set, d_app, d_cat, d_take, d_drop, d_rep, d_cons, d_lt_t, d_lt_f, d_le_t, d_le_f, d_eqi_t, d_eqi_f, d_eqb_t, d_eqb_f, d_nb_t, d_nb_f, nth0, nthS, nthN, w64, and24, and65535, tmod_pos]; repeat' (first | exact hc | refine NN.set ?_ ?_)
       all_goals first | exact hx | exact hc _ | exact (hc.set hx) _ | exact u64_nn _ | omega)
    | (simp only [μ, Sb.val, List.map_cons, List.map_nil, d_vi, d_vb, d_vr, d_ci, d_cb, d_nr, d_nl, d_add, d_sub, d_mul, d_rem, d_quo, d_bit, d_mn, d_mx, d_w, d_nn, d_bn, d_len, d_neg, d_at0, d_at1, d_at2, d_at3, d_at4, d_at5, d_at6, d_at7, d_set, d_app, d_cat, d_take, d_drop, d_rep, d_cons, d_lt_t, d_lt_f, d_le_t, d_le_f, d_eqi_t, d_eqi_f, d_eqb_t, d_eqb_f, d_nb_t, d_nb_f, nth0, nthS]; omega)
/-- At the begin. -/
theorem sS (a0 a1 a2 a3 : Int) (l4 : List (List Int)) (hX : XX l4) : TOK ⟨[a0, a1, a2, a3], [], [l4], []⟩ (fun _ g => LgOK ⟨[a0, a1, a2, a3], [], [l4], []⟩ Inv g) trS := by
  unfold trS
  have hT : 0 ≤ a0 % 4 ∧ a0 % 4 < 4 := by omega
  have hS : 0 ≤ (IntKind.u64.wrap a1) % 5 ∧ (IntKind.u64.wrap a1) % 5 < 5 := by omega
  have hU : 0 ≤ IntKind.u64.wrap a1 := u64_nn _
  have h1 := mod_in (a := a3 % 65536) (N := a0 % 4 + 1) (by omega)
  refine TOK.br' (fun h => ?_) (fun h => ?_)
  · exact rfl
  simp (disch := omega) only [d_vi, d_vb, d_vr, d_ci, d_cb, d_nr, d_nl, d_add, d_sub, d_mul, d_rem, d_quo, d_bit, d_mn, d_mx, d_w, d_nn, d_bn, d_len, d_neg, d_at0, d_at1, d_at2, d_at3, d_at4, d_at5, d_at6, d_at7, d_set, d_app, d_cat, d_take, d_drop, d_rep, d_cons, d_lt_t, d_lt_f, d_le_t, d_le_f, d_eqi_t, d_eqi_f, d_eqb_t, d_eqb_f, d_nb_t, d_nb_f, nth0, nthS] at h
  refine (show Inv 0 _ from ?_)
  simp (disch := omega) only [Sb.val, List.map_cons, List.map_nil, d_vi, d_vb, d_vr, d_ci, d_cb, d_nr, d_nl, d_add, d_sub, d_mul, d_rem, d_quo, d_bit, d_mn, d_mx, d_w, d_nn, d_bn, d_len, d_neg, d_at0, d_at1, d_at2, d_at3, d_at4, d_at5, d_at6, d_at7, d_set, d_app, d_cat, d_take, d_drop, d_rep, d_cons, d_lt_t, d_lt_f, d_le_t, d_le_f, d_eqi_t, d_eqi_f, d_eqb_t, d_eqb_f, d_nb_t, d_nb_f, nth0, nthS, and3, and65535, tmod_pos]
  refine .inl ⟨rfl, (a3 % 65536) % (a0 % 4 + 1), 0, 0, a0 % 4 + 1, IntKind.u64.wrap a1 % 5, a2 % 4, 0, 0, 0, 0, 0, 0, _, _, rfl, ?_, ?_, fun j => by rw [cl_rep]; omega, hX⟩
  · unfold FB; rw [List.length_replicate, List.length_nil]; omega
  · unfold FS; omega
theorem TickSteps_walk (a0 a1 a2 a3 : Int) (A4 : Option Addr) (n4 c4 : Nat) (l4 : List (List Int)) (w : World) (wa0 : (Lit.int .i64 a0).wf = true) (wa1 : (Lit.int .i64 a1).wf = true) (wa2 : (Lit.int .i64 a2).wf = true) (wa3 : (Lit.int .i64 a3).wf = true) (hr4 : ArgRow w [.i .i64, .i .u64, .b, .i .i64] A4 n4 c4 l4) :
    Calls Try.prog 19 #[.int .i64 a0, .int .i64 a1, .int .i64 a2, .int .i64 a3, .slice A4 n4 c4] w fun e w' => e = .returned (.bool true) ∧ Below w.heap.size w w' := by
  have hX : XX l4 := fun j => by
    rw [List.getD_eq_getElem?_getD]
    cases hj : l4[j]? with
    | none => simp [nth]
    | some x =>
      have := hr4.good x (List.mem_of_getElem? hj)
      simp only [Option.getD_some]
      match x, this with
      | [p, q, r, s], hg => exact (lit_u64 hg.2.1).1
  exact law_calls (v := ⟨[a0, a1, a2, a3], [], [l4], []⟩) (l := [⟨A4, n4, c4, [.i .i64, .i .u64, .b, .i .i64], l4⟩]) (args := args) (args' := [.int .i64 a0, .int .i64 a1, .int .i64 a2, .int .i64 a3, .slice A4 n4 c4]) hI0 hfn hbod (by decide) rfl (by simpa using hr4)
    (.cons (.int _ _) (.cons (.int _ _) (.cons (.int _ _) (.cons (.int _ _) (.cons (arg_slice (id := 0) (s := ⟨A4, n4, c4, [.i .i64, .i .u64, .b, .i .i64], l4⟩) (l := [⟨A4, n4, c4, [.i .i64, .i .u64, .b, .i .i64], l4⟩]) rfl rfl hr4) (.nil _))))))
    (aw ⟨[a0, a1, a2, a3], [], [l4], []⟩ Inv μ KV.nil s0 s1 k2 s2 k3 s3 k4 s4 k5 s5 k6 s6 (sS a0 a1 a2 a3 l4 hX))
end Go.Proofs.Ytnkgkdhddaongaa.KTickSteps
