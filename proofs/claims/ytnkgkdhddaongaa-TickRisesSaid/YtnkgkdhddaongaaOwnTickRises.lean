/- The law TickRises of tick: one thread's stamps, whatever others do, each is before the next one: it answers true for all numbers. No condition. -/
import Derived.Test.YtnkgkdhddaongaaOwnTickRisesS
import Derived.Test.YtnkgkdhddaongaaOwnS13
set_option linter.unusedVariables false
set_option linter.unusedSimpArgs false
set_option maxRecDepth 100000
set_option maxHeartbeats 8000000
namespace Go.Proofs.Ytnkgkdhddaongaa.KTickRises
open Go Go.Lib Go.Proofs.Ytnkgkdhddaongaa.Eng Go.Proofs.Ytnkgkdhddaongaa.Sy Go.RowKit

/-- What holds at the loop, whatever the stamps come from. -/
def FB (who n T src D k a b wo k' a' b' lo hi : Int) (r0 r1 r2 : List (List Int)) : Prop :=
  (0 ≤ who ∧ who < T ∧ 0 ≤ n ∧ n ≤ 120 ∧ 1 ≤ T ∧ T ≤ 4 ∧ 0 ≤ src ∧ src ≤ 4 ∧ 0 ≤ D ∧ D ≤ 3) ∧ (0 ≤ k ∧ k ≤ 5 ∧ 0 ≤ a ∧ a ≤ n ∧ 0 ≤ b ∧ b ≤ n) ∧ (0 ≤ wo ∧ wo < T ∧ 0 ≤ k' ∧ k' ≤ 5 ∧ 0 ≤ a' ∧ a' ≤ n ∧ 0 ≤ b' ∧ b' ≤ n) ∧
  (-1 ≤ lo ∧ lo ≤ n ∧ -1 ≤ hi ∧ hi ≤ n) ∧ (r1.length : Int) = 4 * T ∧ (r2.length : Int) ≤ n ∧ (r0.length : Int) ≤ 120 ∧ (1 < T → wo ≠ who)
def FC (n : Int) (r1 : List (List Int)) : Prop := ∀ j, 0 ≤ cl r1 j ∧ cl r1 j ≤ n
def FS (who n T src D k a k' hi : Int) (r1 : List (List Int)) : Prop :=
  (src = 0 → k = 0 ∧ k' = 0 ∧ hi < cl r1 (2 * T + T)) ∧
  (src = 1 → k ≤ T ∧ k' ≤ T ∧ hi ≤ cl r1 (2 * T + T + who) ∧ (who < k → cl r1 (2 * T + T + who) ≤ a)) ∧
  (src = 2 → k ≤ 3 ∧ k' ≤ 3 ∧ hi < cl r1 (2 * T + T) ∧ (1 ≤ k → hi < a ∧ a ≤ cl r1 (2 * T + T)) ∧ (k = 3 → a < cl r1 (2 * T + T))) ∧
  (src = 3 → k = 0 ∧ k' = 0 ∧ hi < n) ∧
  (src = 4 → k ≤ D + 1 ∧ k' ≤ D + 1 ∧ hi < n ∧ (1 ≤ k → hi < a ∧ a < n))
def Inv (p : Nat) (v : Val) : Prop := p = 0 ∧ ∃ (who n T src D k a b wo k' a' b' lo hi : Int) (r0 r1 r2 : List (List Int)), v = ⟨[who, n, T, src, D, k, a, b, wo, k', a', b', lo, hi], [], [r0, r1, r2], []⟩ ∧ FB who n T src D k a b wo k' a' b' lo hi r0 r1 r2 ∧ FC n r1 ∧ FS who n T src D k a k' hi r1
def μ (q : Nat × Val) : Nat × Nat := ((500 - nth 0 q.2.i 1).toNat, 0)
theorem k0 : ∀ v, Inv 0 v → KV v tm0.kn := by
  rintro v ⟨_, who, n, T, src, D, k, a, b, wo, k', a', b', lo, hi, r0, r1, r2, rfl, ⟨hB1, hB2, hB3, hB4, hL1, hL2, hL0, hne⟩, hC, hF⟩
  unfold tm0
  have c1 := hC (2 * T + T)
  have c2 := hC (2 * T + T + who)
  have c3 := hC (2 * T + T + k)
  have c4 := hC (2 * T + T + wo)
  have c5 := hC (2 * T + T + k')
  repeat' (first | exact KV.nil | refine KV.cons ?_ ?_)
  all_goals (simp (disch := omega) only [d_cl, d_vi, d_vb, d_vr, d_ci, d_cb, d_nr, d_nl, d_add, d_sub, d_mul, d_rem, d_quo, d_bit, d_mn, d_mx, d_w, d_nn, d_bn, d_len, d_neg, d_at0, d_at1, d_at2, d_at3, d_at4, d_at5, d_at6, d_at7, d_set, d_app, d_cat, d_take, d_drop, d_rep, d_cons, d_lt_t, d_lt_f, d_le_t, d_le_f, d_eqi_t, d_eqi_f, d_eqb_t, d_eqb_f, d_nb_t, d_nb_f, nth0, nthS, w64, Int.mul_one]; omega)
theorem s0 : ∀ v, Inv 0 v → TOK v (fun _ g => LgOK v (fun q u => Inv q u ∧ lt2 μ (q, u) (0, v)) g) tr0 := by
  rintro v ⟨_, who, n, T, src, D, k, a, b, wo, k', a', b', lo, hi, r0, r1, r2, rfl, ⟨hB1, hB2, hB3, hB4, hL1, hL2, hL0, hne⟩, hC, hF⟩
  unfold tr0
  have c1 := hC (2 * T + T)
  have c2 := hC (2 * T + T + who)
  have c3 := hC (2 * T + T + k)
  have c4 := hC (2 * T + T + wo)
  have c5 := hC (2 * T + T + k')
  have hm : 0 ≤ (who + 1) % T ∧ (who + 1) % T < T ∧ (1 < T → (who + 1) % T ≠ who) := by
    refine ⟨Int.emod_nonneg _ (by omega), Int.emod_lt_of_pos _ (by omega), fun h => ?_⟩
    rcases (by omega : who + 1 < T ∨ who + 1 = T) with h1 | h1
    · rw [Int.emod_eq_of_lt (by omega) h1]; omega
    · rw [h1, Int.emod_self]; omega
  have e1 : k = who → cl r1 (2 * T + T + k) = cl r1 (2 * T + T + who) := by rintro rfl; rfl
  have hs : src = 0 ∨ src = 1 ∨ src = 2 ∨ src = 3 ∨ src = 4 := by omega
  rcases hs with rfl | rfl | rfl | rfl | rfl <;> unfold FS at hF <;> simp only [reduceCtorEq, Int.reduceEq, false_imp_iff, true_imp_iff, true_and, and_true, forall_const, imp_false, imp_self, not_false_eq_true] at hF
  all_goals
    repeat' (first
      | (refine TOK.br' (fun h => ?_) (fun h => ?_) <;> (try simp (disch := omega) only [d_cl, d_vi, d_vb, d_vr, d_ci, d_cb, d_nr, d_nl, d_add, d_sub, d_mul, d_rem, d_quo, d_bit, d_mn, d_mx, d_w, d_nn, d_bn, d_len, d_neg, d_at0, d_at1, d_at2, d_at3, d_at4, d_at5, d_at6, d_at7, d_set, d_app, d_cat, d_take, d_drop, d_rep, d_cons, d_lt_t, d_lt_f, d_le_t, d_le_f, d_eqi_t, d_eqi_f, d_eqb_t, d_eqb_f, d_nb_t, d_nb_f, nth0, nthS, w64, Int.mul_one, Int.reduceEq, not_true_eq_false, not_false_eq_true] at h) <;> (try (exfalso; omega)))
      | (with_reducible refine TOK.leaf' ?_))
  all_goals first
    | exact rfl
    | refine ⟨⟨rfl, _, _, _, _, _, _, _, _, _, _, _, _, _, _, _, _, _, rfl, ?_, ?_, ?_⟩, ?_⟩
  all_goals first
    | (unfold FB; simp (disch := omega) only [d_cl, d_vi, d_vb, d_vr, d_ci, d_cb, d_nr, d_nl, d_add, d_sub, d_mul, d_rem, d_quo, d_bit, d_mn, d_mx, d_w, d_nn, d_bn, d_len, d_neg, d_at0, d_at1, d_at2, d_at3, d_at4, d_at5, d_at6, d_at7, d_set, d_app, d_cat, d_take, d_drop, d_rep, d_cons, d_lt_t, d_lt_f, d_le_t, d_le_f, d_eqi_t, d_eqi_f, d_eqb_t, d_eqb_f, d_nb_t, d_nb_f, nth0, nthS, w64, tmod_pos, Int.mul_one, List.length_set, List.length_append, List.length_cons, List.length_nil]; (try split) <;> omega)
    | (unfold FC; intro j; have cj := hC j; simp (disch := omega) only [d_cl, d_vi, d_vb, d_vr, d_ci, d_cb, d_nr, d_nl, d_add, d_sub, d_mul, d_rem, d_quo, d_bit, d_mn, d_mx, d_w, d_nn, d_bn, d_len, d_neg, d_at0, d_at1, d_at2, d_at3, d_at4, d_at5, d_at6, d_at7, d_set, d_app, d_cat, d_take, d_drop, d_rep, d_cons, d_lt_t, d_lt_f, d_le_t, d_le_f, d_eqi_t, d_eqi_f, d_eqb_t, d_eqb_f, d_nb_t, d_nb_f, nth0, nthS, w64, Int.mul_one, cl_load]; (try rcases cl_or r1 _ j _ with e | e <;> rw [e]) <;> omega)
    | (unfold FS; simp (disch := omega) only [d_cl, d_vi, d_vb, d_vr, d_ci, d_cb, d_nr, d_nl, d_add, d_sub, d_mul, d_rem, d_quo, d_bit, d_mn, d_mx, d_w, d_nn, d_bn, d_len, d_neg, d_at0, d_at1, d_at2, d_at3, d_at4, d_at5, d_at6, d_at7, d_set, d_app, d_cat, d_take, d_drop, d_rep, d_cons, d_lt_t, d_lt_f, d_le_t, d_le_f, d_eqi_t, d_eqi_f, d_eqb_t, d_eqb_f, d_nb_t, d_nb_f, nth0, nthS, w64, Int.mul_one, cl_load, cl_self, cl_other, reduceCtorEq, Int.reduceEq, Int.reduceLT, Int.reduceLE, false_imp_iff, true_imp_iff, true_and, and_true, forall_const, imp_false, imp_self, not_false_eq_true]; (try split) <;> omega)
    | (left; simp (disch := omega) only [μ, Sb.val, List.map_cons, List.map_nil, d_vi, d_vb, d_vr, d_ci, d_cb, d_nr, d_nl, d_add, d_sub, d_mul, d_rem, d_quo, d_bit, d_mn, d_mx, d_w, d_nn, d_bn, d_len, d_neg, d_at0, d_at1, d_at2, d_at3, d_at4, d_at5, d_at6, d_at7, d_set, d_app, d_cat, d_take, d_drop, d_rep, d_cons, d_lt_t, d_lt_f, d_le_t, d_le_f, d_eqi_t, d_eqi_f, d_eqb_t, d_eqb_f, d_nb_t, d_nb_f, nth0, nthS, w64] <;> omega)
/-- At the begin. -/
theorem sS (a0 a1 a2 a3 : Int) (l4 : List (List Int)) : TOK ⟨[a0, a1, a2, a3], [], [l4], []⟩ (fun _ g => LgOK ⟨[a0, a1, a2, a3], [], [l4], []⟩ Inv g) trS := by
  unfold trS
  have hT : 0 ≤ a0 % 4 ∧ a0 % 4 < 4 := by omega
  have hS : 0 ≤ (IntKind.u64.wrap a1) % 5 ∧ (IntKind.u64.wrap a1) % 5 < 5 := by omega
  have hD : 0 ≤ a2 % 4 ∧ a2 % 4 < 4 := by omega
  have hW : 0 ≤ (a3 % 65536) % (1 + a0 % 4) ∧ (a3 % 65536) % (1 + a0 % 4) < 1 + a0 % 4 := ⟨Int.emod_nonneg _ (by omega), Int.emod_lt_of_pos _ (by omega)⟩
  have hU : 0 ≤ IntKind.u64.wrap a1 ∧ IntKind.u64.wrap a1 ≤ 18446744073709551615 := by rw [wu64']; omega
  have hm : 0 ≤ ((a3 % 65536) % (1 + a0 % 4) + 1) % (1 + a0 % 4) ∧ ((a3 % 65536) % (1 + a0 % 4) + 1) % (1 + a0 % 4) < 1 + a0 % 4 ∧ (1 < 1 + a0 % 4 → ((a3 % 65536) % (1 + a0 % 4) + 1) % (1 + a0 % 4) ≠ (a3 % 65536) % (1 + a0 % 4)) := by
    refine ⟨Int.emod_nonneg _ (by omega), Int.emod_lt_of_pos _ (by omega), fun h => ?_⟩
    rcases (by omega : (a3 % 65536) % (1 + a0 % 4) + 1 < 1 + a0 % 4 ∨ (a3 % 65536) % (1 + a0 % 4) + 1 = 1 + a0 % 4) with h1 | h1
    · rw [Int.emod_eq_of_lt (by omega) h1]; omega
    · rw [h1, Int.emod_self]; omega
  refine TOK.br' (fun h => ?_) (fun h => ?_)
  · exact rfl
  simp (disch := omega) only [d_vi, d_vb, d_vr, d_ci, d_cb, d_nr, d_nl, d_add, d_sub, d_mul, d_rem, d_quo, d_bit, d_mn, d_mx, d_w, d_nn, d_bn, d_len, d_neg, d_at0, d_at1, d_at2, d_at3, d_at4, d_at5, d_at6, d_at7, d_set, d_app, d_cat, d_take, d_drop, d_rep, d_cons, d_lt_t, d_lt_f, d_le_t, d_le_f, d_eqi_t, d_eqi_f, d_eqb_t, d_eqb_f, d_nb_t, d_nb_f, nth0, nthS] at h
  refine ⟨rfl, _, _, _, _, _, _, _, _, _, _, _, _, _, _, _, _, _, rfl, ?_, ?_, ?_⟩
  · unfold FB
    simp (disch := omega) only [d_vi, d_vb, d_vr, d_ci, d_cb, d_nr, d_nl, d_add, d_sub, d_mul, d_rem, d_quo, d_bit, d_mn, d_mx, d_w, d_nn, d_bn, d_len, d_neg, d_at0, d_at1, d_at2, d_at3, d_at4, d_at5, d_at6, d_at7, d_set, d_app, d_cat, d_take, d_drop, d_rep, d_cons, d_lt_t, d_lt_f, d_le_t, d_le_f, d_eqi_t, d_eqi_f, d_eqb_t, d_eqb_f, d_nb_t, d_nb_f, nth0, nthS, and3, and65535, w64, wu64, tmod_pos, List.length_replicate, List.length_nil, Int.mul_one]
    omega
  · intro j
    simp (disch := omega) only [d_vi, d_vb, d_vr, d_ci, d_cb, d_nr, d_nl, d_add, d_sub, d_mul, d_rem, d_quo, d_bit, d_mn, d_mx, d_w, d_nn, d_bn, d_len, d_neg, d_at0, d_at1, d_at2, d_at3, d_at4, d_at5, d_at6, d_at7, d_set, d_app, d_cat, d_take, d_drop, d_rep, d_cons, d_lt_t, d_lt_f, d_le_t, d_le_f, d_eqi_t, d_eqi_f, d_eqb_t, d_eqb_f, d_nb_t, d_nb_f, nth0, nthS, cl_rep]
    omega
  · unfold FS
    simp (disch := omega) only [d_vi, d_vb, d_vr, d_ci, d_cb, d_nr, d_nl, d_add, d_sub, d_mul, d_rem, d_quo, d_bit, d_mn, d_mx, d_w, d_nn, d_bn, d_len, d_neg, d_at0, d_at1, d_at2, d_at3, d_at4, d_at5, d_at6, d_at7, d_set, d_app, d_cat, d_take, d_drop, d_rep, d_cons, d_lt_t, d_lt_f, d_le_t, d_le_f, d_eqi_t, d_eqi_f, d_eqb_t, d_eqb_f, d_nb_t, d_nb_f, nth0, nthS, and3, and65535, w64, wu64, tmod_pos, cl_rep, reduceCtorEq, Int.reduceEq, Int.reduceLT, Int.reduceLE, Int.reduceNeg, Int.reduceAdd, false_imp_iff, true_imp_iff, true_and, and_true, forall_const, imp_false, imp_self, implies_true, not_false_eq_true]
    omega
theorem TickRises_walk (a0 a1 a2 a3 : Int) (A4 : Option Addr) (n4 c4 : Nat) (l4 : List (List Int)) (w : World) (wa0 : (Lit.int .i64 a0).wf = true) (wa1 : (Lit.int .i64 a1).wf = true) (wa2 : (Lit.int .i64 a2).wf = true) (wa3 : (Lit.int .i64 a3).wf = true) (hr4 : ArgRow w [.i .i64] A4 n4 c4 l4) :
    Calls Try.prog 17 #[.int .i64 a0, .int .i64 a1, .int .i64 a2, .int .i64 a3, .slice A4 n4 c4] w fun e w' => e = .returned (.bool true) ∧ Below w.heap.size w w' :=
  law_calls (v := ⟨[a0, a1, a2, a3], [], [l4], []⟩) (l := [⟨A4, n4, c4, [.i .i64], l4⟩]) (args := args) (args' := [.int .i64 a0, .int .i64 a1, .int .i64 a2, .int .i64 a3, .slice A4 n4 c4]) hI0 hfn hbod (by decide) rfl (by simpa using hr4)
    (.cons (.int _ _) (.cons (.int _ _) (.cons (.int _ _) (.cons (.int _ _) (.cons (arg_slice (id := 0) (s := ⟨A4, n4, c4, [.i .i64], l4⟩) (l := [⟨A4, n4, c4, [.i .i64], l4⟩]) rfl rfl hr4) (.nil _))))))
    (aw ⟨[a0, a1, a2, a3], [], [l4], []⟩ Inv μ KV.nil k0 (sS a0 a1 a2 a3 l4) s0)
end Go.Proofs.Ytnkgkdhddaongaa.KTickRises
