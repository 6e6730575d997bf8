/- The law TickMost of tick: how many steps a stamp takes by itself, and at most: it answers true for all numbers. No condition. -/
import Derived.Test.YtnkgkdhddaongaaOwnTickMostS
set_option linter.unusedVariables false
set_option linter.unusedSimpArgs false
set_option maxRecDepth 100000
set_option maxHeartbeats 4000000
namespace Go.Proofs.Ytnkgkdhddaongaa.KTickMost
open Go Go.Lib Go.Proofs.Ytnkgkdhddaongaa.Eng Go.Proofs.Ytnkgkdhddaongaa.Sy Go.RowKit

abbrev pL : Pos := [0, 0, 1, 1, 1, 1, 1, 1, 1, 1]
/-- What holds at the loop. -/
def FB (now n T src D who ph : Int) (r0 r1 : List (List Int)) : Prop :=
  1 ≤ T ∧ T ≤ 4 ∧ 0 ≤ src ∧ src ≤ 4 ∧ 0 ≤ D ∧ D ≤ 3 ∧ 0 ≤ now ∧ now ≤ 65535 ∧ 0 ≤ who ∧ who < T ∧ 0 ≤ n ∧ n ≤ 5 ∧ (r0.length : Int) = 4 * T ∧ (r1.length : Int) ≤ n ∧ (ph = 0 ∨ ph = 1)
def F0 (now n T src D a ph : Int) : Prop := ph = 0 → (src = 0 → n = 0) ∧ (src = 1 → n ≤ T ∧ a = 0) ∧ (src = 2 → n ≤ 2 ∧ (1 ≤ n → a = 0)) ∧ (src = 3 → n = 0) ∧ (src = 4 → n ≤ D + 1 ∧ (1 ≤ n → a = now))
def F1 (n T src D ph : Int) : Prop := ph = 1 → (src = 0 → n = 1) ∧ (src = 1 → n = T + 1) ∧ (src = 2 → n = 3) ∧ (src = 3 → n = 1) ∧ (src = 4 → n = D + 2)
def F (now n T src D who a ph : Int) (r0 r1 : List (List Int)) : Prop :=
  FB now n T src D who ph r0 r1 ∧ F0 now n T src D a ph ∧ F1 n T src D ph ∧ (ph = 0 → r0 = List.replicate (4 * T).toNat [0])
def Inv (p : Pos) (v : Val) : Prop := p = pL ∧ ∃ (now n T src D who a b lo hi ph : Int) (r0 r1 : List (List Int)), v = ⟨[now, n, T, 1, src, D, T, 1, src, D, who, n, a, b, lo, hi, ph], [], [r0, r1], []⟩ ∧ F now n T src D who a ph r0 r1
def μ (q : Pos × Val) : Nat × Nat := ((500 - nth 0 q.2.i 1).toNat, 0)
theorem getRep (k i : Nat) : nth 0 ((List.replicate k [(0 : Int)]).getD i []) 0 = 0 := by
  rw [List.getD_eq_getElem?_getD, List.getElem?_replicate]
  split <;> rfl
theorem setRep (k i : Nat) : (List.replicate k [(0 : Int)]).set i [0] = List.replicate k [0] := by
  apply List.ext_getElem?
  intro j
  rw [List.getElem?_set, List.getElem?_replicate]
  split
  · rename_i h; subst h; simp
  · rfl
theorem k0 : ∀ v, Inv pL v → KV v tm0.kn := by
  rintro v ⟨_, now, n, T, src, D, who, a, b, lo, hi, ph, r0, r1, rfl, ⟨hB1, hB2, hB3, hB4, hB5, hB6, hB7, hB8, hB9, hB10, hB11, hB12, hB13, hB14, hB15⟩, _⟩
  unfold tm0
  repeat' (first | exact KV.nil | refine KV.cons ?_ ?_)
  all_goals (simp (disch := omega) only [d_vi, d_vb, d_vr, d_ci, d_cb, d_nr, d_nl, d_add, d_sub, d_mul, d_rem, d_quo, d_bit, d_mn, d_mx, d_w, d_nn, d_bn, d_len, d_neg, d_at0, d_at1, d_at2, d_at3, d_at4, d_at5, d_at6, d_at7, d_set, d_app, d_cat, d_take, d_drop, d_rep, d_cons, d_lt_t, d_lt_f, d_le_t, d_le_f, d_eqi_t, d_eqi_f, d_eqb_t, d_eqb_f, d_nb_t, d_nb_f, nth0, nthS, w64]; omega)
theorem s0 : ∀ v, Inv pL v → TOK v (fun _ g => LgOK v (fun q u => Inv q u ∧ lt2 μ (q, u) (pL, v)) g) tr0 := by
  rintro v ⟨_, now, n, T, src, D, who, a, b, lo, hi, ph, r0, r1, rfl, ⟨hB1, hB2, hB3, hB4, hB5, hB6, hB7, hB8, hB9, hB10, hB11, hB12, hB13, hB14, hB15⟩, hF0, hF1, hr⟩
  unfold tr0
  rcases hB15 with rfl | rfl
  · have hr := hr rfl
    subst hr
    have hF0 := hF0 rfl
    clear hF1
    rcases (by omega : src = 0 ∨ src = 1 ∨ src = 2 ∨ src = 3 ∨ src = 4) with rfl | rfl | rfl | rfl | rfl <;> simp only [reduceCtorEq, Int.reduceEq, false_imp_iff, true_imp_iff, true_and, and_true, forall_const, imp_false, imp_self, not_false_eq_true] at hF0
    repeat' (first
      | (refine TOK.br' (fun h => ?_) (fun h => ?_) <;> (try simp (disch := omega) only [d_vi, d_vb, d_vr, d_ci, d_cb, d_nr, d_nl, d_add, d_sub, d_mul, d_rem, d_quo, d_bit, d_mn, d_mx, d_w, d_nn, d_bn, d_len, d_neg, d_at0, d_at1, d_at2, d_at3, d_at4, d_at5, d_at6, d_at7, d_set, d_app, d_cat, d_take, d_drop, d_rep, d_cons, d_lt_t, d_lt_f, d_le_t, d_le_f, d_eqi_t, d_eqi_f, d_eqb_t, d_eqb_f, d_nb_t, d_nb_f, nth0, nthS, w64, wu64, tmod_pos, getRep, setRep, List.length_replicate, Int.reduceEq, Int.reduceLT, Int.reduceLE, Int.reduceAdd, Int.reduceSub, Int.reduceMul, Int.reduceNeg, Int.reduceToNat, List.nil_append, List.cons_append, List.getD_cons_succ, List.getD_cons_zero, not_true_eq_false, not_false_eq_true, ite_self, ite_true, ite_false, if_true, if_false] at h) <;> (try (exfalso; omega)))
      | (with_reducible refine TOK.leaf' ?_))
    all_goals refine ⟨⟨rfl, _, _, _, _, _, _, _, _, _, _, _, _, _, rfl, ⟨?_, ?_, ?_, ?_⟩⟩, ?_⟩
    all_goals first
      | (unfold FB; simp (disch := omega) only [d_vi, d_vb, d_vr, d_ci, d_cb, d_nr, d_nl, d_add, d_sub, d_mul, d_rem, d_quo, d_bit, d_mn, d_mx, d_w, d_nn, d_bn, d_len, d_neg, d_at0, d_at1, d_at2, d_at3, d_at4, d_at5, d_at6, d_at7, d_set, d_app, d_cat, d_take, d_drop, d_rep, d_cons, d_lt_t, d_lt_f, d_le_t, d_le_f, d_eqi_t, d_eqi_f, d_eqb_t, d_eqb_f, d_nb_t, d_nb_f, nth0, nthS, w64, setRep, List.length_replicate, List.length_set, List.length_append, List.length_cons, List.length_nil, Int.reduceEq, Int.reduceLT, Int.reduceLE, Int.reduceAdd, Int.reduceSub, Int.reduceMul, Int.reduceNeg, Int.reduceToNat, List.nil_append, List.cons_append, List.getD_cons_succ, List.getD_cons_zero, not_true_eq_false, not_false_eq_true,  eq_self, implies_true, or_true, true_or, and_true, true_and, false_or, or_false, true_imp_iff, false_imp_iff, imp_self,  ite_true] <;> omega)
      | (unfold F0; simp (disch := omega) only [d_vi, d_vb, d_vr, d_ci, d_cb, d_nr, d_nl, d_add, d_sub, d_mul, d_rem, d_quo, d_bit, d_mn, d_mx, d_w, d_nn, d_bn, d_len, d_neg, d_at0, d_at1, d_at2, d_at3, d_at4, d_at5, d_at6, d_at7, d_set, d_app, d_cat, d_take, d_drop, d_rep, d_cons, d_lt_t, d_lt_f, d_le_t, d_le_f, d_eqi_t, d_eqi_f, d_eqb_t, d_eqb_f, d_nb_t, d_nb_f, nth0, nthS, w64, wu64, getRep, Int.reduceEq, Int.reduceLT, Int.reduceLE, Int.reduceAdd, Int.reduceSub, Int.reduceMul, Int.reduceNeg, Int.reduceToNat, List.nil_append, List.cons_append, List.getD_cons_succ, List.getD_cons_zero, not_true_eq_false, not_false_eq_true,  eq_self, implies_true, or_true, true_or, and_true, true_and, false_or, or_false, true_imp_iff, false_imp_iff, imp_self,  ite_true, ite_false, if_true, if_false] <;> (try split) <;> omega)
      | (unfold F1; simp (disch := omega) only [d_vi, d_vb, d_vr, d_ci, d_cb, d_nr, d_nl, d_add, d_sub, d_mul, d_rem, d_quo, d_bit, d_mn, d_mx, d_w, d_nn, d_bn, d_len, d_neg, d_at0, d_at1, d_at2, d_at3, d_at4, d_at5, d_at6, d_at7, d_set, d_app, d_cat, d_take, d_drop, d_rep, d_cons, d_lt_t, d_lt_f, d_le_t, d_le_f, d_eqi_t, d_eqi_f, d_eqb_t, d_eqb_f, d_nb_t, d_nb_f, nth0, nthS, w64, Int.reduceEq, Int.reduceLT, Int.reduceLE, Int.reduceAdd, Int.reduceSub, Int.reduceMul, Int.reduceNeg, Int.reduceToNat, List.nil_append, List.cons_append, List.getD_cons_succ, List.getD_cons_zero, not_true_eq_false, not_false_eq_true,  eq_self, implies_true, or_true, true_or, and_true, true_and, false_or, or_false, true_imp_iff, false_imp_iff, imp_self,  ite_true] <;> omega)
      | (intro hp; first | (exfalso; revert hp; simp only [d_vi, d_vb, d_vr, d_ci, d_cb, d_nr, d_nl, d_add, d_sub, d_mul, d_rem, d_quo, d_bit, d_mn, d_mx, d_w, d_nn, d_bn, d_len, d_neg, d_at0, d_at1, d_at2, d_at3, d_at4, d_at5, d_at6, d_at7, d_set, d_app, d_cat, d_take, d_drop, d_rep, d_cons, d_lt_t, d_lt_f, d_le_t, d_le_f, d_eqi_t, d_eqi_f, d_eqb_t, d_eqb_f, d_nb_t, d_nb_f, nth0, nthS, Int.reduceEq, Int.reduceLT, Int.reduceLE, Int.reduceAdd, Int.reduceSub, Int.reduceMul, Int.reduceNeg, Int.reduceToNat, List.nil_append, List.cons_append, List.getD_cons_succ, List.getD_cons_zero, not_true_eq_false, not_false_eq_true,  eq_self, implies_true, or_true, true_or, and_true, true_and, false_or, or_false, true_imp_iff, false_imp_iff, imp_self,  ite_true] <;> omega) | (simp only [d_vi, d_vb, d_vr, d_ci, d_cb, d_nr, d_nl, d_add, d_sub, d_mul, d_rem, d_quo, d_bit, d_mn, d_mx, d_w, d_nn, d_bn, d_len, d_neg, d_at0, d_at1, d_at2, d_at3, d_at4, d_at5, d_at6, d_at7, d_set, d_app, d_cat, d_take, d_drop, d_rep, d_cons, d_lt_t, d_lt_f, d_le_t, d_le_f, d_eqi_t, d_eqi_f, d_eqb_t, d_eqb_f, d_nb_t, d_nb_f, nth0, nthS, getRep, setRep]; done))
      | (left; simp (disch := omega) only [μ, Sb.val, List.map_cons, List.map_nil, d_vi, d_vb, d_vr, d_ci, d_cb, d_nr, d_nl, d_add, d_sub, d_mul, d_rem, d_quo, d_bit, d_mn, d_mx, d_w, d_nn, d_bn, d_len, d_neg, d_at0, d_at1, d_at2, d_at3, d_at4, d_at5, d_at6, d_at7, d_set, d_app, d_cat, d_take, d_drop, d_rep, d_cons, d_lt_t, d_lt_f, d_le_t, d_le_f, d_eqi_t, d_eqi_f, d_eqb_t, d_eqb_f, d_nb_t, d_nb_f, nth0, nthS, w64] <;> omega)
  · have hF1 := hF1 rfl
    clear hr hF0
    rcases (by omega : src = 0 ∨ src = 1 ∨ src = 2 ∨ src = 3 ∨ src = 4) with rfl | rfl | rfl | rfl | rfl <;> simp only [reduceCtorEq, Int.reduceEq, false_imp_iff, true_imp_iff, true_and, and_true, forall_const, imp_false, imp_self, not_false_eq_true] at hF1 <;> subst hF1
    repeat' (first
      | (refine TOK.br' (fun h => ?_) (fun h => ?_) <;> (try simp (disch := omega) only [d_vi, d_vb, d_vr, d_ci, d_cb, d_nr, d_nl, d_add, d_sub, d_mul, d_rem, d_quo, d_bit, d_mn, d_mx, d_w, d_nn, d_bn, d_len, d_neg, d_at0, d_at1, d_at2, d_at3, d_at4, d_at5, d_at6, d_at7, d_set, d_app, d_cat, d_take, d_drop, d_rep, d_cons, d_lt_t, d_lt_f, d_le_t, d_le_f, d_eqi_t, d_eqi_f, d_eqb_t, d_eqb_f, d_nb_t, d_nb_f, nth0, nthS, w64, wu64, tmod_pos, getRep, setRep, List.length_replicate, Int.reduceEq, Int.reduceLT, Int.reduceLE, Int.reduceAdd, Int.reduceSub, Int.reduceMul, Int.reduceNeg, Int.reduceToNat, List.nil_append, List.cons_append, List.getD_cons_succ, List.getD_cons_zero, not_true_eq_false, not_false_eq_true, ite_self, ite_true, ite_false, if_true, if_false] at h) <;> (try (exfalso; omega)))
      | (with_reducible refine TOK.leaf' ?_))
    all_goals (show (den _ _).b = true; simp (disch := omega) only [d_vi, d_vb, d_vr, d_ci, d_cb, d_nr, d_nl, d_add, d_sub, d_mul, d_rem, d_quo, d_bit, d_mn, d_mx, d_w, d_nn, d_bn, d_len, d_neg, d_at0, d_at1, d_at2, d_at3, d_at4, d_at5, d_at6, d_at7, d_set, d_app, d_cat, d_take, d_drop, d_rep, d_cons, d_lt_t, d_lt_f, d_le_t, d_le_f, d_eqi_t, d_eqi_f, d_eqb_t, d_eqb_f, d_nb_t, d_nb_f, nth0, nthS, w64, Int.reduceEq, Int.reduceLT, Int.reduceLE, Int.reduceAdd, Int.reduceSub, Int.reduceMul, Int.reduceNeg, Int.reduceToNat, List.nil_append, List.cons_append, List.getD_cons_succ, List.getD_cons_zero, not_true_eq_false, not_false_eq_true,  eq_self, implies_true, or_true, true_or, and_true, true_and, false_or, or_false, true_imp_iff, false_imp_iff, imp_self,  ite_true, ite_false, if_true, if_false] <;> omega)
/-- At the begin. -/
theorem sS (a0 a1 a2 a3 a4 : Int) : TOK ⟨[a0, a1, a2, a3, a4], [], [], []⟩ (fun _ g => LgOK ⟨[a0, a1, a2, a3, a4], [], [], []⟩ Inv g) trS := by
  unfold trS
  have hT : 0 ≤ a0 % 4 ∧ a0 % 4 < 4 := by omega
  have hS : 0 ≤ (IntKind.u64.wrap a1) % 5 ∧ (IntKind.u64.wrap a1) % 5 < 5 := by omega
  have hW : 0 ≤ (a3 % 65536) % (1 + a0 % 4) ∧ (a3 % 65536) % (1 + a0 % 4) < 1 + a0 % 4 := ⟨Int.emod_nonneg _ (by omega), Int.emod_lt_of_pos _ (by omega)⟩
  have hU : 0 ≤ IntKind.u64.wrap a1 ∧ IntKind.u64.wrap a1 ≤ 18446744073709551615 := by rw [wu64']; omega
  repeat' (first
    | (refine TOK.br' (fun h => ?_) (fun h => ?_) <;> (try simp (disch := omega) only [d_vi, d_vb, d_vr, d_ci, d_cb, d_nr, d_nl, d_add, d_sub, d_mul, d_rem, d_quo, d_bit, d_mn, d_mx, d_w, d_nn, d_bn, d_len, d_neg, d_at0, d_at1, d_at2, d_at3, d_at4, d_at5, d_at6, d_at7, d_set, d_app, d_cat, d_take, d_drop, d_rep, d_cons, d_lt_t, d_lt_f, d_le_t, d_le_f, d_eqi_t, d_eqi_f, d_eqb_t, d_eqb_f, d_nb_t, d_nb_f, nth0, nthS, and3, and65535, w64, wu64, tmod_pos] at h) <;> (try (exfalso; omega)))
    | (with_reducible refine TOK.leaf' ?_))
  refine ⟨rfl, _, _, _, _, _, _, _, _, _, _, _, _, _, rfl, ⟨?_, ?_, ?_, ?_⟩⟩
  · unfold FB; simp (disch := omega) only [d_vi, d_vb, d_vr, d_ci, d_cb, d_nr, d_nl, d_add, d_sub, d_mul, d_rem, d_quo, d_bit, d_mn, d_mx, d_w, d_nn, d_bn, d_len, d_neg, d_at0, d_at1, d_at2, d_at3, d_at4, d_at5, d_at6, d_at7, d_set, d_app, d_cat, d_take, d_drop, d_rep, d_cons, d_lt_t, d_lt_f, d_le_t, d_le_f, d_eqi_t, d_eqi_f, d_eqb_t, d_eqb_f, d_nb_t, d_nb_f, nth0, nthS, and3, and65535, w64, wu64, tmod_pos, if_pos, if_neg, List.length_replicate, List.length_nil, eq_self, true_or, and_true]
    refine ⟨by omega, by omega, by omega, by omega, by omega, by omega, by omega, by omega, by omega, by omega, by omega, by omega, by omega, ?_⟩
    simp
  · unfold F0; simp (disch := omega) only [d_vi, d_vb, d_vr, d_ci, d_cb, d_nr, d_nl, d_add, d_sub, d_mul, d_rem, d_quo, d_bit, d_mn, d_mx, d_w, d_nn, d_bn, d_len, d_neg, d_at0, d_at1, d_at2, d_at3, d_at4, d_at5, d_at6, d_at7, d_set, d_app, d_cat, d_take, d_drop, d_rep, d_cons, d_lt_t, d_lt_f, d_le_t, d_le_f, d_eqi_t, d_eqi_f, d_eqb_t, d_eqb_f, d_nb_t, d_nb_f, nth0, nthS, and3, and65535, w64, wu64, tmod_pos]; exact fun _ => ⟨fun _ => trivial, fun _ => ⟨by omega, trivial⟩, fun _ => ⟨by omega, fun _ => trivial⟩, fun _ => trivial, fun _ => ⟨by omega, fun h => absurd h (by decide)⟩⟩
  · unfold F1; simp (disch := omega) only [d_vi, d_vb, d_vr, d_ci, d_cb, d_nr, d_nl, d_add, d_sub, d_mul, d_rem, d_quo, d_bit, d_mn, d_mx, d_w, d_nn, d_bn, d_len, d_neg, d_at0, d_at1, d_at2, d_at3, d_at4, d_at5, d_at6, d_at7, d_set, d_app, d_cat, d_take, d_drop, d_rep, d_cons, d_lt_t, d_lt_f, d_le_t, d_le_f, d_eqi_t, d_eqi_f, d_eqb_t, d_eqb_f, d_nb_t, d_nb_f, nth0, nthS, Int.reduceEq, false_imp_iff]
  · intro _; simp (disch := omega) only [d_vi, d_vb, d_vr, d_ci, d_cb, d_nr, d_nl, d_add, d_sub, d_mul, d_rem, d_quo, d_bit, d_mn, d_mx, d_w, d_nn, d_bn, d_len, d_neg, d_at0, d_at1, d_at2, d_at3, d_at4, d_at5, d_at6, d_at7, d_set, d_app, d_cat, d_take, d_drop, d_rep, d_cons, d_lt_t, d_lt_f, d_le_t, d_le_f, d_eqi_t, d_eqi_f, d_eqb_t, d_eqb_f, d_nb_t, d_nb_f, nth0, nthS, and3, and65535, w64, wu64, tmod_pos, if_pos, if_neg]; rw [show (2 * ((1 + a0 % 4) * 1) + 2 * (1 + a0 % 4)) = 4 * (1 + a0 % 4) by omega]
theorem TickMost_walk (a0 a1 a2 a3 a4 : Int) (w : World) (wa0 : (Lit.int .i64 a0).wf = true) (wa1 : (Lit.int .i64 a1).wf = true) (wa2 : (Lit.int .i64 a2).wf = true) (wa3 : (Lit.int .i64 a3).wf = true) (wa4 : (Lit.int .i64 a4).wf = true) :
    Calls Try.prog 15 #[.int .i64 a0, .int .i64 a1, .int .i64 a2, .int .i64 a3, .int .i64 a4] w fun e w' => e = .returned (.bool true) ∧ Below w.heap.size w w' :=
  law_calls (v := ⟨[a0, a1, a2, a3, a4], [], [], []⟩) (l := []) (args := args) (args' := [.int .i64 a0, .int .i64 a1, .int .i64 a2, .int .i64 a3, .int .i64 a4]) hI0 hfn hbod (by decide) rfl (by simp)
    (.cons (.int _ _) (.cons (.int _ _) (.cons (.int _ _) (.cons (.int _ _) (.cons (.int _ _) (.nil _))))))
    (aw ⟨[a0, a1, a2, a3, a4], [], [], []⟩ Inv μ k0 (sS a0 a1 a2 a3 a4) s0)
end Go.Proofs.Ytnkgkdhddaongaa.KTickMost
