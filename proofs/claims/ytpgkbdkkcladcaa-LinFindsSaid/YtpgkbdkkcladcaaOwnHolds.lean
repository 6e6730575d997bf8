/- The contract of stackyardlaw15.Holds: may calls have been done in this order? A lemma file: conditions are those of the contract's 'kn'. -/
import Derived.Test.YtpgkbdkkcladcaaOwnHoldsS
import Derived.Test.YtpgkbdkkcladcaaOwnWin15
set_option linter.unusedVariables false
set_option linter.unusedSimpArgs false
set_option maxRecDepth 100000
set_option maxHeartbeats 4000000
namespace Go.Proofs.Ytpgkbdkkcladcaa.FHolds
open Go Go.Lib Go.Proofs.Ytpgkbdkkcladcaa.Eng Go.Proofs.Ytpgkbdkkcladcaa.Sy
theorem tboth {v : Val} {α : Type} {ψ : Kn → α → Prop} {t e : Tree α} (h1 : TOK v ψ t) (h2 : TOK v ψ e) : TOK v ψ (.both t e) := ⟨h1, h2⟩
theorem d_at8 {v : Val} {a b : E} : (den v (.o3 .at a b (.ci 8))).i = nth 0 ((den v a).r.getD (den v b).i.toNat []) 8 := rfl
theorem d_at9 {v : Val} {a b : E} : (den v (.o3 .at a b (.ci 9))).i = nth 0 ((den v a).r.getD (den v b).i.toNat []) 9 := rfl
theorem d_at10 {v : Val} {a b : E} : (den v (.o3 .at a b (.ci 10))).i = nth 0 ((den v a).r.getD (den v b).i.toNat []) 10 := rfl
/-- The order, as a list of numbers. -/
def os (O : Row) (n : Int) : List Int := (O.take n.toNat).map fun x => nth 0 x 0
theorem os_drop {O : Row} {n i : Int} (h0 : 0 ≤ i) (h1 : i < n) (h2 : n ≤ (O.length : Int)) : (os O n).drop i.toNat = cl O i :: (os O n).drop (i + 1).toNat := by
  have hl : (os O n).length = n.toNat := by unfold os; rw [List.length_map, List.length_take]; omega
  rw [List.drop_eq_getElem_cons (by omega : i.toNat < (os O n).length), show (i + 1).toNat = i.toNat + 1 by omega]
  congr 1
  unfold os cl
  rw [List.getElem_map, List.getElem_take, List.getD_eq_getElem?_getD, List.getElem?_eq_getElem (by omega : i.toNat < O.length)]
  rfl
theorem os_end {O : Row} {n i : Int} (h : n ≤ i) : (os O n).drop i.toNat = [] := by
  refine List.drop_of_length_le ?_
  unfold os; rw [List.length_map, List.length_take]; omega
section
variable (L O : Row) (n : Int)
def tot : Option Row := runH L (os O n) 0 (List.replicate L.length [0]) []
def g1 (A : Row) (i : Nat) : Bool := !(decide (0 ≤ nth 0 (L.getD i []) 6) && decide (cl A i = 0)) && (List.range L.length).all fun k => !badH L A i k
def Inv (p : Nat) (v : Val) : Prop :=
  (p = 0 ∧ ∃ i R A, v = ⟨[n, n, i], [], [L, O, R, A], [], Φ⟩ ∧ 0 ≤ i ∧ i ≤ n ∧ (R.length : Int) ≤ i ∧ A.length = L.length ∧ runH L ((os O n).drop i.toNat) i A R = tot L O n) ∨
  (p = 1 ∧ ∃ e w i R A, v = ⟨[e, w, n, n, i], [], [L, O, R, A], [], Φ⟩ ∧ 0 ≤ i ∧ i ≤ n ∧ 0 ≤ e ∧ 0 ≤ w ∧ e + w ≤ (R.length : Int) ∧ w ≤ i ∧ A.length = L.length ∧ runH L ((os O n).drop i.toNat) i A (winR e w R) = tot L O n) ∨
  (p = 2 ∧ ∃ i A, v = ⟨[i], [], [L, O, A], [], Φ⟩ ∧ 0 ≤ i ∧ i ≤ (L.length : Int) ∧ A.length = L.length ∧ tot L O n = some A ∧ (List.range i.toNat).all (g1 L A) = true) ∨
  (p = 3 ∧ ∃ i k A, v = ⟨[i, k, nth 0 (L.getD i.toNat []) 0, nth 0 (L.getD i.toNat []) 1, nth 0 (L.getD i.toNat []) 2, nth 0 (L.getD i.toNat []) 3, nth 0 (L.getD i.toNat []) 4, nth 0 (L.getD i.toNat []) 5, nth 0 (L.getD i.toNat []) 6, nth 0 (L.getD i.toNat []) 8, nth 0 (L.getD i.toNat []) 9, nth 0 (L.getD i.toNat []) 10], [nbz (nth 0 (L.getD i.toNat []) 7)], [L, O, A], [], Φ⟩ ∧ 0 ≤ i ∧ i < (L.length : Int) ∧ 0 ≤ k ∧ k ≤ (L.length : Int) ∧ A.length = L.length ∧ tot L O n = some A ∧ (List.range i.toNat).all (g1 L A) = true ∧
    (decide (0 ≤ nth 0 (L.getD i.toNat []) 6) && decide (cl A i = 0)) = false ∧ ((List.range k.toNat).all fun k => !badH L A i.toNat k) = true)
end
def μ (q : Nat × Val) : Nat × Nat := (match q.1 with
  | 0 => 5000 - (nth 0 q.2.i 2).toNat
  | 1 => 5000 - (nth 0 q.2.i 4).toNat
  | 2 => 20 * (100 - nth 0 q.2.i 0).toNat + 19
  | _ => 20 * (100 - nth 0 q.2.i 0).toNat + (9 - nth 0 q.2.i 1).toNat, 0)
abbrev Ret (u : Val) (k : Nat) (u' : Val) : Prop := ∃ σ po, Sel u fc.out (k, σ, po) ∧ u' = σ.val u
structure Kx (L O : Row) (n : Int) : Prop where
  l9 : (L.length : Int) ≤ 9
  n0 : 0 ≤ n
  no : n ≤ (O.length : Int)
  n9 : n ≤ 9
  rt : rightsF L = true
section
variable (u : Val) (L O : Row) (n : Int) (hu : u.f = Φ) (hk : KV u fc.kn) (h1 : nth [] u.r 0 = L) (h2 : nth [] u.r 1 = O) (h3 : nth 0 u.i 0 = n)
include hu h1 h2 h3
theorem retU (b : Bool) (hb : holdsM L (os O n) = b) : Ret u 0 ⟨[], [b], [], [], Φ⟩ := by
  refine ⟨_, _, rfl, ?_⟩
  have e1 : (den u (.o2 .bun (.o2 .cons (.vi 0) .nl) (.vr 0))).r = L := h1
  have e2 : (den u (.o2 .bun (.o2 .cons (.vi 0) .nl) (.vr 0))).l = [n] := by show [nth 0 u.i 0] = _; rw [h3]
  simp only [Sb.val, List.map_cons, List.map_nil, d_vi, d_vb, d_vr, d_ci, d_cb, d_nr, d_nl, d_add, d_sub, d_mul, d_rem, d_quo, d_bit, d_mn2, d_mx2, d_w, d_nn, d_bn2, d_len, d_neg, d_cl, d_at1, d_at2, d_at3, d_at4, d_at5, d_at6, d_at7, d_set, d_app, d_cat, d_take, d_drop, d_rep, d_cons, d_lt_t, d_lt_f, d_le_t, d_le_f, d_eqi_t, d_eqi_f, d_eqb_t, d_eqb_f, d_nb_t, d_nb_f, nth0, nthS, d_api, d_apr, D_cons, D_nl, D_nr, D_vr, D_set, mkL_l, mkR_r, mkI_i, d_shr2, d_shr3, d_shr16, d_shr40, d_shl2, d_shl3, d_shl16, d_shl40, d_apb, mkB_b, Φ627, hu, h1, h2, h3, ← hb, os, e1, e2]
include hk
theorem kx : Kx L O n := by
  unfold KV fc at hk
  simp only [List.forall_mem_cons, d_vi, d_vb, d_vr, d_ci, d_cb, d_nr, d_nl, d_add, d_sub, d_mul, d_rem, d_quo, d_bit, d_mn2, d_mx2, d_w, d_nn, d_bn2, d_len, d_neg, d_cl, d_at1, d_at2, d_at3, d_at4, d_at5, d_at6, d_at7, d_set, d_app, d_cat, d_take, d_drop, d_rep, d_cons, d_lt_t, d_lt_f, d_le_t, d_le_f, d_eqi_t, d_eqi_f, d_eqb_t, d_eqb_f, d_nb_t, d_nb_f, nth0, nthS, d_api, d_apr, D_cons, D_nl, D_nr, D_vr, D_set, mkL_l, mkR_r, mkI_i, d_shr2, d_shr3, d_shr16, d_shr40, d_shl2, d_shl3, d_shl16, d_shl40, d_apb, mkB_b, Φ603, hu, h1, h2, h3] at hk
  obtain ⟨a1, a2, a3, a4, a5, _⟩ := hk
  exact ⟨a1, a2, a3, a4, a5⟩
end
theorem run_bad {L o A R} {i x : Int} (h : x < 0 ∨ (L.length : Int) ≤ x ∨ ¬ cl A x = 0) : runH L (x :: o) i A R = none := by
  unfold runH; rw [if_pos h]
theorem run_no {L o A R} {i x : Int} (h : ¬ (x < 0 ∨ (L.length : Int) ≤ x ∨ ¬ cl A x = 0)) (h2 : stepO (ansD (L.getD x.toNat []) R) R = false) : runH L (x :: o) i A R = none := by
  unfold runH; rw [if_neg h, if_neg (by rw [h2]; decide)]
theorem run_yes {L o A R X} {i x : Int} (h : ¬ (x < 0 ∨ (L.length : Int) ≤ x ∨ ¬ cl A x = 0)) (h2 : stepO (ansD (L.getD x.toNat []) R) R = true) (h3 : stepR (ansD (L.getD x.toNat []) R) R = X) : runH L (x :: o) i A R = runH L o (i + 1) (A.set x.toNat [i + 1]) X := by
  conv => lhs; unfold runH
  rw [if_neg h, if_pos h2, h3]
theorem hold_none {L O n} (h : tot L O n = none) : holdsM L (os O n) = false := by
  unfold holdsM; unfold tot at h; rw [h]
theorem hold_some {L O n A} (h : tot L O n = some A) : holdsM L (os O n) = (List.range L.length).all (g1 L A) := by
  unfold holdsM; unfold tot at h; rw [h]; rfl
section
variable (u : Val) (L O : Row) (n : Int) (hu : u.f = Φ) (hk : KV u fc.kn) (h1 : nth [] u.r 0 = L) (h2 : nth [] u.r 1 = O) (h3 : nth 0 u.i 0 = n)
include hu hk h1 h2 h3
theorem s0 : ∀ v, Inv L O n 0 v → TOK v (fun _ g => LgFOK v (fun q w => Inv L O n q w ∧ lt2 μ (q, w) (0, v)) (Ret u) g) tr0 := by
  rintro v (⟨_, i, R, A, rfl, g0, g1, g2, g3, g4⟩ | ⟨h, _⟩ | ⟨h, _⟩ | ⟨h, _⟩) <;> try cases h
  have K := kx u L O n hu hk h1 h2 h3
  have k9 := K.n9; have kl := K.l9; have kn := K.no
  have rt : ∀ b, holdsM L (os O n) = b → Ret u 0 ⟨[], [b], [], [], Φ⟩ := retU u L O n hu h1 h2 h3
  unfold tr0
  refine TOK.br' (fun h => ?_) (fun h => ?_) <;> simp (disch := omega) only [d_vi, d_vb, d_vr, d_ci, d_cb, d_nr, d_nl, d_add, d_sub, d_mul, d_rem, d_quo, d_bit, d_mn2, d_mx2, d_w, d_nn, d_bn2, d_len, d_neg, d_cl, d_at1, d_at2, d_at3, d_at4, d_at5, d_at6, d_at7, d_set, d_app, d_cat, d_take, d_drop, d_rep, d_cons, d_lt_t, d_lt_n, d_le_t, d_le_n, d_eqi_t, d_eqi_f, d_eqb_t, d_eqb_f, d_nb_t, d_nb_f, nth0, nthS, d_api, d_apr, D_cons, D_nl, D_nr, D_vr, D_set, mkL_l, mkR_r, mkI_i, d_shr2, d_shr3, d_shr16, d_shr40, d_shl2, d_shl3, d_shl16, d_shl40, d_apb, mkB_b] at h
  · rw [os_drop g0 h K.no] at g4
    by_cases hx : cl O i < 0 ∨ (L.length : Int) ≤ cl O i ∨ ¬ cl A (cl O i) = 0
    · rw [run_bad hx] at g4
      have := rt _ (hold_none g4.symm)
      repeat' (first
        | (refine TOK.br' (fun g => ?_) (fun g => ?_) <;> simp (disch := omega) only [d_vi, d_vb, d_vr, d_ci, d_cb, d_nr, d_nl, d_add, d_sub, d_mul, d_rem, d_quo, d_bit, d_mn2, d_mx2, d_w, d_nn, d_bn2, d_len, d_neg, d_cl, d_at1, d_at2, d_at3, d_at4, d_at5, d_at6, d_at7, d_set, d_app, d_cat, d_take, d_drop, d_rep, d_cons, d_lt_t, d_lt_n, d_le_t, d_le_n, d_eqi_t, d_eqi_f, d_eqb_t, d_eqb_f, d_nb_t, d_nb_f, nth0, nthS, d_api, d_apr, D_cons, D_nl, D_nr, D_vr, D_set, mkL_l, mkR_r, mkI_i, d_shr2, d_shr3, d_shr16, d_shr40, d_shl2, d_shl3, d_shl16, d_shl40, d_apb, mkB_b] at g <;> (try (exfalso; omega)))
        | (with_reducible refine TOK.leaf' ?_))
      all_goals
        refine (show Ret u 0 _ from ?_)
        simp (disch := omega) only [Sb.val, List.map_cons, List.map_nil, d_vi, d_vb, d_vr, d_ci, d_cb, d_nr, d_nl, d_add, d_sub, d_mul, d_rem, d_quo, d_bit, d_mn2, d_mx2, d_w, d_nn, d_bn2, d_len, d_neg, d_cl, d_at1, d_at2, d_at3, d_at4, d_at5, d_at6, d_at7, d_set, d_app, d_cat, d_take, d_drop, d_rep, d_cons, d_lt_t, d_lt_f, d_le_t, d_le_f, d_eqi_t, d_eqi_f, d_eqb_t, d_eqb_f, d_nb_t, d_nb_f, nth0, nthS, d_api, d_apr, D_cons, D_nl, D_nr, D_vr, D_set, mkL_l, mkR_r, mkI_i, d_shr2, d_shr3, d_shr16, d_shr40, d_shl2, d_shl3, d_shl16, d_shl40, d_apb, mkB_b]
        exact this
    · rw [show runH L (cl O i :: (os O n).drop (i + 1).toNat) i A R = _ from rfl] at g4
      have y1 : 0 ≤ cl O i := by omega
      have y2 : cl O i < (L.length : Int) := by omega
      have y3 : cl A (cl O i) = 0 := by omega
      have hr := rt_at K.rt y1 y2
      have hr1 := rt01 hr
      have nxt0 : ∀ X, stepO (ansD (L.getD (cl O i).toNat []) R) R = true ∧ stepR (ansD (L.getD (cl O i).toNat []) R) R = X → (X.length : Int) ≤ i + 1 → Inv L O n 0 ⟨[n, n, i + 1], [], [L, O, X, A.set (cl O i).toNat [i + 1]], [], Φ⟩ ∧ lt2 μ (0, ⟨[n, n, i + 1], [], [L, O, X, A.set (cl O i).toNat [i + 1]], [], Φ⟩) (0, ⟨[n, n, i], [], [L, O, R, A], [], Φ⟩) := fun X z z3 =>
        ⟨.inl ⟨rfl, i + 1, X, _, rfl, by omega, by omega, z3, by rw [List.length_set]; exact g3, by rw [← g4, run_yes hx z.1 z.2]⟩, .inl (by show 5000 - (i + 1).toNat < 5000 - i.toNat; omega)⟩
      have nxt1 : ∀ e w, stepO (ansD (L.getD (cl O i).toNat []) R) R = true ∧ stepR (ansD (L.getD (cl O i).toNat []) R) R = winR e w R → 0 ≤ e → 0 ≤ w → e + w ≤ (R.length : Int) → Inv L O n 1 ⟨[e, w, n, n, i + 1], [], [L, O, R, A.set (cl O i).toNat [i + 1]], [], Φ⟩ ∧ lt2 μ (1, ⟨[e, w, n, n, i + 1], [], [L, O, R, A.set (cl O i).toNat [i + 1]], [], Φ⟩) (0, ⟨[n, n, i], [], [L, O, R, A], [], Φ⟩) := fun e w z z3 z4 z5 =>
        ⟨.inr (.inl ⟨rfl, e, w, i + 1, R, _, rfl, by omega, by omega, z3, z4, z5, by omega, by rw [List.length_set]; exact g3, by rw [← g4, run_yes hx z.1 z.2]⟩), .inl (by show 5000 - (i + 1).toNat < 5000 - i.toNat; omega)⟩
      have bad : stepO (ansD (L.getD (cl O i).toNat []) R) R = false → Ret u 0 ⟨[], [false], [], [], Φ⟩ := fun z => rt _ (hold_none (by rw [← g4]; exact run_no hx z))
      clear g4
      repeat' (first
        | (refine TOK.br' (fun g => ?_) (fun g => ?_) <;> simp (disch := omega) only [d_vi, d_vb, d_vr, d_ci, d_cb, d_nr, d_nl, d_add, d_sub, d_mul, d_rem, d_quo, d_bit, d_mn2, d_mx2, d_w, d_nn, d_bn2, d_len, d_neg, d_cl, d_at1, d_at2, d_at3, d_at4, d_at5, d_at6, d_at7, d_set, d_app, d_cat, d_take, d_drop, d_rep, d_cons, d_lt_t, d_lt_n, d_le_t, d_le_n, d_eqi_t, d_eqi_f, d_eqb_t, d_eqb_f, d_nb_t, d_nb_f, nth0, nthS, d_api, d_apr, D_cons, D_nl, D_nr, D_vr, D_set, mkL_l, mkR_r, mkI_i, d_shr2, d_shr3, d_shr16, d_shr40, d_shl2, d_shl3, d_shl16, d_shl40, d_apb, mkB_b, d_nb2, d_at8, Φ622, Φ623, nbz_b2i] at g <;> (try (exfalso; omega)))
        | (with_reducible refine TOK.leaf' ?_)
        | (with_reducible refine tboth ?_ ?_))
      all_goals first
        | (refine (show Inv L O n 0 _ ∧ lt2 μ (0, _) _ from ?_)
           simp (disch := omega) only [Sb.val, List.map_cons, List.map_nil, d_vi, d_vb, d_vr, d_ci, d_cb, d_nr, d_nl, d_add, d_sub, d_mul, d_rem, d_quo, d_bit, d_mn2, d_mx2, d_w, d_nn, d_bn2, d_len, d_neg, d_cl, d_at1, d_at2, d_at3, d_at4, d_at5, d_at6, d_at7, d_set, d_app, d_cat, d_take, d_drop, d_rep, d_cons, d_lt_t, d_lt_f, d_le_t, d_le_f, d_eqi_t, d_eqi_f, d_eqb_t, d_eqb_f, d_nb_t, d_nb_f, nth0, nthS, d_api, d_apr, D_cons, D_nl, D_nr, D_vr, D_set, mkL_l, mkR_r, mkI_i, d_shr2, d_shr3, d_shr16, d_shr40, d_shl2, d_shl3, d_shl16, d_shl40, d_apb, mkB_b, d_at8, List.nil_append, List.cons_append]
           first
             | exact nxt0 _ (aq_putL (by assumption) (by assumption) (by assumption)) (by simp only [List.length_cons]; omega)
             | exact nxt0 _ (aq_putR (by assumption) (by assumption) (by assumption)) (by simp only [List.length_append, List.length_cons, List.length_nil]; omega)
             | exact nxt0 _ (aq_put0 (by assumption) (by assumption)) (by omega)
             | (have e0 : R = [] := List.length_eq_zero_iff.1 (by omega)
                subst e0
                exact nxt0 _ (aq_get0 (by assumption) (by assumption)) (by omega)))
        | (refine (show Inv L O n 1 _ ∧ lt2 μ (1, _) _ from ?_)
           simp (disch := omega) only [Sb.val, List.map_cons, List.map_nil, d_vi, d_vb, d_vr, d_ci, d_cb, d_nr, d_nl, d_add, d_sub, d_mul, d_rem, d_quo, d_bit, d_mn2, d_mx2, d_w, d_nn, d_bn2, d_len, d_neg, d_cl, d_at1, d_at2, d_at3, d_at4, d_at5, d_at6, d_at7, d_set, d_app, d_cat, d_take, d_drop, d_rep, d_cons, d_lt_t, d_lt_f, d_le_t, d_le_f, d_eqi_t, d_eqi_f, d_eqb_t, d_eqb_f, d_nb_t, d_nb_f, nth0, nthS, d_api, d_apr, D_cons, D_nl, D_nr, D_vr, D_set, mkL_l, mkR_r, mkI_i, d_shr2, d_shr3, d_shr16, d_shr40, d_shl2, d_shl3, d_shl16, d_shl40, d_apb, mkB_b, d_at8]
           refine nxt1 _ _ ?_ (by omega) (by omega) (by omega)
           first
             | exact ⟨(aw_getL (by omega) (by assumption) (by assumption) (by assumption)).1.trans (decide_eq_true (by assumption)), (aw_getL (by omega) (by assumption) (by assumption) (by assumption)).2⟩
             | exact ⟨(aw_getR (by omega) (by assumption) (by assumption) (rt2 hr (by assumption))).1.trans (decide_eq_true (by assumption)), (aw_getR (by omega) (by assumption) (by assumption) (rt2 hr (by assumption))).2⟩)
        | (refine (show Ret u 0 _ from ?_)
           simp (disch := omega) only [Sb.val, List.map_cons, List.map_nil, d_vi, d_vb, d_vr, d_ci, d_cb, d_nr, d_nl, d_add, d_sub, d_mul, d_rem, d_quo, d_bit, d_mn2, d_mx2, d_w, d_nn, d_bn2, d_len, d_neg, d_cl, d_at1, d_at2, d_at3, d_at4, d_at5, d_at6, d_at7, d_set, d_app, d_cat, d_take, d_drop, d_rep, d_cons, d_lt_t, d_lt_f, d_le_t, d_le_f, d_eqi_t, d_eqi_f, d_eqb_t, d_eqb_f, d_nb_t, d_nb_f, nth0, nthS, d_api, d_apr, D_cons, D_nl, D_nr, D_vr, D_set, mkL_l, mkR_r, mkI_i, d_shr2, d_shr3, d_shr16, d_shr40, d_shl2, d_shl3, d_shl16, d_shl40, d_apb, mkB_b]
           refine bad ?_
           first
             | exact aq_getE (by assumption) (by assumption) (by omega)
             | exact (aq_get0 (by assumption) (by assumption)).1.trans (decide_eq_false (by omega))
             | exact (aw_getL (by omega) (by assumption) (by assumption) (by assumption)).1.trans (decide_eq_false (by assumption))
             | exact (aw_getR (by omega) (by assumption) (by assumption) (rt2 hr (by assumption))).1.trans (decide_eq_false (by assumption)))
  · rw [os_end (by omega)] at g4
    refine TOK.leaf' ?_
    refine (show Inv L O n 2 _ ∧ lt2 μ (2, _) _ from ?_)
    simp (disch := omega) only [Sb.val, List.map_cons, List.map_nil, d_vi, d_vb, d_vr, d_ci, d_cb, d_nr, d_nl, d_add, d_sub, d_mul, d_rem, d_quo, d_bit, d_mn2, d_mx2, d_w, d_nn, d_bn2, d_len, d_neg, d_cl, d_at1, d_at2, d_at3, d_at4, d_at5, d_at6, d_at7, d_set, d_app, d_cat, d_take, d_drop, d_rep, d_cons, d_lt_t, d_lt_f, d_le_t, d_le_f, d_eqi_t, d_eqi_f, d_eqb_t, d_eqb_f, d_nb_t, d_nb_f, nth0, nthS, d_api, d_apr, D_cons, D_nl, D_nr, D_vr, D_set, mkL_l, mkR_r, mkI_i, d_shr2, d_shr3, d_shr16, d_shr40, d_shl2, d_shl3, d_shl16, d_shl40, d_apb, mkB_b]
    exact ⟨.inr (.inr (.inl ⟨rfl, 0, A, rfl, by omega, by omega, g3, g4.symm, rfl⟩)), .inl (by show 20 * (100 - (0 : Int)).toNat + 19 < 5000 - i.toNat; omega)⟩
theorem s1 : ∀ v, Inv L O n 1 v → TOK v (fun _ g => LgFOK v (fun q w => Inv L O n q w ∧ lt2 μ (q, w) (1, v)) (Ret u) g) tr1 := by
  rintro v (⟨h, _⟩ | ⟨_, e, w, i, R, A, rfl, g0, g1, p0, p1, p2, g2, g3, g4⟩ | ⟨h, _⟩ | ⟨h, _⟩) <;> try cases h
  have K := kx u L O n hu hk h1 h2 h3
  have k9 := K.n9; have kl := K.l9; have kn := K.no
  have rt : ∀ b, holdsM L (os O n) = b → Ret u 0 ⟨[], [b], [], [], Φ⟩ := retU u L O n hu h1 h2 h3
  have ee : ((e.toNat : Nat) : Int) = e := by omega
  have en : ((w.toNat : Nat) : Int) = w := by omega
  have fw : List.take w.toNat (List.drop e.toNat R) = winR e w R := rfl
  have wl := wr_len p0 p1 p2
  unfold tr1
  refine TOK.br' (fun h => ?_) (fun h => ?_) <;> simp (disch := omega) only [d_vi, d_vb, d_vr, d_ci, d_cb, d_nr, d_nl, d_add, d_sub, d_mul, d_rem, d_quo, d_bit, d_mn2, d_mx2, d_w, d_nn, d_bn2, d_len, d_neg, d_cl, d_at1, d_at2, d_at3, d_at4, d_at5, d_at6, d_at7, d_set, d_app, d_cat, d_take, d_drop, d_rep, d_cons, d_lt_t, d_lt_n, d_le_t, d_le_n, d_eqi_t, d_eqi_f, d_eqb_t, d_eqb_f, d_nb_t, d_nb_f, nth0, nthS, d_api, d_apr, D_cons, D_nl, D_nr, D_vr, D_set, mkL_l, mkR_r, mkI_i, d_shr2, d_shr3, d_shr16, d_shr40, d_shl2, d_shl3, d_shl16, d_shl40, d_apb, mkB_b] at h
  · rw [os_drop g0 h K.no] at g4
    by_cases hx : cl O i < 0 ∨ (L.length : Int) ≤ cl O i ∨ ¬ cl A (cl O i) = 0
    · rw [run_bad hx] at g4
      have := rt _ (hold_none g4.symm)
      repeat' (first
        | (refine TOK.br' (fun g => ?_) (fun g => ?_) <;> simp (disch := omega) only [d_vi, d_vb, d_vr, d_ci, d_cb, d_nr, d_nl, d_add, d_sub, d_mul, d_rem, d_quo, d_bit, d_mn2, d_mx2, d_w, d_nn, d_bn2, d_len, d_neg, d_cl, d_at1, d_at2, d_at3, d_at4, d_at5, d_at6, d_at7, d_set, d_app, d_cat, d_take, d_drop, d_rep, d_cons, d_lt_t, d_lt_n, d_le_t, d_le_n, d_eqi_t, d_eqi_f, d_eqb_t, d_eqb_f, d_nb_t, d_nb_f, nth0, nthS, d_api, d_apr, D_cons, D_nl, D_nr, D_vr, D_set, mkL_l, mkR_r, mkI_i, d_shr2, d_shr3, d_shr16, d_shr40, d_shl2, d_shl3, d_shl16, d_shl40, d_apb, mkB_b] at g <;> (try (exfalso; omega)))
        | (with_reducible refine TOK.leaf' ?_))
      all_goals
        refine (show Ret u 0 _ from ?_)
        simp (disch := omega) only [Sb.val, List.map_cons, List.map_nil, d_vi, d_vb, d_vr, d_ci, d_cb, d_nr, d_nl, d_add, d_sub, d_mul, d_rem, d_quo, d_bit, d_mn2, d_mx2, d_w, d_nn, d_bn2, d_len, d_neg, d_cl, d_at1, d_at2, d_at3, d_at4, d_at5, d_at6, d_at7, d_set, d_app, d_cat, d_take, d_drop, d_rep, d_cons, d_lt_t, d_lt_f, d_le_t, d_le_f, d_eqi_t, d_eqi_f, d_eqb_t, d_eqb_f, d_nb_t, d_nb_f, nth0, nthS, d_api, d_apr, D_cons, D_nl, D_nr, D_vr, D_set, mkL_l, mkR_r, mkI_i, d_shr2, d_shr3, d_shr16, d_shr40, d_shl2, d_shl3, d_shl16, d_shl40, d_apb, mkB_b]
        exact this
    · rw [show runH L (cl O i :: (os O n).drop (i + 1).toNat) i A (winR e w R) = _ from rfl] at g4
      have y1 : 0 ≤ cl O i := by omega
      have y2 : cl O i < (L.length : Int) := by omega
      have y3 : cl A (cl O i) = 0 := by omega
      have hr := rt_at K.rt y1 y2
      have hr1 := rt01 hr
      have nxt0 : ∀ X, stepO (ansD (L.getD (cl O i).toNat []) (winR e w R)) (winR e w R) = true ∧ stepR (ansD (L.getD (cl O i).toNat []) (winR e w R)) (winR e w R) = X → (X.length : Int) ≤ i + 1 → Inv L O n 0 ⟨[n, n, i + 1], [], [L, O, X, A.set (cl O i).toNat [i + 1]], [], Φ⟩ ∧ lt2 μ (0, ⟨[n, n, i + 1], [], [L, O, X, A.set (cl O i).toNat [i + 1]], [], Φ⟩) (1, ⟨[e, w, n, n, i], [], [L, O, R, A], [], Φ⟩) := fun X z z3 =>
        ⟨.inl ⟨rfl, i + 1, X, _, rfl, by omega, by omega, z3, by rw [List.length_set]; exact g3, by rw [← g4, run_yes hx z.1 z.2]⟩, .inl (by show 5000 - (i + 1).toNat < 5000 - i.toNat; omega)⟩
      have nxt1 : ∀ e' w', stepO (ansD (L.getD (cl O i).toNat []) (winR e w R)) (winR e w R) = true ∧ stepR (ansD (L.getD (cl O i).toNat []) (winR e w R)) (winR e w R) = winR e' w' R → 0 ≤ e' → 0 ≤ w' → e' + w' ≤ (R.length : Int) → w' ≤ i + 1 → Inv L O n 1 ⟨[e', w', n, n, i + 1], [], [L, O, R, A.set (cl O i).toNat [i + 1]], [], Φ⟩ ∧ lt2 μ (1, ⟨[e', w', n, n, i + 1], [], [L, O, R, A.set (cl O i).toNat [i + 1]], [], Φ⟩) (1, ⟨[e, w, n, n, i], [], [L, O, R, A], [], Φ⟩) := fun e' w' z z3 z4 z5 z6 =>
        ⟨.inr (.inl ⟨rfl, e', w', i + 1, R, _, rfl, by omega, by omega, z3, z4, z5, z6, by rw [List.length_set]; exact g3, by rw [← g4, run_yes hx z.1 z.2]⟩), .inl (by show 5000 - (i + 1).toNat < 5000 - i.toNat; omega)⟩
      have bad : stepO (ansD (L.getD (cl O i).toNat []) (winR e w R)) (winR e w R) = false → Ret u 0 ⟨[], [false], [], [], Φ⟩ := fun z => rt _ (hold_none (by rw [← g4]; exact run_no hx z))
      clear g4
      repeat' (first
        | (refine TOK.br' (fun g => ?_) (fun g => ?_) <;> simp (disch := omega) only [d_vi, d_vb, d_vr, d_ci, d_cb, d_nr, d_nl, d_add, d_sub, d_mul, d_rem, d_quo, d_bit, d_mn2, d_mx2, d_w, d_nn, d_bn2, d_len, d_neg, d_cl, d_at1, d_at2, d_at3, d_at4, d_at5, d_at6, d_at7, d_set, d_app, d_cat, d_take, d_drop, d_rep, d_cons, d_lt_t, d_lt_n, d_le_t, d_le_n, d_eqi_t, d_eqi_f, d_eqb_t, d_eqb_f, d_nb_t, d_nb_f, nth0, nthS, d_api, d_apr, D_cons, D_nl, D_nr, D_vr, D_set, mkL_l, mkR_r, mkI_i, d_shr2, d_shr3, d_shr16, d_shr40, d_shl2, d_shl3, d_shl16, d_shl40, d_apb, mkB_b, d_nb2, d_at8, Φ622, Φ623, nbz_b2i, ee, en, fw, wl] at g <;> (try (exfalso; omega)))
        | (with_reducible refine TOK.leaf' ?_)
        | (with_reducible refine tboth ?_ ?_))
      all_goals first
        | (refine (show Inv L O n 0 _ ∧ lt2 μ (0, _) _ from ?_)
           simp (disch := omega) only [Sb.val, List.map_cons, List.map_nil, d_vi, d_vb, d_vr, d_ci, d_cb, d_nr, d_nl, d_add, d_sub, d_mul, d_rem, d_quo, d_bit, d_mn2, d_mx2, d_w, d_nn, d_bn2, d_len, d_neg, d_cl, d_at1, d_at2, d_at3, d_at4, d_at5, d_at6, d_at7, d_set, d_app, d_cat, d_take, d_drop, d_rep, d_cons, d_lt_t, d_lt_f, d_le_t, d_le_f, d_eqi_t, d_eqi_f, d_eqb_t, d_eqb_f, d_nb_t, d_nb_f, nth0, nthS, d_api, d_apr, D_cons, D_nl, D_nr, D_vr, D_set, mkL_l, mkR_r, mkI_i, d_shr2, d_shr3, d_shr16, d_shr40, d_shl2, d_shl3, d_shl16, d_shl40, d_apb, mkB_b, ee, en, fw, d_at8, List.nil_append, List.cons_append]
           first
             | exact nxt0 _ (aq_putL (by assumption) (by assumption) (by assumption)) (by simp only [List.length_cons]; omega)
             | exact nxt0 _ (aq_putR (by assumption) (by assumption) (by assumption)) (by simp only [List.length_append, List.length_cons, List.length_nil]; omega))
        | (refine (show Inv L O n 1 _ ∧ lt2 μ (1, _) _ from ?_)
           simp (disch := omega) only [Sb.val, List.map_cons, List.map_nil, d_vi, d_vb, d_vr, d_ci, d_cb, d_nr, d_nl, d_add, d_sub, d_mul, d_rem, d_quo, d_bit, d_mn2, d_mx2, d_w, d_nn, d_bn2, d_len, d_neg, d_cl, d_at1, d_at2, d_at3, d_at4, d_at5, d_at6, d_at7, d_set, d_app, d_cat, d_take, d_drop, d_rep, d_cons, d_lt_t, d_lt_f, d_le_t, d_le_f, d_eqi_t, d_eqi_f, d_eqb_t, d_eqb_f, d_nb_t, d_nb_f, nth0, nthS, d_api, d_apr, D_cons, D_nl, D_nr, D_vr, D_set, mkL_l, mkR_r, mkI_i, d_shr2, d_shr3, d_shr16, d_shr40, d_shl2, d_shl3, d_shl16, d_shl40, d_apb, mkB_b, ee, en, fw, d_at8]
           first
             | exact nxt1 _ _ (aq_put0 (by assumption) (by assumption)) (by omega) (by omega) (by omega) (by omega)
             | (refine nxt1 _ _ ⟨(aq_get0 (by assumption) (by assumption)).1.trans (decide_eq_true (by omega)), ?_⟩ (by omega) (by omega) (by omega) (by omega)
                rw [(aq_get0 (by assumption) (by assumption)).2]; exact (List.length_eq_zero_iff.1 (by omega)).symm)
             | exact nxt1 _ _ ⟨(aq_getL p0 (by omega) p2 (by assumption) (by assumption) (by assumption)).1.trans (decide_eq_true (by assumption)), (aq_getL p0 (by omega) p2 (by assumption) (by assumption) (by assumption)).2⟩ (by omega) (by omega) (by omega) (by omega)
             | exact nxt1 _ _ ⟨(aq_getR p0 (by omega) p2 (by assumption) (by assumption) (rt2 hr (by assumption))).1.trans (decide_eq_true (by assumption)), (aq_getR p0 (by omega) p2 (by assumption) (by assumption) (rt2 hr (by assumption))).2⟩ (by omega) (by omega) (by omega) (by omega))
        | (refine (show Ret u 0 _ from ?_)
           simp (disch := omega) only [Sb.val, List.map_cons, List.map_nil, d_vi, d_vb, d_vr, d_ci, d_cb, d_nr, d_nl, d_add, d_sub, d_mul, d_rem, d_quo, d_bit, d_mn2, d_mx2, d_w, d_nn, d_bn2, d_len, d_neg, d_cl, d_at1, d_at2, d_at3, d_at4, d_at5, d_at6, d_at7, d_set, d_app, d_cat, d_take, d_drop, d_rep, d_cons, d_lt_t, d_lt_f, d_le_t, d_le_f, d_eqi_t, d_eqi_f, d_eqb_t, d_eqb_f, d_nb_t, d_nb_f, nth0, nthS, d_api, d_apr, D_cons, D_nl, D_nr, D_vr, D_set, mkL_l, mkR_r, mkI_i, d_shr2, d_shr3, d_shr16, d_shr40, d_shl2, d_shl3, d_shl16, d_shl40, d_apb, mkB_b]
           refine bad ?_
           first
             | exact aq_getE (by assumption) (by assumption) (by omega)
             | exact (aq_get0 (by assumption) (by assumption)).1.trans (decide_eq_false (by omega))
             | exact (aq_getL p0 (by omega) p2 (by assumption) (by assumption) (by assumption)).1.trans (decide_eq_false (by assumption))
             | exact (aq_getR p0 (by omega) p2 (by assumption) (by assumption) (rt2 hr (by assumption))).1.trans (decide_eq_false (by assumption)))
  · rw [os_end (by omega)] at g4
    refine TOK.leaf' ?_
    refine (show Inv L O n 2 _ ∧ lt2 μ (2, _) _ from ?_)
    simp (disch := omega) only [Sb.val, List.map_cons, List.map_nil, d_vi, d_vb, d_vr, d_ci, d_cb, d_nr, d_nl, d_add, d_sub, d_mul, d_rem, d_quo, d_bit, d_mn2, d_mx2, d_w, d_nn, d_bn2, d_len, d_neg, d_cl, d_at1, d_at2, d_at3, d_at4, d_at5, d_at6, d_at7, d_set, d_app, d_cat, d_take, d_drop, d_rep, d_cons, d_lt_t, d_lt_f, d_le_t, d_le_f, d_eqi_t, d_eqi_f, d_eqb_t, d_eqb_f, d_nb_t, d_nb_f, nth0, nthS, d_api, d_apr, D_cons, D_nl, D_nr, D_vr, D_set, mkL_l, mkR_r, mkI_i, d_shr2, d_shr3, d_shr16, d_shr40, d_shl2, d_shl3, d_shl16, d_shl40, d_apb, mkB_b]
    exact ⟨.inr (.inr (.inl ⟨rfl, 0, A, rfl, by omega, by omega, g3, g4.symm, rfl⟩)), .inl (by show 20 * (100 - (0 : Int)).toNat + 19 < 5000 - i.toNat; omega)⟩
theorem s2 : ∀ v, Inv L O n 2 v → TOK v (fun _ g => LgFOK v (fun q w => Inv L O n q w ∧ lt2 μ (q, w) (2, v)) (Ret u) g) tr2 := by
  rintro v (⟨h, _⟩ | ⟨h, _⟩ | ⟨_, i, A, rfl, g0, g1, g2, g3, g4⟩ | ⟨h, _⟩) <;> try cases h
  have K := kx u L O n hu hk h1 h2 h3
  have kl := K.l9
  have rt : ∀ b, holdsM L (os O n) = b → Ret u 0 ⟨[], [b], [], [], Φ⟩ := retU u L O n hu h1 h2 h3
  have nxt : i < (L.length : Int) → (decide (0 ≤ nth 0 (L.getD i.toNat []) 6) && decide (cl A i = 0)) = false → Inv L O n 3 ⟨[i, 0, nth 0 (L.getD i.toNat []) 0, nth 0 (L.getD i.toNat []) 1, nth 0 (L.getD i.toNat []) 2, nth 0 (L.getD i.toNat []) 3, nth 0 (L.getD i.toNat []) 4, nth 0 (L.getD i.toNat []) 5, nth 0 (L.getD i.toNat []) 6, nth 0 (L.getD i.toNat []) 8, nth 0 (L.getD i.toNat []) 9, nth 0 (L.getD i.toNat []) 10], [nbz (nth 0 (L.getD i.toNat []) 7)], [L, O, A], [], Φ⟩ ∧ lt2 μ (3, ⟨[i, 0, nth 0 (L.getD i.toNat []) 0, nth 0 (L.getD i.toNat []) 1, nth 0 (L.getD i.toNat []) 2, nth 0 (L.getD i.toNat []) 3, nth 0 (L.getD i.toNat []) 4, nth 0 (L.getD i.toNat []) 5, nth 0 (L.getD i.toNat []) 6, nth 0 (L.getD i.toNat []) 8, nth 0 (L.getD i.toNat []) 9, nth 0 (L.getD i.toNat []) 10], [nbz (nth 0 (L.getD i.toNat []) 7)], [L, O, A], [], Φ⟩) (2, ⟨[i], [], [L, O, A], [], Φ⟩) := fun z z2 =>
    ⟨.inr (.inr (.inr ⟨rfl, i, 0, A, rfl, g0, z, by omega, by omega, g2, g3, g4, z2, rfl⟩)), .inl (by show 20 * (100 - i).toNat + (9 - (0 : Int)).toNat < 20 * (100 - i).toNat + 19; omega)⟩
  unfold tr2
  repeat' (first
    | (refine TOK.br' (fun g => ?_) (fun g => ?_) <;> simp (disch := omega) only [d_vi, d_vb, d_vr, d_ci, d_cb, d_nr, d_nl, d_add, d_sub, d_mul, d_rem, d_quo, d_bit, d_mn2, d_mx2, d_w, d_nn, d_bn2, d_len, d_neg, d_cl, d_at1, d_at2, d_at3, d_at4, d_at5, d_at6, d_at7, d_set, d_app, d_cat, d_take, d_drop, d_rep, d_cons, d_lt_t, d_lt_n, d_le_t, d_le_n, d_eqi_t, d_eqi_f, d_eqb_t, d_eqb_f, d_nb_t, d_nb_f, nth0, nthS, d_api, d_apr, D_cons, D_nl, D_nr, D_vr, D_set, mkL_l, mkR_r, mkI_i, d_shr2, d_shr3, d_shr16, d_shr40, d_shl2, d_shl3, d_shl16, d_shl40, d_apb, mkB_b] at g <;> (try (exfalso; omega)))
    | (with_reducible refine TOK.leaf' ?_))
  all_goals first
    | (refine (show Inv L O n 3 _ ∧ lt2 μ (3, _) _ from ?_)
       simp (disch := omega) only [Sb.val, List.map_cons, List.map_nil, d_vi, d_vb, d_vr, d_ci, d_cb, d_nr, d_nl, d_add, d_sub, d_mul, d_rem, d_quo, d_bit, d_mn2, d_mx2, d_w, d_nn, d_bn2, d_len, d_neg, d_cl, d_at1, d_at2, d_at3, d_at4, d_at5, d_at6, d_at7, d_set, d_app, d_cat, d_take, d_drop, d_rep, d_cons, d_lt_t, d_lt_f, d_le_t, d_le_f, d_eqi_t, d_eqi_f, d_eqb_t, d_eqb_f, d_nb_t, d_nb_f, nth0, nthS, d_api, d_apr, D_cons, D_nl, D_nr, D_vr, D_set, mkL_l, mkR_r, mkI_i, d_shr2, d_shr3, d_shr16, d_shr40, d_shl2, d_shl3, d_shl16, d_shl40, d_apb, mkB_b, d_nb2, d_at8, d_at9, d_at10]
       rw [show cl L i = nth 0 (L.getD i.toNat []) 0 from rfl]
       refine nxt (by assumption) ?_
       first
         | (rw [decide_eq_false (by assumption : ¬ 0 ≤ nth 0 (L.getD i.toNat []) 6), Bool.false_and])
         | (rw [decide_eq_false (by assumption : ¬ cl A i = 0), Bool.and_false]))
    | (refine (show Ret u 0 _ from ?_)
       simp (disch := omega) only [Sb.val, List.map_cons, List.map_nil, d_vi, d_vb, d_vr, d_ci, d_cb, d_nr, d_nl, d_add, d_sub, d_mul, d_rem, d_quo, d_bit, d_mn2, d_mx2, d_w, d_nn, d_bn2, d_len, d_neg, d_cl, d_at1, d_at2, d_at3, d_at4, d_at5, d_at6, d_at7, d_set, d_app, d_cat, d_take, d_drop, d_rep, d_cons, d_lt_t, d_lt_f, d_le_t, d_le_f, d_eqi_t, d_eqi_f, d_eqb_t, d_eqb_f, d_nb_t, d_nb_f, nth0, nthS, d_api, d_apr, D_cons, D_nl, D_nr, D_vr, D_set, mkL_l, mkR_r, mkI_i, d_shr2, d_shr3, d_shr16, d_shr40, d_shl2, d_shl3, d_shl16, d_shl40, d_apb, mkB_b]
       refine rt _ ((hold_some g3).trans ?_)
       first
         | (rw [show L.length = i.toNat by omega]; exact g4)
         | (rw [List.all_eq_false]
            refine ⟨i.toNat, List.mem_range.2 (by omega), ?_⟩
            unfold FHolds.g1
            rw [show ((i.toNat : Nat) : Int) = i by omega, decide_eq_true (by assumption : 0 ≤ nth 0 (L.getD i.toNat []) 6), decide_eq_true (by assumption : cl A i = 0)]
            simp))
theorem s3 : ∀ v, Inv L O n 3 v → TOK v (fun _ g => LgFOK v (fun q w => Inv L O n q w ∧ lt2 μ (q, w) (3, v)) (Ret u) g) tr3 := by
  rintro v (⟨h, _⟩ | ⟨h, _⟩ | ⟨h, _⟩ | ⟨_, i, k, A, rfl, g0, g1, j0, j1, g2, g3, g4, g5, g6⟩) <;> try cases h
  have K := kx u L O n hu hk h1 h2 h3
  have kl := K.l9
  have rt : ∀ b, holdsM L (os O n) = b → Ret u 0 ⟨[], [b], [], [], Φ⟩ := retU u L O n hu h1 h2 h3
  have ki : ((i.toNat : Nat) : Int) = i := by omega
  have kk : ((k.toNat : Nat) : Int) = k := by omega
  have eb : badH L A i.toNat k.toNat = (decide (0 ≤ nth 0 (L.getD i.toNat []) 6) && decide (nth 0 (L.getD i.toNat []) 6 < nth 0 (L.getD k.toNat []) 5) && decide (¬ cl A k = 0) && decide (cl A k < cl A i)) := by unfold badH; rw [ki, kk]
  have nxt : k < (L.length : Int) → badH L A i.toNat k.toNat = false → Inv L O n 3 ⟨[i, k + 1, nth 0 (L.getD i.toNat []) 0, nth 0 (L.getD i.toNat []) 1, nth 0 (L.getD i.toNat []) 2, nth 0 (L.getD i.toNat []) 3, nth 0 (L.getD i.toNat []) 4, nth 0 (L.getD i.toNat []) 5, nth 0 (L.getD i.toNat []) 6, nth 0 (L.getD i.toNat []) 8, nth 0 (L.getD i.toNat []) 9, nth 0 (L.getD i.toNat []) 10], [nbz (nth 0 (L.getD i.toNat []) 7)], [L, O, A], [], Φ⟩ ∧ lt2 μ (3, ⟨[i, k + 1, nth 0 (L.getD i.toNat []) 0, nth 0 (L.getD i.toNat []) 1, nth 0 (L.getD i.toNat []) 2, nth 0 (L.getD i.toNat []) 3, nth 0 (L.getD i.toNat []) 4, nth 0 (L.getD i.toNat []) 5, nth 0 (L.getD i.toNat []) 6, nth 0 (L.getD i.toNat []) 8, nth 0 (L.getD i.toNat []) 9, nth 0 (L.getD i.toNat []) 10], [nbz (nth 0 (L.getD i.toNat []) 7)], [L, O, A], [], Φ⟩) (3, ⟨[i, k, nth 0 (L.getD i.toNat []) 0, nth 0 (L.getD i.toNat []) 1, nth 0 (L.getD i.toNat []) 2, nth 0 (L.getD i.toNat []) 3, nth 0 (L.getD i.toNat []) 4, nth 0 (L.getD i.toNat []) 5, nth 0 (L.getD i.toNat []) 6, nth 0 (L.getD i.toNat []) 8, nth 0 (L.getD i.toNat []) 9, nth 0 (L.getD i.toNat []) 10], [nbz (nth 0 (L.getD i.toNat []) 7)], [L, O, A], [], Φ⟩) := fun z z2 =>
    ⟨.inr (.inr (.inr ⟨rfl, i, k + 1, A, rfl, g0, g1, by omega, by omega, g2, g3, g4, g5, by rw [show (k + 1).toNat = k.toNat + 1 by omega, List.range_succ, List.all_append, g6]; simp [z2]⟩)), .inl (by show 20 * (100 - i).toNat + (9 - (k + 1)).toNat < 20 * (100 - i).toNat + (9 - k).toNat; omega)⟩
  unfold tr3
  repeat' (first
    | (refine TOK.br' (fun g => ?_) (fun g => ?_) <;> simp (disch := omega) only [d_vi, d_vb, d_vr, d_ci, d_cb, d_nr, d_nl, d_add, d_sub, d_mul, d_rem, d_quo, d_bit, d_mn2, d_mx2, d_w, d_nn, d_bn2, d_len, d_neg, d_cl, d_at1, d_at2, d_at3, d_at4, d_at5, d_at6, d_at7, d_set, d_app, d_cat, d_take, d_drop, d_rep, d_cons, d_lt_t, d_lt_n, d_le_t, d_le_n, d_eqi_t, d_eqi_f, d_eqb_t, d_eqb_f, d_nb_t, d_nb_f, nth0, nthS, d_api, d_apr, D_cons, D_nl, D_nr, D_vr, D_set, mkL_l, mkR_r, mkI_i, d_shr2, d_shr3, d_shr16, d_shr40, d_shl2, d_shl3, d_shl16, d_shl40, d_apb, mkB_b] at g <;> (try (exfalso; omega)))
    | (with_reducible refine TOK.leaf' ?_))
  all_goals first
    | (refine (show Inv L O n 3 _ ∧ lt2 μ (3, _) _ from ?_)
       simp (disch := omega) only [Sb.val, List.map_cons, List.map_nil, d_vi, d_vb, d_vr, d_ci, d_cb, d_nr, d_nl, d_add, d_sub, d_mul, d_rem, d_quo, d_bit, d_mn2, d_mx2, d_w, d_nn, d_bn2, d_len, d_neg, d_cl, d_at1, d_at2, d_at3, d_at4, d_at5, d_at6, d_at7, d_set, d_app, d_cat, d_take, d_drop, d_rep, d_cons, d_lt_t, d_lt_f, d_le_t, d_le_f, d_eqi_t, d_eqi_f, d_eqb_t, d_eqb_f, d_nb_t, d_nb_f, nth0, nthS, d_api, d_apr, D_cons, D_nl, D_nr, D_vr, D_set, mkL_l, mkR_r, mkI_i, d_shr2, d_shr3, d_shr16, d_shr40, d_shl2, d_shl3, d_shl16, d_shl40, d_apb, mkB_b]
       refine nxt (by assumption) ?_
       rw [eb]
       first
         | (rw [decide_eq_false (by assumption : ¬ 0 ≤ nth 0 (L.getD i.toNat []) 6)]; simp; done)
         | (rw [decide_eq_false (by assumption : ¬ nth 0 (L.getD i.toNat []) 6 < nth 0 (L.getD k.toNat []) 5)]; simp; done)
         | (rw [decide_eq_false (fun q => q (by assumption : cl A k = 0) : ¬ ¬ cl A k = 0)]; simp; done)
         | (rw [decide_eq_false (by assumption : ¬ cl A k < cl A i)]; simp; done))
    | (refine (show Ret u 0 _ from ?_)
       simp (disch := omega) only [Sb.val, List.map_cons, List.map_nil, d_vi, d_vb, d_vr, d_ci, d_cb, d_nr, d_nl, d_add, d_sub, d_mul, d_rem, d_quo, d_bit, d_mn2, d_mx2, d_w, d_nn, d_bn2, d_len, d_neg, d_cl, d_at1, d_at2, d_at3, d_at4, d_at5, d_at6, d_at7, d_set, d_app, d_cat, d_take, d_drop, d_rep, d_cons, d_lt_t, d_lt_f, d_le_t, d_le_f, d_eqi_t, d_eqi_f, d_eqb_t, d_eqb_f, d_nb_t, d_nb_f, nth0, nthS, d_api, d_apr, D_cons, D_nl, D_nr, D_vr, D_set, mkL_l, mkR_r, mkI_i, d_shr2, d_shr3, d_shr16, d_shr40, d_shl2, d_shl3, d_shl16, d_shl40, d_apb, mkB_b]
       refine rt _ ((hold_some g3).trans ?_)
       rw [List.all_eq_false]
       refine ⟨i.toNat, List.mem_range.2 (by omega), ?_⟩
       unfold FHolds.g1
       have hb : badH L A i.toNat k.toNat = true := by
         rw [eb, decide_eq_true (by assumption : 0 ≤ nth 0 (L.getD i.toNat []) 6), decide_eq_true (by assumption : nth 0 (L.getD i.toNat []) 6 < nth 0 (L.getD k.toNat []) 5), decide_eq_true (by assumption : ¬ cl A k = 0), decide_eq_true (by assumption : cl A k < cl A i)]; rfl
       have : ((List.range L.length).all fun k => !badH L A i.toNat k) = false := by
         rw [List.all_eq_false]
         exact ⟨k.toNat, List.mem_range.2 (by omega), by rw [hb]; decide⟩
       rw [this, Bool.and_false]; decide)
    | (refine (show Inv L O n 2 _ ∧ lt2 μ (2, _) _ from ?_)
       simp (disch := omega) only [Sb.val, List.map_cons, List.map_nil, d_vi, d_vb, d_vr, d_ci, d_cb, d_nr, d_nl, d_add, d_sub, d_mul, d_rem, d_quo, d_bit, d_mn2, d_mx2, d_w, d_nn, d_bn2, d_len, d_neg, d_cl, d_at1, d_at2, d_at3, d_at4, d_at5, d_at6, d_at7, d_set, d_app, d_cat, d_take, d_drop, d_rep, d_cons, d_lt_t, d_lt_f, d_le_t, d_le_f, d_eqi_t, d_eqi_f, d_eqb_t, d_eqb_f, d_nb_t, d_nb_f, nth0, nthS, d_api, d_apr, D_cons, D_nl, D_nr, D_vr, D_set, mkL_l, mkR_r, mkI_i, d_shr2, d_shr3, d_shr16, d_shr40, d_shl2, d_shl3, d_shl16, d_shl40, d_apb, mkB_b]
       refine ⟨.inr (.inr (.inl ⟨rfl, i + 1, A, rfl, by omega, by omega, g2, g3, ?_⟩)), .inl (by show 20 * (100 - (i + 1)).toNat + 19 < 20 * (100 - i).toNat + (9 - k).toNat; omega)⟩
       rw [show (i + 1).toNat = i.toNat + 1 by omega, List.range_succ, List.all_append, g4]
       have e : k.toNat = L.length := by omega
       rw [e] at g6
       have : FHolds.g1 L A i.toNat = true := by
         unfold FHolds.g1
         rw [ki, g5, g6]; rfl
       simp [this])
end
theorem hΦ {L O : Row} {n : Int} : ∀ k v, Inv L O n k v → v.f = Φ := by
  rintro k v (⟨_, i, R, A, rfl, _⟩ | ⟨_, e, w, i, R, A, rfl, _⟩ | ⟨_, i, A, rfl, _⟩ | ⟨_, i, k, A, rfl, _⟩) <;> rfl
theorem ok (u : Val) (hu : u.f = Φ) : FC.Ok P0 u fc := by
  refine mk u (Inv (nth [] u.r 0) (nth [] u.r 1) (nth 0 u.i 0)) μ hu hΦ (fun hk k σ po hs => ?_) ?_ ?_ ?_ ?_ (fun hk => ?_) (fun hk => s0 u _ _ _ hu hk rfl rfl rfl) (fun hk => s1 u _ _ _ hu hk rfl rfl rfl) (fun hk => s2 u _ _ _ hu hk rfl rfl rfl) (fun hk => s3 u _ _ _ hu hk rfl rfl rfl)
  · cases hs; exact KV.nil
  · rintro hk v (⟨_, i, R, A, rfl, g0, g1, g2, g3, g4⟩ | ⟨h, _⟩ | ⟨h, _⟩ | ⟨h, _⟩) <;> try cases h
    have K := kx u _ _ _ hu hk rfl rfl rfl
    have k1 := K.l9; have k2 := K.n0; have k3 := K.no; have k4 := K.n9
    unfold tm0
    repeat' (first | exact KV.nil | (refine KV.cons ?_ ?_))
    all_goals (simp only [d_vi, d_vb, d_vr, d_ci, d_cb, d_nr, d_nl, d_add, d_sub, d_mul, d_rem, d_quo, d_bit, d_mn2, d_mx2, d_w, d_nn, d_bn2, d_len, d_neg, d_cl, d_at1, d_at2, d_at3, d_at4, d_at5, d_at6, d_at7, d_set, d_app, d_cat, d_take, d_drop, d_rep, d_cons, d_lt_t, d_lt_f, d_le_t, d_le_f, d_eqi_t, d_eqi_f, d_eqb_t, d_eqb_f, d_nb_t, d_nb_f, nth0, nthS, d_api, d_apr, D_cons, D_nl, D_nr, D_vr, D_set, mkL_l, mkR_r, mkI_i, d_shr2, d_shr3, d_shr16, d_shr40, d_shl2, d_shl3, d_shl16, d_shl40, d_apb, mkB_b] <;> omega)
  · rintro hk v (⟨h, _⟩ | ⟨_, e, w, i, R, A, rfl, g0, g1, p0, p1, p2, g2, g3, g4⟩ | ⟨h, _⟩ | ⟨h, _⟩) <;> try cases h
    have K := kx u _ _ _ hu hk rfl rfl rfl
    have k1 := K.l9; have k2 := K.n0; have k3 := K.no; have k4 := K.n9
    unfold tm1
    repeat' (first | exact KV.nil | (refine KV.cons ?_ ?_))
    all_goals (simp only [d_vi, d_vb, d_vr, d_ci, d_cb, d_nr, d_nl, d_add, d_sub, d_mul, d_rem, d_quo, d_bit, d_mn2, d_mx2, d_w, d_nn, d_bn2, d_len, d_neg, d_cl, d_at1, d_at2, d_at3, d_at4, d_at5, d_at6, d_at7, d_set, d_app, d_cat, d_take, d_drop, d_rep, d_cons, d_lt_t, d_lt_f, d_le_t, d_le_f, d_eqi_t, d_eqi_f, d_eqb_t, d_eqb_f, d_nb_t, d_nb_f, nth0, nthS, d_api, d_apr, D_cons, D_nl, D_nr, D_vr, D_set, mkL_l, mkR_r, mkI_i, d_shr2, d_shr3, d_shr16, d_shr40, d_shl2, d_shl3, d_shl16, d_shl40, d_apb, mkB_b] <;> omega)
  · rintro hk v (⟨h, _⟩ | ⟨h, _⟩ | ⟨_, i, A, rfl, g0, g1, g2, g3, g4⟩ | ⟨h, _⟩) <;> try cases h
    have K := kx u _ _ _ hu hk rfl rfl rfl
    have k1 := K.l9; have k2 := K.n0; have k3 := K.no; have k4 := K.n9
    unfold tm2
    repeat' (first | exact KV.nil | (refine KV.cons ?_ ?_))
    all_goals (simp only [d_vi, d_vb, d_vr, d_ci, d_cb, d_nr, d_nl, d_add, d_sub, d_mul, d_rem, d_quo, d_bit, d_mn2, d_mx2, d_w, d_nn, d_bn2, d_len, d_neg, d_cl, d_at1, d_at2, d_at3, d_at4, d_at5, d_at6, d_at7, d_set, d_app, d_cat, d_take, d_drop, d_rep, d_cons, d_lt_t, d_lt_f, d_le_t, d_le_f, d_eqi_t, d_eqi_f, d_eqb_t, d_eqb_f, d_nb_t, d_nb_f, nth0, nthS, d_api, d_apr, D_cons, D_nl, D_nr, D_vr, D_set, mkL_l, mkR_r, mkI_i, d_shr2, d_shr3, d_shr16, d_shr40, d_shl2, d_shl3, d_shl16, d_shl40, d_apb, mkB_b] <;> omega)
  · rintro hk v (⟨h, _⟩ | ⟨h, _⟩ | ⟨h, _⟩ | ⟨_, i, k, A, rfl, g0, g1, j0, j1, g2, g3, g4, g5, g6⟩) <;> try cases h
    have K := kx u _ _ _ hu hk rfl rfl rfl
    have k1 := K.l9; have k2 := K.n0; have k3 := K.no; have k4 := K.n9
    unfold tm3
    repeat' (first | exact KV.nil | (refine KV.cons ?_ ?_))
    all_goals (simp only [d_vi, d_vb, d_vr, d_ci, d_cb, d_nr, d_nl, d_add, d_sub, d_mul, d_rem, d_quo, d_bit, d_mn2, d_mx2, d_w, d_nn, d_bn2, d_len, d_neg, d_cl, d_at1, d_at2, d_at3, d_at4, d_at5, d_at6, d_at7, d_set, d_app, d_cat, d_take, d_drop, d_rep, d_cons, d_lt_t, d_lt_f, d_le_t, d_le_f, d_eqi_t, d_eqi_f, d_eqb_t, d_eqb_f, d_nb_t, d_nb_f, nth0, nthS, d_api, d_apr, D_cons, D_nl, D_nr, D_vr, D_set, mkL_l, mkR_r, mkI_i, d_shr2, d_shr3, d_shr16, d_shr40, d_shl2, d_shl3, d_shl16, d_shl40, d_apb, mkB_b] <;> omega)
  · have K := kx u _ _ _ hu hk rfl rfl rfl
    unfold trS
    refine TOK.leaf' (show Inv _ _ _ 0 _ from .inl ⟨rfl, 0, [], List.replicate (nth [] u.r 0).length [0], ?_, by omega, K.n0, by simp, by simp, rfl⟩)
    simp only [Sb.val, List.map_cons, List.map_nil, d_vi, d_vb, d_vr, d_ci, d_cb, d_nr, d_nl, d_add, d_sub, d_mul, d_rem, d_quo, d_bit, d_mn2, d_mx2, d_w, d_nn, d_bn2, d_len, d_neg, d_cl, d_at1, d_at2, d_at3, d_at4, d_at5, d_at6, d_at7, d_set, d_app, d_cat, d_take, d_drop, d_rep, d_cons, d_lt_t, d_lt_f, d_le_t, d_le_f, d_eqi_t, d_eqi_f, d_eqb_t, d_eqb_f, d_nb_t, d_nb_f, nth0, nthS, d_api, d_apr, D_cons, D_nl, D_nr, D_vr, D_set, mkL_l, mkR_r, mkI_i, d_shr2, d_shr3, d_shr16, d_shr40, d_shl2, d_shl3, d_shl16, d_shl40, d_apb, mkB_b, hu, Int.toNat_natCast]
end Go.Proofs.Ytpgkbdkkcladcaa.FHolds
