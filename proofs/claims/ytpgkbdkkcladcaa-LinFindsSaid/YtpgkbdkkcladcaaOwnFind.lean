/- The contract of finder.find: it goes on with an order, and gives what the model gives. A lemma file: conditions are those of the contract's 'kn'. -/
import Derived.Test.YtpgkbdkkcladcaaOwnFindS
import Derived.Test.YtpgkbdkkcladcaaOwnLem15
set_option linter.unusedVariables false
set_option linter.unusedSimpArgs false
set_option maxRecDepth 100000
set_option maxHeartbeats 4000000
namespace Go.Proofs.Ytpgkbdkkcladcaa.FFind
open Go Go.Lib Go.Proofs.Ytpgkbdkkcladcaa.Eng Go.Proofs.Ytpgkbdkkcladcaa.Sy
section
variable (L D O R : Row) (n : Int)
/-- What is to come. -/
def tot : Bool × FS := findM L ⟨D, n, O, false⟩ R
/-- The rounds from i on. -/
def rnd (i : Int) (st : FS) : Bool × FS := findL (findF L (cnt0 D)) L R (L.length - i.toNat) i st
def Inv (p : Nat) (v : Val) : Prop :=
  (p = 0 ∧ ∃ s i, v = ⟨[s, i, n], [], [L, D, O, R], [], Φ⟩ ∧ 0 ≤ i ∧ i ≤ (L.length : Int) ∧ s = (leftN L D i.toNat : Int)) ∨
  (p = 1 ∧ ∃ i, v = ⟨[i, n], [], [L, D, O, R], [], Φ⟩ ∧ 0 ≤ i ∧ i ≤ (L.length : Int) ∧ rnd L D R i ⟨D, n, O, false⟩ = tot L D O R n) ∨
  (p = 2 ∧ ∃ i j, v = ⟨[i, 1, j, n], [], [L, D, O, R, [ansD (L.getD i.toNat []) R]], [], Φ⟩ ∧ 0 ≤ i ∧ i < (L.length : Int) ∧ ((j = 0 ∧ freeF i L D = true ∧ rnd L D R i ⟨D, n, O, false⟩ = tot L D O R n) ∨ (j = 1 ∧ rnd L D R (i + 1) ⟨D, n, O, false⟩ = tot L D O R n))) ∨
  (p = 3 ∧ ∃ i j o A, v = ⟨[i, 1, j, n], [], [L, D, R, A, o], [], Φ⟩ ∧ A.length = 1 ∧ 0 ≤ i ∧ i < (L.length : Int) ∧ n ≤ (o.length : Int) ∧ ((j = 0 ∧ A = [ansD (L.getD i.toNat []) R] ∧ freeF i L D = true ∧ rnd L D R i ⟨D, n, o, true⟩ = tot L D O R n) ∨ (j = 1 ∧ rnd L D R (i + 1) ⟨D, n, o, true⟩ = tot L D O R n))) ∨
  (p = 4 ∧ ∃ i o, v = ⟨[i, n], [], [L, D, R, o], [], Φ⟩ ∧ 0 ≤ i ∧ i ≤ (L.length : Int) ∧ n ≤ (o.length : Int) ∧ rnd L D R i ⟨D, n, o, true⟩ = tot L D O R n)
end
def μ (q : Nat × Val) : Nat × Nat := (match q.1 with
  | 0 => 1000 + (100 - nth 0 q.2.i 1).toNat
  | 1 => 4 * (100 - nth 0 q.2.i 0).toNat + 3
  | 4 => 4 * (100 - nth 0 q.2.i 0).toNat + 3
  | _ => 4 * (100 - nth 0 q.2.i 0).toNat + (if nth 0 q.2.i 2 = 0 then 2 else 1), 0)
section
variable {u : Val} {L D O R : Row} {n : Int}
/-- What is taken for granted, plainly. -/
structure Kx (L D O R : Row) (n : Int) : Prop where
  l9 : (L.length : Int) ≤ 9
  dl : (D.length : Int) = (L.length : Int)
  n0 : 0 ≤ n
  n9 : n ≤ 9
  no : n ≤ (O.length : Int)
  rn : (R.length : Int) ≤ n
  g : goodF n D L = true
theorem kx (hu : u.f = Φ) (hk : KV u fc.kn) (h1 : nth [] u.r 0 = L) (h2 : nth [] u.r 1 = D) (h3 : nth [] u.r 2 = O) (h4 : nth [] u.r 3 = R) (h5 : nth 0 u.i 0 = n) : Kx L D O R n := by
  unfold KV fc at hk
  simp only [List.forall_mem_cons, d_vi, d_vb, d_vr, d_ci, d_cb, d_nr, d_nl, d_add, d_sub, d_mul, d_rem, d_quo, d_bit, d_mn2, d_mx2, d_w, d_nn, d_bn2, d_len, d_neg, d_cl, d_at1, d_at2, d_at3, d_at4, d_at5, d_at6, d_at7, d_set, d_app, d_cat, d_take, d_drop, d_rep, d_cons, d_lt_t, d_lt_f, d_le_t, d_le_f, d_eqi_t, d_eqi_f, d_eqb_t, d_eqb_f, d_nb_t, d_nb_f, nth0, nthS, d_api, d_apr, D_cons, D_nl, D_nr, D_vr, D_set, mkL_l, mkR_r, mkI_i, d_shr2, d_shr3, d_shr16, d_shr40, d_shl2, d_shl3, d_shl16, d_shl40, d_apb, mkB_b, Φ616, hu, h1, h2, h3, h4, h5] at hk
  obtain ⟨a1, a2, a3, a4, a5, a6, a7, _⟩ := hk
  exact ⟨a1, a2, a3, a4, a5, a6, a7⟩
theorem Kx.G0 (h : Kx L D O R n) (t : Bool) {o : Row} (ho : n ≤ (o.length : Int)) : G0 L ⟨D, n, o, t⟩ := by
  obtain ⟨g1, g2⟩ := good_iff.1 h.g
  have := h.dl
  exact ⟨g1, by show D.length = _; omega, h.n0, ho, g2⟩
/-- The ends. -/
theorem argU (h1 : nth [] u.r 0 = L) (h2 : nth [] u.r 1 = D) (h3 : nth [] u.r 2 = O) (h4 : nth [] u.r 3 = R) (h5 : nth 0 u.i 0 = n) :
    fArg (den u (.o2 .bun (.o2 .cons (.vi 0) (.o2 .cons (.o1 .len (.vr 2)) .nl)) (.vr 0))) (den u (.vr 1)) (den u (.o2 .cat (.vr 2) (.vr 3))) = tot L D O R n := by
  refine fArg_mk ?_ ?_ ?_ ?_
  · show [nth 0 u.i 0, ((nth [] u.r 2).length : Int)] = _
    rw [h5, h3]
  · exact h1
  · exact h2
  · show nth [] u.r 2 ++ nth [] u.r 3 = _
    rw [h3, h4]
theorem retU (hu : u.f = Φ) (hk : KV u fc.kn) (h1 : nth [] u.r 0 = L) (h2 : nth [] u.r 1 = D) (h3 : nth [] u.r 2 = O) (h4 : nth [] u.r 3 = R) (h5 : nth 0 u.i 0 = n) (k : Nat) (hk2 : k = if (tot L D O R n).2.t = true then 0 else 1) :
    ∃ σ po, Sel u fc.out (k, σ, po) ∧ (⟨[(tot L D O R n).2.n, (L.length : Int)], [(tot L D O R n).1], [(tot L D O R n).2.d, (tot L D O R n).2.o], [], Φ⟩ : Val) = σ.val u := by
  have K := kx hu hk h1 h2 h3 h4 h5
  have F : Fine L ⟨D, n, O, false⟩ (tot L D O R n) := findM_fine (K.G0 false K.no)
  have ha := argU h1 h2 h3 h4 h5
  have hd : (tot L D O R n).2.d.length = D.length := by have := F.1.hl; have := K.dl; omega
  have e612 : (den u (.o3 (.aps 612) (.o2 .bun (.o2 .cons (.vi 0) (.o2 .cons (.o1 .len (.vr 2)) .nl)) (.vr 0)) (.vr 1) (.o2 .cat (.vr 2) (.vr 3)))).r = (tot L D O R n).2.d := by
    show (if (u.f 612 _ _ _).r.length = (nth [] u.r 1).length then (u.f 612 _ _ _).r else nth [] u.r 1) = _
    rw [hu, Φ612, ha, h2, mkR_r, if_pos hd]
  have e614 : (den u (.o3 (.apb 614) (.o2 .bun (.o2 .cons (.vi 0) (.o2 .cons (.o1 .len (.vr 2)) .nl)) (.vr 0)) (.vr 1) (.o2 .cat (.vr 2) (.vr 3)))).b = (tot L D O R n).2.t := by
    show (u.f 614 _ _ _).b = _
    rw [hu, Φ614, ha]; rfl
  have eσ : ∀ (x : Kn), (⟨[(tot L D O R n).2.n, (L.length : Int)], [(tot L D O R n).1], [(tot L D O R n).2.d, (tot L D O R n).2.o], [], Φ⟩ : Val) = Sb.val u (.mk [(.o3 (.api 610) (.o2 .bun (.o2 .cons (.vi 0) (.o2 .cons (.o1 .len (.vr 2)) .nl)) (.vr 0)) (.vr 1) (.o2 .cat (.vr 2) (.vr 3))), (.o1 .len (.vr 0))] [(.o3 (.apb 615) (.o2 .bun (.o2 .cons (.vi 0) (.o2 .cons (.o1 .len (.vr 2)) .nl)) (.vr 0)) (.vr 1) (.o2 .cat (.vr 2) (.vr 3)))] [(.o3 (.aps 612) (.o2 .bun (.o2 .cons (.vi 0) (.o2 .cons (.o1 .len (.vr 2)) .nl)) (.vr 0)) (.vr 1) (.o2 .cat (.vr 2) (.vr 3))), (.o3 (.apr 613) (.o2 .bun (.o2 .cons (.vi 0) (.o2 .cons (.o1 .len (.vr 2)) .nl)) (.vr 0)) (.vr 1) (.o2 .cat (.vr 2) (.vr 3)))] []) := by
    intro x
    have e610 : (den u (.o3 (.api 610) (.o2 .bun (.o2 .cons (.vi 0) (.o2 .cons (.o1 .len (.vr 2)) .nl)) (.vr 0)) (.vr 1) (.o2 .cat (.vr 2) (.vr 3)))).i = (tot L D O R n).2.n := by
      show (u.f 610 _ _ _).i = _
      rw [hu, Φ610, ha]; rfl
    have e613 : (den u (.o3 (.apr 613) (.o2 .bun (.o2 .cons (.vi 0) (.o2 .cons (.o1 .len (.vr 2)) .nl)) (.vr 0)) (.vr 1) (.o2 .cat (.vr 2) (.vr 3)))).r = (tot L D O R n).2.o := by
      show (u.f 613 _ _ _).r = _
      rw [hu, Φ613, ha]; rfl
    have e615 : (den u (.o3 (.apb 615) (.o2 .bun (.o2 .cons (.vi 0) (.o2 .cons (.o1 .len (.vr 2)) .nl)) (.vr 0)) (.vr 1) (.o2 .cat (.vr 2) (.vr 3)))).b = (tot L D O R n).1 := by
      show (u.f 615 _ _ _).b = _
      rw [hu, Φ615, ha]; rfl
    have el : (den u (.o1 .len (.vr 0))).i = (L.length : Int) := by show ((nth [] u.r 0).length : Int) = _; rw [h1]
    simp only [Sb.val, List.map_cons, List.map_nil, e610, e612, e613, e615, el, hu]
  subst hk2
  cases ht : (tot L D O R n).2.t with
  | true => exact ⟨_, _, .t (by rw [e614, ht]) rfl, eσ []⟩
  | false => exact ⟨_, _, .e (by rw [e614, ht]) rfl, eσ []⟩
end
theorem d_at8 {v : Val} {a b : E} : (den v (.o3 .at a b (.ci 8))).i = nth 0 ((den v a).r.getD (den v b).i.toNat []) 8 := rfl
theorem d_at9 {v : Val} {a b : E} : (den v (.o3 .at a b (.ci 9))).i = nth 0 ((den v a).r.getD (den v b).i.toNat []) 9 := rfl
theorem d_at10 {v : Val} {a b : E} : (den v (.o3 .at a b (.ci 10))).i = nth 0 ((den v a).r.getD (den v b).i.toNat []) 10 := rfl
section
variable {d : List Int} {R : Row}
theorem ans_a (h : 0 ≤ nth 0 d 6) : ansD d R = [nth 0 d 0, nth 0 d 1, nth 0 d 2, nth 0 d 3, nth 0 d 4, nth 0 d 5, nth 0 d 6, b2i (nbz (nth 0 d 7)), nth 0 d 8, nth 0 d 9, nth 0 d 10] := by unfold ansD; rw [if_pos h]
theorem ans_b (h : ¬ 0 ≤ nth 0 d 6) (h1 : nth 0 d 1 = 0) : ansD d R = [nth 0 d 0, nth 0 d 1, nth 0 d 2, nth 0 d 3, nth 0 d 4, nth 0 d 5, nth 0 d 6, 1, 0, 0, 0] := by unfold ansD; rw [if_neg h, if_pos h1]
theorem ans_c (h : ¬ 0 ≤ nth 0 d 6) (h1 : ¬ nth 0 d 1 = 0) (h2 : 0 < (R.length : Int)) (h3 : nth 0 d 2 = 1) : ansD d R = [nth 0 d 0, nth 0 d 1, nth 0 d 2, nth 0 d 3, nth 0 d 4, nth 0 d 5, nth 0 d 6, 1, cl R ((R.length : Int) + -1), 0, 0] := by unfold ansD; rw [if_neg h, if_neg h1, if_pos h2, if_pos h3]
theorem ans_d (h : ¬ 0 ≤ nth 0 d 6) (h1 : ¬ nth 0 d 1 = 0) (h2 : 0 < (R.length : Int)) (h3 : ¬ nth 0 d 2 = 1) : ansD d R = [nth 0 d 0, nth 0 d 1, nth 0 d 2, nth 0 d 3, nth 0 d 4, nth 0 d 5, nth 0 d 6, 1, cl R 0, 0, 0] := by unfold ansD; rw [if_neg h, if_neg h1, if_pos h2, if_neg h3]
theorem ans_e (h : ¬ 0 ≤ nth 0 d 6) (h1 : ¬ nth 0 d 1 = 0) (h2 : ¬ 0 < (R.length : Int)) : ansD d R = [nth 0 d 0, nth 0 d 1, nth 0 d 2, nth 0 d 3, nth 0 d 4, nth 0 d 5, nth 0 d 6, 1, 0, 0, 0] := by unfold ansD; rw [if_neg h, if_neg h1, if_neg h2]
end
section
variable (u : Val) (L D O R : Row) (n : Int) (hu : u.f = Φ) (hk : KV u fc.kn) (h1 : nth [] u.r 0 = L) (h2 : nth [] u.r 1 = D) (h3 : nth [] u.r 2 = O) (h4 : nth [] u.r 3 = R) (h5 : nth 0 u.i 0 = n)
abbrev Ret (u : Val) (k : Nat) (u' : Val) : Prop := ∃ σ po, Sel u fc.out (k, σ, po) ∧ u' = σ.val u
theorem lefF_at {i : Int} (h0 : 0 ≤ i) : lefF L D i.toNat = (decide (0 ≤ nth 0 (L.getD i.toNat []) 6) && decide (cl D i = 0)) := by
  unfold lefF; rw [show ((i.toNat : Nat) : Int) = i by omega]
include hu hk h1 h2 h3 h4 h5
theorem s0 : ∀ v, Inv L D O R n 0 v → TOK v (fun _ g => LgFOK v (fun q w => Inv L D O R n q w ∧ lt2 μ (q, w) (0, v)) (Ret u) g) tr0 := by
  rintro v (⟨_, s, i, rfl, g0, g1, g2⟩ | ⟨h, _⟩ | ⟨h, _⟩ | ⟨h, _⟩ | ⟨h, _⟩) <;> try cases h
  have K := kx hu hk h1 h2 h3 h4 h5
  have k1 := K.dl
  have ls := left_succ (L := L) (D := D) g0
  rw [lefF_at L D g0] at ls
  have nxt : ∀ s', i < (L.length : Int) → s' = (leftN L D (i + 1).toNat : Int) → Inv L D O R n 0 ⟨[s', i + 1, n], [], [L, D, O, R], [], Φ⟩ ∧ lt2 μ (0, ⟨[s', i + 1, n], [], [L, D, O, R], [], Φ⟩) (0, ⟨[s, i, n], [], [L, D, O, R], [], Φ⟩) := fun s' z z2 =>
    ⟨.inl ⟨rfl, s', i + 1, rfl, by omega, by omega, z2⟩, .inl (by show 1000 + (100 - (i + 1)).toNat < 1000 + (100 - i).toNat; have := K.l9; omega)⟩
  unfold tr0
  repeat' (first
    | (refine TOK.br' (fun g => ?_) (fun g => ?_) <;> simp (disch := omega) only [d_vi, d_vb, d_vr, d_ci, d_cb, d_nr, d_nl, d_add, d_sub, d_mul, d_rem, d_quo, d_bit, d_mn2, d_mx2, d_w, d_nn, d_bn2, d_len, d_neg, d_cl, d_at1, d_at2, d_at3, d_at4, d_at5, d_at6, d_at7, d_set, d_app, d_cat, d_take, d_drop, d_rep, d_cons, d_lt_t, d_lt_n, d_le_t, d_le_n, d_eqi_t, d_eqi_f, d_eqb_t, d_eqb_f, d_nb_t, d_nb_f, nth0, nthS, d_api, d_apr, D_cons, D_nl, D_nr, D_vr, D_set, mkL_l, mkR_r, mkI_i, d_shr2, d_shr3, d_shr16, d_shr40, d_shl2, d_shl3, d_shl16, d_shl40, d_apb, mkB_b] at g <;> (try (exfalso; omega)))
    | (with_reducible refine TOK.leaf' ?_))
  all_goals first
    | (show Inv L D O R n 0 _ ∧ lt2 μ (0, _) _
       simp (disch := omega) only [Sb.val, List.map_cons, List.map_nil, d_vi, d_vb, d_vr, d_ci, d_cb, d_nr, d_nl, d_add, d_sub, d_mul, d_rem, d_quo, d_bit, d_mn2, d_mx2, d_w, d_nn, d_bn2, d_len, d_neg, d_cl, d_at1, d_at2, d_at3, d_at4, d_at5, d_at6, d_at7, d_set, d_app, d_cat, d_take, d_drop, d_rep, d_cons, d_lt_t, d_lt_f, d_le_t, d_le_f, d_eqi_t, d_eqi_f, d_eqb_t, d_eqb_f, d_nb_t, d_nb_f, nth0, nthS, d_api, d_apr, D_cons, D_nl, D_nr, D_vr, D_set, mkL_l, mkR_r, mkI_i, d_shr2, d_shr3, d_shr16, d_shr40, d_shl2, d_shl3, d_shl16, d_shl40, d_apb, mkB_b]
       refine nxt _ (by assumption) ?_
       rw [ls]
       first
         | (rw [decide_eq_true (by assumption : 0 ≤ nth 0 (L.getD i.toNat []) 6), decide_eq_true (by assumption : cl D i = 0)]; simp; omega)
         | (rw [decide_eq_false (by assumption : ¬ cl D i = 0), Bool.and_false]; simp; omega)
         | (rw [decide_eq_false (by assumption : ¬ 0 ≤ nth 0 (L.getD i.toNat []) 6), Bool.false_and]; simp; omega))
    | skip
  all_goals have e : i.toNat = L.length := by omega
  all_goals rw [e] at g2
  all_goals clear nxt ls
  · rename_i g
    have hl : leftN L D L.length = 0 := by omega
    have ht : tot L D O R n = (true, ⟨D, n, O, false⟩) := by unfold tot findM findF; rw [if_pos hl]
    have := retU hu hk h1 h2 h3 h4 h5 1 (by rw [ht]; rfl)
    rw [ht] at this
    refine (show Ret u 1 _ from ?_)
    simp (disch := omega) only [Sb.val, List.map_cons, List.map_nil, d_vi, d_vb, d_vr, d_ci, d_cb, d_nr, d_nl, d_add, d_sub, d_mul, d_rem, d_quo, d_bit, d_mn2, d_mx2, d_w, d_nn, d_bn2, d_len, d_neg, d_cl, d_at1, d_at2, d_at3, d_at4, d_at5, d_at6, d_at7, d_set, d_app, d_cat, d_take, d_drop, d_rep, d_cons, d_lt_t, d_lt_f, d_le_t, d_le_f, d_eqi_t, d_eqi_f, d_eqb_t, d_eqb_f, d_nb_t, d_nb_f, nth0, nthS, d_api, d_apr, D_cons, D_nl, D_nr, D_vr, D_set, mkL_l, mkR_r, mkI_i, d_shr2, d_shr3, d_shr16, d_shr40, d_shl2, d_shl3, d_shl16, d_shl40, d_apb, mkB_b]
    exact this
  · rename_i g
    have hl : ¬ leftN L D L.length = 0 := by omega
    refine And.intro (?_ : Inv L D O R n 1 _) (?_ : lt2 μ (1, _) _)
    · simp (disch := omega) only [Sb.val, List.map_cons, List.map_nil, d_vi, d_vb, d_vr, d_ci, d_cb, d_nr, d_nl, d_add, d_sub, d_mul, d_rem, d_quo, d_bit, d_mn2, d_mx2, d_w, d_nn, d_bn2, d_len, d_neg, d_cl, d_at1, d_at2, d_at3, d_at4, d_at5, d_at6, d_at7, d_set, d_app, d_cat, d_take, d_drop, d_rep, d_cons, d_lt_t, d_lt_f, d_le_t, d_le_f, d_eqi_t, d_eqi_f, d_eqb_t, d_eqb_f, d_nb_t, d_nb_f, nth0, nthS, d_api, d_apr, D_cons, D_nl, D_nr, D_vr, D_set, mkL_l, mkR_r, mkI_i, d_shr2, d_shr3, d_shr16, d_shr40, d_shl2, d_shl3, d_shl16, d_shl40, d_apb, mkB_b]
      refine .inr (.inl ⟨rfl, 0, rfl, by omega, by omega, ?_⟩)
      unfold tot findM findF rnd
      rw [if_neg hl]
      rfl
    · refine .inl ?_
      simp (disch := omega) only [Sb.val, List.map_cons, List.map_nil, d_vi, d_vb, d_vr, d_ci, d_cb, d_nr, d_nl, d_add, d_sub, d_mul, d_rem, d_quo, d_bit, d_mn2, d_mx2, d_w, d_nn, d_bn2, d_len, d_neg, d_cl, d_at1, d_at2, d_at3, d_at4, d_at5, d_at6, d_at7, d_set, d_app, d_cat, d_take, d_drop, d_rep, d_cons, d_lt_t, d_lt_f, d_le_t, d_le_f, d_eqi_t, d_eqi_f, d_eqb_t, d_eqb_f, d_nb_t, d_nb_f, nth0, nthS, d_api, d_apr, D_cons, D_nl, D_nr, D_vr, D_set, mkL_l, mkR_r, mkI_i, d_shr2, d_shr3, d_shr16, d_shr40, d_shl2, d_shl3, d_shl16, d_shl40, d_apb, mkB_b]
      show 4 * (100 - (0 : Int)).toNat + 3 < 1000 + _
      omega
theorem s1 : ∀ v, Inv L D O R n 1 v → TOK v (fun _ g => LgFOK v (fun q w => Inv L D O R n q w ∧ lt2 μ (q, w) (1, v)) (Ret u) g) tr1 := by
  rintro v (⟨h, _⟩ | ⟨_, i, rfl, g0, g1, g2⟩ | ⟨h, _⟩ | ⟨h, _⟩ | ⟨h, _⟩) <;> try cases h
  have K := kx hu hk h1 h2 h3 h4 h5
  have k9 := K.l9
  have nxt : i < (L.length : Int) → freeF i L D = true → Inv L D O R n 2 ⟨[i, 1, 0, n], [], [L, D, O, R, [ansD (L.getD i.toNat []) R]], [], Φ⟩ ∧ lt2 μ (2, ⟨[i, 1, 0, n], [], [L, D, O, R, [ansD (L.getD i.toNat []) R]], [], Φ⟩) (1, ⟨[i, n], [], [L, D, O, R], [], Φ⟩) := fun z z2 =>
    ⟨.inr (.inr (.inl ⟨rfl, i, 0, rfl, g0, z, .inl ⟨rfl, z2, g2⟩⟩)), .inl (by show 4 * (100 - i).toNat + 2 < 4 * (100 - i).toNat + 3; omega)⟩
  unfold tr1
  repeat' (first
    | (refine TOK.br' (fun g => ?_) (fun g => ?_) <;> simp (disch := omega) only [d_vi, d_vb, d_vr, d_ci, d_cb, d_nr, d_nl, d_add, d_sub, d_mul, d_rem, d_quo, d_bit, d_mn2, d_mx2, d_w, d_nn, d_bn2, d_len, d_neg, d_cl, d_at1, d_at2, d_at3, d_at4, d_at5, d_at6, d_at7, d_set, d_app, d_cat, d_take, d_drop, d_rep, d_cons, d_lt_t, d_lt_n, d_le_t, d_le_n, d_eqi_t, d_eqi_f, d_eqb_t, d_eqb_f, d_nb_t, d_nb_f, nth0, nthS, d_api, d_apr, D_cons, D_nl, D_nr, D_vr, D_set, mkL_l, mkR_r, mkI_i, d_shr2, d_shr3, d_shr16, d_shr40, d_shl2, d_shl3, d_shl16, d_shl40, d_apb, mkB_b, Φ604] at g <;> (try (exfalso; omega)))
    | (with_reducible refine TOK.leaf' ?_))
  all_goals first
    | (refine (show Inv L D O R n 2 _ ∧ lt2 μ (2, _) _ from ?_)
       simp (disch := omega) only [Sb.val, List.map_cons, List.map_nil, d_vi, d_vb, d_vr, d_ci, d_cb, d_nr, d_nl, d_add, d_sub, d_mul, d_rem, d_quo, d_bit, d_mn2, d_mx2, d_w, d_nn, d_bn2, d_len, d_neg, d_cl, d_at1, d_at2, d_at3, d_at4, d_at5, d_at6, d_at7, d_set, d_app, d_cat, d_take, d_drop, d_rep, d_cons, d_lt_t, d_lt_f, d_le_t, d_le_f, d_eqi_t, d_eqi_f, d_eqb_t, d_eqb_f, d_nb_t, d_nb_f, nth0, nthS, d_api, d_apr, D_cons, D_nl, D_nr, D_vr, D_set, mkL_l, mkR_r, mkI_i, d_shr2, d_shr3, d_shr16, d_shr40, d_shl2, d_shl3, d_shl16, d_shl40, d_apb, mkB_b, d_nb2, d_at8, d_at9, d_at10, List.nil_append]
       rw [show cl L i = nth 0 (L.getD i.toNat []) 0 from rfl]
       first
         | (rw [← ans_a (R := R) (by assumption : 0 ≤ nth 0 (L.getD i.toNat []) 6)]; exact nxt (by assumption) (by assumption))
         | (rw [← ans_b (R := R) (by assumption : ¬ 0 ≤ nth 0 (L.getD i.toNat []) 6) (by assumption : nth 0 (L.getD i.toNat []) 1 = 0)]; exact nxt (by assumption) (by assumption))
         | (rw [← ans_c (by assumption : ¬ 0 ≤ nth 0 (L.getD i.toNat []) 6) (by assumption : ¬ nth 0 (L.getD i.toNat []) 1 = 0) (by assumption : 0 < (R.length : Int)) (by assumption)]; exact nxt (by assumption) (by assumption))
         | (rw [← ans_d (by assumption : ¬ 0 ≤ nth 0 (L.getD i.toNat []) 6) (by assumption : ¬ nth 0 (L.getD i.toNat []) 1 = 0) (by assumption : 0 < (R.length : Int)) (by assumption)]; exact nxt (by assumption) (by assumption))
         | (rw [← ans_e (by assumption : ¬ 0 ≤ nth 0 (L.getD i.toNat []) 6) (by assumption : ¬ nth 0 (L.getD i.toNat []) 1 = 0) (by assumption : ¬ 0 < (R.length : Int))]; exact nxt (by assumption) (by assumption)))
    | (refine And.intro (?_ : Inv L D O R n 1 _) (?_ : lt2 μ (1, _) _)
       · simp (disch := omega) only [Sb.val, List.map_cons, List.map_nil, d_vi, d_vb, d_vr, d_ci, d_cb, d_nr, d_nl, d_add, d_sub, d_mul, d_rem, d_quo, d_bit, d_mn2, d_mx2, d_w, d_nn, d_bn2, d_len, d_neg, d_cl, d_at1, d_at2, d_at3, d_at4, d_at5, d_at6, d_at7, d_set, d_app, d_cat, d_take, d_drop, d_rep, d_cons, d_lt_t, d_lt_f, d_le_t, d_le_f, d_eqi_t, d_eqi_f, d_eqb_t, d_eqb_f, d_nb_t, d_nb_f, nth0, nthS, d_api, d_apr, D_cons, D_nl, D_nr, D_vr, D_set, mkL_l, mkR_r, mkI_i, d_shr2, d_shr3, d_shr16, d_shr40, d_shl2, d_shl3, d_shl16, d_shl40, d_apb, mkB_b]
         refine .inr (.inl ⟨rfl, i + 1, rfl, by omega, by omega, ?_⟩)
         rw [← g2]; exact (findL_no g0 (by assumption) (by assumption)).symm
       · refine .inl ?_
         simp (disch := omega) only [Sb.val, List.map_cons, List.map_nil, d_vi, d_vb, d_vr, d_ci, d_cb, d_nr, d_nl, d_add, d_sub, d_mul, d_rem, d_quo, d_bit, d_mn2, d_mx2, d_w, d_nn, d_bn2, d_len, d_neg, d_cl, d_at1, d_at2, d_at3, d_at4, d_at5, d_at6, d_at7, d_set, d_app, d_cat, d_take, d_drop, d_rep, d_cons, d_lt_t, d_lt_f, d_le_t, d_le_f, d_eqi_t, d_eqi_f, d_eqb_t, d_eqb_f, d_nb_t, d_nb_f, nth0, nthS, d_api, d_apr, D_cons, D_nl, D_nr, D_vr, D_set, mkL_l, mkR_r, mkI_i, d_shr2, d_shr3, d_shr16, d_shr40, d_shl2, d_shl3, d_shl16, d_shl40, d_apb, mkB_b]
         show 4 * (100 - (i + 1)).toNat + 3 < 4 * (100 - i).toNat + 3; omega)
    | (refine (show Ret u 1 _ from ?_)
       have ht : tot L D O R n = (false, ⟨D, n, O, false⟩) := by rw [← g2]; exact findL_end g0 (by assumption)
       have := retU hu hk h1 h2 h3 h4 h5 1 (by rw [ht]; rfl)
       rw [ht] at this
       simp (disch := omega) only [Sb.val, List.map_cons, List.map_nil, d_vi, d_vb, d_vr, d_ci, d_cb, d_nr, d_nl, d_add, d_sub, d_mul, d_rem, d_quo, d_bit, d_mn2, d_mx2, d_w, d_nn, d_bn2, d_len, d_neg, d_cl, d_at1, d_at2, d_at3, d_at4, d_at5, d_at6, d_at7, d_set, d_app, d_cat, d_take, d_drop, d_rep, d_cons, d_lt_t, d_lt_f, d_le_t, d_le_f, d_eqi_t, d_eqi_f, d_eqb_t, d_eqb_f, d_nb_t, d_nb_f, nth0, nthS, d_api, d_apr, D_cons, D_nl, D_nr, D_vr, D_set, mkL_l, mkR_r, mkI_i, d_shr2, d_shr3, d_shr16, d_shr40, d_shl2, d_shl3, d_shl16, d_shl40, d_apb, mkB_b]
       exact this)
theorem s4 : ∀ v, Inv L D O R n 4 v → TOK v (fun _ g => LgFOK v (fun q w => Inv L D O R n q w ∧ lt2 μ (q, w) (4, v)) (Ret u) g) tr4 := by
  rintro v (⟨h, _⟩ | ⟨h, _⟩ | ⟨h, _⟩ | ⟨h, _⟩ | ⟨_, i, o, rfl, g0, g1, g3, g2⟩) <;> try cases h
  have K := kx hu hk h1 h2 h3 h4 h5
  have k9 := K.l9
  have nxt : i < (L.length : Int) → freeF i L D = true → Inv L D O R n 3 ⟨[i, 1, 0, n], [], [L, D, R, [ansD (L.getD i.toNat []) R], o], [], Φ⟩ ∧ lt2 μ (3, ⟨[i, 1, 0, n], [], [L, D, R, [ansD (L.getD i.toNat []) R], o], [], Φ⟩) (4, ⟨[i, n], [], [L, D, R, o], [], Φ⟩) := fun z z2 =>
    ⟨.inr (.inr (.inr (.inl ⟨rfl, i, 0, o, _, rfl, rfl, g0, z, g3, .inl ⟨rfl, rfl, z2, g2⟩⟩))), .inl (by show 4 * (100 - i).toNat + 2 < 4 * (100 - i).toNat + 3; omega)⟩
  unfold tr4
  repeat' (first
    | (refine TOK.br' (fun g => ?_) (fun g => ?_) <;> simp (disch := omega) only [d_vi, d_vb, d_vr, d_ci, d_cb, d_nr, d_nl, d_add, d_sub, d_mul, d_rem, d_quo, d_bit, d_mn2, d_mx2, d_w, d_nn, d_bn2, d_len, d_neg, d_cl, d_at1, d_at2, d_at3, d_at4, d_at5, d_at6, d_at7, d_set, d_app, d_cat, d_take, d_drop, d_rep, d_cons, d_lt_t, d_lt_n, d_le_t, d_le_n, d_eqi_t, d_eqi_f, d_eqb_t, d_eqb_f, d_nb_t, d_nb_f, nth0, nthS, d_api, d_apr, D_cons, D_nl, D_nr, D_vr, D_set, mkL_l, mkR_r, mkI_i, d_shr2, d_shr3, d_shr16, d_shr40, d_shl2, d_shl3, d_shl16, d_shl40, d_apb, mkB_b, Φ604] at g <;> (try (exfalso; omega)))
    | (with_reducible refine TOK.leaf' ?_))
  all_goals first
    | (refine (show Inv L D O R n 3 _ ∧ lt2 μ (3, _) _ from ?_)
       simp (disch := omega) only [Sb.val, List.map_cons, List.map_nil, d_vi, d_vb, d_vr, d_ci, d_cb, d_nr, d_nl, d_add, d_sub, d_mul, d_rem, d_quo, d_bit, d_mn2, d_mx2, d_w, d_nn, d_bn2, d_len, d_neg, d_cl, d_at1, d_at2, d_at3, d_at4, d_at5, d_at6, d_at7, d_set, d_app, d_cat, d_take, d_drop, d_rep, d_cons, d_lt_t, d_lt_f, d_le_t, d_le_f, d_eqi_t, d_eqi_f, d_eqb_t, d_eqb_f, d_nb_t, d_nb_f, nth0, nthS, d_api, d_apr, D_cons, D_nl, D_nr, D_vr, D_set, mkL_l, mkR_r, mkI_i, d_shr2, d_shr3, d_shr16, d_shr40, d_shl2, d_shl3, d_shl16, d_shl40, d_apb, mkB_b, d_nb2, d_at8, d_at9, d_at10, List.nil_append]
       rw [show cl L i = nth 0 (L.getD i.toNat []) 0 from rfl]
       first
         | (rw [← ans_a (R := R) (by assumption : 0 ≤ nth 0 (L.getD i.toNat []) 6)]; exact nxt (by assumption) (by assumption))
         | (rw [← ans_b (R := R) (by assumption : ¬ 0 ≤ nth 0 (L.getD i.toNat []) 6) (by assumption : nth 0 (L.getD i.toNat []) 1 = 0)]; exact nxt (by assumption) (by assumption))
         | (rw [← ans_c (by assumption : ¬ 0 ≤ nth 0 (L.getD i.toNat []) 6) (by assumption : ¬ nth 0 (L.getD i.toNat []) 1 = 0) (by assumption : 0 < (R.length : Int)) (by assumption)]; exact nxt (by assumption) (by assumption))
         | (rw [← ans_d (by assumption : ¬ 0 ≤ nth 0 (L.getD i.toNat []) 6) (by assumption : ¬ nth 0 (L.getD i.toNat []) 1 = 0) (by assumption : 0 < (R.length : Int)) (by assumption)]; exact nxt (by assumption) (by assumption))
         | (rw [← ans_e (by assumption : ¬ 0 ≤ nth 0 (L.getD i.toNat []) 6) (by assumption : ¬ nth 0 (L.getD i.toNat []) 1 = 0) (by assumption : ¬ 0 < (R.length : Int))]; exact nxt (by assumption) (by assumption)))
    | (refine And.intro (?_ : Inv L D O R n 4 _) (?_ : lt2 μ (4, _) _)
       · simp (disch := omega) only [Sb.val, List.map_cons, List.map_nil, d_vi, d_vb, d_vr, d_ci, d_cb, d_nr, d_nl, d_add, d_sub, d_mul, d_rem, d_quo, d_bit, d_mn2, d_mx2, d_w, d_nn, d_bn2, d_len, d_neg, d_cl, d_at1, d_at2, d_at3, d_at4, d_at5, d_at6, d_at7, d_set, d_app, d_cat, d_take, d_drop, d_rep, d_cons, d_lt_t, d_lt_f, d_le_t, d_le_f, d_eqi_t, d_eqi_f, d_eqb_t, d_eqb_f, d_nb_t, d_nb_f, nth0, nthS, d_api, d_apr, D_cons, D_nl, D_nr, D_vr, D_set, mkL_l, mkR_r, mkI_i, d_shr2, d_shr3, d_shr16, d_shr40, d_shl2, d_shl3, d_shl16, d_shl40, d_apb, mkB_b]
         refine .inr (.inr (.inr (.inr ⟨rfl, i + 1, o, rfl, by omega, by omega, g3, ?_⟩)))
         rw [← g2]; exact (findL_no g0 (by assumption) (by assumption)).symm
       · refine .inl ?_
         simp (disch := omega) only [Sb.val, List.map_cons, List.map_nil, d_vi, d_vb, d_vr, d_ci, d_cb, d_nr, d_nl, d_add, d_sub, d_mul, d_rem, d_quo, d_bit, d_mn2, d_mx2, d_w, d_nn, d_bn2, d_len, d_neg, d_cl, d_at1, d_at2, d_at3, d_at4, d_at5, d_at6, d_at7, d_set, d_app, d_cat, d_take, d_drop, d_rep, d_cons, d_lt_t, d_lt_f, d_le_t, d_le_f, d_eqi_t, d_eqi_f, d_eqb_t, d_eqb_f, d_nb_t, d_nb_f, nth0, nthS, d_api, d_apr, D_cons, D_nl, D_nr, D_vr, D_set, mkL_l, mkR_r, mkI_i, d_shr2, d_shr3, d_shr16, d_shr40, d_shl2, d_shl3, d_shl16, d_shl40, d_apb, mkB_b]
         show 4 * (100 - (i + 1)).toNat + 3 < 4 * (100 - i).toNat + 3; omega)
    | (refine (show Ret u 0 _ from ?_)
       have ht : tot L D O R n = (false, ⟨D, n, o, true⟩) := by rw [← g2]; exact findL_end g0 (by assumption)
       have := retU hu hk h1 h2 h3 h4 h5 0 (by rw [ht]; rfl)
       rw [ht] at this
       simp (disch := omega) only [Sb.val, List.map_cons, List.map_nil, d_vi, d_vb, d_vr, d_ci, d_cb, d_nr, d_nl, d_add, d_sub, d_mul, d_rem, d_quo, d_bit, d_mn2, d_mx2, d_w, d_nn, d_bn2, d_len, d_neg, d_cl, d_at1, d_at2, d_at3, d_at4, d_at5, d_at6, d_at7, d_set, d_app, d_cat, d_take, d_drop, d_rep, d_cons, d_lt_t, d_lt_f, d_le_t, d_le_f, d_eqi_t, d_eqi_f, d_eqb_t, d_eqb_f, d_nb_t, d_nb_f, nth0, nthS, d_api, d_apr, D_cons, D_nl, D_nr, D_vr, D_set, mkL_l, mkR_r, mkI_i, d_shr2, d_shr3, d_shr16, d_shr40, d_shl2, d_shl3, d_shl16, d_shl40, d_apb, mkB_b]
       exact this)
end
/-- What is known where a call goes on. -/
structure Go1 (L D o R : Row) (n i : Int) (t : Bool) (a : List Int) (q : Bool × FS) : Prop where
  nn : ((n.toNat : Nat) : Int) = n
  hlen : ((List.take n.toNat o).length : Int) = n
  hT : ∀ X : Row, List.take (n + 1).toNat (List.take n.toNat o ++ [[i]] ++ X) = List.take n.toNat o ++ [[i]]
  hD : ∀ X : Row, List.drop (n + 1).toNat (List.take n.toNat o ++ [[i]] ++ X) = X
  hc : cnt0 (List.set D i.toNat [1]) + 1 = cnt0 D
  hb : n + (cnt0 D : Int) ≤ (L.length : Int)
  hr : ((stepR a R).length : Int) ≤ (R.length : Int) + 1
  hg : goodF (n + 1) (List.set D i.toNat [1]) L = true
  hQ : findM L ⟨List.set D i.toNat [1], n + 1, List.take n.toNat o ++ [[i]], false⟩ (stepR a R) = q
  hF : Fine L (fsIn ⟨D, n, o, t⟩ i) q
  hl : q.2.d.length = (List.set D i.toNat [1]).length
  hrec : findF L (cnt0 D) (fsIn ⟨D, n, o, t⟩ i) (stepR a R) = q
  hn : q.1 = false → q.2.n = n + 1
theorem go1 {L D O o R : Row} {n i : Int} {t : Bool} (K : Kx L D O R n) (ho : n ≤ (o.length : Int)) (g0 : 0 ≤ i) (g1 : i < (L.length : Int)) (hf : freeF i L D = true) (a : List Int) : ∃ q, Go1 L D o R n i t a q := by
  have k2 := K.n0
  have hg := K.G0 t ho
  obtain ⟨h1, h2, h3⟩ := hg.step g0 g1 hf
  have e1 : findM L ⟨List.set D i.toNat [1], n + 1, List.take n.toNat o ++ [[i]], false⟩ (stepR a R) = findF L (cnt0 D) (fsIn ⟨D, n, o, t⟩ i) (stepR a R) := by
    unfold findM
    rw [show cnt0 (⟨List.set D i.toNat [1], n + 1, List.take n.toNat o ++ [[i]], false⟩ : FS).d + 1 = cnt0 D from h2]
    rfl
  have hF := findF_fine L (cnt0 D) (fsIn ⟨D, n, o, t⟩ i) (stepR a R) h1
  refine ⟨_, by omega, ?_, ?_, ?_, h2, hg.c, FLinDo.doRow_len _ _ _ _ _, good_iff.2 ⟨h1.h1, h1.c⟩, e1, hF, ?_, rfl, fun h => (hF.2 h).2.1⟩
  · rw [List.length_take]; omega
  · exact fun X => List.take_left' (by simp; omega)
  · exact fun X => List.drop_left' (by simp; omega)
  · have e := hF.1.hl; have e2 := h1.hl
    exact e.trans e2.symm
theorem d_aps {v : Val} {k : Nat} {a b c : E} : (den v (.o3 (.aps k) a b c)).r = if (v.f k (den v a) (den v b) (den v c)).r.length = (den v b).r.length then (v.f k (den v a) (den v b) (den v c)).r else (den v b).r := rfl
section
variable (u : Val) (L D O R : Row) (n : Int) (hu : u.f = Φ) (hk : KV u fc.kn) (h1 : nth [] u.r 0 = L) (h2 : nth [] u.r 1 = D) (h3 : nth [] u.r 2 = O) (h4 : nth [] u.r 3 = R) (h5 : nth 0 u.i 0 = n)
include hu hk h1 h2 h3 h4 h5
theorem s2 : ∀ v, Inv L D O R n 2 v → TOK v (fun _ g => LgFOK v (fun q w => Inv L D O R n q w ∧ lt2 μ (q, w) (2, v)) (Ret u) g) tr2 := by
  rintro v (⟨h, _⟩ | ⟨h, _⟩ | ⟨_, i, j, rfl, g0, g1, g2⟩ | ⟨h, _⟩ | ⟨h, _⟩) <;> try cases h
  have K := kx hu hk h1 h2 h3 h4 h5
  have k9 := K.l9
  have k1 := K.no
  have k2 := K.n0
  have k3 := K.dl
  have k4 := K.rn
  generalize ha : ansD (L.getD i.toNat []) R = a at *
  unfold tr2
  refine TOK.br' (fun g => ?_) (fun g => ?_) <;> simp (disch := omega) only [d_vi, d_vb, d_vr, d_ci, d_cb, d_nr, d_nl, d_add, d_sub, d_mul, d_rem, d_quo, d_bit, d_mn2, d_mx2, d_w, d_nn, d_bn2, d_len, d_neg, d_cl, d_at1, d_at2, d_at3, d_at4, d_at5, d_at6, d_at7, d_set, d_app, d_cat, d_take, d_drop, d_rep, d_cons, d_lt_t, d_lt_n, d_le_t, d_le_n, d_eqi_t, d_eqi_f, d_eqb_t, d_eqb_f, d_nb_t, d_nb_f, nth0, nthS, d_api, d_apr, D_cons, D_nl, D_nr, D_vr, D_set, mkL_l, mkR_r, mkI_i, d_shr2, d_shr3, d_shr16, d_shr40, d_shl2, d_shl3, d_shl16, d_shl40, d_apb, mkB_b] at g
  · rcases g2 with ⟨rfl, hf, g2⟩ | ⟨rfl, g2⟩
    · have hA : ([a] : Row).getD (0 : Int).toNat [] = a := rfl
      obtain ⟨q, G⟩ := go1 (t := false) K K.no g0 g1 hf a
      have hsO : doOk (nth 0 a 1) (nth 0 a 2) (nth 0 a 8) (b2i (nbz (nth 0 a 7))) R = stepO a R := rfl
      have hsR : doRow (nth 0 a 1) (nth 0 a 2) (nth 0 a 3) (b2i (nbz (nth 0 a 7))) R = stepR a R := rfl
      refine TOK.br' (fun g => ?_) (fun g => ?_) <;> simp (disch := omega) only [d_vi, d_vb, d_vr, d_ci, d_cb, d_nr, d_nl, d_add, d_sub, d_mul, d_rem, d_quo, d_bit, d_mn2, d_mx2, d_w, d_nn, d_bn2, d_len, d_neg, d_cl, d_at1, d_at2, d_at3, d_at4, d_at5, d_at6, d_at7, d_set, d_app, d_cat, d_take, d_drop, d_rep, d_cons, d_lt_t, d_lt_n, d_le_t, d_le_n, d_eqi_t, d_eqi_f, d_eqb_t, d_eqb_f, d_nb_t, d_nb_f, nth0, nthS, d_api, d_apr, D_cons, D_nl, D_nr, D_vr, D_set, mkL_l, mkR_r, mkI_i, d_shr2, d_shr3, d_shr16, d_shr40, d_shl2, d_shl3, d_shl16, d_shl40, d_apb, mkB_b, List.length_cons, List.length_nil] at g <;> (try (exfalso; omega))
      refine TOK.br' (fun g => ?_) (fun g => ?_) <;> simp (disch := omega) only [d_vi, d_vb, d_vr, d_ci, d_cb, d_nr, d_nl, d_add, d_sub, d_mul, d_rem, d_quo, d_bit, d_mn2, d_mx2, d_w, d_nn, d_bn2, d_len, d_neg, d_cl, d_at1, d_at2, d_at3, d_at4, d_at5, d_at6, d_at7, d_set, d_app, d_cat, d_take, d_drop, d_rep, d_cons, d_lt_t, d_lt_n, d_le_t, d_le_n, d_eqi_t, d_eqi_f, d_eqb_t, d_eqb_f, d_nb_t, d_nb_f, nth0, nthS, d_api, d_apr, D_cons, D_nl, D_nr, D_vr, D_set, mkL_l, mkR_r, mkI_i, d_shr2, d_shr3, d_shr16, d_shr40, d_shl2, d_shl3, d_shl16, d_shl40, d_apb, mkB_b, d_at8, d_nb2, Φ601, hA, hsO] at g
      rotate_left
      · refine TOK.leaf' (And.intro (?_ : Inv L D O R n 2 _) (?_ : lt2 μ (2, _) _))
        · simp (disch := omega) only [Sb.val, List.map_cons, List.map_nil, d_vi, d_vb, d_vr, d_ci, d_cb, d_nr, d_nl, d_add, d_sub, d_mul, d_rem, d_quo, d_bit, d_mn2, d_mx2, d_w, d_nn, d_bn2, d_len, d_neg, d_cl, d_at1, d_at2, d_at3, d_at4, d_at5, d_at6, d_at7, d_set, d_app, d_cat, d_take, d_drop, d_rep, d_cons, d_lt_t, d_lt_f, d_le_t, d_le_f, d_eqi_t, d_eqi_f, d_eqb_t, d_eqb_f, d_nb_t, d_nb_f, nth0, nthS, d_api, d_apr, D_cons, D_nl, D_nr, D_vr, D_set, mkL_l, mkR_r, mkI_i, d_shr2, d_shr3, d_shr16, d_shr40, d_shl2, d_shl3, d_shl16, d_shl40, d_apb, mkB_b]
          exact .inr (.inr (.inl ⟨rfl, i, 0 + 1, by rw [ha], g0, g1, .inr ⟨by omega, by rw [← g2]; exact (findL_not g0 g1 hf (by rw [ha]; exact g)).symm⟩⟩))
        · refine .inl ?_
          simp (disch := omega) only [Sb.val, List.map_cons, List.map_nil, d_vi, d_vb, d_vr, d_ci, d_cb, d_nr, d_nl, d_add, d_sub, d_mul, d_rem, d_quo, d_bit, d_mn2, d_mx2, d_w, d_nn, d_bn2, d_len, d_neg, d_cl, d_at1, d_at2, d_at3, d_at4, d_at5, d_at6, d_at7, d_set, d_app, d_cat, d_take, d_drop, d_rep, d_cons, d_lt_t, d_lt_f, d_le_t, d_le_f, d_eqi_t, d_eqi_f, d_eqb_t, d_eqb_f, d_nb_t, d_nb_f, nth0, nthS, d_api, d_apr, D_cons, D_nl, D_nr, D_vr, D_set, mkL_l, mkR_r, mkI_i, d_shr2, d_shr3, d_shr16, d_shr40, d_shl2, d_shl3, d_shl16, d_shl40, d_apb, mkB_b]
          show 4 * (100 - i).toNat + 1 < 4 * (100 - i).toNat + 2; omega
      repeat' (first
        | (refine TOK.br' (fun g => ?_) (fun g => ?_) <;> simp (disch := omega) only [d_vi, d_vb, d_vr, d_ci, d_cb, d_nr, d_nl, d_add, d_sub, d_mul, d_rem, d_quo, d_bit, d_mn2, d_mx2, d_w, d_nn, d_bn2, d_len, d_neg, d_cl, d_at1, d_at2, d_at3, d_at4, d_at5, d_at6, d_at7, d_set, d_app, d_cat, d_take, d_drop, d_rep, d_cons, d_lt_t, d_lt_n, d_le_t, d_le_n, d_eqi_t, d_eqi_f, d_eqb_t, d_eqb_f, d_nb_t, d_nb_f, nth0, nthS, d_api, d_apr, D_cons, D_nl, D_nr, D_vr, D_set, mkL_l, mkR_r, mkI_i, d_shr2, d_shr3, d_shr16, d_shr40, d_shl2, d_shl3, d_shl16, d_shl40, d_apb, mkB_b, d_at8, d_nb2, Φ600, Φ601, Φ610, Φ611, Φ614, Φ615, Φ616, fArg, D_bun, D_cat, D_app, D_take, D_cons, hA, G.nn, G.hlen, G.hT, G.hD, hsO, hsR, G.hQ, G.hg] at g <;> (try (exfalso; have := G.hc; have := G.hb; have := G.hr; omega)) <;> (try (exfalso; have := G.hn (by assumption); omega)) <;> (try (exact Bool.noConfusion g)))
        | (with_reducible refine TOK.leaf' ?_))
      all_goals first
        | (refine (show Ret u 0 _ from ?_)
           obtain ⟨⟨b, q⟩, hq⟩ : ∃ p, p = q := ⟨q, rfl⟩
           subst hq
           have hb : b = true := by assumption
           subst hb
           have ht : tot L D O R n = (true, { q with t := true }) := by rw [← g2]; exact findL_yes g0 g1 hf (by rw [ha]; assumption) (by rw [ha]; exact G.hrec)
           have := retU hu hk h1 h2 h3 h4 h5 0 (by rw [ht]; rfl)
           rw [ht] at this
           simp (disch := omega) only [Sb.val, List.map_cons, List.map_nil, d_vi, d_vb, d_vr, d_ci, d_cb, d_nr, d_nl, d_add, d_sub, d_mul, d_rem, d_quo, d_bit, d_mn2, d_mx2, d_w, d_nn, d_bn2, d_len, d_neg, d_cl, d_at1, d_at2, d_at3, d_at4, d_at5, d_at6, d_at7, d_set, d_app, d_cat, d_take, d_drop, d_rep, d_cons, d_lt_t, d_lt_f, d_le_t, d_le_f, d_eqi_t, d_eqi_f, d_eqb_t, d_eqb_f, d_nb_t, d_nb_f, nth0, nthS, d_api, d_apr, D_cons, D_nl, D_nr, D_vr, D_set, mkL_l, mkR_r, mkI_i, d_shr2, d_shr3, d_shr16, d_shr40, d_shl2, d_shl3, d_shl16, d_shl40, d_apb, mkB_b, d_aps, d_at8, d_nb2, Φ600, Φ601, Φ610, Φ611, Φ612, Φ613, Φ614, Φ615, Φ616, fArg, D_bun, D_cat, D_app, D_take, D_cons, hA, G.nn, G.hlen, G.hT, G.hD, hsO, hsR, G.hQ, G.hl, if_true]
           exact this)
        | (refine And.intro (?_ : Inv L D O R n 3 _) (?_ : lt2 μ (3, _) _)
           · obtain ⟨⟨b, q⟩, hq⟩ : ∃ p, p = q := ⟨q, rfl⟩
             subst hq
             have hb : b = false := by assumption
             subst hb
             obtain ⟨f1, f2, f3, f4⟩ := fine_out (K.G0 false K.no) g0 g1 hf G.hF
             have e1 : q.d.set i.toNat [0] = D := f2
             have e2 : q.n + -1 = n := f3
             have e3 : fsOut q i = ⟨D, n, q.o, true⟩ := by unfold fsOut; rw [e1, e2]
             have hb := findL_back (rec := findF L (cnt0 D)) (row := R) (st := ⟨D, n, O, false⟩) g0 g1 hf (by rw [ha]; assumption) (by rw [ha]; exact G.hrec)
             rw [e3] at hb
             have ho := f1.no
             rw [e3] at ho
             simp (disch := omega) only [Sb.val, List.map_cons, List.map_nil, d_vi, d_vb, d_vr, d_ci, d_cb, d_nr, d_nl, d_add, d_sub, d_mul, d_rem, d_quo, d_bit, d_mn2, d_mx2, d_w, d_nn, d_bn2, d_len, d_neg, d_cl, d_at1, d_at2, d_at3, d_at4, d_at5, d_at6, d_at7, d_set, d_app, d_cat, d_take, d_drop, d_rep, d_cons, d_lt_t, d_lt_f, d_le_t, d_le_f, d_eqi_t, d_eqi_f, d_eqb_t, d_eqb_f, d_nb_t, d_nb_f, nth0, nthS, d_api, d_apr, D_cons, D_nl, D_nr, D_vr, D_set, mkL_l, mkR_r, mkI_i, d_shr2, d_shr3, d_shr16, d_shr40, d_shl2, d_shl3, d_shl16, d_shl40, d_apb, mkB_b, d_aps, d_at8, d_nb2, Φ600, Φ601, Φ610, Φ611, Φ612, Φ613, Φ614, Φ615, Φ616, fArg, D_bun, D_cat, D_app, D_take, D_cons, hA, G.nn, G.hlen, G.hT, G.hD, hsO, hsR, G.hQ, G.hl, if_true, e1, e2]
             exact .inr (.inr (.inr (.inl ⟨rfl, i, 0 + 1, q.o, _, rfl, rfl, g0, g1, ho, .inr ⟨by omega, by rw [← g2]; exact hb.symm⟩⟩)))
           · refine .inl ?_
             simp (disch := omega) only [Sb.val, List.map_cons, List.map_nil, d_vi, d_vb, d_vr, d_ci, d_cb, d_nr, d_nl, d_add, d_sub, d_mul, d_rem, d_quo, d_bit, d_mn2, d_mx2, d_w, d_nn, d_bn2, d_len, d_neg, d_cl, d_at1, d_at2, d_at3, d_at4, d_at5, d_at6, d_at7, d_set, d_app, d_cat, d_take, d_drop, d_rep, d_cons, d_lt_t, d_lt_f, d_le_t, d_le_f, d_eqi_t, d_eqi_f, d_eqb_t, d_eqb_f, d_nb_t, d_nb_f, nth0, nthS, d_api, d_apr, D_cons, D_nl, D_nr, D_vr, D_set, mkL_l, mkR_r, mkI_i, d_shr2, d_shr3, d_shr16, d_shr40, d_shl2, d_shl3, d_shl16, d_shl40, d_apb, mkB_b]
             show 4 * (100 - i).toNat + 1 < 4 * (100 - i).toNat + 2; omega)
    · exfalso; omega
  · rcases g2 with ⟨rfl, hf, g2⟩ | ⟨rfl, g2⟩
    · exfalso; omega
    · refine TOK.leaf' (And.intro (?_ : Inv L D O R n 1 _) (?_ : lt2 μ (1, _) _))
      · simp (disch := omega) only [Sb.val, List.map_cons, List.map_nil, d_vi, d_vb, d_vr, d_ci, d_cb, d_nr, d_nl, d_add, d_sub, d_mul, d_rem, d_quo, d_bit, d_mn2, d_mx2, d_w, d_nn, d_bn2, d_len, d_neg, d_cl, d_at1, d_at2, d_at3, d_at4, d_at5, d_at6, d_at7, d_set, d_app, d_cat, d_take, d_drop, d_rep, d_cons, d_lt_t, d_lt_f, d_le_t, d_le_f, d_eqi_t, d_eqi_f, d_eqb_t, d_eqb_f, d_nb_t, d_nb_f, nth0, nthS, d_api, d_apr, D_cons, D_nl, D_nr, D_vr, D_set, mkL_l, mkR_r, mkI_i, d_shr2, d_shr3, d_shr16, d_shr40, d_shl2, d_shl3, d_shl16, d_shl40, d_apb, mkB_b]
        exact .inr (.inl ⟨rfl, i + 1, rfl, by omega, by omega, g2⟩)
      · refine .inl ?_
        simp (disch := omega) only [Sb.val, List.map_cons, List.map_nil, d_vi, d_vb, d_vr, d_ci, d_cb, d_nr, d_nl, d_add, d_sub, d_mul, d_rem, d_quo, d_bit, d_mn2, d_mx2, d_w, d_nn, d_bn2, d_len, d_neg, d_cl, d_at1, d_at2, d_at3, d_at4, d_at5, d_at6, d_at7, d_set, d_app, d_cat, d_take, d_drop, d_rep, d_cons, d_lt_t, d_lt_f, d_le_t, d_le_f, d_eqi_t, d_eqi_f, d_eqb_t, d_eqb_f, d_nb_t, d_nb_f, nth0, nthS, d_api, d_apr, D_cons, D_nl, D_nr, D_vr, D_set, mkL_l, mkR_r, mkI_i, d_shr2, d_shr3, d_shr16, d_shr40, d_shl2, d_shl3, d_shl16, d_shl40, d_apb, mkB_b]
        show 4 * (100 - (i + 1)).toNat + 3 < 4 * (100 - i).toNat + 1; omega
theorem s3 : ∀ v, Inv L D O R n 3 v → TOK v (fun _ g => LgFOK v (fun q w => Inv L D O R n q w ∧ lt2 μ (q, w) (3, v)) (Ret u) g) tr3 := by
  rintro v (⟨h, _⟩ | ⟨h, _⟩ | ⟨h, _⟩ | ⟨_, i, j, o, A, rfl, hA1, g0, g1, g3, g2⟩ | ⟨h, _⟩) <;> try cases h
  have K := kx hu hk h1 h2 h3 h4 h5
  have k9 := K.l9
  have k2 := K.n0
  have k3 := K.dl
  have k4 := K.rn
  generalize ha : ansD (L.getD i.toNat []) R = a at *
  unfold tr3
  refine TOK.br' (fun g => ?_) (fun g => ?_) <;> simp (disch := omega) only [d_vi, d_vb, d_vr, d_ci, d_cb, d_nr, d_nl, d_add, d_sub, d_mul, d_rem, d_quo, d_bit, d_mn2, d_mx2, d_w, d_nn, d_bn2, d_len, d_neg, d_cl, d_at1, d_at2, d_at3, d_at4, d_at5, d_at6, d_at7, d_set, d_app, d_cat, d_take, d_drop, d_rep, d_cons, d_lt_t, d_lt_n, d_le_t, d_le_n, d_eqi_t, d_eqi_f, d_eqb_t, d_eqb_f, d_nb_t, d_nb_f, nth0, nthS, d_api, d_apr, D_cons, D_nl, D_nr, D_vr, D_set, mkL_l, mkR_r, mkI_i, d_shr2, d_shr3, d_shr16, d_shr40, d_shl2, d_shl3, d_shl16, d_shl40, d_apb, mkB_b] at g
  · rcases g2 with ⟨rfl, rfl, hf, g2⟩ | ⟨rfl, g2⟩
    · have hA : ([a] : Row).getD (0 : Int).toNat [] = a := rfl
      obtain ⟨q, G⟩ := go1 (t := true) K g3 g0 g1 hf a
      have hsO : doOk (nth 0 a 1) (nth 0 a 2) (nth 0 a 8) (b2i (nbz (nth 0 a 7))) R = stepO a R := rfl
      have hsR : doRow (nth 0 a 1) (nth 0 a 2) (nth 0 a 3) (b2i (nbz (nth 0 a 7))) R = stepR a R := rfl
      refine TOK.br' (fun g => ?_) (fun g => ?_) <;> simp (disch := omega) only [d_vi, d_vb, d_vr, d_ci, d_cb, d_nr, d_nl, d_add, d_sub, d_mul, d_rem, d_quo, d_bit, d_mn2, d_mx2, d_w, d_nn, d_bn2, d_len, d_neg, d_cl, d_at1, d_at2, d_at3, d_at4, d_at5, d_at6, d_at7, d_set, d_app, d_cat, d_take, d_drop, d_rep, d_cons, d_lt_t, d_lt_n, d_le_t, d_le_n, d_eqi_t, d_eqi_f, d_eqb_t, d_eqb_f, d_nb_t, d_nb_f, nth0, nthS, d_api, d_apr, D_cons, D_nl, D_nr, D_vr, D_set, mkL_l, mkR_r, mkI_i, d_shr2, d_shr3, d_shr16, d_shr40, d_shl2, d_shl3, d_shl16, d_shl40, d_apb, mkB_b, List.length_cons, List.length_nil] at g <;> (try (exfalso; omega))
      refine TOK.br' (fun g => ?_) (fun g => ?_) <;> simp (disch := omega) only [d_vi, d_vb, d_vr, d_ci, d_cb, d_nr, d_nl, d_add, d_sub, d_mul, d_rem, d_quo, d_bit, d_mn2, d_mx2, d_w, d_nn, d_bn2, d_len, d_neg, d_cl, d_at1, d_at2, d_at3, d_at4, d_at5, d_at6, d_at7, d_set, d_app, d_cat, d_take, d_drop, d_rep, d_cons, d_lt_t, d_lt_n, d_le_t, d_le_n, d_eqi_t, d_eqi_f, d_eqb_t, d_eqb_f, d_nb_t, d_nb_f, nth0, nthS, d_api, d_apr, D_cons, D_nl, D_nr, D_vr, D_set, mkL_l, mkR_r, mkI_i, d_shr2, d_shr3, d_shr16, d_shr40, d_shl2, d_shl3, d_shl16, d_shl40, d_apb, mkB_b, d_at8, d_nb2, Φ601, hA, hsO] at g
      rotate_left
      · refine TOK.leaf' (And.intro (?_ : Inv L D O R n 3 _) (?_ : lt2 μ (3, _) _))
        · simp (disch := omega) only [Sb.val, List.map_cons, List.map_nil, d_vi, d_vb, d_vr, d_ci, d_cb, d_nr, d_nl, d_add, d_sub, d_mul, d_rem, d_quo, d_bit, d_mn2, d_mx2, d_w, d_nn, d_bn2, d_len, d_neg, d_cl, d_at1, d_at2, d_at3, d_at4, d_at5, d_at6, d_at7, d_set, d_app, d_cat, d_take, d_drop, d_rep, d_cons, d_lt_t, d_lt_f, d_le_t, d_le_f, d_eqi_t, d_eqi_f, d_eqb_t, d_eqb_f, d_nb_t, d_nb_f, nth0, nthS, d_api, d_apr, D_cons, D_nl, D_nr, D_vr, D_set, mkL_l, mkR_r, mkI_i, d_shr2, d_shr3, d_shr16, d_shr40, d_shl2, d_shl3, d_shl16, d_shl40, d_apb, mkB_b]
          exact .inr (.inr (.inr (.inl ⟨rfl, i, 0 + 1, o, _, rfl, rfl, g0, g1, g3, .inr ⟨by omega, by rw [← g2]; exact (findL_not g0 g1 hf (by rw [ha]; exact g)).symm⟩⟩)))
        · refine .inl ?_
          simp (disch := omega) only [Sb.val, List.map_cons, List.map_nil, d_vi, d_vb, d_vr, d_ci, d_cb, d_nr, d_nl, d_add, d_sub, d_mul, d_rem, d_quo, d_bit, d_mn2, d_mx2, d_w, d_nn, d_bn2, d_len, d_neg, d_cl, d_at1, d_at2, d_at3, d_at4, d_at5, d_at6, d_at7, d_set, d_app, d_cat, d_take, d_drop, d_rep, d_cons, d_lt_t, d_lt_f, d_le_t, d_le_f, d_eqi_t, d_eqi_f, d_eqb_t, d_eqb_f, d_nb_t, d_nb_f, nth0, nthS, d_api, d_apr, D_cons, D_nl, D_nr, D_vr, D_set, mkL_l, mkR_r, mkI_i, d_shr2, d_shr3, d_shr16, d_shr40, d_shl2, d_shl3, d_shl16, d_shl40, d_apb, mkB_b]
          show 4 * (100 - i).toNat + 1 < 4 * (100 - i).toNat + 2; omega
      repeat' (first
        | (refine TOK.br' (fun g => ?_) (fun g => ?_) <;> simp (disch := omega) only [d_vi, d_vb, d_vr, d_ci, d_cb, d_nr, d_nl, d_add, d_sub, d_mul, d_rem, d_quo, d_bit, d_mn2, d_mx2, d_w, d_nn, d_bn2, d_len, d_neg, d_cl, d_at1, d_at2, d_at3, d_at4, d_at5, d_at6, d_at7, d_set, d_app, d_cat, d_take, d_drop, d_rep, d_cons, d_lt_t, d_lt_n, d_le_t, d_le_n, d_eqi_t, d_eqi_f, d_eqb_t, d_eqb_f, d_nb_t, d_nb_f, nth0, nthS, d_api, d_apr, D_cons, D_nl, D_nr, D_vr, D_set, mkL_l, mkR_r, mkI_i, d_shr2, d_shr3, d_shr16, d_shr40, d_shl2, d_shl3, d_shl16, d_shl40, d_apb, mkB_b, d_at8, d_nb2, Φ600, Φ601, Φ610, Φ611, Φ614, Φ615, Φ616, fArg, D_bun, D_cat, D_app, D_take, D_cons, hA, G.nn, G.hlen, G.hT, G.hD, hsO, hsR, G.hQ, G.hg] at g <;> (try (exfalso; have := G.hc; have := G.hb; have := G.hr; omega)) <;> (try (exfalso; have := G.hn (by assumption); omega)) <;> (try (exact Bool.noConfusion g)))
        | (with_reducible refine TOK.leaf' ?_))
      all_goals first
        | (refine (show Ret u 0 _ from ?_)
           obtain ⟨⟨b, q⟩, hq⟩ : ∃ p, p = q := ⟨q, rfl⟩
           subst hq
           have hb : b = true := by assumption
           subst hb
           have ht : tot L D O R n = (true, { q with t := true }) := by rw [← g2]; exact findL_yes g0 g1 hf (by rw [ha]; assumption) (by rw [ha]; exact G.hrec)
           have := retU hu hk h1 h2 h3 h4 h5 0 (by rw [ht]; rfl)
           rw [ht] at this
           simp (disch := omega) only [Sb.val, List.map_cons, List.map_nil, d_vi, d_vb, d_vr, d_ci, d_cb, d_nr, d_nl, d_add, d_sub, d_mul, d_rem, d_quo, d_bit, d_mn2, d_mx2, d_w, d_nn, d_bn2, d_len, d_neg, d_cl, d_at1, d_at2, d_at3, d_at4, d_at5, d_at6, d_at7, d_set, d_app, d_cat, d_take, d_drop, d_rep, d_cons, d_lt_t, d_lt_f, d_le_t, d_le_f, d_eqi_t, d_eqi_f, d_eqb_t, d_eqb_f, d_nb_t, d_nb_f, nth0, nthS, d_api, d_apr, D_cons, D_nl, D_nr, D_vr, D_set, mkL_l, mkR_r, mkI_i, d_shr2, d_shr3, d_shr16, d_shr40, d_shl2, d_shl3, d_shl16, d_shl40, d_apb, mkB_b, d_aps, d_at8, d_nb2, Φ600, Φ601, Φ610, Φ611, Φ612, Φ613, Φ614, Φ615, Φ616, fArg, D_bun, D_cat, D_app, D_take, D_cons, hA, G.nn, G.hlen, G.hT, G.hD, hsO, hsR, G.hQ, G.hl, if_true]
           exact this)
        | (refine And.intro (?_ : Inv L D O R n 3 _) (?_ : lt2 μ (3, _) _)
           · obtain ⟨⟨b, q⟩, hq⟩ : ∃ p, p = q := ⟨q, rfl⟩
             subst hq
             have hb : b = false := by assumption
             subst hb
             obtain ⟨f1, f2, f3, f4⟩ := fine_out (K.G0 true g3) g0 g1 hf G.hF
             have e1 : q.d.set i.toNat [0] = D := f2
             have e2 : q.n + -1 = n := f3
             have e3 : fsOut q i = ⟨D, n, q.o, true⟩ := by unfold fsOut; rw [e1, e2]
             have hb := findL_back (rec := findF L (cnt0 D)) (row := R) (st := ⟨D, n, o, true⟩) g0 g1 hf (by rw [ha]; assumption) (by rw [ha]; exact G.hrec)
             rw [e3] at hb
             have ho := f1.no
             rw [e3] at ho
             simp (disch := omega) only [Sb.val, List.map_cons, List.map_nil, d_vi, d_vb, d_vr, d_ci, d_cb, d_nr, d_nl, d_add, d_sub, d_mul, d_rem, d_quo, d_bit, d_mn2, d_mx2, d_w, d_nn, d_bn2, d_len, d_neg, d_cl, d_at1, d_at2, d_at3, d_at4, d_at5, d_at6, d_at7, d_set, d_app, d_cat, d_take, d_drop, d_rep, d_cons, d_lt_t, d_lt_f, d_le_t, d_le_f, d_eqi_t, d_eqi_f, d_eqb_t, d_eqb_f, d_nb_t, d_nb_f, nth0, nthS, d_api, d_apr, D_cons, D_nl, D_nr, D_vr, D_set, mkL_l, mkR_r, mkI_i, d_shr2, d_shr3, d_shr16, d_shr40, d_shl2, d_shl3, d_shl16, d_shl40, d_apb, mkB_b, d_aps, d_at8, d_nb2, Φ600, Φ601, Φ610, Φ611, Φ612, Φ613, Φ614, Φ615, Φ616, fArg, D_bun, D_cat, D_app, D_take, D_cons, hA, G.nn, G.hlen, G.hT, G.hD, hsO, hsR, G.hQ, G.hl, if_true, e1, e2]
             exact .inr (.inr (.inr (.inl ⟨rfl, i, 0 + 1, q.o, _, rfl, rfl, g0, g1, ho, .inr ⟨by omega, by rw [← g2]; exact hb.symm⟩⟩)))
           · refine .inl ?_
             simp (disch := omega) only [Sb.val, List.map_cons, List.map_nil, d_vi, d_vb, d_vr, d_ci, d_cb, d_nr, d_nl, d_add, d_sub, d_mul, d_rem, d_quo, d_bit, d_mn2, d_mx2, d_w, d_nn, d_bn2, d_len, d_neg, d_cl, d_at1, d_at2, d_at3, d_at4, d_at5, d_at6, d_at7, d_set, d_app, d_cat, d_take, d_drop, d_rep, d_cons, d_lt_t, d_lt_f, d_le_t, d_le_f, d_eqi_t, d_eqi_f, d_eqb_t, d_eqb_f, d_nb_t, d_nb_f, nth0, nthS, d_api, d_apr, D_cons, D_nl, D_nr, D_vr, D_set, mkL_l, mkR_r, mkI_i, d_shr2, d_shr3, d_shr16, d_shr40, d_shl2, d_shl3, d_shl16, d_shl40, d_apb, mkB_b]
             show 4 * (100 - i).toNat + 1 < 4 * (100 - i).toNat + 2; omega)
    · exfalso; omega
  · rcases g2 with ⟨rfl, hf, g2⟩ | ⟨rfl, g2⟩
    · exfalso; omega
    · refine TOK.leaf' (And.intro (?_ : Inv L D O R n 4 _) (?_ : lt2 μ (4, _) _))
      · simp (disch := omega) only [Sb.val, List.map_cons, List.map_nil, d_vi, d_vb, d_vr, d_ci, d_cb, d_nr, d_nl, d_add, d_sub, d_mul, d_rem, d_quo, d_bit, d_mn2, d_mx2, d_w, d_nn, d_bn2, d_len, d_neg, d_cl, d_at1, d_at2, d_at3, d_at4, d_at5, d_at6, d_at7, d_set, d_app, d_cat, d_take, d_drop, d_rep, d_cons, d_lt_t, d_lt_f, d_le_t, d_le_f, d_eqi_t, d_eqi_f, d_eqb_t, d_eqb_f, d_nb_t, d_nb_f, nth0, nthS, d_api, d_apr, D_cons, D_nl, D_nr, D_vr, D_set, mkL_l, mkR_r, mkI_i, d_shr2, d_shr3, d_shr16, d_shr40, d_shl2, d_shl3, d_shl16, d_shl40, d_apb, mkB_b]
        exact .inr (.inr (.inr (.inr ⟨rfl, i + 1, o, rfl, by omega, by omega, g3, g2⟩)))
      · refine .inl ?_
        simp (disch := omega) only [Sb.val, List.map_cons, List.map_nil, d_vi, d_vb, d_vr, d_ci, d_cb, d_nr, d_nl, d_add, d_sub, d_mul, d_rem, d_quo, d_bit, d_mn2, d_mx2, d_w, d_nn, d_bn2, d_len, d_neg, d_cl, d_at1, d_at2, d_at3, d_at4, d_at5, d_at6, d_at7, d_set, d_app, d_cat, d_take, d_drop, d_rep, d_cons, d_lt_t, d_lt_f, d_le_t, d_le_f, d_eqi_t, d_eqi_f, d_eqb_t, d_eqb_f, d_nb_t, d_nb_f, nth0, nthS, d_api, d_apr, D_cons, D_nl, D_nr, D_vr, D_set, mkL_l, mkR_r, mkI_i, d_shr2, d_shr3, d_shr16, d_shr40, d_shl2, d_shl3, d_shl16, d_shl40, d_apb, mkB_b]
        show 4 * (100 - (i + 1)).toNat + 3 < 4 * (100 - i).toNat + 1; omega
end
theorem hΦ {L D O R : Row} {n : Int} : ∀ k v, Inv L D O R n k v → v.f = Φ := by
  rintro k v (⟨_, s, i, rfl, _⟩ | ⟨_, i, rfl, _⟩ | ⟨_, i, j, rfl, _⟩ | ⟨_, i, j, o, A, rfl, _⟩ | ⟨_, i, o, rfl, _⟩) <;> rfl
theorem hD1 {L D O R : Row} {n : Int} : ∀ k v, Inv L D O R n k v → nth [] v.r 1 = D := by
  rintro k v (⟨_, s, i, rfl, _⟩ | ⟨_, i, rfl, _⟩ | ⟨_, i, j, rfl, _⟩ | ⟨_, i, j, o, A, rfl, _⟩ | ⟨_, i, o, rfl, _⟩) <;> rfl
theorem rk_at {v : Val} (hv : v.f = Φ) : (den v rk).i = (cnt0 (nth [] v.r 1) : Int) := by
  show (v.f 611 _ _ _).i = _
  rw [hv, Φ611]; rfl
theorem step (u : Val) (hu : u.f = Φ) (hrec : ∀ u', u'.f = Φ → (den u' rk).i < (den u rk).i → FC.Ok P0 u' fc) : FC.Ok P0 u fc := by
  refine mk u (Inv (nth [] u.r 0) (nth [] u.r 1) (nth [] u.r 2) (nth [] u.r 3) (nth 0 u.i 0)) μ hrec (fun k v h => ?_) hu hΦ (fun hk k σ po hs => ?_) ?_ ?_ ?_ ?_ ?_ (fun hk => ?_) (fun hk => s0 u _ _ _ _ _ hu hk rfl rfl rfl rfl rfl) (fun hk => s1 u _ _ _ _ _ hu hk rfl rfl rfl rfl rfl) (fun hk => s2 u _ _ _ _ _ hu hk rfl rfl rfl rfl rfl) (fun hk => s3 u _ _ _ _ _ hu hk rfl rfl rfl rfl rfl) (fun hk => s4 u _ _ _ _ _ hu hk rfl rfl rfl rfl rfl)
  · rw [rk_at (hΦ k v h), rk_at hu, hD1 k v h]
  · have K := kx hu hk rfl rfl rfl rfl rfl
    have F : Fine _ _ (tot (nth [] u.r 0) (nth [] u.r 1) (nth [] u.r 2) (nth [] u.r 3) (nth 0 u.i 0)) := findM_fine (K.G0 false K.no)
    have ha := argU (u := u) rfl rfl rfl rfl rfl
    have g1 := F.1.n0; have g2 := F.1.no; have g3 := F.1.c; have g4 := K.l9
    have hp : po = [((.o2 .le (.ci 0) (.o3 (.api 610) (.o2 .bun (.o2 .cons (.vi 0) (.o2 .cons (.o1 .len (.vr 2)) .nl)) (.vr 0)) (.vr 1) (.o2 .cat (.vr 2) (.vr 3)))), true), ((.o2 .le (.o3 (.api 610) (.o2 .bun (.o2 .cons (.vi 0) (.o2 .cons (.o1 .len (.vr 2)) .nl)) (.vr 0)) (.vr 1) (.o2 .cat (.vr 2) (.vr 3))) (.ci 9)), true), ((.o2 .le (.o3 (.api 610) (.o2 .bun (.o2 .cons (.vi 0) (.o2 .cons (.o1 .len (.vr 2)) .nl)) (.vr 0)) (.vr 1) (.o2 .cat (.vr 2) (.vr 3))) (.o1 .len (.o3 (.apr 613) (.o2 .bun (.o2 .cons (.vi 0) (.o2 .cons (.o1 .len (.vr 2)) .nl)) (.vr 0)) (.vr 1) (.o2 .cat (.vr 2) (.vr 3))))), true)] := by
      rcases hs with ⟨_, hs⟩ | ⟨_, hs⟩ <;> cases hs <;> rfl
    subst hp
    repeat' (first | exact KV.nil | (refine KV.cons ?_ ?_))
    all_goals (simp only [d_le_t, d_ci, d_api, d_len, d_apr, hu, Φ610, Φ613, ha, mkI_i, mkR_r]; omega)
  · rintro hk v (⟨_, s, i, rfl, g0, g1, g2⟩ | ⟨h, _⟩ | ⟨h, _⟩ | ⟨h, _⟩ | ⟨h, _⟩) <;> try cases h
    have K := kx hu hk rfl rfl rfl rfl rfl
    have k1 := K.l9; have k2 := K.dl; have k3 := K.n0; have k4 := K.n9
    have k5 : leftN (nth [] u.r 0) (nth [] u.r 1) i.toNat ≤ i.toNat := by unfold leftN; exact Nat.le_trans List.countP_le_length (by simp)
    unfold tm0
    repeat' (first | exact KV.nil | (refine KV.cons ?_ ?_))
    all_goals (simp only [d_vi, d_vb, d_vr, d_ci, d_cb, d_nr, d_nl, d_add, d_sub, d_mul, d_rem, d_quo, d_bit, d_mn2, d_mx2, d_w, d_nn, d_bn2, d_len, d_neg, d_cl, d_at1, d_at2, d_at3, d_at4, d_at5, d_at6, d_at7, d_set, d_app, d_cat, d_take, d_drop, d_rep, d_cons, d_lt_t, d_lt_f, d_le_t, d_le_f, d_eqi_t, d_eqi_f, d_eqb_t, d_eqb_f, d_nb_t, d_nb_f, nth0, nthS, d_api, d_apr, D_cons, D_nl, D_nr, D_vr, D_set, mkL_l, mkR_r, mkI_i, d_shr2, d_shr3, d_shr16, d_shr40, d_shl2, d_shl3, d_shl16, d_shl40, d_apb, mkB_b]; omega)
  · rintro hk v (⟨h, _⟩ | ⟨_, i, rfl, g0, g1, g2⟩ | ⟨h, _⟩ | ⟨h, _⟩ | ⟨h, _⟩) <;> try cases h
    have K := kx hu hk rfl rfl rfl rfl rfl
    have k1 := K.l9; have k2 := K.dl; have k3 := K.n0; have k4 := K.n9; have k5 := K.no; have k6 := K.rn
    unfold tm1
    repeat' (first | exact KV.nil | (refine KV.cons ?_ ?_))
    all_goals (simp only [d_vi, d_vb, d_vr, d_ci, d_cb, d_nr, d_nl, d_add, d_sub, d_mul, d_rem, d_quo, d_bit, d_mn2, d_mx2, d_w, d_nn, d_bn2, d_len, d_neg, d_cl, d_at1, d_at2, d_at3, d_at4, d_at5, d_at6, d_at7, d_set, d_app, d_cat, d_take, d_drop, d_rep, d_cons, d_lt_t, d_lt_f, d_le_t, d_le_f, d_eqi_t, d_eqi_f, d_eqb_t, d_eqb_f, d_nb_t, d_nb_f, nth0, nthS, d_api, d_apr, D_cons, D_nl, D_nr, D_vr, D_set, mkL_l, mkR_r, mkI_i, d_shr2, d_shr3, d_shr16, d_shr40, d_shl2, d_shl3, d_shl16, d_shl40, d_apb, mkB_b]; omega)
  · rintro hk v (⟨h, _⟩ | ⟨h, _⟩ | ⟨_, i, j, rfl, g0, g1, g2⟩ | ⟨h, _⟩ | ⟨h, _⟩) <;> try cases h
    have K := kx hu hk rfl rfl rfl rfl rfl
    have k1 := K.l9; have k2 := K.dl; have k3 := K.n0; have k4 := K.n9; have k5 := K.no; have k6 := K.rn
    have k7 : j = 0 ∨ j = 1 := by rcases g2 with ⟨h, _⟩ | ⟨h, _⟩ <;> omega
    unfold tm2
    repeat' (first | exact KV.nil | (refine KV.cons ?_ ?_))
    all_goals (simp only [d_vi, d_vb, d_vr, d_ci, d_cb, d_nr, d_nl, d_add, d_sub, d_mul, d_rem, d_quo, d_bit, d_mn2, d_mx2, d_w, d_nn, d_bn2, d_len, d_neg, d_cl, d_at1, d_at2, d_at3, d_at4, d_at5, d_at6, d_at7, d_set, d_app, d_cat, d_take, d_drop, d_rep, d_cons, d_lt_t, d_lt_f, d_le_t, d_le_f, d_eqi_t, d_eqi_f, d_eqb_t, d_eqb_f, d_nb_t, d_nb_f, nth0, nthS, d_api, d_apr, D_cons, D_nl, D_nr, D_vr, D_set, mkL_l, mkR_r, mkI_i, d_shr2, d_shr3, d_shr16, d_shr40, d_shl2, d_shl3, d_shl16, d_shl40, d_apb, mkB_b, List.length_cons, List.length_nil]; omega)
  · rintro hk v (⟨h, _⟩ | ⟨h, _⟩ | ⟨h, _⟩ | ⟨_, i, j, o, A, rfl, hA, g0, g1, g3, g2⟩ | ⟨h, _⟩) <;> try cases h
    have K := kx hu hk rfl rfl rfl rfl rfl
    have k1 := K.l9; have k2 := K.dl; have k3 := K.n0; have k4 := K.n9; have k5 := K.no; have k6 := K.rn
    have k7 : j = 0 ∨ j = 1 := by rcases g2 with ⟨h, _⟩ | ⟨h, _⟩ <;> omega
    unfold tm3
    repeat' (first | exact KV.nil | (refine KV.cons ?_ ?_))
    all_goals (simp only [d_vi, d_vb, d_vr, d_ci, d_cb, d_nr, d_nl, d_add, d_sub, d_mul, d_rem, d_quo, d_bit, d_mn2, d_mx2, d_w, d_nn, d_bn2, d_len, d_neg, d_cl, d_at1, d_at2, d_at3, d_at4, d_at5, d_at6, d_at7, d_set, d_app, d_cat, d_take, d_drop, d_rep, d_cons, d_lt_t, d_lt_f, d_le_t, d_le_f, d_eqi_t, d_eqi_f, d_eqb_t, d_eqb_f, d_nb_t, d_nb_f, nth0, nthS, d_api, d_apr, D_cons, D_nl, D_nr, D_vr, D_set, mkL_l, mkR_r, mkI_i, d_shr2, d_shr3, d_shr16, d_shr40, d_shl2, d_shl3, d_shl16, d_shl40, d_apb, mkB_b, hA]; omega)
  · rintro hk v (⟨h, _⟩ | ⟨h, _⟩ | ⟨h, _⟩ | ⟨h, _⟩ | ⟨_, i, o, rfl, g0, g1, g3, g2⟩) <;> try cases h
    have K := kx hu hk rfl rfl rfl rfl rfl
    have k1 := K.l9; have k2 := K.dl; have k3 := K.n0; have k4 := K.n9; have k5 := K.no; have k6 := K.rn
    unfold tm4
    repeat' (first | exact KV.nil | (refine KV.cons ?_ ?_))
    all_goals (simp only [d_vi, d_vb, d_vr, d_ci, d_cb, d_nr, d_nl, d_add, d_sub, d_mul, d_rem, d_quo, d_bit, d_mn2, d_mx2, d_w, d_nn, d_bn2, d_len, d_neg, d_cl, d_at1, d_at2, d_at3, d_at4, d_at5, d_at6, d_at7, d_set, d_app, d_cat, d_take, d_drop, d_rep, d_cons, d_lt_t, d_lt_f, d_le_t, d_le_f, d_eqi_t, d_eqi_f, d_eqb_t, d_eqb_f, d_nb_t, d_nb_f, nth0, nthS, d_api, d_apr, D_cons, D_nl, D_nr, D_vr, D_set, mkL_l, mkR_r, mkI_i, d_shr2, d_shr3, d_shr16, d_shr40, d_shl2, d_shl3, d_shl16, d_shl40, d_apb, mkB_b]; omega)
  · unfold trS
    refine TOK.leaf' (show Inv _ _ _ _ _ 0 _ from .inl ⟨rfl, 0, 0, ?_, by omega, by omega, rfl⟩)
    simp only [Sb.val, List.map_cons, List.map_nil, d_vi, d_vb, d_vr, d_ci, d_cb, d_nr, d_nl, d_add, d_sub, d_mul, d_rem, d_quo, d_bit, d_mn2, d_mx2, d_w, d_nn, d_bn2, d_len, d_neg, d_cl, d_at1, d_at2, d_at3, d_at4, d_at5, d_at6, d_at7, d_set, d_app, d_cat, d_take, d_drop, d_rep, d_cons, d_lt_t, d_lt_f, d_le_t, d_le_f, d_eqi_t, d_eqi_f, d_eqb_t, d_eqb_f, d_nb_t, d_nb_f, nth0, nthS, d_api, d_apr, D_cons, D_nl, D_nr, D_vr, D_set, mkL_l, mkR_r, mkI_i, d_shr2, d_shr3, d_shr16, d_shr40, d_shl2, d_shl3, d_shl16, d_shl40, d_apb, mkB_b, hu]
theorem okN : ∀ (N : Nat) (u : Val), u.f = Φ → (den u rk).i < (N : Int) → FC.Ok P0 u fc
  | 0, u, hu, h => by rw [rk_at hu] at h; exfalso; omega
  | N + 1, u, hu, h => step u hu fun u' hu' h' => okN N u' hu' (by omega)
theorem ok (u : Val) (hu : u.f = Φ) : FC.Ok P0 u fc := okN ((den u rk).i.toNat + 1) u hu (by omega)
end Go.Proofs.Ytpgkbdkkcladcaa.FFind
