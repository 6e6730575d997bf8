/- The contract of stackyardlaw15.Some: is there an order at all? A lemma file: conditions are those of the contract's 'kn'. -/
import Derived.Test.YtpgkbdkkcladcaaOwnSomeS
import Derived.Test.YtpgkbdkkcladcaaOwnWin15
set_option linter.unusedVariables false
set_option linter.unusedSimpArgs false
set_option maxRecDepth 100000
set_option maxHeartbeats 4000000
namespace Go.Proofs.Ytpgkbdkkcladcaa.FSome
open Go Go.Lib Go.Proofs.Ytpgkbdkkcladcaa.Eng Go.Proofs.Ytpgkbdkkcladcaa.Sy
theorem tboth {v : Val} {α : Type} {ψ : Kn → α → Prop} {t e : Tree α} (h1 : TOK v ψ t) (h2 : TOK v ψ e) : TOK v ψ (.both t e) := ⟨h1, h2⟩
theorem d_at8 {v : Val} {a b : E} : (den v (.o3 .at a b (.ci 8))).i = nth 0 ((den v a).r.getD (den v b).i.toNat []) 8 := rfl
theorem d_at9 {v : Val} {a b : E} : (den v (.o3 .at a b (.ci 9))).i = nth 0 ((den v a).r.getD (den v b).i.toNat []) 9 := rfl
theorem d_at10 {v : Val} {a b : E} : (den v (.o3 .at a b (.ci 10))).i = nth 0 ((den v a).r.getD (den v b).i.toNat []) 10 := rfl
theorem bun_r {v : Val} {a b : E} : (den v (.o2 .bun a b)).r = (den v b).r := rfl
theorem bun_l {v : Val} {a b : E} : (den v (.o2 .bun a b)).l = (den v a).l := rfl
theorem nbz_t {x : Int} : (nbz x = true) = (¬ x = 0) := by simp [nbz]
theorem nbz_f {x : Int} : (nbz x = false) = (x = 0) := by simp [nbz]
/-- May the call i come next, and is there an order behind it? -/
def P (L D W : Row) (i : Int) : Bool := freeF i L D && (stepO (ansD (L.getD i.toNat []) W) W && someF L (cntZ D) (D.set i.toNat [1]) (stepR (ansD (L.getD i.toNat []) W) W))
def rnd (L D W : Row) (i : Int) : Bool := anyI (P L D W) (L.length - i.toNat) i
theorem rnd_end {L D W : Row} {i : Int} (h0 : 0 ≤ i) (h : ¬ i < (L.length : Int)) : rnd L D W i = false := by
  unfold rnd; rw [show L.length - i.toNat = 0 by omega]; rfl
theorem rnd_step {L D W : Row} {i : Int} (h0 : 0 ≤ i) (h : i < (L.length : Int)) : rnd L D W i = (P L D W i || rnd L D W (i + 1)) := by
  unfold rnd
  rw [show L.length - i.toNat = (L.length - (i + 1).toNat) + 1 by omega]; rfl
theorem tot_end {L D W : Row} (h : leftN L D L.length = 0) : someM L D W = true := by unfold someM someF; rw [if_pos h]
theorem tot_rnd {L D W : Row} (h : ¬ leftN L D L.length = 0) : someM L D W = rnd L D W 0 := by unfold someM someF; rw [if_neg h]; rfl
abbrev fs (L : Row) (i : Int) : List Int := [nth 0 (L.getD i.toNat []) 0, nth 0 (L.getD i.toNat []) 1, nth 0 (L.getD i.toNat []) 2, nth 0 (L.getD i.toNat []) 3, nth 0 (L.getD i.toNat []) 4, nth 0 (L.getD i.toNat []) 5, nth 0 (L.getD i.toNat []) 6, nth 0 (L.getD i.toNat []) 8, nth 0 (L.getD i.toNat []) 9, nth 0 (L.getD i.toNat []) 10]
section
variable (L D R : Row) (e n : Int)
def Inv (p : Nat) (v : Val) : Prop :=
  (p = 0 ∧ ∃ i, v = ⟨[e, n, i], [decide (leftN L D i.toNat = 0)], [L, D, R], [], Φ⟩ ∧ 0 ≤ i ∧ i ≤ (L.length : Int)) ∨
  (p = 1 ∧ ∃ i, v = ⟨[e, n, i], [], [L, D, R], [], Φ⟩ ∧ 0 ≤ i ∧ i ≤ (L.length : Int) ∧ rnd L D (winR e n R) i = someM L D (winR e n R)) ∨
  (p = 2 ∧ ∃ i k b, v = ⟨e :: n :: i :: k :: fs L i, [b, nbz (nth 0 (L.getD i.toNat []) 7)], [L, D, R], [], Φ⟩ ∧ 0 ≤ i ∧ i < (L.length : Int) ∧ 0 ≤ k ∧ k ≤ (L.length : Int) ∧ rnd L D (winR e n R) i = someM L D (winR e n R) ∧ b = (decide (cl D i = 0) && !(List.range k.toNat).any (blkF L D i)))
end
def μ (q : Nat × Val) : Nat × Nat := (match q.1 with
  | 0 => 5000 - (nth 0 q.2.i 2).toNat
  | 1 => 20 * (100 - nth 0 q.2.i 2).toNat + 19
  | _ => 20 * (100 - nth 0 q.2.i 2).toNat + (9 - nth 0 q.2.i 3).toNat, 0)
abbrev Ret (u : Val) (k : Nat) (u' : Val) : Prop := ∃ σ po, Sel u fc.out (k, σ, po) ∧ u' = σ.val u
structure Kx (L D R : Row) (e n : Int) : Prop where
  l9 : (L.length : Int) ≤ 9
  dl : (D.length : Int) = (L.length : Int)
  e0 : 0 ≤ e
  n0 : 0 ≤ n
  w : e + n ≤ (R.length : Int)
  n9 : n ≤ 9
  rt : rightsF L = true
  c : n + (cntZ D : Int) ≤ (L.length : Int)
section
variable (u : Val) (L D R : Row) (e n : Int) (hu : u.f = Φ) (hk : KV u fc.kn) (h1 : nth [] u.r 0 = L) (h2 : nth [] u.r 1 = D) (h3 : nth [] u.r 2 = R) (h4 : nth 0 u.i 0 = e) (h5 : nth 0 u.i 1 = n)
include hu h1 h2 h3 h4 h5
theorem retU (b : Bool) (hb : someM L D (winR e n R) = b) : Ret u 0 ⟨[], [b], [], [], Φ⟩ := by
  refine ⟨_, _, rfl, ?_⟩
  simp only [Sb.val, List.map_cons, List.map_nil, d_vi, d_vb, d_vr, d_ci, d_cb, d_nr, d_nl, d_add, d_sub, d_mul, d_rem, d_quo, d_bit, d_mn2, d_mx2, d_w, d_nn, d_bn2, d_len, d_neg, d_cl, d_at1, d_at2, d_at3, d_at4, d_at5, d_at6, d_at7, d_set, d_app, d_cat, d_take, d_drop, d_rep, d_cons, d_lt_t, d_lt_f, d_le_t, d_le_f, d_eqi_t, d_eqi_f, d_eqb_t, d_eqb_f, d_nb_t, d_nb_f, nth0, nthS, d_api, d_apr, D_cons, D_nl, D_nr, D_vr, D_set, mkL_l, mkR_r, mkI_i, d_shr2, d_shr3, d_shr16, d_shr40, d_shl2, d_shl3, d_shl16, d_shl40, d_apb, mkB_b, Φ620, bun_r, bun_l, hu, h1, h2, h3, h4, h5, ← hb]
include hk
theorem kx : Kx L D R e n := by
  unfold KV fc at hk
  simp only [List.forall_mem_cons, d_vi, d_vb, d_vr, d_ci, d_cb, d_nr, d_nl, d_add, d_sub, d_mul, d_rem, d_quo, d_bit, d_mn2, d_mx2, d_w, d_nn, d_bn2, d_len, d_neg, d_cl, d_at1, d_at2, d_at3, d_at4, d_at5, d_at6, d_at7, d_set, d_app, d_cat, d_take, d_drop, d_rep, d_cons, d_lt_t, d_lt_f, d_le_t, d_le_f, d_eqi_t, d_eqi_f, d_eqb_t, d_eqb_f, d_nb_t, d_nb_f, nth0, nthS, d_api, d_apr, D_cons, D_nl, D_nr, D_vr, D_set, mkL_l, mkR_r, mkI_i, d_shr2, d_shr3, d_shr16, d_shr40, d_shl2, d_shl3, d_shl16, d_shl40, d_apb, mkB_b, Φ603, Φ626, decide_eq_true_eq, hu, h1, h2, h3, h4, h5] at hk
  obtain ⟨a1, a2, a3, a4, a5, a6, a7, a8, _⟩ := hk
  exact ⟨a1, a2, a3, a4, a5, a6, a7, of_decide_eq_true a8⟩
theorem s0 : ∀ v, Inv L D R e n 0 v → TOK v (fun _ g => LgFOK v (fun q w => Inv L D R e n q w ∧ lt2 μ (q, w) (0, v)) (Ret u) g) tr0 := by
  rintro v (⟨_, i, rfl, g0, g1⟩ | ⟨h, _⟩ | ⟨h, _⟩) <;> try cases h
  have K := kx u L D R e n hu hk h1 h2 h3 h4 h5
  have kl := K.l9; have kd := K.dl
  have rt : ∀ b, someM L D (winR e n R) = b → Ret u 0 ⟨[], [b], [], [], Φ⟩ := retU u L D R e n hu h1 h2 h3 h4 h5
  have ls := left_succ (L := L) (D := D) g0
  have lf : lefF L D i.toNat = (decide (0 ≤ nth 0 (L.getD i.toNat []) 6) && decide (cl D i = 0)) := by unfold lefF; rw [show ((i.toNat : Nat) : Int) = i by omega]
  rw [lf] at ls
  have nxt : i < (L.length : Int) → ∀ b, b = decide (leftN L D (i + 1).toNat = 0) → Inv L D R e n 0 ⟨[e, n, i + 1], [b], [L, D, R], [], Φ⟩ ∧ lt2 μ (0, ⟨[e, n, i + 1], [b], [L, D, R], [], Φ⟩) (0, ⟨[e, n, i], [decide (leftN L D i.toNat = 0)], [L, D, R], [], Φ⟩) := fun z b z2 =>
    ⟨.inl ⟨rfl, i + 1, by rw [z2], by omega, by omega⟩, .inl (by show 5000 - (i + 1).toNat < 5000 - i.toNat; omega)⟩
  unfold tr0
  repeat' (first
    | (refine TOK.br' (fun g => ?_) (fun g => ?_) <;> simp (disch := omega) only [d_vi, d_vb, d_vr, d_ci, d_cb, d_nr, d_nl, d_add, d_sub, d_mul, d_rem, d_quo, d_bit, d_mn2, d_mx2, d_w, d_nn, d_bn2, d_len, d_neg, d_cl, d_at1, d_at2, d_at3, d_at4, d_at5, d_at6, d_at7, d_set, d_app, d_cat, d_take, d_drop, d_rep, d_cons, d_lt_t, d_lt_n, d_le_t, d_le_n, d_eqi_t, d_eqi_f, d_eqb_t, d_eqb_f, d_nb_t, d_nb_f, nth0, nthS, d_api, d_apr, D_cons, D_nl, D_nr, D_vr, D_set, mkL_l, mkR_r, mkI_i, d_shr2, d_shr3, d_shr16, d_shr40, d_shl2, d_shl3, d_shl16, d_shl40, d_apb, mkB_b, d_nb2, decide_eq_true_eq, decide_eq_false_iff_not, nbz_t, nbz_f] at g <;> (try (exfalso; omega)))
    | (with_reducible refine TOK.leaf' ?_))
  all_goals first
    | (refine (show Inv L D R e n 0 _ ∧ lt2 μ (0, _) _ from ?_)
       simp (disch := omega) only [Sb.val, List.map_cons, List.map_nil, d_vi, d_vb, d_vr, d_ci, d_cb, d_nr, d_nl, d_add, d_sub, d_mul, d_rem, d_quo, d_bit, d_mn2, d_mx2, d_w, d_nn, d_bn2, d_len, d_neg, d_cl, d_at1, d_at2, d_at3, d_at4, d_at5, d_at6, d_at7, d_set, d_app, d_cat, d_take, d_drop, d_rep, d_cons, d_lt_t, d_lt_f, d_le_t, d_le_f, d_eqi_t, d_eqi_f, d_eqb_t, d_eqb_f, d_nb_t, d_nb_f, nth0, nthS, d_api, d_apr, D_cons, D_nl, D_nr, D_vr, D_set, mkL_l, mkR_r, mkI_i, d_shr2, d_shr3, d_shr16, d_shr40, d_shl2, d_shl3, d_shl16, d_shl40, d_apb, mkB_b, d_lt_b]
       refine nxt (by assumption) _ ?_
       rw [ls]
       first
         | (rw [decide_eq_false (by assumption : ¬ cl D i = 0), Bool.and_false]; simp; omega)
         | (rw [decide_eq_true (by assumption : cl D i = 0), Bool.and_true]
            by_cases z : nth 0 (L.getD i.toNat []) 6 < 0
            · have z1 : decide (0 ≤ nth 0 (L.getD i.toNat []) 6) = false := decide_eq_false (by omega)
              exact (decide_eq_true z).trans (decide_eq_true (by rw [z1, if_neg (by decide)]; omega)).symm
            · have z1 : decide (0 ≤ nth 0 (L.getD i.toNat []) 6) = true := decide_eq_true (by omega)
              exact (decide_eq_false z).trans (decide_eq_false (by rw [z1, if_pos rfl]; omega)).symm)
         | (symm; rw [decide_eq_false_iff_not]; omega))
    | (refine (show Ret u 0 _ from ?_)
       simp (disch := omega) only [Sb.val, List.map_cons, List.map_nil, d_vi, d_vb, d_vr, d_ci, d_cb, d_nr, d_nl, d_add, d_sub, d_mul, d_rem, d_quo, d_bit, d_mn2, d_mx2, d_w, d_nn, d_bn2, d_len, d_neg, d_cl, d_at1, d_at2, d_at3, d_at4, d_at5, d_at6, d_at7, d_set, d_app, d_cat, d_take, d_drop, d_rep, d_cons, d_lt_t, d_lt_f, d_le_t, d_le_f, d_eqi_t, d_eqi_f, d_eqb_t, d_eqb_f, d_nb_t, d_nb_f, nth0, nthS, d_api, d_apr, D_cons, D_nl, D_nr, D_vr, D_set, mkL_l, mkR_r, mkI_i, d_shr2, d_shr3, d_shr16, d_shr40, d_shl2, d_shl3, d_shl16, d_shl40, d_apb, mkB_b]
       refine rt _ (tot_end ?_)
       rw [show L.length = i.toNat by omega]; assumption)
    | (refine (show Inv L D R e n 1 _ ∧ lt2 μ (1, _) _ from ?_)
       simp (disch := omega) only [Sb.val, List.map_cons, List.map_nil, d_vi, d_vb, d_vr, d_ci, d_cb, d_nr, d_nl, d_add, d_sub, d_mul, d_rem, d_quo, d_bit, d_mn2, d_mx2, d_w, d_nn, d_bn2, d_len, d_neg, d_cl, d_at1, d_at2, d_at3, d_at4, d_at5, d_at6, d_at7, d_set, d_app, d_cat, d_take, d_drop, d_rep, d_cons, d_lt_t, d_lt_f, d_le_t, d_le_f, d_eqi_t, d_eqi_f, d_eqb_t, d_eqb_f, d_nb_t, d_nb_f, nth0, nthS, d_api, d_apr, D_cons, D_nl, D_nr, D_vr, D_set, mkL_l, mkR_r, mkI_i, d_shr2, d_shr3, d_shr16, d_shr40, d_shl2, d_shl3, d_shl16, d_shl40, d_apb, mkB_b]
       refine ⟨.inr (.inl ⟨rfl, 0, rfl, by omega, by omega, (tot_rnd ?_).symm⟩), .inl (by show 20 * (100 - (0 : Int)).toNat + 19 < 5000 - i.toNat; omega)⟩
       rw [show L.length = i.toNat by omega]; assumption)
theorem s1 : ∀ v, Inv L D R e n 1 v → TOK v (fun _ g => LgFOK v (fun q w => Inv L D R e n q w ∧ lt2 μ (q, w) (1, v)) (Ret u) g) tr1 := by
  rintro v (⟨h, _⟩ | ⟨_, i, rfl, g0, g1, g2⟩ | ⟨h, _⟩) <;> try cases h
  have K := kx u L D R e n hu hk h1 h2 h3 h4 h5
  have kl := K.l9; have kd := K.dl
  have rt : ∀ b, someM L D (winR e n R) = b → Ret u 0 ⟨[], [b], [], [], Φ⟩ := retU u L D R e n hu h1 h2 h3 h4 h5
  have nxt : i < (L.length : Int) → ∀ b, b = decide (cl D i = 0) → Inv L D R e n 2 ⟨e :: n :: i :: 0 :: fs L i, [b, nbz (nth 0 (L.getD i.toNat []) 7)], [L, D, R], [], Φ⟩ ∧ lt2 μ (2, ⟨e :: n :: i :: 0 :: fs L i, [b, nbz (nth 0 (L.getD i.toNat []) 7)], [L, D, R], [], Φ⟩) (1, ⟨[e, n, i], [], [L, D, R], [], Φ⟩) := fun z b z2 =>
    ⟨.inr (.inr ⟨rfl, i, 0, b, rfl, g0, z, by omega, by omega, g2, by rw [z2]; simp⟩), .inl (by show 20 * (100 - i).toNat + (9 - (0 : Int)).toNat < 20 * (100 - i).toNat + 19; omega)⟩
  unfold tr1
  repeat' (first
    | (refine TOK.br' (fun g => ?_) (fun g => ?_) <;> simp (disch := omega) only [d_vi, d_vb, d_vr, d_ci, d_cb, d_nr, d_nl, d_add, d_sub, d_mul, d_rem, d_quo, d_bit, d_mn2, d_mx2, d_w, d_nn, d_bn2, d_len, d_neg, d_cl, d_at1, d_at2, d_at3, d_at4, d_at5, d_at6, d_at7, d_set, d_app, d_cat, d_take, d_drop, d_rep, d_cons, d_lt_t, d_lt_n, d_le_t, d_le_n, d_eqi_t, d_eqi_f, d_eqb_t, d_eqb_f, d_nb_t, d_nb_f, nth0, nthS, d_api, d_apr, D_cons, D_nl, D_nr, D_vr, D_set, mkL_l, mkR_r, mkI_i, d_shr2, d_shr3, d_shr16, d_shr40, d_shl2, d_shl3, d_shl16, d_shl40, d_apb, mkB_b] at g <;> (try (exfalso; omega)))
    | (with_reducible refine TOK.leaf' ?_))
  · refine (show Inv L D R e n 2 _ ∧ lt2 μ (2, _) _ from ?_)
    simp (disch := omega) only [Sb.val, List.map_cons, List.map_nil, d_vi, d_vb, d_vr, d_ci, d_cb, d_nr, d_nl, d_add, d_sub, d_mul, d_rem, d_quo, d_bit, d_mn2, d_mx2, d_w, d_nn, d_bn2, d_len, d_neg, d_cl, d_at1, d_at2, d_at3, d_at4, d_at5, d_at6, d_at7, d_set, d_app, d_cat, d_take, d_drop, d_rep, d_cons, d_lt_t, d_lt_f, d_le_t, d_le_f, d_eqi_t, d_eqi_f, d_eqb_t, d_eqb_f, d_nb_t, d_nb_f, nth0, nthS, d_api, d_apr, D_cons, D_nl, D_nr, D_vr, D_set, mkL_l, mkR_r, mkI_i, d_shr2, d_shr3, d_shr16, d_shr40, d_shl2, d_shl3, d_shl16, d_shl40, d_apb, mkB_b, d_nb2, d_at8, d_at9, d_at10, d_not_b]
    rw [show cl L i = nth 0 (L.getD i.toNat []) 0 from rfl]
    refine nxt (by assumption) _ ?_
    by_cases z : cl D i = 0 <;> simp [nbz, z]
  · refine (show Ret u 0 _ from ?_)
    simp (disch := omega) only [Sb.val, List.map_cons, List.map_nil, d_vi, d_vb, d_vr, d_ci, d_cb, d_nr, d_nl, d_add, d_sub, d_mul, d_rem, d_quo, d_bit, d_mn2, d_mx2, d_w, d_nn, d_bn2, d_len, d_neg, d_cl, d_at1, d_at2, d_at3, d_at4, d_at5, d_at6, d_at7, d_set, d_app, d_cat, d_take, d_drop, d_rep, d_cons, d_lt_t, d_lt_f, d_le_t, d_le_f, d_eqi_t, d_eqi_f, d_eqb_t, d_eqb_f, d_nb_t, d_nb_f, nth0, nthS, d_api, d_apr, D_cons, D_nl, D_nr, D_vr, D_set, mkL_l, mkR_r, mkI_i, d_shr2, d_shr3, d_shr16, d_shr40, d_shl2, d_shl3, d_shl16, d_shl40, d_apb, mkB_b]
    exact rt _ (by rw [← g2]; exact rnd_end g0 (by assumption))
theorem s2 : ∀ v, Inv L D R e n 2 v → TOK v (fun _ g => LgFOK v (fun q w => Inv L D R e n q w ∧ lt2 μ (q, w) (2, v)) (Ret u) g) tr2 := by
  rintro v (⟨h, _⟩ | ⟨h, _⟩ | ⟨_, i, k, b, rfl, g0, g1, j0, j1, g2, g3⟩) <;> try cases h
  have K := kx u L D R e n hu hk h1 h2 h3 h4 h5
  have kl := K.l9; have kd := K.dl; have p0 := K.e0; have p1 := K.n0; have p2 := K.w; have k9 := K.n9; have kc := K.c
  have rt : ∀ b, someM L D (winR e n R) = b → Ret u 0 ⟨[], [b], [], [], Φ⟩ := retU u L D R e n hu h1 h2 h3 h4 h5
  have hr := rt_at K.rt g0 g1
  have hr1 := rt01 hr
  have ki : ((i.toNat : Nat) : Int) = i := by omega
  have kk : ((k.toNat : Nat) : Int) = k := by omega
  have eb : blkF L D i k.toNat = (decide (cl D k = 0) && decide (0 ≤ nth 0 (L.getD k.toNat []) 6) && decide (nth 0 (L.getD k.toNat []) 6 < nth 0 (L.getD i.toNat []) 5)) := by unfold blkF; rw [kk]
  have nxt : k < (L.length : Int) → ∀ b', b' = (b && !blkF L D i k.toNat) → Inv L D R e n 2 ⟨e :: n :: i :: (k + 1) :: fs L i, [b', nbz (nth 0 (L.getD i.toNat []) 7)], [L, D, R], [], Φ⟩ ∧ lt2 μ (2, ⟨e :: n :: i :: (k + 1) :: fs L i, [b', nbz (nth 0 (L.getD i.toNat []) 7)], [L, D, R], [], Φ⟩) (2, ⟨e :: n :: i :: k :: fs L i, [b, nbz (nth 0 (L.getD i.toNat []) 7)], [L, D, R], [], Φ⟩) := fun z b' z2 =>
    ⟨.inr (.inr ⟨rfl, i, k + 1, b', rfl, g0, g1, by omega, by omega, g2, by rw [z2, g3, show (k + 1).toNat = k.toNat + 1 by omega, List.range_succ, List.any_append, Bool.not_or, ← Bool.and_assoc]; simp⟩), .inl (by show 20 * (100 - i).toNat + (9 - (k + 1)).toNat < 20 * (100 - i).toNat + (9 - k).toNat; omega)⟩
  have stp := rnd_step (L := L) (D := D) (W := winR e n R) g0 g1
  have no : P L D (winR e n R) i = false → Inv L D R e n 1 ⟨[e, n, i + 1], [], [L, D, R], [], Φ⟩ ∧ lt2 μ (1, ⟨[e, n, i + 1], [], [L, D, R], [], Φ⟩) (2, ⟨e :: n :: i :: k :: fs L i, [b, nbz (nth 0 (L.getD i.toNat []) 7)], [L, D, R], [], Φ⟩) := fun z =>
    ⟨.inr (.inl ⟨rfl, i + 1, rfl, by omega, by omega, by rw [← g2, stp, z, Bool.false_or]⟩), .inl (by show 20 * (100 - (i + 1)).toNat + 19 < 20 * (100 - i).toNat + (9 - k).toNat; omega)⟩
  have yes : P L D (winR e n R) i = true → Ret u 0 ⟨[], [true], [], [], Φ⟩ := fun z => rt _ (by rw [← g2, stp, z, Bool.true_or])
  have ee : ((e.toNat : Nat) : Int) = e := by omega
  have en : ((n.toNat : Nat) : Int) = n := by omega
  have fw : List.take n.toNat (List.drop e.toNat R) = winR e n R := rfl
  have wl := wr_len p0 p1 p2
  unfold tr2
  refine TOK.br' (fun h => ?_) (fun h => ?_) <;> simp (disch := omega) only [d_vi, d_vb, d_vr, d_ci, d_cb, d_nr, d_nl, d_add, d_sub, d_mul, d_rem, d_quo, d_bit, d_mn2, d_mx2, d_w, d_nn, d_bn2, d_len, d_neg, d_cl, d_at1, d_at2, d_at3, d_at4, d_at5, d_at6, d_at7, d_set, d_app, d_cat, d_take, d_drop, d_rep, d_cons, d_lt_t, d_lt_n, d_le_t, d_le_n, d_eqi_t, d_eqi_f, d_eqb_t, d_eqb_f, d_nb_t, d_nb_f, nth0, nthS, d_api, d_apr, D_cons, D_nl, D_nr, D_vr, D_set, mkL_l, mkR_r, mkI_i, d_shr2, d_shr3, d_shr16, d_shr40, d_shl2, d_shl3, d_shl16, d_shl40, d_apb, mkB_b] at h
  · repeat' (first
      | (refine TOK.br' (fun g => ?_) (fun g => ?_) <;> simp (disch := omega) only [d_vi, d_vb, d_vr, d_ci, d_cb, d_nr, d_nl, d_add, d_sub, d_mul, d_rem, d_quo, d_bit, d_mn2, d_mx2, d_w, d_nn, d_bn2, d_len, d_neg, d_cl, d_at1, d_at2, d_at3, d_at4, d_at5, d_at6, d_at7, d_set, d_app, d_cat, d_take, d_drop, d_rep, d_cons, d_lt_t, d_lt_n, d_le_t, d_le_n, d_eqi_t, d_eqi_f, d_eqb_t, d_eqb_f, d_nb_t, d_nb_f, nth0, nthS, d_api, d_apr, D_cons, D_nl, D_nr, D_vr, D_set, mkL_l, mkR_r, mkI_i, d_shr2, d_shr3, d_shr16, d_shr40, d_shl2, d_shl3, d_shl16, d_shl40, d_apb, mkB_b, d_nb2, nbz_t, nbz_f] at g <;> (try (exfalso; omega)))
      | (with_reducible refine TOK.leaf' ?_))
    all_goals
      refine (show Inv L D R e n 2 _ ∧ lt2 μ (2, _) _ from ?_)
      simp (disch := omega) only [Sb.val, List.map_cons, List.map_nil, d_vi, d_vb, d_vr, d_ci, d_cb, d_nr, d_nl, d_add, d_sub, d_mul, d_rem, d_quo, d_bit, d_mn2, d_mx2, d_w, d_nn, d_bn2, d_len, d_neg, d_cl, d_at1, d_at2, d_at3, d_at4, d_at5, d_at6, d_at7, d_set, d_app, d_cat, d_take, d_drop, d_rep, d_cons, d_lt_t, d_lt_f, d_le_t, d_le_f, d_eqi_t, d_eqi_f, d_eqb_t, d_eqb_f, d_nb_t, d_nb_f, nth0, nthS, d_api, d_apr, D_cons, D_nl, D_nr, D_vr, D_set, mkL_l, mkR_r, mkI_i, d_shr2, d_shr3, d_shr16, d_shr40, d_shl2, d_shl3, d_shl16, d_shl40, d_apb, mkB_b, d_le_b]
      refine nxt (by assumption) _ ?_
      rw [eb]
      first
        | (rw [decide_eq_false (by assumption : ¬ cl D k = 0)]
           have g' : b = true := by assumption
           rw [g']; rfl)
        | (rw [decide_eq_false (by omega : ¬ 0 ≤ nth 0 (L.getD k.toNat []) 6), Bool.and_false, Bool.false_and]
           have g' : b = true := by assumption
           rw [g']; rfl)
        | (have g' : b = false := by assumption
           subst g'; rfl)
        | (have g' : b = true := by assumption
           subst g'
           rw [decide_eq_true (by assumption : cl D k = 0), decide_eq_true (by omega : 0 ≤ nth 0 (L.getD k.toNat []) 6)]
           by_cases z : nth 0 (L.getD k.toNat []) 6 < nth 0 (L.getD i.toNat []) 5
           · rw [decide_eq_true z]; exact decide_eq_false (by omega)
           · rw [decide_eq_false z]; exact decide_eq_true (by omega))
  · have e0 : k.toNat = L.length := by omega
    rw [e0] at g3
    have fr : freeF i L D = b := by unfold freeF; rw [g3, Bool.and_comm]
    cases b with
    | false =>
      refine TOK.br' (fun g => ?_) (fun g => ?_) <;> simp (disch := omega) only [d_vi, d_vb, d_vr, d_ci, d_cb, d_nr, d_nl, d_add, d_sub, d_mul, d_rem, d_quo, d_bit, d_mn2, d_mx2, d_w, d_nn, d_bn2, d_len, d_neg, d_cl, d_at1, d_at2, d_at3, d_at4, d_at5, d_at6, d_at7, d_set, d_app, d_cat, d_take, d_drop, d_rep, d_cons, d_lt_t, d_lt_n, d_le_t, d_le_n, d_eqi_t, d_eqi_f, d_eqb_t, d_eqb_f, d_nb_t, d_nb_f, nth0, nthS, d_api, d_apr, D_cons, D_nl, D_nr, D_vr, D_set, mkL_l, mkR_r, mkI_i, d_shr2, d_shr3, d_shr16, d_shr40, d_shl2, d_shl3, d_shl16, d_shl40, d_apb, mkB_b] at g
      · cases g
      · refine TOK.leaf' ?_
        refine (show Inv L D R e n 1 _ ∧ lt2 μ (1, _) _ from ?_)
        simp (disch := omega) only [Sb.val, List.map_cons, List.map_nil, d_vi, d_vb, d_vr, d_ci, d_cb, d_nr, d_nl, d_add, d_sub, d_mul, d_rem, d_quo, d_bit, d_mn2, d_mx2, d_w, d_nn, d_bn2, d_len, d_neg, d_cl, d_at1, d_at2, d_at3, d_at4, d_at5, d_at6, d_at7, d_set, d_app, d_cat, d_take, d_drop, d_rep, d_cons, d_lt_t, d_lt_f, d_le_t, d_le_f, d_eqi_t, d_eqi_f, d_eqb_t, d_eqb_f, d_nb_t, d_nb_f, nth0, nthS, d_api, d_apr, D_cons, D_nl, D_nr, D_vr, D_set, mkL_l, mkR_r, mkI_i, d_shr2, d_shr3, d_shr16, d_shr40, d_shl2, d_shl3, d_shl16, d_shl40, d_apb, mkB_b]
        exact no (by unfold P; rw [fr, Bool.false_and])
    | true =>
      have hc := cntZ_set (D := D) g0 (by omega) (free_at fr)
      have eP : ∀ X, stepO (ansD (L.getD i.toNat []) (winR e n R)) (winR e n R) = true ∧ stepR (ansD (L.getD i.toNat []) (winR e n R)) (winR e n R) = X → P L D (winR e n R) i = someM L (D.set i.toNat [1]) X := fun X z => by
        unfold P someM; rw [fr, z.1, z.2, hc]; rfl
      have yes' : ∀ X, stepO (ansD (L.getD i.toNat []) (winR e n R)) (winR e n R) = true ∧ stepR (ansD (L.getD i.toNat []) (winR e n R)) (winR e n R) = X → someM L (D.set i.toNat [1]) X = true → Ret u 0 ⟨[], [true], [], [], Φ⟩ := fun X z z2 => yes ((eP X z).trans z2)
      have no' : ∀ X, stepO (ansD (L.getD i.toNat []) (winR e n R)) (winR e n R) = true ∧ stepR (ansD (L.getD i.toNat []) (winR e n R)) (winR e n R) = X → someM L (D.set i.toNat [1]) X = false → Inv L D R e n 1 ⟨[e, n, i + 1], [], [L, D, R], [], Φ⟩ ∧ lt2 μ (1, ⟨[e, n, i + 1], [], [L, D, R], [], Φ⟩) (2, ⟨e :: n :: i :: k :: fs L i, [true, nbz (nth 0 (L.getD i.toNat []) 7)], [L, D, R], [], Φ⟩) := fun X z z2 => no ((eP X z).trans z2)
      have bad : stepO (ansD (L.getD i.toNat []) (winR e n R)) (winR e n R) = false → Inv L D R e n 1 ⟨[e, n, i + 1], [], [L, D, R], [], Φ⟩ ∧ lt2 μ (1, ⟨[e, n, i + 1], [], [L, D, R], [], Φ⟩) (2, ⟨e :: n :: i :: k :: fs L i, [true, nbz (nth 0 (L.getD i.toNat []) 7)], [L, D, R], [], Φ⟩) := fun z => no (by unfold P; rw [z, Bool.false_and, Bool.and_false])
      have wa : ∀ x : Row, winR 0 (n + 1) ([x.getD 0 []] ++ winR e n R) = x.getD 0 [] :: winR e n R := fun x => wr_all _ (by simp; omega)
      have wp : ∀ x : List Int, winR 0 (n + 1) (x :: winR e n R) = x :: winR e n R := fun x => wr_all _ (by simp; omega)
      have wq : ∀ x : List Int, winR 0 (n + 1) (winR e n R ++ [x]) = winR e n R ++ [x] := fun x => wr_all _ (by simp; omega)
      clear yes no eP stp g2 g3 nxt
      repeat' (first
        | (refine TOK.br' (fun g => ?_) (fun g => ?_) <;> simp (disch := omega) only [d_vi, d_vb, d_vr, d_ci, d_cb, d_nr, d_nl, d_add, d_sub, d_mul, d_rem, d_quo, d_bit, d_mn2, d_mx2, d_w, d_nn, d_bn2, d_len, d_neg, d_cl, d_at1, d_at2, d_at3, d_at4, d_at5, d_at6, d_at7, d_set, d_app, d_cat, d_take, d_drop, d_rep, d_cons, d_lt_t, d_lt_n, d_le_t, d_le_n, d_eqi_t, d_eqi_f, d_eqb_t, d_eqb_f, d_nb_t, d_nb_f, nth0, nthS, d_api, d_apr, D_cons, D_nl, D_nr, D_vr, D_set, mkL_l, mkR_r, mkI_i, d_shr2, d_shr3, d_shr16, d_shr40, d_shl2, d_shl3, d_shl16, d_shl40, d_apb, mkB_b, d_nb2, d_at8, Φ620, Φ621, Φ622, Φ623, Φ626, nbz_b2i, bun_r, bun_l, ee, en, fw, wl, List.nil_append, List.cons_append, wp, wq, decide_eq_true_eq, decide_eq_false_iff_not] at g <;> (try (exfalso; first | omega | (have g := of_decide_eq_false g; omega) | exact Bool.noConfusion g)))
        | (with_reducible refine TOK.leaf' ?_)
        | (with_reducible refine tboth ?_ ?_))
      all_goals first
        | (refine (show Ret u 0 _ from ?_)
           simp (disch := omega) only [Sb.val, List.map_cons, List.map_nil, d_vi, d_vb, d_vr, d_ci, d_cb, d_nr, d_nl, d_add, d_sub, d_mul, d_rem, d_quo, d_bit, d_mn2, d_mx2, d_w, d_nn, d_bn2, d_len, d_neg, d_cl, d_at1, d_at2, d_at3, d_at4, d_at5, d_at6, d_at7, d_set, d_app, d_cat, d_take, d_drop, d_rep, d_cons, d_lt_t, d_lt_f, d_le_t, d_le_f, d_eqi_t, d_eqi_f, d_eqb_t, d_eqb_f, d_nb_t, d_nb_f, nth0, nthS, d_api, d_apr, D_cons, D_nl, D_nr, D_vr, D_set, mkL_l, mkR_r, mkI_i, d_shr2, d_shr3, d_shr16, d_shr40, d_shl2, d_shl3, d_shl16, d_shl40, d_apb, mkB_b]
           first
             | exact yes' _ (aq_put0 (by assumption) (by assumption)) (by assumption)
             | exact yes' _ (aq_putL (by assumption) (by assumption) (by assumption)) (by assumption)
             | exact yes' _ (aq_putR (by assumption) (by assumption) (by assumption)) (by assumption)
             | (refine yes' _ ⟨(aq_get0 (by assumption) (by assumption)).1.trans (decide_eq_true (by omega)), (aq_get0 (by assumption) (by assumption)).2⟩ ?_
                rw [← (List.length_eq_zero_iff.1 (by omega) : winR e n R = [])]; assumption)
             | exact yes' _ ⟨(aq_getL p0 (by omega) p2 (by assumption) (by assumption) (by assumption)).1.trans (decide_eq_true (by assumption)), (aq_getL p0 (by omega) p2 (by assumption) (by assumption) (by assumption)).2⟩ (by assumption)
             | exact yes' _ ⟨(aq_getR p0 (by omega) p2 (by assumption) (by assumption) (rt2 hr (by assumption))).1.trans (decide_eq_true (by assumption)), (aq_getR p0 (by omega) p2 (by assumption) (by assumption) (rt2 hr (by assumption))).2⟩ (by assumption))
        | (refine (show Inv L D R e n 1 _ ∧ lt2 μ (1, _) _ from ?_)
           simp (disch := omega) only [Sb.val, List.map_cons, List.map_nil, d_vi, d_vb, d_vr, d_ci, d_cb, d_nr, d_nl, d_add, d_sub, d_mul, d_rem, d_quo, d_bit, d_mn2, d_mx2, d_w, d_nn, d_bn2, d_len, d_neg, d_cl, d_at1, d_at2, d_at3, d_at4, d_at5, d_at6, d_at7, d_set, d_app, d_cat, d_take, d_drop, d_rep, d_cons, d_lt_t, d_lt_f, d_le_t, d_le_f, d_eqi_t, d_eqi_f, d_eqb_t, d_eqb_f, d_nb_t, d_nb_f, nth0, nthS, d_api, d_apr, D_cons, D_nl, D_nr, D_vr, D_set, mkL_l, mkR_r, mkI_i, d_shr2, d_shr3, d_shr16, d_shr40, d_shl2, d_shl3, d_shl16, d_shl40, d_apb, mkB_b]
           first
             | exact no' _ (aq_put0 (by assumption) (by assumption)) (by assumption)
             | exact no' _ (aq_putL (by assumption) (by assumption) (by assumption)) (by assumption)
             | exact no' _ (aq_putR (by assumption) (by assumption) (by assumption)) (by assumption)
             | exact bad (aq_getE (by assumption) (by assumption) (by omega))
             | exact bad ((aq_get0 (by assumption) (by assumption)).1.trans (decide_eq_false (by omega)))
             | (refine no' _ ⟨(aq_get0 (by assumption) (by assumption)).1.trans (decide_eq_true (by omega)), (aq_get0 (by assumption) (by assumption)).2⟩ ?_
                rw [← (List.length_eq_zero_iff.1 (by omega) : winR e n R = [])]; assumption)
             | exact bad ((aq_getL p0 (by omega) p2 (by assumption) (by assumption) (by assumption)).1.trans (decide_eq_false (by assumption)))
             | exact bad ((aq_getR p0 (by omega) p2 (by assumption) (by assumption) (rt2 hr (by assumption))).1.trans (decide_eq_false (by assumption)))
             | exact no' _ ⟨(aq_getL p0 (by omega) p2 (by assumption) (by assumption) (by assumption)).1.trans (decide_eq_true (by assumption)), (aq_getL p0 (by omega) p2 (by assumption) (by assumption) (by assumption)).2⟩ (by assumption)
             | exact no' _ ⟨(aq_getR p0 (by omega) p2 (by assumption) (by assumption) (rt2 hr (by assumption))).1.trans (decide_eq_true (by assumption)), (aq_getR p0 (by omega) p2 (by assumption) (by assumption) (rt2 hr (by assumption))).2⟩ (by assumption))
end
theorem hΦ {L D R : Row} {e n : Int} : ∀ k v, Inv L D R e n k v → v.f = Φ := by
  rintro k v (⟨_, i, rfl, _⟩ | ⟨_, i, rfl, _⟩ | ⟨_, i, k, b, rfl, _⟩) <;> rfl
theorem hD1 {L D R : Row} {e n : Int} : ∀ k v, Inv L D R e n k v → nth [] v.r 1 = D := by
  rintro k v (⟨_, i, rfl, _⟩ | ⟨_, i, rfl, _⟩ | ⟨_, i, k, b, rfl, _⟩) <;> rfl
theorem rk_at {v : Val} (hv : v.f = Φ) : (den v rk).i = (cntZ (nth [] v.r 1) : Int) := by
  show (v.f 621 _ _ _).i = _
  rw [hv, Φ621]; rfl
theorem step (u : Val) (hu : u.f = Φ) (hrec : ∀ u', u'.f = Φ → (den u' rk).i < (den u rk).i → FC.Ok P0 u' fc) : FC.Ok P0 u fc := by
  refine mk u (Inv (nth [] u.r 0) (nth [] u.r 1) (nth [] u.r 2) (nth 0 u.i 0) (nth 0 u.i 1)) μ hrec (fun k v h => ?_) hu hΦ (fun hk k σ po hs => ?_) ?_ ?_ ?_ (fun hk => ?_) (fun hk => s0 u _ _ _ _ _ hu hk rfl rfl rfl rfl rfl) (fun hk => s1 u _ _ _ _ _ hu hk rfl rfl rfl rfl rfl) (fun hk => s2 u _ _ _ _ _ hu hk rfl rfl rfl rfl rfl)
  · rw [rk_at (hΦ k v h), rk_at hu, hD1 k v h]
  · cases hs; exact KV.nil
  · rintro hk v (⟨_, i, rfl, g0, g1⟩ | ⟨h, _⟩ | ⟨h, _⟩) <;> try cases h
    have K := kx u _ _ _ _ _ hu hk rfl rfl rfl rfl rfl
    have kl := K.l9; have kd := K.dl; have p0 := K.e0; have p1 := K.n0; have p2 := K.w; have k9 := K.n9
    unfold tm0
    repeat' (first | exact KV.nil | (refine KV.cons ?_ ?_))
    all_goals (simp only [d_vi, d_vb, d_vr, d_ci, d_cb, d_nr, d_nl, d_add, d_sub, d_mul, d_rem, d_quo, d_bit, d_mn2, d_mx2, d_w, d_nn, d_bn2, d_len, d_neg, d_cl, d_at1, d_at2, d_at3, d_at4, d_at5, d_at6, d_at7, d_set, d_app, d_cat, d_take, d_drop, d_rep, d_cons, d_lt_t, d_lt_f, d_le_t, d_le_f, d_eqi_t, d_eqi_f, d_eqb_t, d_eqb_f, d_nb_t, d_nb_f, nth0, nthS, d_api, d_apr, D_cons, D_nl, D_nr, D_vr, D_set, mkL_l, mkR_r, mkI_i, d_shr2, d_shr3, d_shr16, d_shr40, d_shl2, d_shl3, d_shl16, d_shl40, d_apb, mkB_b] <;> omega)
  · rintro hk v (⟨h, _⟩ | ⟨_, i, rfl, g0, g1, g2⟩ | ⟨h, _⟩) <;> try cases h
    have K := kx u _ _ _ _ _ hu hk rfl rfl rfl rfl rfl
    have kl := K.l9; have kd := K.dl; have p0 := K.e0; have p1 := K.n0; have p2 := K.w; have k9 := K.n9
    unfold tm1
    repeat' (first | exact KV.nil | (refine KV.cons ?_ ?_))
    all_goals (simp only [d_vi, d_vb, d_vr, d_ci, d_cb, d_nr, d_nl, d_add, d_sub, d_mul, d_rem, d_quo, d_bit, d_mn2, d_mx2, d_w, d_nn, d_bn2, d_len, d_neg, d_cl, d_at1, d_at2, d_at3, d_at4, d_at5, d_at6, d_at7, d_set, d_app, d_cat, d_take, d_drop, d_rep, d_cons, d_lt_t, d_lt_f, d_le_t, d_le_f, d_eqi_t, d_eqi_f, d_eqb_t, d_eqb_f, d_nb_t, d_nb_f, nth0, nthS, d_api, d_apr, D_cons, D_nl, D_nr, D_vr, D_set, mkL_l, mkR_r, mkI_i, d_shr2, d_shr3, d_shr16, d_shr40, d_shl2, d_shl3, d_shl16, d_shl40, d_apb, mkB_b] <;> omega)
  · rintro hk v (⟨h, _⟩ | ⟨h, _⟩ | ⟨_, i, k, b, rfl, g0, g1, j0, j1, g2, g3⟩) <;> try cases h
    have K := kx u _ _ _ _ _ hu hk rfl rfl rfl rfl rfl
    have kl := K.l9; have kd := K.dl; have p0 := K.e0; have p1 := K.n0; have p2 := K.w; have k9 := K.n9; have hrt := K.rt
    have hr1 := rt01 (rt_at K.rt g0 g1)
    unfold tm2
    repeat' (first | exact KV.nil | (refine KV.cons ?_ ?_))
    all_goals first
      | (simp only [d_vi, d_vb, d_vr, d_ci, d_cb, d_nr, d_nl, d_add, d_sub, d_mul, d_rem, d_quo, d_bit, d_mn2, d_mx2, d_w, d_nn, d_bn2, d_len, d_neg, d_cl, d_at1, d_at2, d_at3, d_at4, d_at5, d_at6, d_at7, d_set, d_app, d_cat, d_take, d_drop, d_rep, d_cons, d_lt_t, d_lt_f, d_le_t, d_le_f, d_eqi_t, d_eqi_f, d_eqb_t, d_eqb_f, d_nb_t, d_nb_f, nth0, nthS, d_api, d_apr, D_cons, D_nl, D_nr, D_vr, D_set, mkL_l, mkR_r, mkI_i, d_shr2, d_shr3, d_shr16, d_shr40, d_shl2, d_shl3, d_shl16, d_shl40, d_apb, mkB_b]; omega)
      | (simp only [d_vi, d_vb, d_vr, d_ci, d_cb, d_nr, d_nl, d_add, d_sub, d_mul, d_rem, d_quo, d_bit, d_mn2, d_mx2, d_w, d_nn, d_bn2, d_len, d_neg, d_cl, d_at1, d_at2, d_at3, d_at4, d_at5, d_at6, d_at7, d_set, d_app, d_cat, d_take, d_drop, d_rep, d_cons, d_lt_t, d_lt_f, d_le_t, d_le_f, d_eqi_t, d_eqi_f, d_eqb_t, d_eqb_f, d_nb_t, d_nb_f, nth0, nthS, d_api, d_apr, D_cons, D_nl, D_nr, D_vr, D_set, mkL_l, mkR_r, mkI_i, d_shr2, d_shr3, d_shr16, d_shr40, d_shl2, d_shl3, d_shl16, d_shl40, d_apb, mkB_b, Φ603]; exact hrt)
  · unfold trS
    refine TOK.leaf' (show Inv _ _ _ _ _ 0 _ from .inl ⟨rfl, 0, ?_, by omega, by omega⟩)
    simp only [Sb.val, List.map_cons, List.map_nil, d_vi, d_vb, d_vr, d_ci, d_cb, d_nr, d_nl, d_add, d_sub, d_mul, d_rem, d_quo, d_bit, d_mn2, d_mx2, d_w, d_nn, d_bn2, d_len, d_neg, d_cl, d_at1, d_at2, d_at3, d_at4, d_at5, d_at6, d_at7, d_set, d_app, d_cat, d_take, d_drop, d_rep, d_cons, d_lt_t, d_lt_f, d_le_t, d_le_f, d_eqi_t, d_eqi_f, d_eqb_t, d_eqb_f, d_nb_t, d_nb_f, nth0, nthS, d_api, d_apr, D_cons, D_nl, D_nr, D_vr, D_set, mkL_l, mkR_r, mkI_i, d_shr2, d_shr3, d_shr16, d_shr40, d_shl2, d_shl3, d_shl16, d_shl40, d_apb, mkB_b, hu]
    rfl
theorem okN : ∀ (N : Nat) (u : Val), u.f = Φ → (den u rk).i < (N : Int) → FC.Ok P0 u fc
  | 0, u, hu, h => by rw [rk_at hu] at h; exfalso; omega
  | N + 1, u, hu, h => step u hu fun u' hu' h' => okN N u' hu' (by omega)
theorem ok (u : Val) (hu : u.f = Φ) : FC.Ok P0 u fc := okN ((den u rk).i.toNat + 1) u hu (by omega)
end Go.Proofs.Ytpgkbdkkcladcaa.FSome
