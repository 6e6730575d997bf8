/- The contract of stackyardlaw15.legal: may right calls be done so, one behind the other? A lemma file: conditions are those of the contract's 'kn'. -/
import Derived.Test.YtpgkbdkkcladcaaOwnLegal15S
set_option linter.unusedVariables false
set_option linter.unusedSimpArgs false
set_option maxRecDepth 100000
set_option maxHeartbeats 4000000
namespace Go.Proofs.Ytpgkbdkkcladcaa.FLegal15
open Go Go.Lib Go.Proofs.Ytpgkbdkkcladcaa.Eng Go.Proofs.Ytpgkbdkkcladcaa.Sy
theorem drop_at {L : List (List Int)} {i : Int} (h0 : 0 ≤ i) (h1 : i < (L.length : Int)) : L.drop i.toNat = L.getD i.toNat [] :: L.drop (i + 1).toNat := by
  rw [List.drop_eq_getElem_cons (by omega : i.toNat < L.length), show (i + 1).toNat = i.toNat + 1 by omega, List.getD_eq_getElem?_getD, List.getElem?_eq_getElem (by omega)]
  rfl
theorem right_at : ∀ {L : List (List Int)} {n : Nat}, rightsF L = true → n < L.length → rightD (L.getD n []) = true := by
  intro L n h hn
  unfold rightsF at h
  rw [List.all_eq_true] at h
  rw [List.getD_eq_getElem?_getD, List.getElem?_eq_getElem hn]
  exact h _ (List.getElem_mem hn)
theorem tboth {v : Val} {α : Type} {ψ : Kn → α → Prop} {t e : Tree α} (h1 : TOK v ψ t) (h2 : TOK v ψ e) : TOK v ψ (.both t e) := ⟨h1, h2⟩
/-- The row that is there: a part of a block. -/
def win (e n : Int) (r : Row) : Row := (r.drop e.toNat).take n.toNat
def Inv (L : List (List Int)) (p : Nat) (v : Val) : Prop :=
  (p = 0 ∧ ∃ i r, v = ⟨[i], [], [L, r], [], Φ⟩ ∧ 0 ≤ i ∧ i ≤ (L.length : Int) ∧ (r.length : Int) ≤ i ∧ legalF (L.drop i.toNat) r = legalF L []) ∨
  (p = 1 ∧ ∃ e n i r, v = ⟨[e, n, i], [], [L, r], [], Φ⟩ ∧ 0 ≤ i ∧ i ≤ (L.length : Int) ∧ 0 ≤ e ∧ 0 ≤ n ∧ e + n ≤ (r.length : Int) ∧ (r.length : Int) ≤ i ∧ legalF (L.drop i.toNat) (win e n r) = legalF L [])
def μ (q : Nat × Val) : Nat × Nat := ((1000 - (if q.1 = 0 then nth 0 q.2.i 0 else nth 0 q.2.i 2)).toNat, 0)
theorem step_ok {d : List Int} {l : List (List Int)} {W X : Row} (h : stepO d W = true) (hX : stepR d W = X) : legalF (d :: l) W = legalF l X := by
  simp only [legalF]; rw [if_pos h, hX]
theorem step_no {d : List Int} {l : List (List Int)} {W : Row} (h : stepO d W = false) : legalF (d :: l) W = false := by
  simp only [legalF]; rw [if_neg (by rw [h]; decide)]
theorem d_at8 {v : Val} {a b : E} : (den v (.o3 .at a b (.ci 8))).i = nth 0 ((den v a).r.getD (den v b).i.toNat []) 8 := rfl
theorem len0 {r : Row} : ((r.length : Int) = 0) ↔ r = [] := by rw [← List.length_eq_zero_iff]; omega
theorem cl0 (r : Row) : nth 0 (r.getD 0 []) 0 = cl r 0 := rfl
theorem s0 (u : Val) (hu : u.f = Φ) (hk : KV u fc.kn) : ∀ v, Inv (nth [] u.r 0) 0 v → TOK v (fun _ g => LgFOK v (fun q w => Inv (nth [] u.r 0) q w ∧ lt2 μ (q, w) (0, v)) (fun k u' => ∃ σ po, Sel u fc.out (k, σ, po) ∧ u' = σ.val u) g) tr0 := by
  rintro v (⟨_, i, r, rfl, h0, h1, h2, h3⟩ | ⟨h, _⟩) <;> try cases h
  unfold KV fc at hk
  simp only [List.forall_mem_cons, d_vi, d_vb, d_vr, d_ci, d_cb, d_nr, d_nl, d_add, d_sub, d_mul, d_rem, d_quo, d_bit, d_mn2, d_mx2, d_w, d_nn, d_bn2, d_len, d_neg, d_cl, d_at1, d_at2, d_at3, d_at4, d_at5, d_at6, d_at7, d_set, d_app, d_cat, d_take, d_drop, d_rep, d_cons, d_lt_t, d_lt_f, d_le_t, d_le_f, d_eqi_t, d_eqi_f, d_eqb_t, d_eqb_f, d_nb_t, d_nb_f, nth0, nthS, d_api, d_apr, D_cons, D_nl, D_nr, D_vr, D_set, mkL_l, mkR_r, mkI_i, d_shr2, d_shr3, d_shr16, d_shr40, d_shl2, d_shl3, d_shl16, d_shl40, d_apb, mkB_b, Φ603, hu] at hk
  generalize hLL : nth [] u.r 0 = L at *
  have hr : i < (L.length : Int) → rightD (L.getD i.toNat []) = true := fun z => right_at hk.2.1 (by omega)
  unfold tr0
  refine TOK.br' (fun h => ?_) (fun h => ?_) <;> simp (disch := omega) only [d_vi, d_vb, d_vr, d_ci, d_cb, d_nr, d_nl, d_add, d_sub, d_mul, d_rem, d_quo, d_bit, d_mn2, d_mx2, d_w, d_nn, d_bn2, d_len, d_neg, d_cl, d_at1, d_at2, d_at3, d_at4, d_at5, d_at6, d_at7, d_set, d_app, d_cat, d_take, d_drop, d_rep, d_cons, d_lt_t, d_lt_n, d_le_t, d_le_n, d_eqi_t, d_eqi_f, d_eqb_t, d_eqb_f, d_nb_t, d_nb_f, nth0, nthS, d_api, d_apr, D_cons, D_nl, D_nr, D_vr, D_set, mkL_l, mkR_r, mkI_i, d_shr2, d_shr3, d_shr16, d_shr40, d_shl2, d_shl3, d_shl16, d_shl40, d_apb, mkB_b] at h
  · have hr := hr h
    have e := drop_at h0 h
    rw [e] at h3
    have nxt0 : ∀ X, stepO (L.getD i.toNat []) r = true → stepR (L.getD i.toNat []) r = X → (X.length : Int) ≤ i + 1 → Inv L 0 ⟨[i + 1], [], [L, X], [], Φ⟩ ∧ lt2 μ (0, ⟨[i + 1], [], [L, X], [], Φ⟩) (0, ⟨[i], [], [L, r], [], Φ⟩) := fun X z1 z2 z3 =>
      ⟨.inl ⟨rfl, i + 1, X, rfl, by omega, by omega, z3, by rw [← h3, step_ok z1 z2]⟩, .inl (by show (1000 - (i + 1)).toNat < (1000 - i).toNat; omega)⟩
    have nxt1 : ∀ e n, stepO (L.getD i.toNat []) r = true → stepR (L.getD i.toNat []) r = win e n r → 0 ≤ e → 0 ≤ n → e + n ≤ (r.length : Int) → Inv L 1 ⟨[e, n, i + 1], [], [L, r], [], Φ⟩ ∧ lt2 μ (1, ⟨[e, n, i + 1], [], [L, r], [], Φ⟩) (0, ⟨[i], [], [L, r], [], Φ⟩) := fun e n z1 z2 z3 z4 z5 =>
      ⟨.inr ⟨rfl, e, n, i + 1, r, rfl, by omega, by omega, z3, z4, z5, by omega, by rw [← h3, step_ok z1 z2]⟩, .inl (by show (1000 - (i + 1)).toNat < (1000 - i).toNat; omega)⟩
    have bad : stepO (L.getD i.toNat []) r = false → legalF L [] = false := fun z => by rw [← h3]; exact step_no z
    repeat' (first
      | (refine TOK.br' (fun g => ?_) (fun g => ?_) <;> simp (disch := omega) only [d_vi, d_vb, d_vr, d_ci, d_cb, d_nr, d_nl, d_add, d_sub, d_mul, d_rem, d_quo, d_bit, d_mn2, d_mx2, d_w, d_nn, d_bn2, d_len, d_neg, d_cl, d_at1, d_at2, d_at3, d_at4, d_at5, d_at6, d_at7, d_set, d_app, d_cat, d_take, d_drop, d_rep, d_cons, d_lt_t, d_lt_n, d_le_t, d_le_n, d_eqi_t, d_eqi_f, d_eqb_t, d_eqb_f, d_nb_t, d_nb_f, nth0, nthS, d_api, d_apr, D_cons, D_nl, D_nr, D_vr, D_set, mkL_l, mkR_r, mkI_i, d_shr2, d_shr3, d_shr16, d_shr40, d_shl2, d_shl3, d_shl16, d_shl40, d_apb, mkB_b, d_nb2, d_at8] at g <;> (try (exfalso; omega)))
      | (with_reducible refine TOK.leaf' ?_)
      | (with_reducible refine tboth ?_ ?_))
    all_goals first
      | (refine (show Inv L 0 _ ∧ lt2 μ (0, _) _ from ?_)
         simp (disch := omega) only [Sb.val, List.map_cons, List.map_nil, d_vi, d_vb, d_vr, d_ci, d_cb, d_nr, d_nl, d_add, d_sub, d_mul, d_rem, d_quo, d_bit, d_mn2, d_mx2, d_w, d_nn, d_bn2, d_len, d_neg, d_cl, d_at1, d_at2, d_at3, d_at4, d_at5, d_at6, d_at7, d_set, d_app, d_cat, d_take, d_drop, d_rep, d_cons, d_lt_t, d_lt_f, d_le_t, d_le_f, d_eqi_t, d_eqi_f, d_eqb_t, d_eqb_f, d_nb_t, d_nb_f, nth0, nthS, d_api, d_apr, D_cons, D_nl, D_nr, D_vr, D_set, mkL_l, mkR_r, mkI_i, d_shr2, d_shr3, d_shr16, d_shr40, d_shl2, d_shl3, d_shl16, d_shl40, d_apb, mkB_b, w64]
         refine nxt0 _ ?_ ?_ ?_ <;> clear nxt0 nxt1 bad h3 e <;> generalize L.getD i.toNat [] = d at * <;> first
           | (simp [stepO, stepR, doOk, doRow, okI, b2i, *]; done)
           | omega
           | (have e0 := len0.1 (by assumption); subst e0; simp [stepO, stepR, doOk, doRow, okI, b2i, *]; done)
           | (simp; omega)
           | (simp [stepO, stepR, doOk, doRow, okI, b2i, *]; omega))
      | (refine (⟨_, _, rfl, ?_⟩ : ∃ σ po, Sel u fc.out (0, σ, po) ∧ _)
         have := bad (by
           clear nxt0 nxt1 bad h3 e
           generalize L.getD i.toNat [] = d at *
           have e1 : ((r.length : Int) + -1).toNat = r.length - 1 := by omega
           have hr2 : nth 0 d 2 = 0 ∨ nth 0 d 2 = 1 := by unfold rightD at hr; simp at hr; exact hr.2
           simp only [cl, e1, len0] at *
           rcases hr2 with hr2 | hr2 <;> simp_all [stepO, stepR, doOk, doRow, okI, b2i, cl])
         simp only [Sb.val, List.map_cons, List.map_nil, d_vi, d_vb, d_vr, d_ci, d_cb, d_nr, d_nl, d_add, d_sub, d_mul, d_rem, d_quo, d_bit, d_mn2, d_mx2, d_w, d_nn, d_bn2, d_len, d_neg, d_cl, d_at1, d_at2, d_at3, d_at4, d_at5, d_at6, d_at7, d_set, d_app, d_cat, d_take, d_drop, d_rep, d_cons, d_lt_t, d_lt_f, d_le_t, d_le_f, d_eqi_t, d_eqi_f, d_eqb_t, d_eqb_f, d_nb_t, d_nb_f, nth0, nthS, d_api, d_apr, D_cons, D_nl, D_nr, D_vr, D_set, mkL_l, mkR_r, mkI_i, d_shr2, d_shr3, d_shr16, d_shr40, d_shl2, d_shl3, d_shl16, d_shl40, d_apb, mkB_b, Φ602, hu, hLL, this])
      | (refine (show Inv L 1 _ ∧ lt2 μ (1, _) _ from ?_)
         simp (disch := omega) only [Sb.val, List.map_cons, List.map_nil, d_vi, d_vb, d_vr, d_ci, d_cb, d_nr, d_nl, d_add, d_sub, d_mul, d_rem, d_quo, d_bit, d_mn2, d_mx2, d_w, d_nn, d_bn2, d_len, d_neg, d_cl, d_at1, d_at2, d_at3, d_at4, d_at5, d_at6, d_at7, d_set, d_app, d_cat, d_take, d_drop, d_rep, d_cons, d_lt_t, d_lt_f, d_le_t, d_le_f, d_eqi_t, d_eqi_f, d_eqb_t, d_eqb_f, d_nb_t, d_nb_f, nth0, nthS, d_api, d_apr, D_cons, D_nl, D_nr, D_vr, D_set, mkL_l, mkR_r, mkI_i, d_shr2, d_shr3, d_shr16, d_shr40, d_shl2, d_shl3, d_shl16, d_shl40, d_apb, mkB_b, w64]
         have e1 : ((r.length : Int) + -1).toNat = r.length - 1 := by omega
         refine nxt1 _ _ ?_ ?_ (by omega) (by omega) (by omega) <;> clear nxt0 nxt1 bad h3 e <;> generalize L.getD i.toNat [] = d at *
         all_goals
           have hr2 : nth 0 d 2 = 0 ∨ nth 0 d 2 = 1 := by unfold rightD at hr; simp at hr; exact hr.2
           have hk1 : nth 0 d 1 = 1 ∨ nth 0 d 1 = 0 := by unfold rightD at hr; simp at hr; omega
           simp only [cl, e1, len0] at *
           rcases hr2 with hr2 | hr2 <;> simp_all [stepO, stepR, doOk, doRow, okI, b2i, cl, win, List.take_of_length_le] <;> first
             | omega
             | (rw [List.take_of_length_le]; rw [List.length_tail]; omega))
  · refine TOK.leaf' ?_
    refine (⟨_, _, rfl, ?_⟩ : ∃ σ po, Sel u fc.out (0, σ, po) ∧ _)
    have e : L.drop i.toNat = [] := List.drop_of_length_le (by omega)
    rw [e] at h3
    have : legalF L [] = true := h3.symm
    simp only [Sb.val, List.map_cons, List.map_nil, d_vi, d_vb, d_vr, d_ci, d_cb, d_nr, d_nl, d_add, d_sub, d_mul, d_rem, d_quo, d_bit, d_mn2, d_mx2, d_w, d_nn, d_bn2, d_len, d_neg, d_cl, d_at1, d_at2, d_at3, d_at4, d_at5, d_at6, d_at7, d_set, d_app, d_cat, d_take, d_drop, d_rep, d_cons, d_lt_t, d_lt_f, d_le_t, d_le_f, d_eqi_t, d_eqi_f, d_eqb_t, d_eqb_f, d_nb_t, d_nb_f, nth0, nthS, d_api, d_apr, D_cons, D_nl, D_nr, D_vr, D_set, mkL_l, mkR_r, mkI_i, d_shr2, d_shr3, d_shr16, d_shr40, d_shl2, d_shl3, d_shl16, d_shl40, d_apb, mkB_b, Φ602, hu, hLL, this]
theorem win_len {e n : Int} {r : Row} (h0 : 0 ≤ e) (h1 : 0 ≤ n) (h2 : e + n ≤ (r.length : Int)) : (win e n r).length = n.toNat := by
  unfold win; rw [List.length_take, List.length_drop]; omega
theorem win_cl {e n j : Int} {r : Row} (h0 : 0 ≤ e) (h1 : 0 ≤ j) (h2 : j < n) : cl (win e n r) j = cl r (e + j) := by
  unfold cl win
  rw [List.getD_eq_getElem?_getD, List.getD_eq_getElem?_getD, List.getElem?_take_of_lt (by omega), List.getElem?_drop, show (e + j).toNat = e.toNat + j.toNat by omega]
theorem win_drop {e n : Int} {r : Row} (h0 : 0 ≤ e) (h1 : 1 ≤ n) : (win e n r).drop 1 = win (e + 1) (n + -1) r := by
  unfold win
  rw [List.drop_take, List.drop_drop, show (e + 1).toNat = e.toNat + 1 by omega, show (n + -1).toNat = n.toNat - 1 by omega]
theorem win_take {e n : Int} {r : Row} (h1 : 1 ≤ n) : (win e n r).take (n.toNat - 1) = win e (n + -1) r := by
  unfold win
  rw [List.take_take, show (n + -1).toNat = n.toNat - 1 by omega, Nat.min_eq_left (by omega)]
section
variable {d : List Int} {W : Row}
theorem stp_put0 (h1 : nth 0 d 1 = 0) (h7 : nbz (nth 0 d 7) = false) : stepO d W = true ∧ stepR d W = W := by simp [stepO, stepR, doOk, doRow, okI, b2i, *]
theorem stp_putL (h1 : nth 0 d 1 = 0) (h7 : nbz (nth 0 d 7) = true) (h2 : nth 0 d 2 = 0) : stepO d W = true ∧ stepR d W = [nth 0 d 3] :: W := by simp [stepO, stepR, doOk, doRow, okI, b2i, *]
theorem stp_putR (h1 : nth 0 d 1 = 0) (h7 : nbz (nth 0 d 7) = true) (h2 : ¬ nth 0 d 2 = 0) : stepO d W = true ∧ stepR d W = W ++ [[nth 0 d 3]] := by simp [stepO, stepR, doOk, doRow, okI, b2i, *]
theorem stp_get0 (h1 : ¬ nth 0 d 1 = 0) (h7 : nbz (nth 0 d 7) = false) : stepO d W = decide ((W.length : Int) = 0) ∧ stepR d W = [] := by simp [stepO, stepR, doOk, doRow, okI, b2i, *]
theorem ok1 (h7 : nbz (nth 0 d 7) = true) : ¬ okI d = 0 := by unfold okI; rw [h7]; decide
theorem stp_getE (h1 : ¬ nth 0 d 1 = 0) (h7 : nbz (nth 0 d 7) = true) (hW : (W.length : Int) = 0) : stepO d W = false := by simp only [stepO, doOk]; rw [if_neg h1, if_neg (ok1 h7), if_pos hW]
theorem stp_getL (h1 : ¬ nth 0 d 1 = 0) (h7 : nbz (nth 0 d 7) = true) (hW : ¬ (W.length : Int) = 0) (h2 : nth 0 d 2 = 0) : stepO d W = decide (cl W 0 = nth 0 d 8) ∧ stepR d W = W.drop 1 := by
  simp only [stepO, stepR, doOk, doRow]; rw [if_neg h1, if_neg (ok1 h7), if_neg hW, if_neg (by omega), if_neg h1, if_neg (ok1 h7), if_neg (by omega)]
  exact ⟨rfl, rfl⟩
theorem stp_getR (h1 : ¬ nth 0 d 1 = 0) (h7 : nbz (nth 0 d 7) = true) (hW : ¬ (W.length : Int) = 0) (h2 : nth 0 d 2 = 1) : stepO d W = decide (cl W ((W.length : Int) + -1) = nth 0 d 8) ∧ stepR d W = W.take (W.length - 1) := by
  simp only [stepO, stepR, doOk, doRow]; rw [if_neg h1, if_neg (ok1 h7), if_neg hW, if_pos h2, if_neg h1, if_neg (ok1 h7), if_pos h2]
  refine ⟨?_, rfl⟩
  simp only [cl, show ((W.length : Int) + -1).toNat = W.length - 1 by omega]
theorem right2 (hr : rightD d = true) (h : ¬ nth 0 d 2 = 0) : nth 0 d 2 = 1 := by unfold rightD at hr; simp at hr; omega
end
theorem s1 (u : Val) (hu : u.f = Φ) (hk : KV u fc.kn) : ∀ v, Inv (nth [] u.r 0) 1 v → TOK v (fun _ g => LgFOK v (fun q w => Inv (nth [] u.r 0) q w ∧ lt2 μ (q, w) (1, v)) (fun k u' => ∃ σ po, Sel u fc.out (k, σ, po) ∧ u' = σ.val u) g) tr1 := by
  rintro v (⟨h, _⟩ | ⟨_, e, n, i, r, rfl, h0, h1, p0, p1, p2, h2, h3⟩) <;> try cases h
  unfold KV fc at hk
  simp only [List.forall_mem_cons, d_vi, d_vb, d_vr, d_ci, d_cb, d_nr, d_nl, d_add, d_sub, d_mul, d_rem, d_quo, d_bit, d_mn2, d_mx2, d_w, d_nn, d_bn2, d_len, d_neg, d_cl, d_at1, d_at2, d_at3, d_at4, d_at5, d_at6, d_at7, d_set, d_app, d_cat, d_take, d_drop, d_rep, d_cons, d_lt_t, d_lt_f, d_le_t, d_le_f, d_eqi_t, d_eqi_f, d_eqb_t, d_eqb_f, d_nb_t, d_nb_f, nth0, nthS, d_api, d_apr, D_cons, D_nl, D_nr, D_vr, D_set, mkL_l, mkR_r, mkI_i, d_shr2, d_shr3, d_shr16, d_shr40, d_shl2, d_shl3, d_shl16, d_shl40, d_apb, mkB_b, Φ603, hu] at hk
  generalize hLL : nth [] u.r 0 = L at *
  have hr : i < (L.length : Int) → rightD (L.getD i.toNat []) = true := fun z => right_at hk.2.1 (by omega)
  have ee : ((e.toNat : Nat) : Int) = e := by omega
  have en : ((n.toNat : Nat) : Int) = n := by omega
  have wl := win_len p0 p1 p2
  have wd := fun z => win_drop (e := e) (n := n) (r := r) p0 z
  have wt := fun z => win_take (e := e) (n := n) (r := r) z
  have wc := fun j z1 z2 => win_cl (e := e) (n := n) (j := j) (r := r) p0 z1 z2
  unfold tr1
  refine TOK.br' (fun h => ?_) (fun h => ?_) <;> simp (disch := omega) only [d_vi, d_vb, d_vr, d_ci, d_cb, d_nr, d_nl, d_add, d_sub, d_mul, d_rem, d_quo, d_bit, d_mn2, d_mx2, d_w, d_nn, d_bn2, d_len, d_neg, d_cl, d_at1, d_at2, d_at3, d_at4, d_at5, d_at6, d_at7, d_set, d_app, d_cat, d_take, d_drop, d_rep, d_cons, d_lt_t, d_lt_n, d_le_t, d_le_n, d_eqi_t, d_eqi_f, d_eqb_t, d_eqb_f, d_nb_t, d_nb_f, nth0, nthS, d_api, d_apr, D_cons, D_nl, D_nr, D_vr, D_set, mkL_l, mkR_r, mkI_i, d_shr2, d_shr3, d_shr16, d_shr40, d_shl2, d_shl3, d_shl16, d_shl40, d_apb, mkB_b] at h
  · have hr := hr h
    have eq := drop_at h0 h
    rw [eq] at h3
    have nxt0 : ∀ X, stepO (L.getD i.toNat []) (win e n r) = true → stepR (L.getD i.toNat []) (win e n r) = X → (X.length : Int) ≤ i + 1 → Inv L 0 ⟨[i + 1], [], [L, X], [], Φ⟩ ∧ lt2 μ (0, ⟨[i + 1], [], [L, X], [], Φ⟩) (1, ⟨[e, n, i], [], [L, r], [], Φ⟩) := fun X z1 z2 z3 =>
      ⟨.inl ⟨rfl, i + 1, X, rfl, by omega, by omega, z3, by rw [← h3, step_ok z1 z2]⟩, .inl (by show (1000 - (i + 1)).toNat < (1000 - i).toNat; omega)⟩
    have nxt1 : ∀ e' n', stepO (L.getD i.toNat []) (win e n r) = true → stepR (L.getD i.toNat []) (win e n r) = win e' n' r → 0 ≤ e' → 0 ≤ n' → e' + n' ≤ (r.length : Int) → Inv L 1 ⟨[e', n', i + 1], [], [L, r], [], Φ⟩ ∧ lt2 μ (1, ⟨[e', n', i + 1], [], [L, r], [], Φ⟩) (1, ⟨[e, n, i], [], [L, r], [], Φ⟩) := fun e' n' z1 z2 z3 z4 z5 =>
      ⟨.inr ⟨rfl, e', n', i + 1, r, rfl, by omega, by omega, z3, z4, z5, by omega, by rw [← h3, step_ok z1 z2]⟩, .inl (by show (1000 - (i + 1)).toNat < (1000 - i).toNat; omega)⟩
    have bad : stepO (L.getD i.toNat []) (win e n r) = false → legalF L [] = false := fun z => by rw [← h3]; exact step_no z
    have fw : List.take n.toNat (List.drop e.toNat r) = win e n r := rfl
    have wl' : ((win e n r).length : Int) = n := by omega
    repeat' (first
      | (refine TOK.br' (fun g => ?_) (fun g => ?_) <;> simp (disch := omega) only [d_vi, d_vb, d_vr, d_ci, d_cb, d_nr, d_nl, d_add, d_sub, d_mul, d_rem, d_quo, d_bit, d_mn2, d_mx2, d_w, d_nn, d_bn2, d_len, d_neg, d_cl, d_at1, d_at2, d_at3, d_at4, d_at5, d_at6, d_at7, d_set, d_app, d_cat, d_take, d_drop, d_rep, d_cons, d_lt_t, d_lt_n, d_le_t, d_le_n, d_eqi_t, d_eqi_f, d_eqb_t, d_eqb_f, d_nb_t, d_nb_f, nth0, nthS, d_api, d_apr, D_cons, D_nl, D_nr, D_vr, D_set, mkL_l, mkR_r, mkI_i, d_shr2, d_shr3, d_shr16, d_shr40, d_shl2, d_shl3, d_shl16, d_shl40, d_apb, mkB_b, d_nb2, d_at8, ee, en, fw, wl] at g <;> (try (exfalso; omega)))
      | (with_reducible refine TOK.leaf' ?_)
      | (with_reducible refine tboth ?_ ?_))
    all_goals first
      | (refine (show Inv L 0 _ ∧ lt2 μ (0, _) _ from ?_)
         simp (disch := omega) only [Sb.val, List.map_cons, List.map_nil, d_vi, d_vb, d_vr, d_ci, d_cb, d_nr, d_nl, d_add, d_sub, d_mul, d_rem, d_quo, d_bit, d_mn2, d_mx2, d_w, d_nn, d_bn2, d_len, d_neg, d_cl, d_at1, d_at2, d_at3, d_at4, d_at5, d_at6, d_at7, d_set, d_app, d_cat, d_take, d_drop, d_rep, d_cons, d_lt_t, d_lt_f, d_le_t, d_le_f, d_eqi_t, d_eqi_f, d_eqb_t, d_eqb_f, d_nb_t, d_nb_f, nth0, nthS, d_api, d_apr, D_cons, D_nl, D_nr, D_vr, D_set, mkL_l, mkR_r, mkI_i, d_shr2, d_shr3, d_shr16, d_shr40, d_shl2, d_shl3, d_shl16, d_shl40, d_apb, mkB_b, w64, ee, en, fw, d_at8, List.nil_append, List.cons_append]
         first
           | exact nxt0 _ (stp_putL (by assumption) (by assumption) (by assumption)).1 (stp_putL (by assumption) (by assumption) (by assumption)).2 (by simp only [List.length_cons]; omega)
           | exact nxt0 _ (stp_putR (by assumption) (by assumption) (by assumption)).1 (stp_putR (by assumption) (by assumption) (by assumption)).2 (by simp only [List.length_append, List.length_cons, List.length_nil]; omega))
      | (refine (⟨_, _, rfl, ?_⟩ : ∃ σ po, Sel u fc.out (0, σ, po) ∧ _)
         have := bad (by first
           | exact stp_getE (by assumption) (by assumption) (by omega)
           | (rw [(stp_get0 (by assumption) (by assumption)).1]; exact decide_eq_false (by omega))
           | (rw [(stp_getL (by assumption) (by assumption) (by omega) (by assumption)).1, wc 0 (by omega) (by omega)]; simpa using by assumption)
           | (rw [(stp_getR (by assumption) (by assumption) (by omega) (right2 hr (by assumption))).1, wl', wc (n + -1) (by omega) (by omega)]; exact decide_eq_false (by assumption)))
         simp only [Sb.val, List.map_cons, List.map_nil, d_vi, d_vb, d_vr, d_ci, d_cb, d_nr, d_nl, d_add, d_sub, d_mul, d_rem, d_quo, d_bit, d_mn2, d_mx2, d_w, d_nn, d_bn2, d_len, d_neg, d_cl, d_at1, d_at2, d_at3, d_at4, d_at5, d_at6, d_at7, d_set, d_app, d_cat, d_take, d_drop, d_rep, d_cons, d_lt_t, d_lt_f, d_le_t, d_le_f, d_eqi_t, d_eqi_f, d_eqb_t, d_eqb_f, d_nb_t, d_nb_f, nth0, nthS, d_api, d_apr, D_cons, D_nl, D_nr, D_vr, D_set, mkL_l, mkR_r, mkI_i, d_shr2, d_shr3, d_shr16, d_shr40, d_shl2, d_shl3, d_shl16, d_shl40, d_apb, mkB_b, Φ602, hu, hLL, this])
      | (refine (show Inv L 1 _ ∧ lt2 μ (1, _) _ from ?_)
         simp (disch := omega) only [Sb.val, List.map_cons, List.map_nil, d_vi, d_vb, d_vr, d_ci, d_cb, d_nr, d_nl, d_add, d_sub, d_mul, d_rem, d_quo, d_bit, d_mn2, d_mx2, d_w, d_nn, d_bn2, d_len, d_neg, d_cl, d_at1, d_at2, d_at3, d_at4, d_at5, d_at6, d_at7, d_set, d_app, d_cat, d_take, d_drop, d_rep, d_cons, d_lt_t, d_lt_f, d_le_t, d_le_f, d_eqi_t, d_eqi_f, d_eqb_t, d_eqb_f, d_nb_t, d_nb_f, nth0, nthS, d_api, d_apr, D_cons, D_nl, D_nr, D_vr, D_set, mkL_l, mkR_r, mkI_i, d_shr2, d_shr3, d_shr16, d_shr40, d_shl2, d_shl3, d_shl16, d_shl40, d_apb, mkB_b, w64, ee, en]
         first
           | exact nxt1 _ _ (stp_put0 (by assumption) (by assumption)).1 (stp_put0 (by assumption) (by assumption)).2 (by omega) (by omega) (by omega)
           | (refine nxt1 _ _ ?_ ?_ (by omega) (by omega) (by omega)
              · rw [(stp_get0 (by assumption) (by assumption)).1]; exact decide_eq_true (by omega)
              · rw [(stp_get0 (by assumption) (by assumption)).2]; exact (List.length_eq_zero_iff.1 (by omega)).symm)
           | (refine nxt1 _ _ ?_ ?_ (by omega) (by omega) (by omega)
              · rw [(stp_getL (by assumption) (by assumption) (by omega) (by assumption)).1, wc 0 (by omega) (by omega), Int.add_zero]; exact decide_eq_true (by assumption)
              · rw [(stp_getL (by assumption) (by assumption) (by omega) (by assumption)).2]; exact wd (by omega))
           | (refine nxt1 _ _ ?_ ?_ (by omega) (by omega) (by omega)
              · rw [(stp_getR (by assumption) (by assumption) (by omega) (right2 hr (by assumption))).1, wl', wc (n + -1) (by omega) (by omega)]; exact decide_eq_true (by assumption)
              · rw [(stp_getR (by assumption) (by assumption) (by omega) (right2 hr (by assumption))).2, wl]; exact wt (by omega)))
  · refine TOK.leaf' ?_
    refine (⟨_, _, rfl, ?_⟩ : ∃ σ po, Sel u fc.out (0, σ, po) ∧ _)
    have e : L.drop i.toNat = [] := List.drop_of_length_le (by omega)
    rw [e] at h3
    have : legalF L [] = true := h3.symm
    simp only [Sb.val, List.map_cons, List.map_nil, d_vi, d_vb, d_vr, d_ci, d_cb, d_nr, d_nl, d_add, d_sub, d_mul, d_rem, d_quo, d_bit, d_mn2, d_mx2, d_w, d_nn, d_bn2, d_len, d_neg, d_cl, d_at1, d_at2, d_at3, d_at4, d_at5, d_at6, d_at7, d_set, d_app, d_cat, d_take, d_drop, d_rep, d_cons, d_lt_t, d_lt_f, d_le_t, d_le_f, d_eqi_t, d_eqi_f, d_eqb_t, d_eqb_f, d_nb_t, d_nb_f, nth0, nthS, d_api, d_apr, D_cons, D_nl, D_nr, D_vr, D_set, mkL_l, mkR_r, mkI_i, d_shr2, d_shr3, d_shr16, d_shr40, d_shl2, d_shl3, d_shl16, d_shl40, d_apb, mkB_b, Φ602, hu, hLL, this]
theorem ok (u : Val) (hu : u.f = Φ) : FC.Ok P0 u fc := by
  refine mk u (Inv (nth [] u.r 0)) μ hu ?_ (fun hk k σ po hs => ?_) ?_ ?_ (fun hk => ?_) (fun hk => s0 u hu hk) (fun hk => s1 u hu hk)
  · rintro k v (⟨_, i, r, rfl, _⟩ | ⟨_, e, n, i, r, rfl, _⟩) <;> rfl
  · cases hs; exact KV.nil
  · rintro hk v (⟨_, i, r, rfl, h0, h1, h2, h3⟩ | ⟨h, _⟩) <;> try cases h
    unfold KV fc at hk
    simp only [List.forall_mem_cons, d_vi, d_vb, d_vr, d_ci, d_cb, d_nr, d_nl, d_add, d_sub, d_mul, d_rem, d_quo, d_bit, d_mn2, d_mx2, d_w, d_nn, d_bn2, d_len, d_neg, d_cl, d_at1, d_at2, d_at3, d_at4, d_at5, d_at6, d_at7, d_set, d_app, d_cat, d_take, d_drop, d_rep, d_cons, d_lt_t, d_lt_f, d_le_t, d_le_f, d_eqi_t, d_eqi_f, d_eqb_t, d_eqb_f, d_nb_t, d_nb_f, nth0, nthS, d_api, d_apr, D_cons, D_nl, D_nr, D_vr, D_set, mkL_l, mkR_r, mkI_i, d_shr2, d_shr3, d_shr16, d_shr40, d_shl2, d_shl3, d_shl16, d_shl40, d_apb, mkB_b] at hk
    refine KV.cons ?_ KV.nil
    simp only [d_vi, d_vb, d_vr, d_ci, d_cb, d_nr, d_nl, d_add, d_sub, d_mul, d_rem, d_quo, d_bit, d_mn2, d_mx2, d_w, d_nn, d_bn2, d_len, d_neg, d_cl, d_at1, d_at2, d_at3, d_at4, d_at5, d_at6, d_at7, d_set, d_app, d_cat, d_take, d_drop, d_rep, d_cons, d_lt_t, d_lt_f, d_le_t, d_le_f, d_eqi_t, d_eqi_f, d_eqb_t, d_eqb_f, d_nb_t, d_nb_f, nth0, nthS, d_api, d_apr, D_cons, D_nl, D_nr, D_vr, D_set, mkL_l, mkR_r, mkI_i, d_shr2, d_shr3, d_shr16, d_shr40, d_shl2, d_shl3, d_shl16, d_shl40, d_apb, mkB_b]
    omega
  · rintro hk v (⟨h, _⟩ | ⟨_, e, n, i, r, rfl, h0, h1, p0, p1, p2, h2, h3⟩) <;> try cases h
    unfold KV fc at hk
    simp only [List.forall_mem_cons, d_vi, d_vb, d_vr, d_ci, d_cb, d_nr, d_nl, d_add, d_sub, d_mul, d_rem, d_quo, d_bit, d_mn2, d_mx2, d_w, d_nn, d_bn2, d_len, d_neg, d_cl, d_at1, d_at2, d_at3, d_at4, d_at5, d_at6, d_at7, d_set, d_app, d_cat, d_take, d_drop, d_rep, d_cons, d_lt_t, d_lt_f, d_le_t, d_le_f, d_eqi_t, d_eqi_f, d_eqb_t, d_eqb_f, d_nb_t, d_nb_f, nth0, nthS, d_api, d_apr, D_cons, D_nl, D_nr, D_vr, D_set, mkL_l, mkR_r, mkI_i, d_shr2, d_shr3, d_shr16, d_shr40, d_shl2, d_shl3, d_shl16, d_shl40, d_apb, mkB_b] at hk
    unfold tm1
    repeat' (first | exact KV.nil | (refine KV.cons ?_ ?_))
    all_goals (simp only [d_vi, d_vb, d_vr, d_ci, d_cb, d_nr, d_nl, d_add, d_sub, d_mul, d_rem, d_quo, d_bit, d_mn2, d_mx2, d_w, d_nn, d_bn2, d_len, d_neg, d_cl, d_at1, d_at2, d_at3, d_at4, d_at5, d_at6, d_at7, d_set, d_app, d_cat, d_take, d_drop, d_rep, d_cons, d_lt_t, d_lt_f, d_le_t, d_le_f, d_eqi_t, d_eqi_f, d_eqb_t, d_eqb_f, d_nb_t, d_nb_f, nth0, nthS, d_api, d_apr, D_cons, D_nl, D_nr, D_vr, D_set, mkL_l, mkR_r, mkI_i, d_shr2, d_shr3, d_shr16, d_shr40, d_shl2, d_shl3, d_shl16, d_shl40, d_apb, mkB_b]; omega)
  · unfold trS
    refine TOK.leaf' (show Inv _ 0 _ from .inl ⟨rfl, 0, [], ?_, by omega, by omega, by simp, rfl⟩)
    simp only [Sb.val, List.map_cons, List.map_nil, d_vi, d_vb, d_vr, d_ci, d_cb, d_nr, d_nl, d_add, d_sub, d_mul, d_rem, d_quo, d_bit, d_mn2, d_mx2, d_w, d_nn, d_bn2, d_len, d_neg, d_cl, d_at1, d_at2, d_at3, d_at4, d_at5, d_at6, d_at7, d_set, d_app, d_cat, d_take, d_drop, d_rep, d_cons, d_lt_t, d_lt_f, d_le_t, d_le_f, d_eqi_t, d_eqi_f, d_eqb_t, d_eqb_f, d_nb_t, d_nb_f, nth0, nthS, d_api, d_apr, D_cons, D_nl, D_nr, D_vr, D_set, mkL_l, mkR_r, mkI_i, d_shr2, d_shr3, d_shr16, d_shr40, d_shl2, d_shl3, d_shl16, d_shl40, d_apb, mkB_b, hu]
end Go.Proofs.Ytpgkbdkkcladcaa.FLegal15
