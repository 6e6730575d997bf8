/- The law MemReads of mem: whatever events: whether they can have come of noughts, one by one: it answers true for all lists. No condition. -/
import Derived.Test.YtckbckijpdnlaaaOwnMemReadsS
set_option linter.unusedVariables false
set_option linter.unusedSimpArgs false
set_option maxRecDepth 100000
set_option maxHeartbeats 16000000
namespace Go.Proofs.Ytckbckijpdnlaaa.KMemReads
open Go Go.Lib Go.Proofs.Ytckbckijpdnlaaa.Eng Go.Proofs.Ytckbckijpdnlaaa.Sy Go.RowKit Go.Proofs.Ytckbckijpdnlaaa.FBack

def W (n i : Int) (l c : Row) : Val := ⟨[n, i], [true], [l, c], [], Φ⟩
def Good34 (l : Row) : Prop := ∀ j : Nat, (0 ≤ nth 0 (l.getD j []) 3 ∧ nth 0 (l.getD j []) 3 < 18446744073709551616) ∧ (0 ≤ nth 0 (l.getD j []) 4 ∧ nth 0 (l.getD j []) 4 < 18446744073709551616)
theorem good34 {w : World} {A : Option Addr} {n c : Nat} {l : Row} (h : ArgRow w [.i .i64, .i .i64, .i .i64, .i .u64, .i .u64, .b] A n c l) : Good34 l := fun j => by
  rw [List.getD_eq_getElem?_getD]
  cases hj : l[j]? with
  | none => exact ⟨⟨by decide, by decide⟩, ⟨by decide, by decide⟩⟩
  | some x =>
    have hx := h.good x (List.mem_of_getElem? hj)
    match x, hx with
    | [a, b, c, d, e, f], hx =>
      have h3 := lit_u64 hx.2.2.2.1
      have h4 := lit_u64 hx.2.2.2.2.1
      show (0 ≤ d ∧ d < _) ∧ (0 ≤ e ∧ e < _)
      omega
theorem ev_good {c : Row} {e : List Int} (g3 : 0 ≤ nth 0 e 3 ∧ nth 0 e 3 < 18446744073709551616) (g4 : 0 ≤ nth 0 e 4 ∧ nth 0 e 4 < 18446744073709551616) (h1 : nth 0 e 3 = cl c (nth 0 e 2)) (h2 : nth 0 e 1 = 2 ∨ ¬ nth 0 e 5 = 0) (h3 : (nth 0 e 1 = 0 ∨ nth 0 e 5 = 0) → nth 0 e 4 = cl c (nth 0 e 2)) : evAgree c e = true ∧ evNew c e = nth 0 e 4 := by
  have hn : nbz (nth 0 e 5) = !decide (nth 0 e 5 = 0) := by unfold nbz; by_cases z : nth 0 e 5 = 0 <;> simp [z]
  have key : evNew c e = nth 0 e 4 ∧ evOk c e = nbz (nth 0 e 5) := by
    unfold evNew evOk
    rw [hn, ← h1]
    by_cases q3 : nth 0 e 1 = 3
    · have z : ¬ nth 0 e 5 = 0 := by omega
      have n2 : ¬ nth 0 e 1 = 2 := by omega
      rw [if_pos q3, if_neg n2]
      refine ⟨?_, by simp [z]⟩
      rw [wu64', wu64']; omega
    · rw [if_neg q3]
      by_cases q2 : nth 0 e 1 = 2
      · rw [if_pos q2, if_pos q2]
        by_cases z : nth 0 e 5 = 0
        · have := h3 (.inr z)
          have ne : ¬ nth 0 e 3 = IntKind.u64.wrap (nth 0 e 3 + 1) := by rw [wu64']; omega
          simp only [z, decide_true, Bool.not_true, decide_eq_false ne, Bool.false_eq_true, if_false]
          exact ⟨by omega, trivial⟩
        · simp [z]
      · have z : ¬ nth 0 e 5 = 0 := by omega
        rw [if_neg q2, if_neg q2]
        by_cases q0 : nth 0 e 1 = 0
        · have := h3 (.inl q0)
          rw [if_pos q0]
          exact ⟨by omega, by simp [z]⟩
        · rw [if_neg q0]
          exact ⟨rfl, by simp [z]⟩
  exact ⟨by unfold evAgree; exact decide_eq_true ⟨h1.symm, key.1, key.2⟩, key.1⟩
theorem ev_bad {c : Row} {e : List Int} (g3 : 0 ≤ nth 0 e 3 ∧ nth 0 e 3 < 18446744073709551616) (h : ¬ nth 0 e 3 = cl c (nth 0 e 2) ∨ (¬ nth 0 e 1 = 2 ∧ nth 0 e 5 = 0) ∨ ((nth 0 e 1 = 0 ∨ nth 0 e 5 = 0) ∧ ¬ nth 0 e 4 = cl c (nth 0 e 2))) : evAgree c e = false := by
  have hn : nbz (nth 0 e 5) = !decide (nth 0 e 5 = 0) := by unfold nbz; by_cases z : nth 0 e 5 = 0 <;> simp [z]
  unfold evAgree
  refine decide_eq_false ?_
  rintro ⟨k1, k2, k3⟩
  rw [hn] at k3
  rcases h with h | ⟨h1, h2⟩ | ⟨h1, h2⟩
  · exact h k1.symm
  · unfold evOk at k3
    rw [if_neg h1, h2] at k3
    simp at k3
  · by_cases z : nth 0 e 5 = 0
    · unfold evOk at k3
      unfold evNew evOk at k2
      by_cases q2 : nth 0 e 1 = 2
      · rw [if_pos q2, hn] at k3
        have q3 : ¬ nth 0 e 1 = 3 := by omega
        rw [if_neg q3, if_pos q2, if_pos q2, hn] at k2
        simp only [z, decide_true, Bool.not_true, Bool.false_eq_true, if_false] at k2 k3
        simp only [k3, Bool.false_eq_true, if_false] at k2
        exact h2 k2.symm
      · rw [if_neg q2, z] at k3
        simp at k3
    · have q0 : nth 0 e 1 = 0 := by omega
      have q3 : ¬ nth 0 e 1 = 3 := by omega
      have q2 : ¬ nth 0 e 1 = 2 := by omega
      unfold evNew at k2
      rw [if_neg q3, if_neg q2, if_pos q0] at k2
      exact h2 k2.symm
def Inv0 (v : Val) : Prop := ∃ n i l c g, v = W n i l c ∧ (0 ≤ n ∧ n ≤ 15) ∧ (c.length : Int) = n ∧ 0 ≤ i ∧ i ≤ (l.length : Int) ∧ (l.length : Int) ≤ 60 ∧ Good34 l ∧ St n l i = ⟨c, g, true⟩ ∧ (g.length : Int) = i ∧ ∀ j : Int, 0 ≤ j → j < i → SameAt g l j
def Inv (k : Nat) (v : Val) : Prop := k = 0 ∧ Inv0 v
def μ (q : Nat × Val) : Nat × Nat := (0, (100 - nth 0 q.2.i 1).toNat)
theorem hΦ : ∀ k v, Inv k v → v.f = Φ := by
  rintro k v ⟨_, n, i, l, c, g, rfl, _⟩; rfl
theorem k0 : ∀ v, Inv 0 v → KV v tm0.kn := by
  rintro v ⟨_, n, i, l, c, g, rfl, h1, h2, h3, h4, h5, h6, h7, h8, h9⟩
  clear h6 h7 h9
  unfold tm0 KV W
  simp only [List.forall_mem_cons, d_vi, d_vb, d_vr, d_ci, d_cb, d_nr, d_nl, d_add, d_sub, d_mul, d_rem, d_quo, d_bit, d_mn, d_mx, d_w, d_nn, d_bn, d_len, d_neg, d_at0, d_at1, d_at2, d_at3, d_at4, d_at5, d_at6, d_at7, d_set, d_app, d_cat, d_take, d_drop, d_rep, d_cons, d_lt_t, d_lt_f, d_le_t, d_le_f, d_eqi_t, d_eqi_f, d_eqb_t, d_eqb_f, d_nb_t, d_nb_f, nth0, nthS, d_api, d_apr, D_cons, D_nl, D_nr, D_vr, D_set, mkL_l, mkR_r, mkI_i, d_apb, mkB_b]
  simp only [List.not_mem_nil, false_imp_iff, implies_true, and_true]
  omega
theorem sameAt_app {g l : Row} {r : List Int} {i : Int} (hi : (g.length : Int) = i) (h : ∀ j : Int, 0 ≤ j → j < i → SameAt g l j) (hr : SameAt (g ++ [r]) l i) : ∀ j : Int, 0 ≤ j → j < i + 1 → SameAt (g ++ [r]) l j := by
  intro j h0 h1
  by_cases e : j = i
  · rw [e]; exact hr
  · have e2 : (g ++ [r]).getD j.toNat [] = g.getD j.toNat [] := by
      rw [List.getD_eq_getElem?_getD, List.getD_eq_getElem?_getD, List.getElem?_append_left (by omega)]
    have := h j h0 (by omega)
    unfold SameAt cl at this ⊢
    rw [e2]; exact this
theorem s0 : ∀ v, Inv 0 v → TOK v (fun _ g => LgOK v (fun q u => Inv q u ∧ lt2 μ (q, u) (0, v)) g) tr0 := by
  rintro v ⟨_, n, i, l, c, g, rfl, h1, h2, h3, h4, h5, h6, h7, h8, h9⟩
  obtain ⟨g3, g4⟩ := h6 i.toNat
  unfold tr0
  refine TOK.br' (fun hi => ?_) (fun hi => ?_) <;> simp only [W, d_vi, d_vb, d_vr, d_ci, d_cb, d_nr, d_nl, d_add, d_sub, d_mul, d_rem, d_quo, d_bit, d_mn2, d_mx2, d_w, d_nn, d_bn2, d_len, d_neg, d_cl, d_at1, d_at2, d_at3, d_at4, d_at5, d_at6, d_at7, d_set, d_app, d_cat, d_take, d_drop, d_rep, d_cons, d_lt_t, d_lt_f, d_le_t, d_le_f, d_eqi_t, d_eqi_f, d_eqb_t, d_eqb_f, d_nb_t, d_nb_f, nth0, nthS, d_api, d_apr, D_cons, D_nl, D_nr, D_vr, D_set, mkL_l, mkR_r, mkI_i, d_shr2, d_shr3, d_shr16, d_shr40, d_shl2, d_shl3, d_shl16, d_shl40, d_apb, mkB_b] at hi
  · have stop : (evBad c (l.getD i.toNat []) ∨ evAgree c (l.getD i.toNat []) = false) → (backF n l).ok = false := fun z => by
      by_cases hb : evBad c (l.getD i.toNat [])
      · have e : (bStep ⟨c, g, true⟩ (l.getD i.toNat [])).ok = false := by rw [bad_step hb]
        rw [back_stop h3 hi h7 e]; exact e
      · have e : (bStep ⟨c, g, true⟩ (l.getD i.toNat [])).ok = false := by rw [good_step hb]; exact z.resolve_left hb
        rw [back_stop h3 hi h7 e]; exact e
    have next : ¬ evBad c (l.getD i.toNat []) → evAgree c (l.getD i.toNat []) = true → evNew c (l.getD i.toNat []) = nth 0 (l.getD i.toNat []) 4 →
        Inv 0 (W n (i + 1) l (c.set (nth 0 (l.getD i.toNat []) 2).toNat [nth 0 (l.getD i.toNat []) 4])) ∧ lt2 μ (0, W n (i + 1) l (c.set (nth 0 (l.getD i.toNat []) 2).toNat [nth 0 (l.getD i.toNat []) 4])) (0, W n i l c) := fun hb ha hn => by
      refine ⟨⟨rfl, n, i + 1, l, _, g ++ [evRow c (l.getD i.toNat [])], rfl, h1, by rw [setLen]; exact h2, by omega, by omega, h5, h6, ?_, by rw [List.length_append, List.length_singleton]; omega, sameAt_app h8 h9 ?_⟩, .inr ⟨rfl, by show (100 - (i + 1)).toNat < (100 - i).toNat; omega⟩⟩
      · rw [St_succ h3 hi, h7, good_step hb, ha, hn]
      · have e2 : (g ++ [evRow c (l.getD i.toNat [])]).getD i.toNat [] = evRow c (l.getD i.toNat []) := by
          have e3 : i.toNat = g.length := by omega
          rw [List.getD_eq_getElem?_getD, e3, List.getElem?_append_right (Nat.le_refl _)]
          simp
        unfold evAgree at ha
        have ha := of_decide_eq_true ha
        unfold SameAt cl
        rw [e2]
        generalize l.getD i.toNat [] = e at *
        exact ⟨rfl, rfl, rfl, ha.1, ha.2.1, by show nbz (b2i (evOk c e)) = _; rw [b2i_dec]; exact ha.2.2⟩
    repeat' (first
      | (refine TOK.br' (fun h => ?_) (fun h => ?_) <;> (try simp (disch := omega) only [W, d_vi, d_vb, d_vr, d_ci, d_cb, d_nr, d_nl, d_add, d_sub, d_mul, d_rem, d_quo, d_bit, d_mn2, d_mx2, d_w, d_nn, d_bn2, d_len, d_neg, d_cl, d_at1, d_at2, d_at3, d_at4, d_at5, d_at6, d_at7, d_set, d_app, d_cat, d_take, d_drop, d_rep, d_cons, d_lt_t, d_lt_f, d_le_t, d_le_f, d_eqi_t, d_eqi_f, d_eqb_t, d_eqb_f, d_nb_t, d_nb_f, nth0, nthS, d_api, d_apr, D_cons, D_nl, D_nr, D_vr, D_set, mkL_l, mkR_r, mkI_i, d_shr2, d_shr3, d_shr16, d_shr40, d_shl2, d_shl3, d_shl16, d_shl40, d_apb, mkB_b, Φ100, Φ101, Φ102, Φ103, Φ104, Φ105, Φ106, Φ107, Φ108, Φ200, Φ201, Φ202, Φ203, Φ204, Φ205, Φ206, Φ207, Φ208, Φ209, Φ0, Φ1, Φ10, Φ300, Φ301, Φ302, Φ303, Φ304, Φ305, Φ306, Φ307, Φ308, Φ309, Φ310, Φ311, Φ312, Φ313, Φ314, Φ315, Φ316, Φ317, Φ318, Φ319, Φ20, Φ11, Φ30, Φ31, Φ32] at h) <;> (try (exfalso; omega)))
      | (with_reducible refine TOK.leaf' ?_))
    all_goals first
      | (refine And.intro (?_ : Inv 0 _) (?_ : lt2 μ (0, _) _) <;> simp only [Sb.val, List.map_cons, List.map_nil, W, d_vi, d_vb, d_vr, d_ci, d_cb, d_nr, d_nl, d_add, d_sub, d_mul, d_rem, d_quo, d_bit, d_mn2, d_mx2, d_w, d_nn, d_bn2, d_len, d_neg, d_cl, d_at1, d_at2, d_at3, d_at4, d_at5, d_at6, d_at7, d_set, d_app, d_cat, d_take, d_drop, d_rep, d_cons, d_lt_t, d_lt_f, d_le_t, d_le_f, d_eqi_t, d_eqi_f, d_eqb_t, d_eqb_f, d_nb_t, d_nb_f, nth0, nthS, d_api, d_apr, D_cons, D_nl, D_nr, D_vr, D_set, mkL_l, mkR_r, mkI_i, d_shr2, d_shr3, d_shr16, d_shr40, d_shl2, d_shl3, d_shl16, d_shl40, d_apb, mkB_b]
         · exact (next (by unfold evBad; omega) (ev_good g3 g4 (by omega) (by omega) (by omega)).1 (ev_good g3 g4 (by omega) (by omega) (by omega)).2).1
         · exact (next (by unfold evBad; omega) (ev_good g3 g4 (by omega) (by omega) (by omega)).1 (ev_good g3 g4 (by omega) (by omega) (by omega)).2).2)
      | exact rfl
      | (exfalso
         have hf := stop (by first | exact .inl (by unfold evBad; omega) | exact .inr (ev_bad g3 (by omega)))
         first
           | (have z : (backF n l).ok = true := (by assumption); rw [hf] at z; cases z)
           | (have z : ¬ (backF n l).ok = false := (by assumption); exact z hf))
  · have e : i = (l.length : Int) := by omega
    subst e
    have hB := back_all h7
    have hs : sameB g l = true := sameB_t.2 ⟨h8, fun j a b => h9 j a (by omega)⟩
    refine TOK.br' (fun h => ?_) (fun h => ?_) <;> (try simp only [W, d_vi, d_vb, d_vr, d_ci, d_cb, d_nr, d_nl, d_add, d_sub, d_mul, d_rem, d_quo, d_bit, d_mn2, d_mx2, d_w, d_nn, d_bn2, d_len, d_neg, d_cl, d_at1, d_at2, d_at3, d_at4, d_at5, d_at6, d_at7, d_set, d_app, d_cat, d_take, d_drop, d_rep, d_cons, d_lt_t, d_lt_n, d_le_t, d_le_n, d_eqi_t, d_eqi_f, d_eqb_t, d_eqb_f, d_nb_t, d_nb_f, nth0, nthS, d_api, d_apr, D_cons, D_nl, D_nr, D_vr, D_set, mkL_l, mkR_r, mkI_i, d_shr2, d_shr3, d_shr16, d_shr40, d_shl2, d_shl3, d_shl16, d_shl40, d_apb, mkB_b, Φ100, Φ101, Φ102, Φ103, Φ104, Φ105, Φ106, Φ107, Φ108, Φ200, Φ201, Φ202, Φ203, Φ204, Φ205, Φ206, Φ207, Φ208, Φ209, Φ0, Φ1, Φ10, Φ300, Φ301, Φ302, Φ303, Φ304, Φ305, Φ306, Φ307, Φ308, Φ309, Φ310, Φ311, Φ312, Φ313, Φ314, Φ315, Φ316, Φ317, Φ318, Φ319, Φ20, Φ11, Φ30, Φ31, Φ32] at h) <;> (rw [hB] at h) <;> (try dsimp only at h) <;> refine TOK.br' (fun k => ?_) (fun k => ?_) <;> (try simp only [W, d_vi, d_vb, d_vr, d_ci, d_cb, d_nr, d_nl, d_add, d_sub, d_mul, d_rem, d_quo, d_bit, d_mn2, d_mx2, d_w, d_nn, d_bn2, d_len, d_neg, d_cl, d_at1, d_at2, d_at3, d_at4, d_at5, d_at6, d_at7, d_set, d_app, d_cat, d_take, d_drop, d_rep, d_cons, d_lt_t, d_lt_n, d_le_t, d_le_n, d_eqi_t, d_eqi_f, d_eqb_t, d_eqb_f, d_nb_t, d_nb_f, nth0, nthS, d_api, d_apr, D_cons, D_nl, D_nr, D_vr, D_set, mkL_l, mkR_r, mkI_i, d_shr2, d_shr3, d_shr16, d_shr40, d_shl2, d_shl3, d_shl16, d_shl40, d_apb, mkB_b, Φ100, Φ101, Φ102, Φ103, Φ104, Φ105, Φ106, Φ107, Φ108, Φ200, Φ201, Φ202, Φ203, Φ204, Φ205, Φ206, Φ207, Φ208, Φ209, Φ0, Φ1, Φ10, Φ300, Φ301, Φ302, Φ303, Φ304, Φ305, Φ306, Φ307, Φ308, Φ309, Φ310, Φ311, Φ312, Φ313, Φ314, Φ315, Φ316, Φ317, Φ318, Φ319, Φ20, Φ11, Φ30, Φ31, Φ32] at k) <;> (try (exfalso; rw [hB] at k; exact k rfl)) <;> refine TOK.br' (fun m => ?_) (fun m => ?_) <;> (try exact rfl) <;> refine TOK.leaf' ?_ <;> (try exact rfl)
    · show (den _ _).b = true
      simp only [W, d_vi, d_vb, d_vr, d_ci, d_cb, d_nr, d_nl, d_add, d_sub, d_mul, d_rem, d_quo, d_bit, d_mn2, d_mx2, d_w, d_nn, d_bn2, d_len, d_neg, d_cl, d_at1, d_at2, d_at3, d_at4, d_at5, d_at6, d_at7, d_set, d_app, d_cat, d_take, d_drop, d_rep, d_cons, d_lt_t, d_lt_n, d_le_t, d_le_n, d_eqi_t, d_eqi_f, d_eqb_t, d_eqb_f, d_nb_t, d_nb_f, nth0, nthS, d_api, d_apr, D_cons, D_nl, D_nr, D_vr, D_set, mkL_l, mkR_r, mkI_i, d_shr2, d_shr3, d_shr16, d_shr40, d_shl2, d_shl3, d_shl16, d_shl40, d_apb, mkB_b, Φ100, Φ101, Φ102, Φ103, Φ104, Φ105, Φ106, Φ107, Φ108, Φ200, Φ201, Φ202, Φ203, Φ204, Φ205, Φ206, Φ207, Φ208, Φ209, Φ0, Φ1, Φ10, Φ300, Φ301, Φ302, Φ303, Φ304, Φ305, Φ306, Φ307, Φ308, Φ309, Φ310, Φ311, Φ312, Φ313, Φ314, Φ315, Φ316, Φ317, Φ318, Φ319, Φ20, Φ11, Φ30, Φ31, Φ32]
      rw [hB]; exact hs
    · show (den _ _).b = true
      simp only [W, d_vi, d_vb, d_vr, d_ci, d_cb, d_nr, d_nl, d_add, d_sub, d_mul, d_rem, d_quo, d_bit, d_mn2, d_mx2, d_w, d_nn, d_bn2, d_len, d_neg, d_cl, d_at1, d_at2, d_at3, d_at4, d_at5, d_at6, d_at7, d_set, d_app, d_cat, d_take, d_drop, d_rep, d_cons, d_lt_t, d_lt_n, d_le_t, d_le_n, d_eqi_t, d_eqi_f, d_eqb_t, d_eqb_f, d_nb_t, d_nb_f, nth0, nthS, d_api, d_apr, D_cons, D_nl, D_nr, D_vr, D_set, mkL_l, mkR_r, mkI_i, d_shr2, d_shr3, d_shr16, d_shr40, d_shl2, d_shl3, d_shl16, d_shl40, d_apb, mkB_b, Φ100, Φ101, Φ102, Φ103, Φ104, Φ105, Φ106, Φ107, Φ108, Φ200, Φ201, Φ202, Φ203, Φ204, Φ205, Φ206, Φ207, Φ208, Φ209, Φ0, Φ1, Φ10, Φ300, Φ301, Φ302, Φ303, Φ304, Φ305, Φ306, Φ307, Φ308, Φ309, Φ310, Φ311, Φ312, Φ313, Φ314, Φ315, Φ316, Φ317, Φ318, Φ319, Φ20, Φ11, Φ30, Φ31, Φ32]
      have : g = [] := List.eq_nil_of_length_eq_zero (by omega)
      rw [← this]; exact hs
theorem sS (a0 : Int) (l : Row) (hl : Good34 l) : TOK (⟨[a0], [], [l], [], Φ⟩ : Val) (fun _ g => LgOK (⟨[a0], [], [l], [], Φ⟩ : Val) Inv g) trS := by
  unfold trS
  have hb := and_in (k := .i64) a0 (m := 15) (by decide) (by decide)
  refine TOK.br' (fun h => ?_) (fun h => ?_) <;> simp only [d_vi, d_vb, d_vr, d_ci, d_cb, d_nr, d_nl, d_add, d_sub, d_mul, d_rem, d_quo, d_bit, d_mn2, d_mx2, d_w, d_nn, d_bn2, d_len, d_neg, d_cl, d_at1, d_at2, d_at3, d_at4, d_at5, d_at6, d_at7, d_set, d_app, d_cat, d_take, d_drop, d_rep, d_cons, d_lt_t, d_lt_f, d_le_t, d_le_f, d_eqi_t, d_eqi_f, d_eqb_t, d_eqb_f, d_nb_t, d_nb_f, nth0, nthS, d_api, d_apr, D_cons, D_nl, D_nr, D_vr, D_set, mkL_l, mkR_r, mkI_i, d_shr2, d_shr3, d_shr16, d_shr40, d_shl2, d_shl3, d_shl16, d_shl40, d_apb, mkB_b] at h <;> refine TOK.leaf' ?_
  · exact rfl
  · refine (show Inv 0 _ from ?_)
    simp only [Sb.val, List.map_cons, List.map_nil, d_vi, d_vb, d_vr, d_ci, d_cb, d_nr, d_nl, d_add, d_sub, d_mul, d_rem, d_quo, d_bit, d_mn2, d_mx2, d_w, d_nn, d_bn2, d_len, d_neg, d_cl, d_at1, d_at2, d_at3, d_at4, d_at5, d_at6, d_at7, d_set, d_app, d_cat, d_take, d_drop, d_rep, d_cons, d_lt_t, d_lt_f, d_le_t, d_le_f, d_eqi_t, d_eqi_f, d_eqb_t, d_eqb_f, d_nb_t, d_nb_f, nth0, nthS, d_api, d_apr, D_cons, D_nl, D_nr, D_vr, D_set, mkL_l, mkR_r, mkI_i, d_shr2, d_shr3, d_shr16, d_shr40, d_shl2, d_shl3, d_shl16, d_shl40, d_apb, mkB_b]
    exact ⟨rfl, _, 0, l, _, [], rfl, hb, by rw [List.length_replicate]; omega, by omega, by omega, by omega, hl, rfl, rfl, fun j a b => (by omega)⟩
theorem MemReads_walk (a0 : Int) (A1 : Option Addr) (n1 c1 : Nat) (l1 : List (List Int)) (w : World) (wa0 : (Lit.int .i64 a0).wf = true) (hr1 : ArgRow w [.i .i64, .i .i64, .i .i64, .i .u64, .i .u64, .b] A1 n1 c1 l1) :
    Calls Try.prog 4 #[.int .i64 a0, .slice A1 n1 c1] w fun e w' => e = .returned (.bool true) ∧ Below w.heap.size w w' :=
  law_calls (v := ⟨[a0], [], [l1], [], Φ⟩) (l := [⟨A1, n1, c1, [.i .i64, .i .i64, .i .i64, .i .u64, .i .u64, .b], l1⟩]) (args := args) (args' := [.int .i64 a0, .slice A1 n1 c1]) hI0 hfn hbod (by decide) rfl (by simpa using hr1)
    (.cons (.int _ _) (.cons (arg_slice (id := 0) (s := ⟨A1, n1, c1, [.i .i64, .i .i64, .i .i64, .i .u64, .i .u64, .b], l1⟩) (l := [⟨A1, n1, c1, [.i .i64, .i .i64, .i .i64, .i .u64, .i .u64, .b], l1⟩]) rfl rfl hr1) (.nil _)))
    (aw ⟨[a0], [], [l1], [], Φ⟩ Inv μ rfl hΦ KV.nil k0 (sS a0 l1 (good34 hr1)) s0)
end Go.Proofs.Ytckbckijpdnlaaa.KMemReads
