/- The law TickBefore for 2 threads. A lemma file: conditions: so many threads. -/
import Derived.Test.YtckbckijpdnlaaaOwnTickBefore2S
set_option linter.unusedVariables false
set_option linter.unusedSimpArgs false
set_option maxRecDepth 100000
set_option maxHeartbeats 16000000
namespace Go.Proofs.Ytckbckijpdnlaaa.KTickBefore2
open Go Go.Lib Go.Proofs.Ytckbckijpdnlaaa.Eng Go.Proofs.Ytckbckijpdnlaaa.Sy Go.RowKit
structure Good (al fs ls : Row) : Prop where
  l1 : fs.length = al.length
  l2 : ls.length = al.length
  l3 : (al.length : Int) ≤ 120
  st : ∀ j, 0 ≤ j → j < (al.length : Int) → 0 ≤ cl al j ∧ cl al j ≤ nth 0 (al.getD j.toNat []) 1 ∧ nth 0 (al.getD j.toNat []) 1 < 16777215
  bf : ∀ j k, 0 ≤ j → j < (al.length : Int) → 0 ≤ k → k < (al.length : Int) → cl ls j < cl fs k → nth 0 (al.getD j.toNat []) 1 < cl al k
theorem good {src dl now : Int} {l : Row} (hs : 0 ≤ src ∧ src ≤ 4) (hd : 0 ≤ dl ∧ dl ≤ 100) (hn : 0 ≤ now ∧ now ≤ 65535) (hl : l.length ≤ 120) : Good (runF 2 src dl now l).all (runF 2 src dl now l).fst (runF 2 src dl now l).lst := by
  obtain ⟨h, e⟩ := run_law (T := 2) (by decide) hs hd hn hl
  exact ⟨h.l1, h.l2, by have := h.l3; omega, fun j h1 h2 => (h.st j h1 h2).1, h.bf⟩
def W0 (d i : Int) (l al fs ls : Row) : Val := ⟨[d, i], [], [l, al, fs, ls], [], Φ⟩
def W1 (i d d2 k : Int) (l al fs ls : Row) : Val := ⟨[i, d, d2, k], [], [l, al, fs, ls], [], Φ⟩
def Inv0 (v : Val) : Prop := ∃ d i l al fs ls, v = W0 d i l al fs ls ∧ Good al fs ls ∧ d = (al.length : Int) ∧ 0 ≤ i ∧ i ≤ (al.length : Int)
def Inv1 (v : Val) : Prop := ∃ i d d2 k l al fs ls, v = W1 i d d2 k l al fs ls ∧ Good al fs ls ∧ d = (al.length : Int) ∧ d2 = (al.length : Int) ∧ 0 ≤ i ∧ i < (al.length : Int) ∧ 0 ≤ k ∧ k ≤ (al.length : Int)
def Inv (k : Nat) (v : Val) : Prop := (k = 0 ∧ Inv0 v) ∨ (k = 1 ∧ Inv1 v)
theorem inv0 {v : Val} (h : Inv 0 v) : Inv0 v := by rcases h with ⟨_, h⟩ | ⟨h, _⟩ <;> first | exact h | cases h
theorem inv1 {v : Val} (h : Inv 1 v) : Inv1 v := by rcases h with ⟨h, _⟩ | ⟨_, h⟩ <;> first | exact h | cases h
def μ (q : Nat × Val) : Nat × Nat := match q.1 with
  | 0 => ((300 - 2 * nth 0 q.2.i 1).toNat, 0)
  | _ => ((299 - 2 * nth 0 q.2.i 0).toNat, (200 - nth 0 q.2.i 3).toNat)
theorem hΦ : ∀ k v, Inv k v → v.f = Φ := by
  rintro k v (⟨_, d, i, l, al, fs, ls, rfl, _⟩ | ⟨_, i, d, d2, k, l, al, fs, ls, rfl, _⟩) <;> rfl
theorem k0 : ∀ v, Inv 0 v → KV v tm0.kn := by
  intro v hv
  obtain ⟨d, i, l, al, fs, ls, rfl, hG, h1, h2, h3⟩ := inv0 hv
  have := hG.l3
  unfold tm0 KV W0
  simp only [List.forall_mem_cons, d_vi, d_vb, d_vr, d_ci, d_cb, d_nr, d_nl, d_add, d_sub, d_mul, d_rem, d_quo, d_bit, d_mn2, d_mx2, d_w, d_nn, d_bn2, d_len, d_neg, d_cl, d_at1, d_at2, d_at3, d_at4, d_at5, d_at6, d_at7, d_set, d_app, d_cat, d_take, d_drop, d_rep, d_cons, d_lt_t, d_lt_f, d_le_t, d_le_f, d_eqi_t, d_eqi_f, d_eqb_t, d_eqb_f, d_nb_t, d_nb_f, nth0, nthS, d_api, d_apr, D_cons, D_nl, D_nr, D_vr, D_set, mkL_l, mkR_r, mkI_i, d_shr2, d_shr3, d_shr16, d_shr40, d_shl2, d_shl3, d_shl16, d_shl40, d_apb, mkB_b]
  simp only [List.not_mem_nil, false_imp_iff, implies_true, and_true]
  omega
theorem k1 : ∀ v, Inv 1 v → KV v tm1.kn := by
  intro v hv
  obtain ⟨i, d, d2, k, l, al, fs, ls, rfl, hG, h1, h2, h3, h4, h5, h6⟩ := inv1 hv
  have := hG.l3
  unfold tm1 KV W1
  simp only [List.forall_mem_cons, d_vi, d_vb, d_vr, d_ci, d_cb, d_nr, d_nl, d_add, d_sub, d_mul, d_rem, d_quo, d_bit, d_mn2, d_mx2, d_w, d_nn, d_bn2, d_len, d_neg, d_cl, d_at1, d_at2, d_at3, d_at4, d_at5, d_at6, d_at7, d_set, d_app, d_cat, d_take, d_drop, d_rep, d_cons, d_lt_t, d_lt_f, d_le_t, d_le_f, d_eqi_t, d_eqi_f, d_eqb_t, d_eqb_f, d_nb_t, d_nb_f, nth0, nthS, d_api, d_apr, D_cons, D_nl, D_nr, D_vr, D_set, mkL_l, mkR_r, mkI_i, d_shr2, d_shr3, d_shr16, d_shr40, d_shl2, d_shl3, d_shl16, d_shl40, d_apb, mkB_b]
  simp only [List.not_mem_nil, false_imp_iff, implies_true, and_true]
  omega
theorem s0 : ∀ v, Inv 0 v → TOK v (fun _ g => LgOK v (fun q u => Inv q u ∧ lt2 μ (q, u) (0, v)) g) tr0 := by
  intro v hv
  obtain ⟨d, i, l, al, fs, ls, rfl, hG, h1, h2, h3⟩ := inv0 hv
  have e3 := hG.l3
  unfold tr0
  refine TOK.br' (fun hi => ?_) (fun hi => ?_) <;> simp only [W0, d_vi, d_vb, d_vr, d_ci, d_cb, d_nr, d_nl, d_add, d_sub, d_mul, d_rem, d_quo, d_bit, d_mn2, d_mx2, d_w, d_nn, d_bn2, d_len, d_neg, d_cl, d_at1, d_at2, d_at3, d_at4, d_at5, d_at6, d_at7, d_set, d_app, d_cat, d_take, d_drop, d_rep, d_cons, d_lt_t, d_lt_f, d_le_t, d_le_f, d_eqi_t, d_eqi_f, d_eqb_t, d_eqb_f, d_nb_t, d_nb_f, nth0, nthS, d_api, d_apr, D_cons, D_nl, D_nr, D_vr, D_set, mkL_l, mkR_r, mkI_i, d_shr2, d_shr3, d_shr16, d_shr40, d_shl2, d_shl3, d_shl16, d_shl40, d_apb, mkB_b] at hi
  · have st := hG.st i h2 (by omega)
    repeat' (first
      | (refine TOK.br' (fun h => ?_) (fun h => ?_) <;> simp only [W0, d_vi, d_vb, d_vr, d_ci, d_cb, d_nr, d_nl, d_add, d_sub, d_mul, d_rem, d_quo, d_bit, d_mn2, d_mx2, d_w, d_nn, d_bn2, d_len, d_neg, d_cl, d_at1, d_at2, d_at3, d_at4, d_at5, d_at6, d_at7, d_set, d_app, d_cat, d_take, d_drop, d_rep, d_cons, d_lt_t, d_lt_f, d_le_t, d_le_f, d_eqi_t, d_eqi_f, d_eqb_t, d_eqb_f, d_nb_t, d_nb_f, nth0, nthS, d_api, d_apr, D_cons, D_nl, D_nr, D_vr, D_set, mkL_l, mkR_r, mkI_i, d_shr2, d_shr3, d_shr16, d_shr40, d_shl2, d_shl3, d_shl16, d_shl40, d_apb, mkB_b] at h <;> (try (exfalso; omega)))
      | (with_reducible refine TOK.leaf' ?_))
    all_goals
      refine And.intro (?_ : Inv 1 _) (?_ : lt2 μ (1, _) _) <;> simp only [W0, Sb.val, List.map_cons, List.map_nil, d_vi, d_vb, d_vr, d_ci, d_cb, d_nr, d_nl, d_add, d_sub, d_mul, d_rem, d_quo, d_bit, d_mn2, d_mx2, d_w, d_nn, d_bn2, d_len, d_neg, d_cl, d_at1, d_at2, d_at3, d_at4, d_at5, d_at6, d_at7, d_set, d_app, d_cat, d_take, d_drop, d_rep, d_cons, d_lt_t, d_lt_f, d_le_t, d_le_f, d_eqi_t, d_eqi_f, d_eqb_t, d_eqb_f, d_nb_t, d_nb_f, nth0, nthS, d_api, d_apr, D_cons, D_nl, D_nr, D_vr, D_set, mkL_l, mkR_r, mkI_i, d_shr2, d_shr3, d_shr16, d_shr40, d_shl2, d_shl3, d_shl16, d_shl40, d_apb, mkB_b]
      · exact .inr ⟨rfl, i, d, _, 0, l, al, fs, ls, rfl, hG, h1, rfl, h2, by omega, by decide, by omega⟩
      · exact .inl (by show (299 - 2 * i).toNat < (300 - 2 * i).toNat; omega)
  · refine TOK.leaf' ?_
    exact rfl
theorem s1 : ∀ v, Inv 1 v → TOK v (fun _ g => LgOK v (fun q u => Inv q u ∧ lt2 μ (q, u) (1, v)) g) tr1 := by
  intro v hv
  obtain ⟨i, d, d2, k, l, al, fs, ls, rfl, hG, h1, h2, h3, h4, h5, h6⟩ := inv1 hv
  have e1 := hG.l1; have e2 := hG.l2; have e3 := hG.l3
  unfold tr1
  refine TOK.br' (fun hi => ?_) (fun hi => ?_) <;> simp only [W1, d_vi, d_vb, d_vr, d_ci, d_cb, d_nr, d_nl, d_add, d_sub, d_mul, d_rem, d_quo, d_bit, d_mn2, d_mx2, d_w, d_nn, d_bn2, d_len, d_neg, d_cl, d_at1, d_at2, d_at3, d_at4, d_at5, d_at6, d_at7, d_set, d_app, d_cat, d_take, d_drop, d_rep, d_cons, d_lt_t, d_lt_f, d_le_t, d_le_f, d_eqi_t, d_eqi_f, d_eqb_t, d_eqb_f, d_nb_t, d_nb_f, nth0, nthS, d_api, d_apr, D_cons, D_nl, D_nr, D_vr, D_set, mkL_l, mkR_r, mkI_i, d_shr2, d_shr3, d_shr16, d_shr40, d_shl2, d_shl3, d_shl16, d_shl40, d_apb, mkB_b] at hi
  · have bf := hG.bf i k h3 h4 h5 (by omega)
    repeat' (first
      | (refine TOK.br' (fun h => ?_) (fun h => ?_) <;> simp only [W1, d_vi, d_vb, d_vr, d_ci, d_cb, d_nr, d_nl, d_add, d_sub, d_mul, d_rem, d_quo, d_bit, d_mn2, d_mx2, d_w, d_nn, d_bn2, d_len, d_neg, d_cl, d_at1, d_at2, d_at3, d_at4, d_at5, d_at6, d_at7, d_set, d_app, d_cat, d_take, d_drop, d_rep, d_cons, d_lt_t, d_lt_f, d_le_t, d_le_f, d_eqi_t, d_eqi_f, d_eqb_t, d_eqb_f, d_nb_t, d_nb_f, nth0, nthS, d_api, d_apr, D_cons, D_nl, D_nr, D_vr, D_set, mkL_l, mkR_r, mkI_i, d_shr2, d_shr3, d_shr16, d_shr40, d_shl2, d_shl3, d_shl16, d_shl40, d_apb, mkB_b] at h <;> (try (exfalso; omega)))
      | (with_reducible refine TOK.leaf' ?_))
    all_goals
      refine And.intro (?_ : Inv 1 _) (?_ : lt2 μ (1, _) _) <;> simp (disch := omega) only [W1, Sb.val, List.map_cons, List.map_nil, d_vi, d_vb, d_vr, d_ci, d_cb, d_nr, d_nl, d_add, d_sub, d_mul, d_rem, d_quo, d_bit, d_mn2, d_mx2, d_w, d_nn, d_bn2, d_len, d_neg, d_cl, d_at1, d_at2, d_at3, d_at4, d_at5, d_at6, d_at7, d_set, d_app, d_cat, d_take, d_drop, d_rep, d_cons, d_lt_t, d_lt_f, d_le_t, d_le_f, d_eqi_t, d_eqi_f, d_eqb_t, d_eqb_f, d_nb_t, d_nb_f, nth0, nthS, d_api, d_apr, D_cons, D_nl, D_nr, D_vr, D_set, mkL_l, mkR_r, mkI_i, d_shr2, d_shr3, d_shr16, d_shr40, d_shl2, d_shl3, d_shl16, d_shl40, d_apb, mkB_b, w64]
      · exact .inr ⟨rfl, i, d, d2, k + 1, l, al, fs, ls, rfl, hG, h1, h2, h3, h4, by omega, by omega⟩
      · exact .inr ⟨rfl, by show (200 - (k + 1)).toNat < (200 - k).toNat; omega⟩
  · refine TOK.leaf' ?_
    refine And.intro (?_ : Inv 0 _) (?_ : lt2 μ (0, _) _) <;> simp (disch := omega) only [W1, Sb.val, List.map_cons, List.map_nil, d_vi, d_vb, d_vr, d_ci, d_cb, d_nr, d_nl, d_add, d_sub, d_mul, d_rem, d_quo, d_bit, d_mn2, d_mx2, d_w, d_nn, d_bn2, d_len, d_neg, d_cl, d_at1, d_at2, d_at3, d_at4, d_at5, d_at6, d_at7, d_set, d_app, d_cat, d_take, d_drop, d_rep, d_cons, d_lt_t, d_lt_f, d_le_t, d_le_f, d_eqi_t, d_eqi_f, d_eqb_t, d_eqb_f, d_nb_t, d_nb_f, nth0, nthS, d_api, d_apr, D_cons, D_nl, D_nr, D_vr, D_set, mkL_l, mkR_r, mkI_i, d_shr2, d_shr3, d_shr16, d_shr40, d_shl2, d_shl3, d_shl16, d_shl40, d_apb, mkB_b, w64]
    · exact .inl ⟨rfl, d, i + 1, l, al, fs, ls, rfl, hG, h1, by omega, by omega⟩
    · exact .inl (by show (300 - 2 * (i + 1)).toNat < (299 - 2 * i).toNat; omega)
theorem sS (a0 a1 a2 a4 : Int) (l : Row) : TOK (⟨[a0, a1, a2, a4], [], [l], [], Φ⟩ : Val) (fun _ g => LgOK (⟨[a0, a1, a2, a4], [], [l], [], Φ⟩ : Val) Inv g) trS := by
  unfold trS
  have hU := u64_in a1
  refine TOK.br' (fun h => ?_) (fun h => ?_) <;> simp only [d_vi, d_vb, d_vr, d_ci, d_cb, d_nr, d_nl, d_add, d_sub, d_mul, d_rem, d_quo, d_bit, d_mn2, d_mx2, d_w, d_nn, d_bn2, d_len, d_neg, d_cl, d_at1, d_at2, d_at3, d_at4, d_at5, d_at6, d_at7, d_set, d_app, d_cat, d_take, d_drop, d_rep, d_cons, d_lt_t, d_lt_f, d_le_t, d_le_f, d_eqi_t, d_eqi_f, d_eqb_t, d_eqb_f, d_nb_t, d_nb_f, nth0, nthS, d_api, d_apr, D_cons, D_nl, D_nr, D_vr, D_set, mkL_l, mkR_r, mkI_i, d_shr2, d_shr3, d_shr16, d_shr40, d_shl2, d_shl3, d_shl16, d_shl40, d_apb, mkB_b] at h <;> refine TOK.leaf' ?_
  · exact rfl
  · refine (show Inv 0 _ from ?_)
    simp (disch := omega) only [Sb.val, List.map_cons, List.map_nil, d_vi, d_vb, d_vr, d_ci, d_cb, d_nr, d_nl, d_add, d_sub, d_mul, d_rem, d_quo, d_bit, d_mn2, d_mx2, d_w, d_nn, d_bn2, d_len, d_neg, d_cl, d_at1, d_at2, d_at3, d_at4, d_at5, d_at6, d_at7, d_set, d_app, d_cat, d_take, d_drop, d_rep, d_cons, d_lt_t, d_lt_f, d_le_t, d_le_f, d_eqi_t, d_eqi_f, d_eqb_t, d_eqb_f, d_nb_t, d_nb_f, nth0, nthS, d_api, d_apr, D_cons, D_nl, D_nr, D_vr, D_set, mkL_l, mkR_r, mkI_i, d_shr2, d_shr3, d_shr16, d_shr40, d_shl2, d_shl3, d_shl16, d_shl40, d_apb, mkB_b, Φ100, Φ101, Φ102, Φ103, Φ104, Φ105, Φ106, Φ107, Φ108, Φ200, Φ201, Φ202, Φ203, Φ204, Φ205, Φ206, Φ207, Φ208, Φ209, Φ0, Φ1, Φ10, Φ300, Φ301, Φ302, Φ303, Φ304, Φ305, Φ306, Φ307, Φ308, Φ309, Φ310, Φ311, Φ312, Φ313, Φ314, Φ315, Φ316, Φ317, Φ318, Φ319, Φ20, Φ11, Φ30, Φ31, Φ32, Φ400, Φ401, Φ402, Φ403, Φ404, Φ405, Φ406, Φ407, Φ500, Φ501, Φ502, and3, and65535, tmod_pos]
    have hG := good (src := IntKind.u64.wrap a1 % 5) (dl := a2 % 4) (now := a4 % 65536) (l := l) (by omega) (by omega) (by omega) (by omega)
    exact .inl ⟨rfl, _, 0, l, _, _, _, rfl, hG, rfl, by decide, by omega⟩
theorem hk0 (a0 a1 a2 a4 : Int) (l : Row) (hh : a0 % 4 = 1) : KV (⟨[a0, a1, a2, a4], [], [l], [], Φ⟩ : Val) kn0 := by
  unfold KV kn0
  simp only [List.forall_mem_cons, d_vi, d_vb, d_vr, d_ci, d_cb, d_nr, d_nl, d_add, d_sub, d_mul, d_rem, d_quo, d_bit, d_mn, d_mx, d_w, d_nn, d_bn, d_len, d_neg, d_at0, d_at1, d_at2, d_at3, d_at4, d_at5, d_at6, d_at7, d_set, d_app, d_cat, d_take, d_drop, d_rep, d_cons, d_lt_t, d_lt_f, d_le_t, d_le_f, d_eqi_t, d_eqi_f, d_eqb_t, d_eqb_f, d_nb_t, d_nb_f, nth0, nthS, d_api, d_apr, D_cons, D_nl, D_nr, D_vr, D_set, mkL_l, mkR_r, mkI_i, d_apb, mkB_b, and3, hh]
  simp
theorem all (a0 a1 a2 a4 : Int) (l : Row) (hh : a0 % 4 = 1) : AW P0 fn.ntmps (dH (⟨[a0, a1, a2, a4], [], [l], [], Φ⟩ : Val) h0) bod (dT (⟨[a0, a1, a2, a4], [], [l], [], Φ⟩ : Val) (sargs0 0 args)) (dH (⟨[a0, a1, a2, a4], [], [l], [], Φ⟩ : Val) h0) (Eng.Ends I0 fn fun u _ => u = .bool true) :=
  aw ⟨[a0, a1, a2, a4], [], [l], [], Φ⟩ Inv μ rfl hΦ (hk0 a0 a1 a2 a4 l hh) k0 k1 (sS a0 a1 a2 a4 l) s0 s1
end Go.Proofs.Ytckbckijpdnlaaa.KTickBefore2
