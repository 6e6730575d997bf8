/- The law TextFull: as many signs as there may be, and more. A lemma file. -/
import Derived.Test.YtpgkbdkkcladcaaDoorOwnTextFullS
set_option linter.unusedVariables false
set_option linter.unusedSimpArgs false
set_option maxRecDepth 100000
set_option maxHeartbeats 4000000
namespace Go.Proofs.YtpgkbdkkcladcaaDoor.KTextFull
open Go Go.Lib Go.Proofs.YtpgkbdkkcladcaaDoor.Eng Go.Proofs.YtpgkbdkkcladcaaDoor.Sy Go.Proofs.YtpgkbdkkcladcaaDoor.Tx Go.RowKit Go.WideShapes Go.ChangeShapes
def rp (o : Bs) (k : Int) : Bs := (List.replicate k.toNat o).flatten
theorem sgA : Sg [97] := ⟨by decide, by decide, by decide⟩
theorem sgE : Sg [195, 169] := ⟨by decide, by decide, by decide⟩
def one (o : Bs) : Prop := Sg o ∧ o.length ≤ 2
theorem rp_all {o : Bs} (h : Sg o) (k : Int) : ∀ x ∈ List.replicate k.toNat o, Sg x := fun x hx => by rw [(List.mem_replicate.1 hx).2]; exact h
theorem rp_sg {o : Bs} (h : Sg o) (k : Int) : sg (rp o k) = List.replicate k.toNat o := sg_flat' (rp_all h k)
theorem rp_valid {o : Bs} (h : Sg o) (k : Int) : validD (rp o k) = true := valid_flat (rp_all h k)
theorem rp_len {o : Bs} {k : Int} (h : one o) : (rp o k).length ≤ 2 * k.toNat := by
  have : (rp o k).length = k.toNat * o.length := by unfold rp; simp
  rw [this]
  have := h.2
  have := Nat.mul_le_mul_left k.toNat this
  omega
theorem rp_succ (o : Bs) {k : Int} (h : 0 ≤ k) : rp o (k + 1) = rp o k ++ o := by
  unfold rp
  rw [show (k + 1).toNat = k.toNat + 1 by omega, List.replicate_succ', List.flatten_append]
  simp
def Inv (k : Nat) (v : Val) : Prop :=
  (k = 0 ∧ ∃ n m i o s, v = ⟨[n, m, i], [], [], [o, s], Φ⟩ ∧ one (toL o) ∧ 3996 ≤ n ∧ n ≤ 4003 ∧ 0 ≤ m ∧ m ≤ 7 ∧ 0 ≤ i ∧ i ≤ n ∧ toL s = rp (toL o) i) ∨
  (k = 1 ∧ ∃ n m i o s t, v = ⟨[n, m, i], [], [], [o, s, t], Φ⟩ ∧ one (toL o) ∧ 3996 ≤ n ∧ n ≤ 4003 ∧ 0 ≤ m ∧ m ≤ 7 ∧ 0 ≤ i ∧ i ≤ m ∧ toL s = rp (toL o) n ∧ toL t = rp (toL o) i)
def μ (q : Nat × Val) : Nat × Nat := (1 - q.1, (5000 - nth 0 q.2.i 2).toNat)
theorem hΦ : ∀ k v, Inv k v → v.f = Φ := by
  rintro k v (⟨_, _, _, _, _, _, rfl, _⟩ | ⟨_, _, _, _, _, _, _, rfl, _⟩) <;> rfl
theorem k0 : ∀ v, Inv 0 v → KV v tm0.kn := fun v h => KV.nil
theorem k1 : ∀ v, Inv 1 v → KV v tm1.kn := fun v h => KV.nil
theorem s0 : ∀ v, Inv 0 v → TOK v (fun _ g => LgOK v (fun q u => Inv q u ∧ lt2 μ (q, u) (0, v)) g) tr0 := by
  rintro v (⟨_, n, m, i, o, s, rfl, ho, h1, h2, h3, h4, h5, h6, h7⟩ | ⟨h, _⟩) <;> try cases h
  have hl := rp_len (k := i) ho
  have ho2 := ho.2
  unfold tr0
  refine TOK.br' (fun h => ?_) (fun h => ?_) <;> simp (disch := omega) only [d_vi, d_vb, d_vr, d_ci, d_cb, d_nr, d_nl, d_add, d_sub, d_mul, d_rem, d_quo, d_bit, d_mn2, d_mx2, d_w, d_nn, d_bn2, d_len, d_neg, d_cl, d_at1, d_at2, d_at3, d_at4, d_at5, d_at6, d_at7, d_set, d_app, d_cat, d_take, d_drop, d_rep, d_cons, d_lt_t, d_lt_n, d_le_t, d_le_n, d_eqi_t, d_eqi_f, d_eqb_t, d_eqb_f, d_nb_t, d_nb_f, nth0, nthS, d_api, d_apr, D_cons, D_nl, D_nr, D_vr, D_set, mkL_l, mkR_r, mkI_i, d_shr2, d_shr3, d_shr16, d_shr40, d_shl2, d_shl3, d_shl16, d_shl40, d_apb, mkB_b, d_vs, d_cs, d_scat, d_sub3, d_slen, d_enc, d_dec, d_rune, d_rlen, d_apt, D_vs, mkS_s] at h
  · refine TOK.br' (fun g => TOK.leaf' ?_) (fun g => ?_) <;> simp (disch := omega) only [d_vi, d_vb, d_vr, d_ci, d_cb, d_nr, d_nl, d_add, d_sub, d_mul, d_rem, d_quo, d_bit, d_mn2, d_mx2, d_w, d_nn, d_bn2, d_len, d_neg, d_cl, d_at1, d_at2, d_at3, d_at4, d_at5, d_at6, d_at7, d_set, d_app, d_cat, d_take, d_drop, d_rep, d_cons, d_lt_t, d_lt_n, d_le_t, d_le_n, d_eqi_t, d_eqi_f, d_eqb_t, d_eqb_f, d_nb_t, d_nb_f, nth0, nthS, d_api, d_apr, D_cons, D_nl, D_nr, D_vr, D_set, mkL_l, mkR_r, mkI_i, d_shr2, d_shr3, d_shr16, d_shr40, d_shl2, d_shl3, d_shl16, d_shl40, d_apb, mkB_b, d_vs, d_cs, d_scat, d_sub3, d_slen, d_enc, d_dec, d_rune, d_rlen, d_apt, D_vs, mkS_s, size_L, h7] at g
    · refine And.intro (?_ : Inv 0 _) (?_ : lt2 μ (0, _) _)
      · simp (disch := omega) only [Sb.val, List.map_cons, List.map_nil, d_vi, d_vb, d_vr, d_ci, d_cb, d_nr, d_nl, d_add, d_sub, d_mul, d_rem, d_quo, d_bit, d_mn2, d_mx2, d_w, d_nn, d_bn2, d_len, d_neg, d_cl, d_at1, d_at2, d_at3, d_at4, d_at5, d_at6, d_at7, d_set, d_app, d_cat, d_take, d_drop, d_rep, d_cons, d_lt_t, d_lt_f, d_le_t, d_le_f, d_eqi_t, d_eqi_f, d_eqb_t, d_eqb_f, d_nb_t, d_nb_f, nth0, nthS, d_api, d_apr, D_cons, D_nl, D_nr, D_vr, D_set, mkL_l, mkR_r, mkI_i, d_shr2, d_shr3, d_shr16, d_shr40, d_shl2, d_shl3, d_shl16, d_shl40, d_apb, mkB_b, d_vs, d_cs, d_scat, d_sub3, d_slen, d_enc, d_dec, d_rune, d_rlen, d_apt, D_vs, mkS_s, w64]
        exact .inl ⟨rfl, n, m, i + 1, o, _, rfl, ho, h1, h2, h3, h4, by omega, by omega, by rw [toL_app, h7, rp_succ _ h5]⟩
      · refine .inr ⟨rfl, ?_⟩
        simp (disch := omega) only [μ, Sb.val, List.map_cons, List.map_nil, d_vi, d_vb, d_vr, d_ci, d_cb, d_nr, d_nl, d_add, d_sub, d_mul, d_rem, d_quo, d_bit, d_mn2, d_mx2, d_w, d_nn, d_bn2, d_len, d_neg, d_cl, d_at1, d_at2, d_at3, d_at4, d_at5, d_at6, d_at7, d_set, d_app, d_cat, d_take, d_drop, d_rep, d_cons, d_lt_t, d_lt_f, d_le_t, d_le_f, d_eqi_t, d_eqi_f, d_eqb_t, d_eqb_f, d_nb_t, d_nb_f, nth0, nthS, d_api, d_apr, D_cons, D_nl, D_nr, D_vr, D_set, mkL_l, mkR_r, mkI_i, d_shr2, d_shr3, d_shr16, d_shr40, d_shl2, d_shl3, d_shl16, d_shl40, d_apb, mkB_b, d_vs, d_cs, d_scat, d_sub3, d_slen, d_enc, d_dec, d_rune, d_rlen, d_apt, D_vs, mkS_s, w64]; omega
    · exfalso; omega
  · refine TOK.leaf' (And.intro (?_ : Inv 1 _) (?_ : lt2 μ (1, _) _))
    · simp (disch := omega) only [Sb.val, List.map_cons, List.map_nil, d_vi, d_vb, d_vr, d_ci, d_cb, d_nr, d_nl, d_add, d_sub, d_mul, d_rem, d_quo, d_bit, d_mn2, d_mx2, d_w, d_nn, d_bn2, d_len, d_neg, d_cl, d_at1, d_at2, d_at3, d_at4, d_at5, d_at6, d_at7, d_set, d_app, d_cat, d_take, d_drop, d_rep, d_cons, d_lt_t, d_lt_f, d_le_t, d_le_f, d_eqi_t, d_eqi_f, d_eqb_t, d_eqb_f, d_nb_t, d_nb_f, nth0, nthS, d_api, d_apr, D_cons, D_nl, D_nr, D_vr, D_set, mkL_l, mkR_r, mkI_i, d_shr2, d_shr3, d_shr16, d_shr40, d_shl2, d_shl3, d_shl16, d_shl40, d_apb, mkB_b, d_vs, d_cs, d_scat, d_sub3, d_slen, d_enc, d_dec, d_rune, d_rlen, d_apt, D_vs, mkS_s]
      exact .inr ⟨rfl, n, m, 0, o, s, _, rfl, ho, h1, h2, h3, h4, by omega, by omega, by rw [h7, show i = n by omega], rfl⟩
    · exact .inl (by show 1 - 1 < 1 - 0; omega)
theorem s1 : ∀ v, Inv 1 v → TOK v (fun _ g => LgOK v (fun q u => Inv q u ∧ lt2 μ (q, u) (1, v)) g) tr1 := by
  rintro v (⟨h, _⟩ | ⟨_, n, m, i, o, s, t, rfl, ho, h1, h2, h3, h4, h5, h6, h7, h8⟩) <;> try cases h
  have hl := rp_len (k := i) ho
  have hl2 := rp_len (k := n) ho
  have ho2 := ho.2
  unfold tr1
  refine TOK.br' (fun h => ?_) (fun h => ?_) <;> simp (disch := omega) only [d_vi, d_vb, d_vr, d_ci, d_cb, d_nr, d_nl, d_add, d_sub, d_mul, d_rem, d_quo, d_bit, d_mn2, d_mx2, d_w, d_nn, d_bn2, d_len, d_neg, d_cl, d_at1, d_at2, d_at3, d_at4, d_at5, d_at6, d_at7, d_set, d_app, d_cat, d_take, d_drop, d_rep, d_cons, d_lt_t, d_lt_n, d_le_t, d_le_n, d_eqi_t, d_eqi_f, d_eqb_t, d_eqb_f, d_nb_t, d_nb_f, nth0, nthS, d_api, d_apr, D_cons, D_nl, D_nr, D_vr, D_set, mkL_l, mkR_r, mkI_i, d_shr2, d_shr3, d_shr16, d_shr40, d_shl2, d_shl3, d_shl16, d_shl40, d_apb, mkB_b, d_vs, d_cs, d_scat, d_sub3, d_slen, d_enc, d_dec, d_rune, d_rlen, d_apt, D_vs, mkS_s] at h
  · refine TOK.br' (fun g => TOK.leaf' ?_) (fun g => ?_) <;> simp (disch := omega) only [d_vi, d_vb, d_vr, d_ci, d_cb, d_nr, d_nl, d_add, d_sub, d_mul, d_rem, d_quo, d_bit, d_mn2, d_mx2, d_w, d_nn, d_bn2, d_len, d_neg, d_cl, d_at1, d_at2, d_at3, d_at4, d_at5, d_at6, d_at7, d_set, d_app, d_cat, d_take, d_drop, d_rep, d_cons, d_lt_t, d_lt_n, d_le_t, d_le_n, d_eqi_t, d_eqi_f, d_eqb_t, d_eqb_f, d_nb_t, d_nb_f, nth0, nthS, d_api, d_apr, D_cons, D_nl, D_nr, D_vr, D_set, mkL_l, mkR_r, mkI_i, d_shr2, d_shr3, d_shr16, d_shr40, d_shl2, d_shl3, d_shl16, d_shl40, d_apb, mkB_b, d_vs, d_cs, d_scat, d_sub3, d_slen, d_enc, d_dec, d_rune, d_rlen, d_apt, D_vs, mkS_s, size_L, h8] at g
    · refine And.intro (?_ : Inv 1 _) (?_ : lt2 μ (1, _) _)
      · simp (disch := omega) only [Sb.val, List.map_cons, List.map_nil, d_vi, d_vb, d_vr, d_ci, d_cb, d_nr, d_nl, d_add, d_sub, d_mul, d_rem, d_quo, d_bit, d_mn2, d_mx2, d_w, d_nn, d_bn2, d_len, d_neg, d_cl, d_at1, d_at2, d_at3, d_at4, d_at5, d_at6, d_at7, d_set, d_app, d_cat, d_take, d_drop, d_rep, d_cons, d_lt_t, d_lt_f, d_le_t, d_le_f, d_eqi_t, d_eqi_f, d_eqb_t, d_eqb_f, d_nb_t, d_nb_f, nth0, nthS, d_api, d_apr, D_cons, D_nl, D_nr, D_vr, D_set, mkL_l, mkR_r, mkI_i, d_shr2, d_shr3, d_shr16, d_shr40, d_shl2, d_shl3, d_shl16, d_shl40, d_apb, mkB_b, d_vs, d_cs, d_scat, d_sub3, d_slen, d_enc, d_dec, d_rune, d_rlen, d_apt, D_vs, mkS_s, w64]
        exact .inr ⟨rfl, n, m, i + 1, o, s, _, rfl, ho, h1, h2, h3, h4, by omega, by omega, h7, by rw [toL_app, h8, rp_succ _ h5]⟩
      · refine .inr ⟨rfl, ?_⟩
        simp (disch := omega) only [μ, Sb.val, List.map_cons, List.map_nil, d_vi, d_vb, d_vr, d_ci, d_cb, d_nr, d_nl, d_add, d_sub, d_mul, d_rem, d_quo, d_bit, d_mn2, d_mx2, d_w, d_nn, d_bn2, d_len, d_neg, d_cl, d_at1, d_at2, d_at3, d_at4, d_at5, d_at6, d_at7, d_set, d_app, d_cat, d_take, d_drop, d_rep, d_cons, d_lt_t, d_lt_f, d_le_t, d_le_f, d_eqi_t, d_eqi_f, d_eqb_t, d_eqb_f, d_nb_t, d_nb_f, nth0, nthS, d_api, d_apr, D_cons, D_nl, D_nr, D_vr, D_set, mkL_l, mkR_r, mkI_i, d_shr2, d_shr3, d_shr16, d_shr40, d_shl2, d_shl3, d_shl16, d_shl40, d_apb, mkB_b, d_vs, d_cs, d_scat, d_sub3, d_slen, d_enc, d_dec, d_rune, d_rlen, d_apt, D_vs, mkS_s, w64]; omega
    · exfalso; omega
  · have e : i = m := by omega
    subst e
    have c1 : (sg (toL s)).length = n.toNat := by rw [h7, rp_sg ho.1, List.length_replicate]
    have c2 : (sg (toL t)).length = i.toNat := by rw [h8, rp_sg ho.1, List.length_replicate]
    have v1 : validD (toL s) = true := by rw [h7]; exact rp_valid ho.1 n
    have v2 : validD (toL t) = true := by rw [h8]; exact rp_valid ho.1 i
    have nn : ((n.toNat : Nat) : Int) = n := by omega
    have ii : ((i.toNat : Nat) : Int) = i := by omega
    have hp : placeF (toL s) n = ((toL s).length : Int) := by rw [place_in (by omega), ← c1, off_all]
    rw [← h7] at hl2
    rw [← h8] at hl
    repeat' (first
      | (refine TOK.br' (fun g => ?_) (fun g => ?_) <;> simp (disch := omega) only [d_vi, d_vb, d_vr, d_ci, d_cb, d_nr, d_nl, d_add, d_sub, d_mul, d_rem, d_quo, d_bit, d_mn2, d_mx2, d_w, d_nn, d_bn2, d_len, d_neg, d_cl, d_at1, d_at2, d_at3, d_at4, d_at5, d_at6, d_at7, d_set, d_app, d_cat, d_take, d_drop, d_rep, d_cons, d_lt_t, d_lt_n, d_le_t, d_le_n, d_eqi_t, d_eqi_f, d_eqb_t, d_eqb_f, d_nb_t, d_nb_f, nth0, nthS, d_api, d_apr, D_cons, D_nl, D_nr, D_vr, D_set, mkL_l, mkR_r, mkI_i, d_shr2, d_shr3, d_shr16, d_shr40, d_shl2, d_shl3, d_shl16, d_shl40, d_apb, mkB_b, d_vs, d_cs, d_scat, d_sub3, d_slen, d_enc, d_dec, d_rune, d_rlen, d_apt, D_vs, mkS_s, size_L, Φ700, Φ703, Φ704, v1, v2, c1, c2, nn, ii, hp, toL_app, toL_ext, List.length_append, List.length_take, List.length_drop, Int.toNat_natCast, Int.toNat_zero, w64] at g <;> (try exact Bool.noConfusion g) <;> (try (exfalso; omega)))
      | (with_reducible refine TOK.leaf' ?_))
    all_goals first
      | (show (den _ _).b = true
         rw [d_eqs_t]
         done)
      | (show (den _ _).b = true
         rw [d_eqs_t, toL_inj']
         simp only [d_vi, d_vb, d_vr, d_ci, d_cb, d_nr, d_nl, d_add, d_sub, d_mul, d_rem, d_quo, d_bit, d_mn2, d_mx2, d_w, d_nn, d_bn2, d_len, d_neg, d_cl, d_at1, d_at2, d_at3, d_at4, d_at5, d_at6, d_at7, d_set, d_app, d_cat, d_take, d_drop, d_rep, d_cons, d_lt_t, d_lt_n, d_le_t, d_le_n, d_eqi_t, d_eqi_f, d_eqb_t, d_eqb_f, d_nb_t, d_nb_f, nth0, nthS, d_api, d_apr, D_cons, D_nl, D_nr, D_vr, D_set, mkL_l, mkR_r, mkI_i, d_shr2, d_shr3, d_shr16, d_shr40, d_shl2, d_shl3, d_shl16, d_shl40, d_apb, mkB_b, d_vs, d_cs, d_scat, d_sub3, d_slen, d_enc, d_dec, d_rune, d_rlen, d_apt, D_vs, mkS_s, size_L, Φ704, hp, toL_app, toL_ext, Int.toNat_natCast, Int.toNat_zero, List.drop_zero, List.take_length, List.drop_length, List.append_nil])
theorem sS (a0 a1 : Int) (b : Bool) : TOK (⟨[a0, a1], [b], [], [], Φ⟩ : Val) (fun _ g => LgOK (⟨[a0, a1], [b], [], [], Φ⟩ : Val) Inv g) trS := by
  unfold trS
  have h0 := and_in (k := .i64) a0 (m := 7) (by decide) (by decide)
  have h1 := and_in (k := .i64) a1 (m := 7) (by decide) (by decide)
  refine TOK.br' (fun h => TOK.leaf' (show Inv 0 _ from ?_)) (fun h => TOK.leaf' (show Inv 0 _ from ?_)) <;> simp only [Sb.val, List.map_cons, List.map_nil, d_vi, d_vb, d_vr, d_ci, d_cb, d_nr, d_nl, d_add, d_sub, d_mul, d_rem, d_quo, d_bit, d_mn2, d_mx2, d_w, d_nn, d_bn2, d_len, d_neg, d_cl, d_at1, d_at2, d_at3, d_at4, d_at5, d_at6, d_at7, d_set, d_app, d_cat, d_take, d_drop, d_rep, d_cons, d_lt_t, d_lt_f, d_le_t, d_le_f, d_eqi_t, d_eqi_f, d_eqb_t, d_eqb_f, d_nb_t, d_nb_f, nth0, nthS, d_api, d_apr, D_cons, D_nl, D_nr, D_vr, D_set, mkL_l, mkR_r, mkI_i, d_shr2, d_shr3, d_shr16, d_shr40, d_shl2, d_shl3, d_shl16, d_shl40, d_apb, mkB_b, d_vs, d_cs, d_scat, d_sub3, d_slen, d_enc, d_dec, d_rune, d_rlen, d_apt, D_vs, mkS_s]
  · exact .inl ⟨rfl, _, _, 0, _, _, rfl, ⟨sgE, by decide⟩, by omega, by omega, by omega, by omega, by omega, by omega, rfl⟩
  · exact .inl ⟨rfl, _, _, 0, _, _, rfl, ⟨sgA, by decide⟩, by omega, by omega, by omega, by omega, by omega, by omega, rfl⟩
theorem TextFull_walk (a0 : Int) (a1 : Int) (a2 : Bool) (w : World) (wa0 : (Lit.int .i64 a0).wf = true) (wa1 : (Lit.int .i64 a1).wf = true) (hB : Base w) :
    Calls Tryd.prog 4 #[.int .i64 a0, .int .i64 a1, .bool a2] w fun e w' => e = .returned (.bool true) ∧ Below w.heap.size w w' :=
  law_calls (v := ⟨[a0, a1], [a2], [], [], Φ⟩) (l := []) (args := args) (args' := [.int .i64 a0, .int .i64 a1, .bool a2]) hI0 hfn hbod (by decide) rfl (by simp)
    (.cons (.int _ _) (.cons (.int _ _) (.cons (.bool _) (.nil _))))
    (aw ⟨[a0, a1], [a2], [], [], Φ⟩ Inv μ rfl hΦ KV.nil k0 k1 (sS a0 a1 a2) s0 s1) hB
end Go.Proofs.YtpgkbdkkcladcaaDoor.KTextFull
