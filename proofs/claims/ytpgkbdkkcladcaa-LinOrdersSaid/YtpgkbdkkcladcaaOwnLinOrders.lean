/- The law LinOrders: calls of one thread have one order alone. A lemma file. -/
import Derived.Test.YtpgkbdkkcladcaaOwnLinOrdersS
import Derived.Test.YtpgkbdkkcladcaaOwnOrd15
set_option linter.unusedVariables false
set_option linter.unusedSimpArgs false
set_option maxRecDepth 100000
set_option maxHeartbeats 4000000
namespace Go.Proofs.Ytpgkbdkkcladcaa.KLinOrders
open Go Go.Lib Go.Proofs.Ytpgkbdkkcladcaa.Eng Go.Proofs.Ytpgkbdkkcladcaa.Sy Go.RowKit Go.WideShapes Go.ChangeShapes
theorem D_rep {v : Val} {a b : E} : den v (.o2 .rep a b) = mkR (List.replicate (den v a).i.toNat (den v b).l) := rfl
theorem d_at8 {v : Val} {a b : E} : (den v (.o3 .at a b (.ci 8))).i = nth 0 ((den v a).r.getD (den v b).i.toNat []) 8 := rfl
theorem d_at9 {v : Val} {a b : E} : (den v (.o3 .at a b (.ci 9))).i = nth 0 ((den v a).r.getD (den v b).i.toNat []) 9 := rfl
theorem d_at10 {v : Val} {a b : E} : (den v (.o3 .at a b (.ci 10))).i = nth 0 ((den v a).r.getD (den v b).i.toNat []) 10 := rfl
/-- A call, as one thread does it. -/
def ow (k : Nat) (d : List Int) : List Int := [0, nth 0 d 1, nth 0 d 2, nth 0 d 3, nth 0 d 4, 2 * (k : Int), 2 * (k : Int) + 1, b2i (nbz (nth 0 d 7)), nth 0 d 8, nth 0 d 9, nth 0 d 10]
def own (L : Row) (i : Nat) : Row := (List.range i).map fun k => ow k (L.getD k [])
theorem own_len (L : Row) (i : Nat) : (own L i).length = i := by simp [own]
theorem own_succ {L : Row} {i : Int} (h : 0 ≤ i) : own L (i + 1).toNat = own L i.toNat ++ [ow i.toNat (L.getD i.toNat [])] := by
  unfold own
  rw [show (i + 1).toNat = i.toNat + 1 by omega, List.range_succ, List.map_append]; rfl
theorem own_at {L : Row} {i k : Nat} (h : k < i) : (own L i).getD k [] = ow k (L.getD k []) := by
  unfold own
  rw [List.getD_eq_getElem?_getD, List.getElem?_map, List.getElem?_range h]; rfl
theorem own_seq (L : Row) (i : Nat) : Seq (own L i) := fun k hk => by
  rw [own_len] at hk
  rw [own_at hk]; exact ⟨rfl, rfl⟩
theorem own_right {L : Row} (h : rightsF L = true) : rightsF (own L L.length) = true := by
  unfold rightsF at h ⊢
  rw [List.all_eq_true] at h ⊢
  intro x hx
  unfold own at hx
  obtain ⟨k, hk, rfl⟩ := List.mem_map.1 hx
  rw [List.mem_range] at hk
  have := h (L.getD k []) (by rw [List.getD_eq_getElem?_getD, List.getElem?_eq_getElem hk]; exact List.getElem_mem _)
  exact this
def Inv (k : Nat) (v : Val) : Prop :=
  (k = 0 ∧ ∃ i L, v = ⟨[i], [], [L, own L i.toNat], [], Φ⟩ ∧ 0 ≤ i ∧ i ≤ (L.length : Int) ∧ (L.length : Int) ≤ 9 ∧ rightsF L = true) ∨
  (k = 1 ∧ ∃ L W, v = ⟨[0, 0], [false], [L, W], [], Φ⟩) ∨
  (k = 2 ∧ ∃ n j L W o, v = ⟨[n, n, n, j], [true], [L, W, o], [], Φ⟩ ∧ n = (W.length : Int) ∧ n ≤ 9 ∧ o.take W.length = idx W.length ∧ 0 ≤ j)
def μ (q : Nat × Val) : Nat × Nat := ((2000 - (if q.1 = 0 then nth 0 q.2.i 0 - 1000 else if q.1 = 1 then 100 else nth 0 q.2.i 3)).toNat, 0)
theorem hΦ : ∀ k v, Inv k v → v.f = Φ := by
  rintro k v (⟨_, _, _, rfl, _⟩ | ⟨_, _, _, rfl⟩ | ⟨_, _, _, _, _, _, rfl, _⟩) <;> rfl
theorem k0 : ∀ v, Inv 0 v → KV v tm0.kn := fun v h => KV.nil
theorem k1 : ∀ v, Inv 1 v → KV v tm1.kn := fun v h => KV.nil
theorem k2 : ∀ v, Inv 2 v → KV v tm2.kn := fun v h => KV.nil
theorem s0 : ∀ v, Inv 0 v → TOK v (fun _ g => LgOK v (fun q u => Inv q u ∧ lt2 μ (q, u) (0, v)) g) tr0 := by
  rintro v (⟨_, i, L, rfl, h1, h2, h3, h4⟩ | ⟨h, _⟩ | ⟨h, _⟩) <;> try cases h
  have hlen : ((own L i.toNat).length : Int) = i := by rw [own_len]; omega
  have ii : ((i.toNat : Nat) : Int) = i := by omega
  unfold tr0
  refine TOK.br' (fun h => ?_) (fun h => ?_) <;> simp (disch := omega) only [d_vi, d_vb, d_vr, d_ci, d_cb, d_nr, d_nl, d_add, d_sub, d_mul, d_rem, d_quo, d_bit, d_mn2, d_mx2, d_w, d_nn, d_bn2, d_len, d_neg, d_cl, d_at1, d_at2, d_at3, d_at4, d_at5, d_at6, d_at7, d_set, d_app, d_cat, d_take, d_drop, d_rep, d_cons, d_lt_t, d_lt_n, d_le_t, d_le_n, d_eqi_t, d_eqi_f, d_eqb_t, d_eqb_f, d_nb_t, d_nb_f, nth0, nthS, d_api, d_apr, D_cons, D_nl, D_nr, D_vr, D_set, mkL_l, mkR_r, mkI_i, d_shr2, d_shr3, d_shr16, d_shr40, d_shl2, d_shl3, d_shl16, d_shl40, d_apb, mkB_b, hlen] at h
  · repeat' (first
      | (refine TOK.br' (fun g => ?_) (fun g => ?_) <;> simp (disch := omega) only [d_vi, d_vb, d_vr, d_ci, d_cb, d_nr, d_nl, d_add, d_sub, d_mul, d_rem, d_quo, d_bit, d_mn2, d_mx2, d_w, d_nn, d_bn2, d_len, d_neg, d_cl, d_at1, d_at2, d_at3, d_at4, d_at5, d_at6, d_at7, d_set, d_app, d_cat, d_take, d_drop, d_rep, d_cons, d_lt_t, d_lt_n, d_le_t, d_le_n, d_eqi_t, d_eqi_f, d_eqb_t, d_eqb_f, d_nb_t, d_nb_f, nth0, nthS, d_api, d_apr, D_cons, D_nl, D_nr, D_vr, D_set, mkL_l, mkR_r, mkI_i, d_shr2, d_shr3, d_shr16, d_shr40, d_shl2, d_shl3, d_shl16, d_shl40, d_apb, mkB_b, hlen] at g <;> (try (exfalso; omega)))
      | (with_reducible refine TOK.leaf' ?_))
    refine And.intro (?_ : Inv 0 _) (?_ : lt2 μ (0, _) _)
    · simp (disch := omega) only [Sb.val, List.map_cons, List.map_nil, d_vi, d_vb, d_vr, d_ci, d_cb, d_nr, d_nl, d_add, d_sub, d_mul, d_rem, d_quo, d_bit, d_mn2, d_mx2, d_w, d_nn, d_bn2, d_len, d_neg, d_cl, d_at1, d_at2, d_at3, d_at4, d_at5, d_at6, d_at7, d_set, d_app, d_cat, d_take, d_drop, d_rep, d_cons, d_lt_t, d_lt_f, d_le_t, d_le_f, d_eqi_t, d_eqi_f, d_eqb_t, d_eqb_f, d_nb_t, d_nb_f, nth0, nthS, d_api, d_apr, D_cons, D_nl, D_nr, D_vr, D_set, mkL_l, mkR_r, mkI_i, d_shr2, d_shr3, d_shr16, d_shr40, d_shl2, d_shl3, d_shl16, d_shl40, d_apb, mkB_b, w64, d_nb2, d_at8, d_at9, d_at10]
      refine .inl ⟨rfl, i + 1, L, ?_, by omega, by omega, h3, h4⟩
      rw [own_succ h1]; unfold ow; rw [ii]
    · refine .inl ?_
      simp (disch := omega) only [μ, Sb.val, List.map_cons, List.map_nil, d_vi, d_vb, d_vr, d_ci, d_cb, d_nr, d_nl, d_add, d_sub, d_mul, d_rem, d_quo, d_bit, d_mn2, d_mx2, d_w, d_nn, d_bn2, d_len, d_neg, d_cl, d_at1, d_at2, d_at3, d_at4, d_at5, d_at6, d_at7, d_set, d_app, d_cat, d_take, d_drop, d_rep, d_cons, d_lt_t, d_lt_f, d_le_t, d_le_f, d_eqi_t, d_eqi_f, d_eqb_t, d_eqb_f, d_nb_t, d_nb_f, nth0, nthS, d_api, d_apr, D_cons, D_nl, D_nr, D_vr, D_set, mkL_l, mkR_r, mkI_i, d_shr2, d_shr3, d_shr16, d_shr40, d_shl2, d_shl3, d_shl16, d_shl40, d_apb, mkB_b, w64]; simp; omega
  · have e : i.toNat = L.length := by omega
    generalize hW : own L i.toNat = W at *
    have hr : rightsF W = true := by rw [← hW, e]; exact own_right h4
    have hs : Seq W := by rw [← hW]; exact own_seq _ _
    have hg := seq_good W
    obtain ⟨f1, f2⟩ := seq_all hs
    have wi : W.length = i.toNat := by omega
    have wr : List.replicate i.toNat [(0 : Int)] = List.replicate W.length [0] := by rw [wi]
    generalize hF : findM W ⟨List.replicate W.length [0], 0, [], false⟩ [] = F at *
    repeat' (first
      | (refine TOK.br' (fun g2 => ?_) (fun g2 => ?_) <;> simp (disch := omega) only [d_vi, d_vb, d_vr, d_ci, d_cb, d_nr, d_nl, d_add, d_sub, d_mul, d_rem, d_quo, d_bit, d_mn2, d_mx2, d_w, d_nn, d_bn2, d_len, d_neg, d_cl, d_at1, d_at2, d_at3, d_at4, d_at5, d_at6, d_at7, d_set, d_app, d_cat, d_take, d_drop, d_rep, d_cons, d_lt_t, d_lt_n, d_le_t, d_le_n, d_eqi_t, d_eqi_f, d_eqb_t, d_eqb_f, d_nb_t, d_nb_f, nth0, nthS, d_api, d_apr, D_cons, D_nl, D_nr, D_vr, D_set, mkL_l, mkR_r, mkI_i, d_shr2, d_shr3, d_shr16, d_shr40, d_shl2, d_shl3, d_shl16, d_shl40, d_apb, mkB_b, d_eqb_t, Φ614, Φ615, Φ616, Φ610, Φ603, Φ602, fArg, D_bun, D_cat, D_cons, D_nl, D_nr, D_rep, hlen, ii, List.append_nil, List.take_nil, List.drop_nil, wr, hg, hr, hF] at g2 <;> (try (exact Bool.noConfusion g2)) <;> (try (exfalso; omega)))
      | (with_reducible refine TOK.leaf' ?_))
    all_goals first
      | (refine And.intro (?_ : Inv 1 _) (?_ : lt2 μ (1, _) _)
         · exact .inr (.inl ⟨rfl, L, W, rfl⟩)
         · refine .inl ?_
           simp only [μ, nth]; simp; omega)
      | (refine And.intro (?_ : Inv 2 _) (?_ : lt2 μ (2, _) _) <;> simp (disch := omega) only [Sb.val, List.map_cons, List.map_nil, d_vi, d_vb, d_vr, d_ci, d_cb, d_nr, d_nl, d_add, d_sub, d_mul, d_rem, d_quo, d_bit, d_mn2, d_mx2, d_w, d_nn, d_bn2, d_len, d_neg, d_cl, d_at1, d_at2, d_at3, d_at4, d_at5, d_at6, d_at7, d_set, d_app, d_cat, d_take, d_drop, d_rep, d_cons, d_lt_t, d_lt_f, d_le_t, d_le_f, d_eqi_t, d_eqi_f, d_eqb_t, d_eqb_f, d_nb_t, d_nb_f, nth0, nthS, d_api, d_apr, D_cons, D_nl, D_nr, D_vr, D_set, mkL_l, mkR_r, mkI_i, d_shr2, d_shr3, d_shr16, d_shr40, d_shl2, d_shl3, d_shl16, d_shl40, d_apb, mkB_b, Φ610, Φ613, fArg, D_bun, D_cat, D_cons, D_nl, D_nr, D_rep, hlen, ii, List.append_nil, List.take_nil, List.drop_nil, wr, hF, mkR_r, mkL_l]
         · obtain ⟨z1, z2⟩ := f2 (by assumption)
           exact .inr (.inr ⟨rfl, F.2.n, 0, L, W, F.2.o, rfl, z1, by omega, z2, by omega⟩)
         · refine .inl ?_
           simp only [μ, nth]; simp; omega)
      | (exfalso; simp_all; done)
theorem s1 : ∀ v, Inv 1 v → TOK v (fun _ g => LgOK v (fun q u => Inv q u ∧ lt2 μ (q, u) (1, v)) g) tr1 := by
  rintro v (⟨h, _⟩ | ⟨_, L, W, rfl⟩ | ⟨h, _⟩) <;> try cases h
  unfold tr1
  refine TOK.br' (fun h => ?_) (fun h => ?_) <;> simp (disch := omega) only [d_vi, d_vb, d_vr, d_ci, d_cb, d_nr, d_nl, d_add, d_sub, d_mul, d_rem, d_quo, d_bit, d_mn2, d_mx2, d_w, d_nn, d_bn2, d_len, d_neg, d_cl, d_at1, d_at2, d_at3, d_at4, d_at5, d_at6, d_at7, d_set, d_app, d_cat, d_take, d_drop, d_rep, d_cons, d_lt_t, d_lt_n, d_le_t, d_le_n, d_eqi_t, d_eqi_f, d_eqb_t, d_eqb_f, d_nb_t, d_nb_f, nth0, nthS, d_api, d_apr, D_cons, D_nl, D_nr, D_vr, D_set, mkL_l, mkR_r, mkI_i, d_shr2, d_shr3, d_shr16, d_shr40, d_shl2, d_shl3, d_shl16, d_shl40, d_apb, mkB_b] at h
  · exfalso; omega
  · refine TOK.br' (fun h => ?_) (fun h => TOK.leaf' rfl)
    exact Bool.noConfusion h
theorem s2 : ∀ v, Inv 2 v → TOK v (fun _ g => LgOK v (fun q u => Inv q u ∧ lt2 μ (q, u) (2, v)) g) tr2 := by
  rintro v (⟨h, _⟩ | ⟨h, _⟩ | ⟨_, n, j, L, W, o, rfl, h1, h2, h3, h4⟩) <;> try cases h
  have ho : W.length ≤ o.length := by
    have := congrArg List.length h3
    rw [idx_len, List.length_take] at this
    omega
  have hc : j < (W.length : Int) → cl o j = j := fun z => by
    have e := cl_idx (i := W.length) h4 z
    rw [← h3] at e
    unfold cl at e ⊢
    rw [List.getD_eq_getElem?_getD, List.getElem?_take_of_lt (by omega)] at e
    rw [List.getD_eq_getElem?_getD]; exact e
  unfold tr2
  repeat' (first
    | (refine TOK.br' (fun h => ?_) (fun h => ?_) <;> simp (disch := omega) only [d_vi, d_vb, d_vr, d_ci, d_cb, d_nr, d_nl, d_add, d_sub, d_mul, d_rem, d_quo, d_bit, d_mn2, d_mx2, d_w, d_nn, d_bn2, d_len, d_neg, d_cl, d_at1, d_at2, d_at3, d_at4, d_at5, d_at6, d_at7, d_set, d_app, d_cat, d_take, d_drop, d_rep, d_cons, d_lt_t, d_lt_n, d_le_t, d_le_n, d_eqi_t, d_eqi_f, d_eqb_t, d_eqb_f, d_nb_t, d_nb_f, nth0, nthS, d_api, d_apr, D_cons, D_nl, D_nr, D_vr, D_set, mkL_l, mkR_r, mkI_i, d_shr2, d_shr3, d_shr16, d_shr40, d_shl2, d_shl3, d_shl16, d_shl40, d_apb, mkB_b] at h <;> (try (exfalso; omega)))
    | (with_reducible refine TOK.leaf' ?_))
  all_goals first
    | (refine And.intro (?_ : Inv 2 _) (?_ : lt2 μ (2, _) _)
       · simp (disch := omega) only [Sb.val, List.map_cons, List.map_nil, d_vi, d_vb, d_vr, d_ci, d_cb, d_nr, d_nl, d_add, d_sub, d_mul, d_rem, d_quo, d_bit, d_mn2, d_mx2, d_w, d_nn, d_bn2, d_len, d_neg, d_cl, d_at1, d_at2, d_at3, d_at4, d_at5, d_at6, d_at7, d_set, d_app, d_cat, d_take, d_drop, d_rep, d_cons, d_lt_t, d_lt_f, d_le_t, d_le_f, d_eqi_t, d_eqi_f, d_eqb_t, d_eqb_f, d_nb_t, d_nb_f, nth0, nthS, d_api, d_apr, D_cons, D_nl, D_nr, D_vr, D_set, mkL_l, mkR_r, mkI_i, d_shr2, d_shr3, d_shr16, d_shr40, d_shl2, d_shl3, d_shl16, d_shl40, d_apb, mkB_b, w64]
         exact .inr (.inr ⟨rfl, n, j + 1, L, W, o, rfl, h1, h2, h3, by omega⟩)
       · refine .inl ?_
         simp (disch := omega) only [μ, Sb.val, List.map_cons, List.map_nil, d_vi, d_vb, d_vr, d_ci, d_cb, d_nr, d_nl, d_add, d_sub, d_mul, d_rem, d_quo, d_bit, d_mn2, d_mx2, d_w, d_nn, d_bn2, d_len, d_neg, d_cl, d_at1, d_at2, d_at3, d_at4, d_at5, d_at6, d_at7, d_set, d_app, d_cat, d_take, d_drop, d_rep, d_cons, d_lt_t, d_lt_f, d_le_t, d_le_f, d_eqi_t, d_eqi_f, d_eqb_t, d_eqb_f, d_nb_t, d_nb_f, nth0, nthS, d_api, d_apr, D_cons, D_nl, D_nr, D_vr, D_set, mkL_l, mkR_r, mkI_i, d_shr2, d_shr3, d_shr16, d_shr40, d_shl2, d_shl3, d_shl16, d_shl40, d_apb, mkB_b, w64]; simp; omega)
    | exact rfl
    | (exfalso; have := hc (by omega); contradiction)
    | (show (den _ _).b = true
       rw [d_eqi_t]
       simp only [d_vi, d_vb, d_vr, d_ci, d_cb, d_nr, d_nl, d_add, d_sub, d_mul, d_rem, d_quo, d_bit, d_mn2, d_mx2, d_w, d_nn, d_bn2, d_len, d_neg, d_cl, d_at1, d_at2, d_at3, d_at4, d_at5, d_at6, d_at7, d_set, d_app, d_cat, d_take, d_drop, d_rep, d_cons, d_lt_t, d_lt_f, d_le_t, d_le_f, d_eqi_t, d_eqi_f, d_eqb_t, d_eqb_f, d_nb_t, d_nb_f, nth0, nthS, d_api, d_apr, D_cons, D_nl, D_nr, D_vr, D_set, mkL_l, mkR_r, mkI_i, d_shr2, d_shr3, d_shr16, d_shr40, d_shl2, d_shl3, d_shl16, d_shl40, d_apb, mkB_b]; omega)
    | (exfalso; simp_all; done)
theorem sS (l : Row) : TOK (⟨[], [], [l], [], Φ⟩ : Val) (fun _ g => LgOK (⟨[], [], [l], [], Φ⟩ : Val) Inv g) trS := by
  unfold trS
  refine TOK.br' (fun h => TOK.leaf' rfl) (fun h => ?_)
  refine TOK.br' (fun h1 => TOK.leaf' (show Inv 0 _ from ?_)) (fun h => TOK.leaf' rfl)
  simp only [d_vi, d_vb, d_vr, d_ci, d_cb, d_nr, d_nl, d_add, d_sub, d_mul, d_rem, d_quo, d_bit, d_mn2, d_mx2, d_w, d_nn, d_bn2, d_len, d_neg, d_cl, d_at1, d_at2, d_at3, d_at4, d_at5, d_at6, d_at7, d_set, d_app, d_cat, d_take, d_drop, d_rep, d_cons, d_lt_t, d_lt_n, d_le_t, d_le_n, d_eqi_t, d_eqi_f, d_eqb_t, d_eqb_f, d_nb_t, d_nb_f, nth0, nthS, d_api, d_apr, D_cons, D_nl, D_nr, D_vr, D_set, mkL_l, mkR_r, mkI_i, d_shr2, d_shr3, d_shr16, d_shr40, d_shl2, d_shl3, d_shl16, d_shl40, d_apb, mkB_b, Φ603] at h h1
  simp only [Sb.val, List.map_cons, List.map_nil, d_vi, d_vb, d_vr, d_ci, d_cb, d_nr, d_nl, d_add, d_sub, d_mul, d_rem, d_quo, d_bit, d_mn2, d_mx2, d_w, d_nn, d_bn2, d_len, d_neg, d_cl, d_at1, d_at2, d_at3, d_at4, d_at5, d_at6, d_at7, d_set, d_app, d_cat, d_take, d_drop, d_rep, d_cons, d_lt_t, d_lt_f, d_le_t, d_le_f, d_eqi_t, d_eqi_f, d_eqb_t, d_eqb_f, d_nb_t, d_nb_f, nth0, nthS, d_api, d_apr, D_cons, D_nl, D_nr, D_vr, D_set, mkL_l, mkR_r, mkI_i, d_shr2, d_shr3, d_shr16, d_shr40, d_shl2, d_shl3, d_shl16, d_shl40, d_apb, mkB_b]
  exact .inl ⟨rfl, 0, l, rfl, by omega, by omega, by omega, h1⟩
theorem LinOrders_walk (A0 : Option Addr) (n0 c0 : Nat) (l0 : List (List Int)) (w : World) (hr0 : ArgRow w [.i .i64, .i .i64, .i .i64, .i .u64, .i .i64, .i .i64, .i .i64, .b, .i .u64, .i .i64, .i .i64] A0 n0 c0 l0) :
    Calls Try.prog 8 #[.slice A0 n0 c0] w fun e w' => e = .returned (.bool true) ∧ Below w.heap.size w w' :=
  law_calls (v := ⟨[], [], [l0], [], Φ⟩) (l := [⟨A0, n0, c0, [.i .i64, .i .i64, .i .i64, .i .u64, .i .i64, .i .i64, .i .i64, .b, .i .u64, .i .i64, .i .i64], l0⟩]) (args := args) (args' := [.slice A0 n0 c0]) hI0 hfn hbod (by decide) rfl (by simpa using hr0)
    (.cons (arg_slice (id := 0) (s := ⟨A0, n0, c0, [.i .i64, .i .i64, .i .i64, .i .u64, .i .i64, .i .i64, .i .i64, .b, .i .u64, .i .i64, .i .i64], l0⟩) (l := [⟨A0, n0, c0, [.i .i64, .i .i64, .i .i64, .i .u64, .i .i64, .i .i64, .i .i64, .b, .i .u64, .i .i64, .i .i64], l0⟩]) rfl rfl hr0) (.nil _))
    (aw ⟨[], [], [l0], [], Φ⟩ Inv μ rfl hΦ KV.nil k0 k1 k2 (sS l0) s0 s1 s2)
end Go.Proofs.Ytpgkbdkkcladcaa.KLinOrders
