/- The law LinFinds: of whatever few calls an order that holds, or there is none. A lemma file. -/
import Derived.Test.YtpgkbdkkcladcaaOwnLinFindsS
import Derived.Test.YtpgkbdkkcladcaaOwnFnd15
set_option linter.unusedVariables false
set_option linter.unusedSimpArgs false
set_option maxRecDepth 100000
set_option maxHeartbeats 4000000
namespace Go.Proofs.Ytpgkbdkkcladcaa.KLinFinds
open Go Go.Lib Go.Proofs.Ytpgkbdkkcladcaa.Eng Go.Proofs.Ytpgkbdkkcladcaa.Sy Go.RowKit Go.WideShapes Go.ChangeShapes
theorem D_rep {v : Val} {a b : E} : den v (.o2 .rep a b) = mkR (List.replicate (den v a).i.toNat (den v b).l) := rfl
theorem bun_r {v : Val} {a b : E} : (den v (.o2 .bun a b)).r = (den v b).r := rfl
theorem bun_l {v : Val} {a b : E} : (den v (.o2 .bun a b)).l = (den v a).l := rfl
theorem good0 (L : Row) : goodF 0 (List.replicate L.length [0]) L = true := good_iff.2 ⟨(g0_st0 L).h1, by rw [cnt0_rep]; omega⟩
def Inv (k : Nat) (v : Val) : Prop := k = 0 ∧ ∃ i L, v = ⟨[i], [], [L], [], Φ⟩ ∧ 0 ≤ i ∧ i ≤ (L.length : Int) ∧ (L.length : Int) ≤ 7 ∧ rightsF L = true
def μ (q : Nat × Val) : Nat × Nat := ((1000 - nth 0 q.2.i 0).toNat, 0)
theorem hΦ : ∀ k v, Inv k v → v.f = Φ := by
  rintro k v ⟨_, _, _, rfl, _⟩; rfl
theorem k0 : ∀ v, Inv 0 v → KV v tm0.kn := by
  rintro v ⟨_, i, L, rfl, h1, h2, h3, h4⟩
  unfold tm0
  repeat' (first | exact KV.nil | (refine KV.cons ?_ ?_))
  all_goals first
    | (simp only [d_vi, d_vb, d_vr, d_ci, d_cb, d_nr, d_nl, d_add, d_sub, d_mul, d_rem, d_quo, d_bit, d_mn2, d_mx2, d_w, d_nn, d_bn2, d_len, d_neg, d_cl, d_at1, d_at2, d_at3, d_at4, d_at5, d_at6, d_at7, d_set, d_app, d_cat, d_take, d_drop, d_rep, d_cons, d_lt_t, d_lt_f, d_le_t, d_le_f, d_eqi_t, d_eqi_f, d_eqb_t, d_eqb_f, d_nb_t, d_nb_f, nth0, nthS, d_api, d_apr, D_cons, D_nl, D_nr, D_vr, D_set, mkL_l, mkR_r, mkI_i, d_shr2, d_shr3, d_shr16, d_shr40, d_shl2, d_shl3, d_shl16, d_shl40, d_apb, mkB_b]; omega)
    | (simp only [d_vi, d_vb, d_vr, d_ci, d_cb, d_nr, d_nl, d_add, d_sub, d_mul, d_rem, d_quo, d_bit, d_mn2, d_mx2, d_w, d_nn, d_bn2, d_len, d_neg, d_cl, d_at1, d_at2, d_at3, d_at4, d_at5, d_at6, d_at7, d_set, d_app, d_cat, d_take, d_drop, d_rep, d_cons, d_lt_t, d_lt_f, d_le_t, d_le_f, d_eqi_t, d_eqi_f, d_eqb_t, d_eqb_f, d_nb_t, d_nb_f, nth0, nthS, d_api, d_apr, D_cons, D_nl, D_nr, D_vr, D_set, mkL_l, mkR_r, mkI_i, d_shr2, d_shr3, d_shr16, d_shr40, d_shl2, d_shl3, d_shl16, d_shl40, d_apb, mkB_b, Φ603]; exact h4)
    | (simp only [d_vi, d_vb, d_vr, d_ci, d_cb, d_nr, d_nl, d_add, d_sub, d_mul, d_rem, d_quo, d_bit, d_mn2, d_mx2, d_w, d_nn, d_bn2, d_len, d_neg, d_cl, d_at1, d_at2, d_at3, d_at4, d_at5, d_at6, d_at7, d_set, d_app, d_cat, d_take, d_drop, d_rep, d_cons, d_lt_t, d_lt_f, d_le_t, d_le_f, d_eqi_t, d_eqi_f, d_eqb_t, d_eqb_f, d_nb_t, d_nb_f, nth0, nthS, d_api, d_apr, D_cons, D_nl, D_nr, D_vr, D_set, mkL_l, mkR_r, mkI_i, d_shr2, d_shr3, d_shr16, d_shr40, d_shl2, d_shl3, d_shl16, d_shl40, d_apb, mkB_b, Φ616, D_rep, Int.toNat_natCast]; exact good0 L)
theorem s0 : ∀ v, Inv 0 v → TOK v (fun _ g => LgOK v (fun q u => Inv q u ∧ lt2 μ (q, u) (0, v)) g) tr0 := by
  rintro v ⟨_, i, L, rfl, h1, h2, h3, h4⟩
  have f1 := finds_none (L := L)
  have f2 := finds_holds (L := L)
  have hg := good0 L
  unfold st0 at f1 f2
  generalize hF : findM L ⟨List.replicate L.length [0], 0, [], false⟩ [] = F at *
  unfold tr0
  repeat' (first
    | (refine TOK.br' (fun g2 => ?_) (fun g2 => ?_) <;> simp (disch := omega) only [d_vi, d_vb, d_vr, d_ci, d_cb, d_nr, d_nl, d_add, d_sub, d_mul, d_rem, d_quo, d_bit, d_mn2, d_mx2, d_w, d_nn, d_bn2, d_len, d_neg, d_cl, d_at1, d_at2, d_at3, d_at4, d_at5, d_at6, d_at7, d_set, d_app, d_cat, d_take, d_drop, d_rep, d_cons, d_lt_t, d_lt_n, d_le_t, d_le_n, d_eqi_t, d_eqi_f, d_eqb_t, d_eqb_f, d_nb_t, d_nb_f, nth0, nthS, d_api, d_apr, D_cons, D_nl, D_nr, D_vr, D_set, mkL_l, mkR_r, mkI_i, d_shr2, d_shr3, d_shr16, d_shr40, d_shl2, d_shl3, d_shl16, d_shl40, d_apb, mkB_b, Φ614, Φ615, Φ616, Φ610, Φ603, Φ602, Φ626, fArg, D_bun, D_cat, D_cons, D_nl, D_nr, D_rep, List.append_nil, List.take_nil, List.drop_nil, Int.toNat_natCast, hg, hF, cntZ_rep] at g2 <;> (try (exfalso; first | omega | (have g2 := of_decide_eq_false g2; omega))))
    | (with_reducible refine TOK.leaf' ?_))
  all_goals first
    | (refine And.intro (?_ : Inv 0 _) (?_ : lt2 μ (0, _) _)
       · simp (disch := omega) only [Sb.val, List.map_cons, List.map_nil, d_vi, d_vb, d_vr, d_ci, d_cb, d_nr, d_nl, d_add, d_sub, d_mul, d_rem, d_quo, d_bit, d_mn2, d_mx2, d_w, d_nn, d_bn2, d_len, d_neg, d_cl, d_at1, d_at2, d_at3, d_at4, d_at5, d_at6, d_at7, d_set, d_app, d_cat, d_take, d_drop, d_rep, d_cons, d_lt_t, d_lt_f, d_le_t, d_le_f, d_eqi_t, d_eqi_f, d_eqb_t, d_eqb_f, d_nb_t, d_nb_f, nth0, nthS, d_api, d_apr, D_cons, D_nl, D_nr, D_vr, D_set, mkL_l, mkR_r, mkI_i, d_shr2, d_shr3, d_shr16, d_shr40, d_shl2, d_shl3, d_shl16, d_shl40, d_apb, mkB_b]
         exact ⟨rfl, i + 1, L, rfl, by omega, by omega, h3, h4⟩
       · refine .inl ?_
         simp (disch := omega) only [μ, Sb.val, List.map_cons, List.map_nil, d_vi, d_vb, d_vr, d_ci, d_cb, d_nr, d_nl, d_add, d_sub, d_mul, d_rem, d_quo, d_bit, d_mn2, d_mx2, d_w, d_nn, d_bn2, d_len, d_neg, d_cl, d_at1, d_at2, d_at3, d_at4, d_at5, d_at6, d_at7, d_set, d_app, d_cat, d_take, d_drop, d_rep, d_cons, d_lt_t, d_lt_f, d_le_t, d_le_f, d_eqi_t, d_eqi_f, d_eqb_t, d_eqb_f, d_nb_t, d_nb_f, nth0, nthS, d_api, d_apr, D_cons, D_nl, D_nr, D_vr, D_set, mkL_l, mkR_r, mkI_i, d_shr2, d_shr3, d_shr16, d_shr40, d_shl2, d_shl3, d_shl16, d_shl40, d_apb, mkB_b]; simp; omega)
    | exact rfl
    | (refine (show (den _ _).b = true from ?_)
       simp (disch := omega) only [d_vi, d_vb, d_vr, d_ci, d_cb, d_nr, d_nl, d_add, d_sub, d_mul, d_rem, d_quo, d_bit, d_mn2, d_mx2, d_w, d_nn, d_bn2, d_len, d_neg, d_cl, d_at1, d_at2, d_at3, d_at4, d_at5, d_at6, d_at7, d_set, d_app, d_cat, d_take, d_drop, d_rep, d_cons, d_lt_t, d_lt_f, d_le_t, d_le_f, d_eqi_t, d_eqi_f, d_eqb_t, d_eqb_f, d_nb_t, d_nb_f, nth0, nthS, d_api, d_apr, D_cons, D_nl, D_nr, D_vr, D_set, mkL_l, mkR_r, mkI_i, d_shr2, d_shr3, d_shr16, d_shr40, d_shl2, d_shl3, d_shl16, d_shl40, d_apb, mkB_b, Φ627, Φ620, Φ610, Φ613, Φ614, Φ615, fArg, D_bun, D_cat, D_cons, D_nl, D_nr, D_rep, List.append_nil, List.take_nil, List.drop_nil, Int.toNat_natCast, hF, d_not_b]
       first
         | exact f2 (by assumption)
         | (rw [show winR 0 0 [] = ([] : Row) from rfl, ← f1]
            simp only [Bool.not_eq_true']; assumption))
theorem sS (l : Row) : TOK (⟨[], [], [l], [], Φ⟩ : Val) (fun _ g => LgOK (⟨[], [], [l], [], Φ⟩ : Val) Inv g) trS := by
  unfold trS
  refine TOK.br' (fun h => TOK.leaf' rfl) (fun h => ?_)
  refine TOK.br' (fun h1 => TOK.leaf' (show Inv 0 _ from ?_)) (fun h => TOK.leaf' rfl)
  simp only [d_vi, d_vb, d_vr, d_ci, d_cb, d_nr, d_nl, d_add, d_sub, d_mul, d_rem, d_quo, d_bit, d_mn2, d_mx2, d_w, d_nn, d_bn2, d_len, d_neg, d_cl, d_at1, d_at2, d_at3, d_at4, d_at5, d_at6, d_at7, d_set, d_app, d_cat, d_take, d_drop, d_rep, d_cons, d_lt_t, d_lt_n, d_le_t, d_le_n, d_eqi_t, d_eqi_f, d_eqb_t, d_eqb_f, d_nb_t, d_nb_f, nth0, nthS, d_api, d_apr, D_cons, D_nl, D_nr, D_vr, D_set, mkL_l, mkR_r, mkI_i, d_shr2, d_shr3, d_shr16, d_shr40, d_shl2, d_shl3, d_shl16, d_shl40, d_apb, mkB_b, Φ603] at h h1
  simp only [Sb.val, List.map_cons, List.map_nil, d_vi, d_vb, d_vr, d_ci, d_cb, d_nr, d_nl, d_add, d_sub, d_mul, d_rem, d_quo, d_bit, d_mn2, d_mx2, d_w, d_nn, d_bn2, d_len, d_neg, d_cl, d_at1, d_at2, d_at3, d_at4, d_at5, d_at6, d_at7, d_set, d_app, d_cat, d_take, d_drop, d_rep, d_cons, d_lt_t, d_lt_f, d_le_t, d_le_f, d_eqi_t, d_eqi_f, d_eqb_t, d_eqb_f, d_nb_t, d_nb_f, nth0, nthS, d_api, d_apr, D_cons, D_nl, D_nr, D_vr, D_set, mkL_l, mkR_r, mkI_i, d_shr2, d_shr3, d_shr16, d_shr40, d_shl2, d_shl3, d_shl16, d_shl40, d_apb, mkB_b]
  exact ⟨rfl, 0, l, rfl, by omega, by omega, by omega, h1⟩
theorem LinFinds_walk (A0 : Option Addr) (n0 c0 : Nat) (l0 : List (List Int)) (w : World) (hr0 : ArgRow w [.i .i64, .i .i64, .i .i64, .i .u64, .i .i64, .i .i64, .i .i64, .b, .i .u64, .i .i64, .i .i64] A0 n0 c0 l0) :
    Calls Try.prog 7 #[.slice A0 n0 c0] w fun e w' => e = .returned (.bool true) ∧ Below w.heap.size w w' :=
  law_calls (v := ⟨[], [], [l0], [], Φ⟩) (l := [⟨A0, n0, c0, [.i .i64, .i .i64, .i .i64, .i .u64, .i .i64, .i .i64, .i .i64, .b, .i .u64, .i .i64, .i .i64], l0⟩]) (args := args) (args' := [.slice A0 n0 c0]) hI0 hfn hbod (by decide) rfl (by simpa using hr0)
    (.cons (arg_slice (id := 0) (s := ⟨A0, n0, c0, [.i .i64, .i .i64, .i .i64, .i .u64, .i .i64, .i .i64, .i .i64, .b, .i .u64, .i .i64, .i .i64], l0⟩) (l := [⟨A0, n0, c0, [.i .i64, .i .i64, .i .i64, .i .u64, .i .i64, .i .i64, .i .i64, .b, .i .u64, .i .i64, .i .i64], l0⟩]) rfl rfl hr0) (.nil _))
    (aw ⟨[], [], [l0], [], Φ⟩ Inv μ rfl hΦ KV.nil k0 (sS l0) s0)
end Go.Proofs.Ytpgkbdkkcladcaa.KLinFinds
