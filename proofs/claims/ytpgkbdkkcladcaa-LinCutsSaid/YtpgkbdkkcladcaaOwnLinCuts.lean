/- The law LinCuts: what can be answered so can be answered so up to any call. A lemma file. -/
import Derived.Test.YtpgkbdkkcladcaaOwnLinCutsS
set_option linter.unusedVariables false
set_option linter.unusedSimpArgs false
set_option maxRecDepth 100000
set_option maxHeartbeats 4000000
namespace Go.Proofs.Ytpgkbdkkcladcaa.KLinCuts
open Go Go.Lib Go.Proofs.Ytpgkbdkkcladcaa.Eng Go.Proofs.Ytpgkbdkkcladcaa.Sy Go.RowKit Go.WideShapes Go.ChangeShapes
theorem legal_take : ∀ (L : List (List Int)) (k : Nat) (r : Row), legalF L r = true → legalF (L.take k) r = true
  | [], k, r, _ => by simp [legalF]
  | d :: L, 0, r, _ => rfl
  | d :: L, k + 1, r, h => by
    simp only [List.take_succ_cons, legalF] at h ⊢
    split
    · rename_i h1; rw [if_pos h1] at h; exact legal_take L k _ h
    · rename_i h1; rw [if_neg h1] at h; cases h
theorem wu_nn (x : Int) : 0 ≤ IntKind.u64.wrap x := by rw [wu64']; omega
theorem sS (a : Int) (l : Row) : TOK (⟨[a], [], [l], [], Φ⟩ : Val) (fun _ g => LgOK (⟨[a], [], [l], [], Φ⟩ : Val) (fun _ _ => False) g) trS := by
  unfold trS
  refine TOK.br' (fun h => TOK.leaf' rfl) (fun h => ?_)
  refine TOK.br' (fun h1 => ?_) (fun h => TOK.leaf' rfl)
  refine TOK.br' (fun h2 => ?_) (fun h => TOK.leaf' rfl)
  simp only [d_vi, d_vb, d_vr, d_ci, d_cb, d_nr, d_nl, d_add, d_sub, d_mul, d_rem, d_quo, d_bit, d_mn2, d_mx2, d_w, d_nn, d_bn2, d_len, d_neg, d_cl, d_at1, d_at2, d_at3, d_at4, d_at5, d_at6, d_at7, d_set, d_app, d_cat, d_take, d_drop, d_rep, d_cons, d_lt_t, d_lt_n, d_le_t, d_le_n, d_eqi_t, d_eqi_f, d_eqb_t, d_eqb_f, d_nb_t, d_nb_f, nth0, nthS, d_api, d_apr, D_cons, D_nl, D_nr, D_vr, D_set, mkL_l, mkR_r, mkI_i, d_shr2, d_shr3, d_shr16, d_shr40, d_shl2, d_shl3, d_shl16, d_shl40, d_apb, mkB_b, Φ602, mkR_r, Int.toNat_natCast, List.take_length] at h2
  refine TOK.br' (fun h3 => ?_) (fun h3 => ?_)
  · refine TOK.br' (fun h4 => TOK.leaf' ?_) (fun h4 => ?_)
    · show (den _ _).b = true
      simp only [d_vi, d_vb, d_vr, d_ci, d_cb, d_nr, d_nl, d_add, d_sub, d_mul, d_rem, d_quo, d_bit, d_mn2, d_mx2, d_w, d_nn, d_bn2, d_len, d_neg, d_cl, d_at1, d_at2, d_at3, d_at4, d_at5, d_at6, d_at7, d_set, d_app, d_cat, d_take, d_drop, d_rep, d_cons, d_lt_t, d_lt_n, d_le_t, d_le_n, d_eqi_t, d_eqi_f, d_eqb_t, d_eqb_f, d_nb_t, d_nb_f, nth0, nthS, d_api, d_apr, D_cons, D_nl, D_nr, D_vr, D_set, mkL_l, mkR_r, mkI_i, d_shr2, d_shr3, d_shr16, d_shr40, d_shl2, d_shl3, d_shl16, d_shl40, d_apb, mkB_b, Φ602, mkR_r]
      exact h2
    · exfalso
      simp only [d_vi, d_vb, d_vr, d_ci, d_cb, d_nr, d_nl, d_add, d_sub, d_mul, d_rem, d_quo, d_bit, d_mn2, d_mx2, d_w, d_nn, d_bn2, d_len, d_neg, d_cl, d_at1, d_at2, d_at3, d_at4, d_at5, d_at6, d_at7, d_set, d_app, d_cat, d_take, d_drop, d_rep, d_cons, d_lt_t, d_lt_n, d_le_t, d_le_n, d_eqi_t, d_eqi_f, d_eqb_t, d_eqb_f, d_nb_t, d_nb_f, nth0, nthS, d_api, d_apr, D_cons, D_nl, D_nr, D_vr, D_set, mkL_l, mkR_r, mkI_i, d_shr2, d_shr3, d_shr16, d_shr40, d_shl2, d_shl3, d_shl16, d_shl40, d_apb, mkB_b, Φ602, mkR_r] at h4
      rw [legal_take _ _ _ h2] at h4
      cases h4
  · exfalso
    simp only [d_vi, d_vb, d_vr, d_ci, d_cb, d_nr, d_nl, d_add, d_sub, d_mul, d_rem, d_quo, d_bit, d_mn2, d_mx2, d_w, d_nn, d_bn2, d_len, d_neg, d_cl, d_at1, d_at2, d_at3, d_at4, d_at5, d_at6, d_at7, d_set, d_app, d_cat, d_take, d_drop, d_rep, d_cons, d_lt_t, d_lt_n, d_le_t, d_le_n, d_eqi_t, d_eqi_f, d_eqb_t, d_eqb_f, d_nb_t, d_nb_f, nth0, nthS, d_api, d_apr, D_cons, D_nl, D_nr, D_vr, D_set, mkL_l, mkR_r, mkI_i, d_shr2, d_shr3, d_shr16, d_shr40, d_shl2, d_shl3, d_shl16, d_shl40, d_apb, mkB_b] at h3
    have h0 := wu_nn a
    rw [Int.tmod_eq_emod_of_nonneg h0] at h3
    have := Int.emod_lt_of_pos (IntKind.u64.wrap a) (show (0 : Int) < (l.length : Int) + 1 by omega)
    omega
theorem LinCuts_walk (A0 : Option Addr) (n0 c0 : Nat) (l0 : List (List Int)) (a1 : Int) (w : World) (hr0 : ArgRow w [.i .i64, .i .i64, .i .i64, .i .u64, .i .i64, .i .i64, .i .i64, .b, .i .u64, .i .i64, .i .i64] A0 n0 c0 l0) (wa1 : (Lit.int .i64 a1).wf = true) :
    Calls Try.prog 9 #[.slice A0 n0 c0, .int .i64 a1] w fun e w' => e = .returned (.bool true) ∧ Below w.heap.size w w' :=
  law_calls (v := ⟨[a1], [], [l0], [], Φ⟩) (l := [⟨A0, n0, c0, [.i .i64, .i .i64, .i .i64, .i .u64, .i .i64, .i .i64, .i .i64, .b, .i .u64, .i .i64, .i .i64], l0⟩]) (args := args) (args' := [.slice A0 n0 c0, .int .i64 a1]) hI0 hfn hbod (by decide) rfl (by simpa using hr0)
    (.cons (arg_slice (id := 0) (s := ⟨A0, n0, c0, [.i .i64, .i .i64, .i .i64, .i .u64, .i .i64, .i .i64, .i .i64, .b, .i .u64, .i .i64, .i .i64], l0⟩) (l := [⟨A0, n0, c0, [.i .i64, .i .i64, .i .i64, .i .u64, .i .i64, .i .i64, .i .i64, .b, .i .u64, .i .i64, .i .i64], l0⟩]) rfl rfl hr0) (.cons (.int _ _) (.nil _)))
    (aw ⟨[a1], [], [l0], [], Φ⟩ (fun _ _ => False) (fun _ => (0, 0)) rfl (fun _ _ h => h.elim) KV.nil  (sS a1 l0) )
end Go.Proofs.Ytpgkbdkkcladcaa.KLinCuts
