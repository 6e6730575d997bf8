/- The law LinMirror: with all ends changed about calls can be answered so just if they could be ahead. A lemma file. -/
import Derived.Test.YtpgkbdkkcladcaaOwnLinMirrorS
set_option linter.unusedVariables false
set_option linter.unusedSimpArgs false
set_option maxRecDepth 100000
set_option maxHeartbeats 4000000
namespace Go.Proofs.Ytpgkbdkkcladcaa.KLinMirror
open Go Go.Lib Go.Proofs.Ytpgkbdkkcladcaa.Eng Go.Proofs.Ytpgkbdkkcladcaa.Sy Go.RowKit Go.WideShapes Go.ChangeShapes
/-- A call with its end changed about. -/
def mir (d : List Int) : List Int := [nth 0 d 0, nth 0 d 1, if nth 0 d 2 = 0 then 1 else 0, nth 0 d 3, nth 0 d 4, nth 0 d 5, nth 0 d 6, b2i (nbz (nth 0 d 7)), nth 0 d 8, nth 0 d 9, nth 0 d 10]
theorem ok_mir (d : List Int) : okI (mir d) = okI d := by
  have : nth 0 (mir d) 7 = b2i (nbz (nth 0 d 7)) := rfl
  unfold okI; rw [this]; cases nbz (nth 0 d 7) <;> rfl
theorem step_mir {d : List Int} (hd : rightD d = true) (r : Row) : stepO (mir d) r.reverse = stepO d r ∧ stepR (mir d) r.reverse = (stepR d r).reverse := by
  have hr : (nth 0 d 1 = 0 ∨ nth 0 d 1 = 1) ∧ (nth 0 d 2 = 0 ∨ nth 0 d 2 = 1) := by unfold rightD at hd; simpa using hd
  have e1 : nth 0 (mir d) 1 = nth 0 d 1 := rfl
  have e2 : nth 0 (mir d) 2 = if nth 0 d 2 = 0 then 1 else 0 := rfl
  have e3 : nth 0 (mir d) 3 = nth 0 d 3 := rfl
  have e8 : nth 0 (mir d) 8 = nth 0 d 8 := rfl
  unfold stepO stepR
  rw [ok_mir, e1, e2, e3, e8]
  generalize okI d = k
  generalize nth 0 d 1 = a at *
  generalize nth 0 d 2 = b at *
  generalize nth 0 d 3 = x
  generalize nth 0 d 8 = y
  unfold doOk doRow
  rw [List.length_reverse]
  by_cases hk : k = 0
  · subst hk
    obtain ⟨rfl | rfl, _⟩ := hr <;> simp
  · by_cases hl : (r.length : Int) = 0
    · have : r = [] := List.length_eq_zero_iff.1 (by omega)
      subst this
      obtain ⟨rfl | rfl, rfl | rfl⟩ := hr <;> simp [hk]
    · obtain ⟨rfl | rfl, rfl | rfl⟩ := hr <;> simp [hk, hl, List.getElem?_reverse, List.take_reverse, List.drop_reverse]
      · have : r.length - 1 - (r.length - 1) = 0 := by omega
        have h2 : r.length - (r.length - 1) = 1 := by omega
        have hp : 0 < r.length := by omega
        cases r with
        | nil => simp at hl
        | cons z r => simp
      · obtain ⟨q, z, rfl⟩ : ∃ q z, r = q ++ [z] := ⟨r.dropLast, r.getLast (fun h => by subst h; simp at hl), (List.dropLast_concat_getLast _).symm⟩
        simp
theorem legal_mir : ∀ (L : List (List Int)) (r : Row), rightsF L = true → legalF (L.map mir) r.reverse = legalF L r
  | [], r, _ => rfl
  | d :: L, r, h => by
    unfold rightsF at h
    simp only [List.all_cons, Bool.and_eq_true] at h
    obtain ⟨h1, h2⟩ := step_mir h.1 r
    simp only [List.map_cons, legalF, h1, h2]
    rw [legal_mir L _ h.2]
def Inv (k : Nat) (v : Val) : Prop := k = 0 ∧ ∃ i L, v = ⟨[i], [], [L, (L.take i.toNat).map mir], [], Φ⟩ ∧ 0 ≤ i ∧ i ≤ (L.length : Int) ∧ (L.length : Int) ≤ 60 ∧ rightsF L = true
def μ (q : Nat × Val) : Nat × Nat := ((2000 - nth 0 q.2.i 0).toNat, 0)
theorem hΦ : ∀ k v, Inv k v → v.f = Φ := by
  rintro k v ⟨_, _, _, rfl, _⟩; rfl
theorem k0 : ∀ v, Inv 0 v → KV v tm0.kn := fun v h => KV.nil
theorem take_succ' {L : List (List Int)} {i : Int} (h0 : 0 ≤ i) (h1 : i < (L.length : Int)) : (L.take (i + 1).toNat).map mir = (L.take i.toNat).map mir ++ [mir (L.getD i.toNat [])] := by
  rw [show (i + 1).toNat = i.toNat + 1 by omega, List.take_add_one, List.map_append, List.getD_eq_getElem?_getD, List.getElem?_eq_getElem (by omega)]
  rfl
theorem s0 : ∀ v, Inv 0 v → TOK v (fun _ g => LgOK v (fun q u => Inv q u ∧ lt2 μ (q, u) (0, v)) g) tr0 := by
  rintro v ⟨_, i, L, rfl, h1, h2, h3, h4⟩
  have hlen : ((List.map mir (L.take i.toNat)).length : Int) = i := by rw [List.length_map, List.length_take]; omega
  unfold tr0
  repeat' (first
    | (refine TOK.br' (fun h => ?_) (fun h => ?_) <;> simp (disch := omega) only [d_vi, d_vb, d_vr, d_ci, d_cb, d_nr, d_nl, d_add, d_sub, d_mul, d_rem, d_quo, d_bit, d_mn2, d_mx2, d_w, d_nn, d_bn2, d_len, d_neg, d_cl, d_at1, d_at2, d_at3, d_at4, d_at5, d_at6, d_at7, d_set, d_app, d_cat, d_take, d_drop, d_rep, d_cons, d_lt_t, d_lt_n, d_le_t, d_le_n, d_eqi_t, d_eqi_f, d_eqb_t, d_eqb_f, d_nb_t, d_nb_f, nth0, nthS, d_api, d_apr, D_cons, D_nl, D_nr, D_vr, D_set, mkL_l, mkR_r, mkI_i, d_shr2, d_shr3, d_shr16, d_shr40, d_shl2, d_shl3, d_shl16, d_shl40, d_apb, mkB_b, hlen] at h <;> (try (exfalso; omega)))
    | (with_reducible refine TOK.leaf' ?_))
  all_goals first
    | (refine And.intro (?_ : Inv 0 _) (?_ : lt2 μ (0, _) _)
       · simp (disch := omega) only [Sb.val, List.map_cons, List.map_nil, d_vi, d_vb, d_vr, d_ci, d_cb, d_nr, d_nl, d_add, d_sub, d_mul, d_rem, d_quo, d_bit, d_mn2, d_mx2, d_w, d_nn, d_bn2, d_len, d_neg, d_cl, d_at1, d_at2, d_at3, d_at4, d_at5, d_at6, d_at7, d_set, d_app, d_cat, d_take, d_drop, d_rep, d_cons, d_lt_t, d_lt_f, d_le_t, d_le_f, d_eqi_t, d_eqi_f, d_eqb_t, d_eqb_f, d_nb_t, d_nb_f, nth0, nthS, d_api, d_apr, D_cons, D_nl, D_nr, D_vr, D_set, mkL_l, mkR_r, mkI_i, d_shr2, d_shr3, d_shr16, d_shr40, d_shl2, d_shl3, d_shl16, d_shl40, d_apb, mkB_b, w64]
         refine ⟨rfl, i + 1, L, ?_, by omega, by omega, h3, h4⟩
         rw [take_succ' h1 (by omega)]
         unfold mir
         first | (rw [if_pos (by assumption)]; rfl) | (rw [if_neg (by assumption)]; rfl)
       · refine .inl ?_
         simp (disch := omega) only [μ, Sb.val, List.map_cons, List.map_nil, d_vi, d_vb, d_vr, d_ci, d_cb, d_nr, d_nl, d_add, d_sub, d_mul, d_rem, d_quo, d_bit, d_mn2, d_mx2, d_w, d_nn, d_bn2, d_len, d_neg, d_cl, d_at1, d_at2, d_at3, d_at4, d_at5, d_at6, d_at7, d_set, d_app, d_cat, d_take, d_drop, d_rep, d_cons, d_lt_t, d_lt_f, d_le_t, d_le_f, d_eqi_t, d_eqi_f, d_eqb_t, d_eqb_f, d_nb_t, d_nb_f, nth0, nthS, d_api, d_apr, D_cons, D_nl, D_nr, D_vr, D_set, mkL_l, mkR_r, mkI_i, d_shr2, d_shr3, d_shr16, d_shr40, d_shl2, d_shl3, d_shl16, d_shl40, d_apb, mkB_b, w64]; omega)
    | (show (den _ _).b = true
       rw [d_eqb_t]
       simp only [d_vi, d_vb, d_vr, d_ci, d_cb, d_nr, d_nl, d_add, d_sub, d_mul, d_rem, d_quo, d_bit, d_mn2, d_mx2, d_w, d_nn, d_bn2, d_len, d_neg, d_cl, d_at1, d_at2, d_at3, d_at4, d_at5, d_at6, d_at7, d_set, d_app, d_cat, d_take, d_drop, d_rep, d_cons, d_lt_t, d_lt_f, d_le_t, d_le_f, d_eqi_t, d_eqi_f, d_eqb_t, d_eqb_f, d_nb_t, d_nb_f, nth0, nthS, d_api, d_apr, D_cons, D_nl, D_nr, D_vr, D_set, mkL_l, mkR_r, mkI_i, d_shr2, d_shr3, d_shr16, d_shr40, d_shl2, d_shl3, d_shl16, d_shl40, d_apb, mkB_b, Φ602, mkR_r, Int.toNat_natCast, List.take_length]
       have e : L.take i.toNat = L := List.take_of_length_le (by omega)
       rw [e]
       exact legal_mir L [] h4)
theorem sS (l : Row) : TOK (⟨[], [], [l], [], Φ⟩ : Val) (fun _ g => LgOK (⟨[], [], [l], [], Φ⟩ : Val) Inv g) trS := by
  unfold trS
  refine TOK.br' (fun h => TOK.leaf' rfl) (fun h => ?_)
  refine TOK.br' (fun h1 => TOK.leaf' (show Inv 0 _ from ?_)) (fun h => TOK.leaf' rfl)
  simp only [d_vi, d_vb, d_vr, d_ci, d_cb, d_nr, d_nl, d_add, d_sub, d_mul, d_rem, d_quo, d_bit, d_mn2, d_mx2, d_w, d_nn, d_bn2, d_len, d_neg, d_cl, d_at1, d_at2, d_at3, d_at4, d_at5, d_at6, d_at7, d_set, d_app, d_cat, d_take, d_drop, d_rep, d_cons, d_lt_t, d_lt_n, d_le_t, d_le_n, d_eqi_t, d_eqi_f, d_eqb_t, d_eqb_f, d_nb_t, d_nb_f, nth0, nthS, d_api, d_apr, D_cons, D_nl, D_nr, D_vr, D_set, mkL_l, mkR_r, mkI_i, d_shr2, d_shr3, d_shr16, d_shr40, d_shl2, d_shl3, d_shl16, d_shl40, d_apb, mkB_b, Φ603] at h h1
  simp only [Sb.val, List.map_cons, List.map_nil, d_vi, d_vb, d_vr, d_ci, d_cb, d_nr, d_nl, d_add, d_sub, d_mul, d_rem, d_quo, d_bit, d_mn2, d_mx2, d_w, d_nn, d_bn2, d_len, d_neg, d_cl, d_at1, d_at2, d_at3, d_at4, d_at5, d_at6, d_at7, d_set, d_app, d_cat, d_take, d_drop, d_rep, d_cons, d_lt_t, d_lt_f, d_le_t, d_le_f, d_eqi_t, d_eqi_f, d_eqb_t, d_eqb_f, d_nb_t, d_nb_f, nth0, nthS, d_api, d_apr, D_cons, D_nl, D_nr, D_vr, D_set, mkL_l, mkR_r, mkI_i, d_shr2, d_shr3, d_shr16, d_shr40, d_shl2, d_shl3, d_shl16, d_shl40, d_apb, mkB_b]
  exact ⟨rfl, 0, l, rfl, by omega, by omega, by omega, h1⟩
theorem LinMirror_walk (A0 : Option Addr) (n0 c0 : Nat) (l0 : List (List Int)) (w : World) (hr0 : ArgRow w [.i .i64, .i .i64, .i .i64, .i .u64, .i .i64, .i .i64, .i .i64, .b, .i .u64, .i .i64, .i .i64] A0 n0 c0 l0) :
    Calls Try.prog 10 #[.slice A0 n0 c0] w fun e w' => e = .returned (.bool true) ∧ Below w.heap.size w w' :=
  law_calls (v := ⟨[], [], [l0], [], Φ⟩) (l := [⟨A0, n0, c0, [.i .i64, .i .i64, .i .i64, .i .u64, .i .i64, .i .i64, .i .i64, .b, .i .u64, .i .i64, .i .i64], l0⟩]) (args := args) (args' := [.slice A0 n0 c0]) hI0 hfn hbod (by decide) rfl (by simpa using hr0)
    (.cons (arg_slice (id := 0) (s := ⟨A0, n0, c0, [.i .i64, .i .i64, .i .i64, .i .u64, .i .i64, .i .i64, .i .i64, .b, .i .u64, .i .i64, .i .i64], l0⟩) (l := [⟨A0, n0, c0, [.i .i64, .i .i64, .i .i64, .i .u64, .i .i64, .i .i64, .i .i64, .b, .i .u64, .i .i64, .i .i64], l0⟩]) rfl rfl hr0) (.nil _))
    (aw ⟨[], [], [l0], [], Φ⟩ Inv μ rfl hΦ KV.nil k0 (sS l0) s0)
end Go.Proofs.Ytpgkbdkkcladcaa.KLinMirror
