/- The law TextLines: newlines and tabs as signs, all else as it is. A lemma file. -/
import Derived.Test.YtpgkbdkkcladcaaDoorOwnTextLinesS
set_option linter.unusedVariables false
set_option linter.unusedSimpArgs false
set_option maxRecDepth 100000
set_option maxHeartbeats 4000000
namespace Go.Proofs.YtpgkbdkkcladcaaDoor.KTextLines
open Go Go.Lib Go.Proofs.YtpgkbdkkcladcaaDoor.Eng Go.Proofs.YtpgkbdkkcladcaaDoor.Sy Go.Proofs.YtpgkbdkkcladcaaDoor.Tx Go.RowKit Go.WideShapes Go.ChangeShapes
def lnS (x : Bs) : Bs := if x = [10] then [226, 143, 142] else if x = [9] then [226, 135, 165] else x
def want (L : List Bs) : Bs := (L.map lnS).flatten
theorem sg3 : Sg [226, 143, 142] := ⟨by decide, by decide, by decide⟩
theorem sg4 : Sg [226, 135, 165] := ⟨by decide, by decide, by decide⟩
theorem lnS_sg {x : Bs} (h : Sg x) : Sg (lnS x) := by
  unfold lnS
  split
  · exact sg3
  · split
    · exact sg4
    · exact h
theorem lnS_len {x : Bs} (h : Sg x) : (lnS x).length ≤ 3 * x.length := by
  have := List.length_pos_iff.2 h.ne
  unfold lnS
  split
  · simp; omega
  · split
    · simp; omega
    · omega
theorem want_len : ∀ {L : List Bs}, (∀ x ∈ L, Sg x) → (want L).length ≤ 3 * L.flatten.length
  | [], _ => by simp [want]
  | x :: L, h => by
    have h1 := lnS_len (h x (List.mem_cons_self ..))
    have h2 := want_len (L := L) fun y hy => h y (List.mem_cons_of_mem _ hy)
    unfold want at h2 ⊢
    simp only [List.map_cons, List.flatten_cons, List.length_append]
    omega
theorem sign_rune {l : Bs} (hne : l ≠ []) (hb : ¬ bad l) : Lib.encodeRune ((YtpgkbdkkcladcaaDoorLn.lnR (decodeL l).1 : Nat) : Int) = lnS (l.take (decodeL l).2) := by
  have he := encode_decode l hne hb
  have hs := Sg.of hne hb
  unfold YtpgkbdkkcladcaaDoorLn.lnR lnS
  by_cases h10 : (decodeL l).1 = 10
  · have : l.take (decodeL l).2 = [10] := by rw [← he, h10]; decide
    rw [if_pos h10, if_pos this]; decide
  · have n10 : ¬ l.take (decodeL l).2 = [10] := fun e => h10 (by
      have := he
      rw [e] at hs he
      have hd : decodeL (l.take (decodeL l).2 ++ l.drop (decodeL l).2) = decodeL (l.take (decodeL l).2) := dec_app (by rw [e]; exact hs) _
      rw [List.take_append_drop, e] at hd
      rw [hd]; decide)
    rw [if_neg h10, if_neg n10]
    by_cases h9 : (decodeL l).1 = 9
    · have : l.take (decodeL l).2 = [9] := by rw [← he, h9]; decide
      rw [if_pos h9, if_pos this]; decide
    · have n9 : ¬ l.take (decodeL l).2 = [9] := fun e => h9 (by
        rw [e] at hs
        have hd : decodeL (l.take (decodeL l).2 ++ l.drop (decodeL l).2) = decodeL (l.take (decodeL l).2) := dec_app (by rw [e]; exact hs) _
        rw [List.take_append_drop, e] at hd
        rw [hd]; decide)
      rw [if_neg h9, if_neg n9, he]
theorem lines_from (s : ByteArray) : ∀ (fuel pos : Nat), (toL s).length ≤ pos + fuel → validD ((toL s).drop pos) = true → YtpgkbdkkcladcaaDoorLn.linesFrom s fuel pos = want (sg ((toL s).drop pos))
  | 0, pos, h, _ => by
    rw [List.drop_of_length_le (by omega), sg_nil]; rfl
  | fuel + 1, pos, h, hv => by
    unfold YtpgkbdkkcladcaaDoorLn.linesFrom
    by_cases hp : pos < s.size
    · rw [if_pos hp]
      rw [size_L] at hp
      have hne : (toL s).drop pos ≠ [] := fun e => by have := congrArg List.length e; rw [List.length_drop] at this; simp at this; omega
      have hw := decodeL_width ((toL s).drop pos)
      have hstep := validD_step _ hne
      rw [hv] at hstep
      have hb : ¬ bad ((toL s).drop pos) := fun e => by unfold bad at e; rw [if_pos e] at hstep; cases hstep
      rw [if_neg (show ¬ ((decodeL ((toL s).drop pos)).1 = 65533 ∧ (decodeL ((toL s).drop pos)).2 = 1) from hb)] at hstep
      rw [dec_pos, lines_from s fuel (pos + (decodeL ((toL s).drop pos)).2) (by omega) (by rw [← List.drop_drop]; exact hstep.symm), sign_rune hne hb, sg_cons hne, List.drop_drop]
      unfold want
      rw [List.map_cons, List.flatten_cons]
    · rw [if_neg hp]
      rw [size_L] at hp
      rw [List.drop_of_length_le (by omega), sg_nil]; rfl
theorem lines_all {s : ByteArray} (h : validD (toL s) = true) : YtpgkbdkkcladcaaDoorLn.lines s = want (sg (toL s)) := by
  unfold YtpgkbdkkcladcaaDoorLn.lines
  rw [lines_from s s.size 0 (by rw [size_L]; omega) (by simpa using h), List.drop_zero]
theorem want_sg {l : Bs} (h : validD l = true) : (sg (want (sg l))).length = (sg l).length := by
  unfold want
  rw [sg_flat' (fun x hx => by obtain ⟨y, hy, rfl⟩ := List.mem_map.1 hx; exact lnS_sg (valid_all l h y hy)), List.length_map]
theorem want_succ {L : List Bs} {j : Int} (h0 : 0 ≤ j) (h1 : j < (L.length : Int)) : want (L.take (j + 1).toNat) = want (L.take j.toNat) ++ lnS (L.getD j.toNat []) := by
  unfold want
  rw [show (j + 1).toNat = j.toNat + 1 by omega, List.take_add_one, List.getElem?_eq_getElem (by omega), Option.toList_some, List.map_append, List.flatten_append, List.getD_eq_getElem?_getD, List.getElem?_eq_getElem (by omega)]
  simp
theorem row_cl {L : List Bs} {j : Int} (h0 : 0 ≤ j) (h1 : j < (L.length : Int)) : decS (cl (rowS L) j) = ofL (L.getD j.toNat []) := by
  unfold cl rowS
  rw [List.getD_eq_getElem?_getD, List.getElem?_map, List.getElem?_eq_getElem (by omega), List.getD_eq_getElem?_getD, List.getElem?_eq_getElem (by omega)]
  exact decS_enc _
def Inv (k : Nat) (v : Val) : Prop := k = 0 ∧ ∃ j s acc, v = ⟨[((sg (toL s)).length : Int), j], [], [rowS (sg (toL s))], [s, acc], Φ⟩ ∧ 0 ≤ j ∧ j ≤ ((sg (toL s)).length : Int) ∧ validD (toL s) = true ∧ (toL s).length ≤ 300 ∧ toL acc = want ((sg (toL s)).take j.toNat)
def μ (q : Nat × Val) : Nat × Nat := ((2000 - nth 0 q.2.i 1).toNat, 0)
theorem hΦ : ∀ k v, Inv k v → v.f = Φ := by
  rintro k v ⟨_, _, _, _, rfl, _⟩; rfl
theorem k0 : ∀ v, Inv 0 v → KV v tm0.kn := fun v h => KV.nil
theorem s0 : ∀ v, Inv 0 v → TOK v (fun _ g => LgOK v (fun q u => Inv q u ∧ lt2 μ (q, u) (0, v)) g) tr0 := by
  rintro v ⟨_, j, s, acc, rfl, h0, h1, h2, h3, h4⟩
  have hl := sg_len (toL s)
  have hwl : ∀ k, (want ((sg (toL s)).take k)).length ≤ 900 := fun k => by
    have a := want_len (mem_take (valid_all _ h2) k)
    have b := part_len (toL s) 0 k
    rw [List.drop_zero] at b
    omega
  have hw0 := hwl j.toNat
  unfold tr0
  refine TOK.br' (fun h => ?_) (fun h => ?_) <;> simp (disch := omega) only [d_vi, d_vb, d_vr, d_ci, d_cb, d_nr, d_nl, d_add, d_sub, d_mul, d_rem, d_quo, d_bit, d_mn2, d_mx2, d_w, d_nn, d_bn2, d_len, d_neg, d_cl, d_at1, d_at2, d_at3, d_at4, d_at5, d_at6, d_at7, d_set, d_app, d_cat, d_take, d_drop, d_rep, d_cons, d_lt_t, d_lt_n, d_le_t, d_le_n, d_eqi_t, d_eqi_f, d_eqb_t, d_eqb_f, d_nb_t, d_nb_f, nth0, nthS, d_api, d_apr, D_cons, D_nl, D_nr, D_vr, D_set, mkL_l, mkR_r, mkI_i, d_shr2, d_shr3, d_shr16, d_shr40, d_shl2, d_shl3, d_shl16, d_shl40, d_apb, mkB_b, d_vs, d_cs, d_scat, d_sub3, d_slen, d_enc, d_dec, d_rune, d_rlen, d_apt, D_vs, mkS_s] at h
  · have hs := want_succ h0 h
    have hc := row_cl h0 h
    have hw1 := hwl (j + 1).toNat
    rw [hs, List.length_append, ← h4] at hw1
    generalize hx : (sg (toL s)).getD j.toNat [] = x at *
    have nxt : ∀ a : ByteArray, toL a = toL acc ++ lnS x → Inv 0 ⟨[((sg (toL s)).length : Int), j + 1], [], [rowS (sg (toL s))], [s, a], Φ⟩ ∧ lt2 μ (0, ⟨[((sg (toL s)).length : Int), j + 1], [], [rowS (sg (toL s))], [s, a], Φ⟩) (0, ⟨[((sg (toL s)).length : Int), j], [], [rowS (sg (toL s))], [s, acc], Φ⟩) := fun a ha =>
      ⟨⟨rfl, j + 1, s, a, rfl, by omega, by omega, h2, h3, by rw [ha, hs, h4]⟩, .inl (by show (2000 - (j + 1)).toNat < (2000 - j).toNat; omega)⟩
    have l3 : (lnS x).length = (lnS x).length := rfl
    repeat' (first
      | (refine TOK.br' (fun g => ?_) (fun g => ?_) <;> simp (disch := omega) only [d_vi, d_vb, d_vr, d_ci, d_cb, d_nr, d_nl, d_add, d_sub, d_mul, d_rem, d_quo, d_bit, d_mn2, d_mx2, d_w, d_nn, d_bn2, d_len, d_neg, d_cl, d_at1, d_at2, d_at3, d_at4, d_at5, d_at6, d_at7, d_set, d_app, d_cat, d_take, d_drop, d_rep, d_cons, d_lt_t, d_lt_n, d_le_t, d_le_n, d_eqi_t, d_eqi_f, d_eqb_t, d_eqb_f, d_nb_t, d_nb_f, nth0, nthS, d_api, d_apr, D_cons, D_nl, D_nr, D_vr, D_set, mkL_l, mkR_r, mkI_i, d_shr2, d_shr3, d_shr16, d_shr40, d_shl2, d_shl3, d_shl16, d_shl40, d_apb, mkB_b, d_vs, d_cs, d_scat, d_sub3, d_slen, d_enc, d_dec, d_rune, d_rlen, d_apt, D_vs, mkS_s, d_eqs_t, d_eqs_f, toL_inj', rowS_len, hc, toL_ofL, size_L] at g <;> (try (exfalso; omega)))
      | (with_reducible refine TOK.leaf' ?_))
    all_goals first
      | (refine (show Inv 0 _ ∧ lt2 μ (0, _) _ from ?_)
         simp (disch := omega) only [Sb.val, List.map_cons, List.map_nil, d_vi, d_vb, d_vr, d_ci, d_cb, d_nr, d_nl, d_add, d_sub, d_mul, d_rem, d_quo, d_bit, d_mn2, d_mx2, d_w, d_nn, d_bn2, d_len, d_neg, d_cl, d_at1, d_at2, d_at3, d_at4, d_at5, d_at6, d_at7, d_set, d_app, d_cat, d_take, d_drop, d_rep, d_cons, d_lt_t, d_lt_f, d_le_t, d_le_f, d_eqi_t, d_eqi_f, d_eqb_t, d_eqb_f, d_nb_t, d_nb_f, nth0, nthS, d_api, d_apr, D_cons, D_nl, D_nr, D_vr, D_set, mkL_l, mkR_r, mkI_i, d_shr2, d_shr3, d_shr16, d_shr40, d_shl2, d_shl3, d_shl16, d_shl40, d_apb, mkB_b, d_vs, d_cs, d_scat, d_sub3, d_slen, d_enc, d_dec, d_rune, d_rlen, d_apt, D_vs, mkS_s, w64, hc]
         refine nxt _ ?_
         simp only [toL_app, toL_ofL]
         unfold lnS
         first
           | (rw [if_pos (by assumption)])
           | (rw [if_neg (by assumption), if_pos (by assumption)])
           | (rw [if_neg (by assumption), if_neg (by assumption)]))
      | (exfalso
         unfold lnS at hw1
         first
           | (rw [if_pos (by assumption)] at hw1; simp at hw1; omega)
           | (rw [if_neg (by assumption), if_pos (by assumption)] at hw1; simp at hw1; omega)
           | (rw [if_neg (by assumption), if_neg (by assumption)] at hw1; omega)
           | (simp at *; omega))
  · have e : (sg (toL s)).take j.toNat = sg (toL s) := List.take_of_length_le (by omega)
    rw [e] at h4 hw0
    have e2 : toL acc = YtpgkbdkkcladcaaDoorLn.lines s := by rw [h4, lines_all h2]
    repeat' (first
      | (refine TOK.br' (fun g => ?_) (fun g => ?_) <;> simp (disch := omega) only [d_vi, d_vb, d_vr, d_ci, d_cb, d_nr, d_nl, d_add, d_sub, d_mul, d_rem, d_quo, d_bit, d_mn2, d_mx2, d_w, d_nn, d_bn2, d_len, d_neg, d_cl, d_at1, d_at2, d_at3, d_at4, d_at5, d_at6, d_at7, d_set, d_app, d_cat, d_take, d_drop, d_rep, d_cons, d_lt_t, d_lt_n, d_le_t, d_le_n, d_eqi_t, d_eqi_f, d_eqb_t, d_eqb_f, d_nb_t, d_nb_f, nth0, nthS, d_api, d_apr, D_cons, D_nl, D_nr, D_vr, D_set, mkL_l, mkR_r, mkI_i, d_shr2, d_shr3, d_shr16, d_shr40, d_shl2, d_shl3, d_shl16, d_shl40, d_apb, mkB_b, d_vs, d_cs, d_scat, d_sub3, d_slen, d_enc, d_dec, d_rune, d_rlen, d_apt, D_vs, mkS_s, d_eqs_t, d_eqs_f, toL_inj', Φ700, Φ708, toL_ofL, size_L, h2] at g <;> (try exact Bool.noConfusion g) <;> (try (exfalso; rw [h4] at g; omega)) <;> (try (exfalso; omega)))
      | (with_reducible refine TOK.leaf' ?_))
    all_goals first
      | (show (den _ _).b = true
         rw [d_eqi_t]
         simp only [d_vi, d_vb, d_vr, d_ci, d_cb, d_nr, d_nl, d_add, d_sub, d_mul, d_rem, d_quo, d_bit, d_mn2, d_mx2, d_w, d_nn, d_bn2, d_len, d_neg, d_cl, d_at1, d_at2, d_at3, d_at4, d_at5, d_at6, d_at7, d_set, d_app, d_cat, d_take, d_drop, d_rep, d_cons, d_lt_t, d_lt_n, d_le_t, d_le_n, d_eqi_t, d_eqi_f, d_eqb_t, d_eqb_f, d_nb_t, d_nb_f, nth0, nthS, d_api, d_apr, D_cons, D_nl, D_nr, D_vr, D_set, mkL_l, mkR_r, mkI_i, d_shr2, d_shr3, d_shr16, d_shr40, d_shl2, d_shl3, d_shl16, d_shl40, d_apb, mkB_b, d_vs, d_cs, d_scat, d_sub3, d_slen, d_enc, d_dec, d_rune, d_rlen, d_apt, D_vs, mkS_s, Φ703, rowS_len, h4, want_sg h2])
      | (rename_i g; exact absurd e2.symm g)
theorem sS (s : ByteArray) : TOK (⟨[], [], [], [s], Φ⟩ : Val) (fun _ g => LgOK (⟨[], [], [], [s], Φ⟩ : Val) Inv g) trS := by
  unfold trS
  refine TOK.br' (fun h => TOK.leaf' rfl) (fun h1 => ?_)
  simp only [d_vi, d_vb, d_vr, d_ci, d_cb, d_nr, d_nl, d_add, d_sub, d_mul, d_rem, d_quo, d_bit, d_mn2, d_mx2, d_w, d_nn, d_bn2, d_len, d_neg, d_cl, d_at1, d_at2, d_at3, d_at4, d_at5, d_at6, d_at7, d_set, d_app, d_cat, d_take, d_drop, d_rep, d_cons, d_lt_t, d_lt_n, d_le_t, d_le_n, d_eqi_t, d_eqi_f, d_eqb_t, d_eqb_f, d_nb_t, d_nb_f, nth0, nthS, d_api, d_apr, D_cons, D_nl, D_nr, D_vr, D_set, mkL_l, mkR_r, mkI_i, d_shr2, d_shr3, d_shr16, d_shr40, d_shl2, d_shl3, d_shl16, d_shl40, d_apb, mkB_b, d_vs, d_cs, d_scat, d_sub3, d_slen, d_enc, d_dec, d_rune, d_rlen, d_apt, D_vs, mkS_s, size_L] at h1
  refine TOK.br' (fun h => TOK.leaf' (show Inv 0 _ from ?_)) (fun h => TOK.leaf' ?_) <;> simp only [d_vi, d_vb, d_vr, d_ci, d_cb, d_nr, d_nl, d_add, d_sub, d_mul, d_rem, d_quo, d_bit, d_mn2, d_mx2, d_w, d_nn, d_bn2, d_len, d_neg, d_cl, d_at1, d_at2, d_at3, d_at4, d_at5, d_at6, d_at7, d_set, d_app, d_cat, d_take, d_drop, d_rep, d_cons, d_lt_t, d_lt_n, d_le_t, d_le_n, d_eqi_t, d_eqi_f, d_eqb_t, d_eqb_f, d_nb_t, d_nb_f, nth0, nthS, d_api, d_apr, D_cons, D_nl, D_nr, D_vr, D_set, mkL_l, mkR_r, mkI_i, d_shr2, d_shr3, d_shr16, d_shr40, d_shl2, d_shl3, d_shl16, d_shl40, d_apb, mkB_b, d_vs, d_cs, d_scat, d_sub3, d_slen, d_enc, d_dec, d_rune, d_rlen, d_apt, D_vs, mkS_s, Φ700] at h
  · simp only [Sb.val, List.map_cons, List.map_nil, d_vi, d_vb, d_vr, d_ci, d_cb, d_nr, d_nl, d_add, d_sub, d_mul, d_rem, d_quo, d_bit, d_mn2, d_mx2, d_w, d_nn, d_bn2, d_len, d_neg, d_cl, d_at1, d_at2, d_at3, d_at4, d_at5, d_at6, d_at7, d_set, d_app, d_cat, d_take, d_drop, d_rep, d_cons, d_lt_t, d_lt_f, d_le_t, d_le_f, d_eqi_t, d_eqi_f, d_eqb_t, d_eqb_f, d_nb_t, d_nb_f, nth0, nthS, d_api, d_apr, D_cons, D_nl, D_nr, D_vr, D_set, mkL_l, mkR_r, mkI_i, d_shr2, d_shr3, d_shr16, d_shr40, d_shl2, d_shl3, d_shl16, d_shl40, d_apb, mkB_b, d_vs, d_cs, d_scat, d_sub3, d_slen, d_enc, d_dec, d_rune, d_rlen, d_apt, D_vs, mkS_s, Φ705, rowS_len]
    exact ⟨rfl, 0, s, _, rfl, by omega, by omega, h, by omega, rfl⟩
  · show (den _ _).b = true
    show (!(validD (toL s))) = true
    rw [h]; rfl
theorem TextLines_walk (a0 : ByteArray) (w : World) (hB : Base w) :
    Calls Tryd.prog 6 #[.string a0] w fun e w' => e = .returned (.bool true) ∧ Below w.heap.size w w' :=
  law_calls (v := ⟨[], [], [], [a0], Φ⟩) (l := []) (args := args) (args' := [.string a0]) hI0 hfn hbod (by decide) rfl (by simp)
    (.cons (.str _) (.nil _))
    (aw ⟨[], [], [], [a0], Φ⟩ Inv μ rfl hΦ KV.nil k0 (sS a0) s0) hB
end Go.Proofs.YtpgkbdkkcladcaaDoor.KTextLines
