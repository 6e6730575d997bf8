/- The law SnapQuiet of snap: where nothing is turned all threads, from wherever they begin, read the same: it answers true for all numbers and all words. No condition. -/
import Derived.Test.YtnkgkdhddaongaaOwnSnapQuietS
import Derived.Test.YtnkgkdhddaongaaOwnS14
set_option linter.unusedVariables false
set_option linter.unusedSimpArgs false
set_option maxRecDepth 100000
set_option maxHeartbeats 16000000
namespace Go.Proofs.Ytnkgkdhddaongaa.KSnapQuiet
open Go Go.Lib Go.Proofs.Ytnkgkdhddaongaa.Eng Go.Proofs.Ytnkgkdhddaongaa.Sy Go.RowKit

/-- What holds everywhere. -/
def FB (N T S : Int) (r1 : List (List Int)) : Prop :=
  1 ≤ T ∧ T ≤ 4 ∧ 1 ≤ S ∧ S ≤ 4 ∧ T * S = N ∧ 1 ≤ N ∧ N ≤ 16 ∧ (r1.length : Int) = 2 * N + 2 * T
/-- One that reads, behind so many steps. -/
def SP (N i st k ps : Int) (b : Bool) (ph : Int) (rc rw : List (List Int)) : Prop :=
  (0 ≤ st ∧ st < N ∧ (rw.length : Int) = N ∧ 0 ≤ k ∧ k < N ∧ 0 ≤ ps ∧ ps ≤ 2 ∧ 0 ≤ ph ∧ ph ≤ 1) ∧
  (i < N → ps = 0 ∧ k = i ∧ ph = 0 ∧ (0 < k → b = false) ∧ ∀ q, 0 ≤ q → q < k → cl rw ((st + q) % N) = cl rc ((st + q) % N)) ∧
  (N ≤ i → (∀ j, 0 ≤ j → j < N → cl rw j = cl rc j) ∧ (i < 2 * N → ps = 1 ∧ k = i - N ∧ ph = 0 ∧ (0 < k → b = true)) ∧ (2 * N ≤ i → ps = 2 ∧ ph = 1))
theorem SP.step {N i st k ps k' ps' ph ph' : Int} {b b' : Bool} {rc rc' rw : List (List Int)} (h : SP N i st k ps b ph rc rw) (h0 : 0 ≤ i) (h1 : i < 2 * N) (hc : ∀ j, cl rc' j = cl rc j)
    (hd : (i < N ∧ k + 1 < N ∧ k' = k + 1 ∧ ps' = 0 ∧ ph' = 0 ∧ b' = false) ∨ (i < N ∧ k + 1 = N ∧ k' = 0 ∧ ps' = 1 ∧ ph' = 0) ∨ (N ≤ i ∧ k + 1 < N ∧ k' = k + 1 ∧ ps' = 1 ∧ ph' = 0 ∧ b' = true) ∨ (N ≤ i ∧ k + 1 = N ∧ k' = 0 ∧ ps' = 2 ∧ ph' = 1)) :
    SP N (i + 1) st k' ps' b' ph' rc' (rw.set ((st + k) % N).toNat [cl rc ((st + k) % N)]) := by
  obtain ⟨hb, hA, hB⟩ := h
  have hx := mod_in (a := st + k) (N := N) (by omega)
  have hvis : i < N → ∀ q, 0 ≤ q → q < k + 1 → cl (rw.set ((st + k) % N).toNat [cl rc ((st + k) % N)]) ((st + q) % N) = cl rc' ((st + q) % N) := fun z q g1 g2 => by
    rw [hc]
    rcases (by omega : q < k ∨ q = k) with g | g
    · exact cl_copy hx.1 (mod_in (by omega)).1 ((hA z).2.2.2.2 q g1 g)
    · rw [g]; exact cl_self hx.1 (by omega)
  have hall : N ≤ i → ∀ j, 0 ≤ j → j < N → cl (rw.set ((st + k) % N).toNat [cl rc ((st + k) % N)]) j = cl rc' j := fun z j g1 g2 => by
    rw [hc]; exact cl_copy hx.1 g1 ((hB z).1 j g1 g2)
  refine ⟨?_, ?_, ?_⟩
  · rw [List.length_set]; rcases hd with hd | hd | hd | hd <;> omega
  · intro z
    rcases hd with ⟨d1, d2, d3, d4, d5, d6⟩ | ⟨d1, d2, d3, d4, d5⟩ | ⟨d1, d2, d3, d4, d5, d6⟩ | ⟨d1, d2, d3, d4, d5⟩
    · have := hA d1
      refine ⟨d4, by omega, d5, fun _ => d6, fun q g1 g2 => hvis d1 q g1 (by omega)⟩
    · have := hA d1; omega
    · omega
    · omega
  · intro z
    rcases hd with ⟨d1, d2, d3, d4, d5, d6⟩ | ⟨d1, d2, d3, d4, d5⟩ | ⟨d1, d2, d3, d4, d5, d6⟩ | ⟨d1, d2, d3, d4, d5⟩
    · have := hA d1; omega
    · have h3 := hA d1
      refine ⟨fun j g1 g2 => ?_, fun g => ⟨d4, by omega, d5, fun g => by omega⟩, fun g => by omega⟩
      obtain ⟨q, f1, f2, f3⟩ := mod_sur (st := st) (s := j) (N := N) (by omega) (by omega) g1 g2
      rw [← f3]; exact hvis d1 q f1 (by omega)
    · have h3 := (hB d1).2.1 h1
      exact ⟨hall d1, fun g => ⟨d4, by omega, d5, fun _ => d6⟩, fun g => by omega⟩
    · have h3 := (hB d1).2.1 h1
      exact ⟨hall d1, fun g => by omega, fun g => ⟨d4, d5⟩⟩
def Inv0 (v : Val) : Prop := ∃ (one two i T S N : Int) (r0 r1 r2 : List (List Int)), v = ⟨[one, two, i, T, S], [], [r0, r1, r2], []⟩ ∧ FB N T S r1 ∧ 0 ≤ i ∧ i ≤ N ∧ (r2.length : Int) ≤ i ∧ (r0.length : Int) ≤ 64
def Inv1 (v : Val) : Prop := ∃ (i T S wa sa ka pa ha wb sb kb pb hb N : Int) (ba bb : Bool) (r0 r1 r2 r3 r4 : List (List Int)), v = ⟨[i, T, S, wa, sa, ka, pa, ha, wb, sb, kb, pb, hb], [ba, bb], [r0, r1, r2, r3, r4], []⟩ ∧ FB N T S r1 ∧
  (0 ≤ i ∧ i ≤ 2 * N ∧ (r2.length : Int) ≤ 17 + 2 * i ∧ 0 ≤ wa ∧ wa ≤ 3 ∧ 0 ≤ wb ∧ wb ≤ 3) ∧ SP N i sa ka pa ba ha r1 r3 ∧ SP N i sb kb pb bb hb r1 r4
def Inv2 (v : Val) : Prop := ∃ (N j T S wa sa ka ha wb sb kb hb : Int) (ba bb : Bool) (r0 r1 r2 r3 r4 r5 r6 : List (List Int)), v = ⟨[N, j, T, S, wa, sa, ka, 2, ha, wb, sb, kb, 2, hb], [ba, bb], [r0, r1, r2, r3, r4, r5, r6], []⟩ ∧ FB N T S r3 ∧
  (0 ≤ j ∧ j ≤ N ∧ (r1.length : Int) = N ∧ (r2.length : Int) = N) ∧ (∀ q, 0 ≤ q → q < N → cl r1 q = cl r3 q) ∧ (∀ q, 0 ≤ q → q < N → cl r2 q = cl r3 q)
def Inv (p : Nat) (v : Val) : Prop := (p = 0 ∧ Inv0 v) ∨ (p = 1 ∧ Inv1 v) ∨ (p = 2 ∧ Inv2 v)
def μ (q : Nat × Val) : Nat × Nat := match q.1 with
  | 0 => (3, (100 - nth 0 q.2.i 2).toNat)
  | 1 => (2, (100 - nth 0 q.2.i 0).toNat)
  | _ => (1, (100 - nth 0 q.2.i 1).toNat)
theorem inv0 {v : Val} (h : Inv 0 v) : Inv0 v := by rcases h with ⟨_, h⟩ | ⟨h, _⟩ | ⟨h, _⟩ <;> first | exact h | (exact absurd h (by decide))
theorem inv1 {v : Val} (h : Inv 1 v) : Inv1 v := by rcases h with ⟨h, _⟩ | ⟨_, h⟩ | ⟨h, _⟩ <;> first | exact h | (exact absurd h (by decide))
theorem inv2 {v : Val} (h : Inv 2 v) : Inv2 v := by rcases h with ⟨h, _⟩ | ⟨h, _⟩ | ⟨_, h⟩ <;> first | exact h | (exact absurd h (by decide))
theorem k0 : ∀ v, Inv 0 v → KV v tm0.kn := by
  intro v hv
  obtain ⟨one, two, i, T, S, N, r0, r1, r2, rfl, hB, h1⟩ := inv0 hv
  unfold FB at hB
  unfold tm0
  repeat' (first | exact KV.nil | refine KV.cons ?_ ?_)
  all_goals (simp (disch := omega) only [d_cl, d_vi, d_vb, d_vr, d_ci, d_cb, d_nr, d_nl, d_add, d_sub, d_mul, d_rem, d_quo, d_bit, d_mn, d_mx, d_w, d_nn, d_bn, d_len, d_neg, d_at0, d_at1, d_at2, d_at3, d_at4, d_at5, d_at6, d_at7, d_set, d_app, d_cat, d_take, d_drop, d_rep, d_cons, d_lt_t, d_lt_f, d_le_t, d_le_f, d_eqi_t, d_eqi_f, d_eqb_t, d_eqb_f, d_nb_t, d_nb_f, nth0, nthS, w64]; omega)
theorem k1 : ∀ v, Inv 1 v → KV v tm1.kn := by
  intro v hv
  obtain ⟨i, T, S, wa, sa, ka, pa, ha, wb, sb, kb, pb, hb, N, ba, bb, r0, r1, r2, r3, r4, rfl, hB, h1, hA1, hA2⟩ := inv1 hv
  unfold FB at hB
  have hN : T * S = N := hB.2.2.2.2.1
  have e1 := hA1.1
  have e2 := hA2.1
  have hx := mod_in (a := sa + ka) (N := N) (by omega)
  have hy := mod_in (a := sb + kb) (N := N) (by omega)
  unfold tm1
  repeat' (first | exact KV.nil | refine KV.cons ?_ ?_)
  all_goals (simp (disch := omega) only [d_cl, d_vi, d_vb, d_vr, d_ci, d_cb, d_nr, d_nl, d_add, d_sub, d_mul, d_rem, d_quo, d_bit, d_mn, d_mx, d_w, d_nn, d_bn, d_len, d_neg, d_at0, d_at1, d_at2, d_at3, d_at4, d_at5, d_at6, d_at7, d_set, d_app, d_cat, d_take, d_drop, d_rep, d_cons, d_lt_t, d_lt_f, d_le_t, d_le_f, d_eqi_t, d_eqi_f, d_eqb_t, d_eqb_f, d_nb_t, d_nb_f, nth0, nthS, w64, hN, tmod_pos]; omega)
theorem k2 : ∀ v, Inv 2 v → KV v tm2.kn := by
  intro v hv
  obtain ⟨N, j, T, S, wa, sa, ka, ha, wb, sb, kb, hb, ba, bb, r0, r1, r2, r3, r4, r5, r6, rfl, hB, h1, hE1, hE2⟩ := inv2 hv
  unfold FB at hB
  unfold tm2
  repeat' (first | exact KV.nil | refine KV.cons ?_ ?_)
  all_goals (simp (disch := omega) only [d_cl, d_vi, d_vb, d_vr, d_ci, d_cb, d_nr, d_nl, d_add, d_sub, d_mul, d_rem, d_quo, d_bit, d_mn, d_mx, d_w, d_nn, d_bn, d_len, d_neg, d_at0, d_at1, d_at2, d_at3, d_at4, d_at5, d_at6, d_at7, d_set, d_app, d_cat, d_take, d_drop, d_rep, d_cons, d_lt_t, d_lt_f, d_le_t, d_le_f, d_eqi_t, d_eqi_f, d_eqb_t, d_eqb_f, d_nb_t, d_nb_f, nth0, nthS, w64]; omega)
theorem s0 : ∀ v, Inv 0 v → TOK v (fun _ g => LgOK v (fun q u => Inv q u ∧ lt2 μ (q, u) (0, v)) g) tr0 := by
  intro v hv
  obtain ⟨one, two, i, T, S, N, r0, r1, r2, rfl, hB, h1⟩ := inv0 hv
  have hB' := hB
  unfold FB at hB'
  have hN : T * S = N := hB'.2.2.2.2.1
  have u1 : 0 ≤ IntKind.u64.wrap one := by rw [wu64']; omega
  have u2 : 0 ≤ IntKind.u64.wrap two := by rw [wu64']; omega
  have m1 := mod_in (a := IntKind.u64.wrap one) (N := N) (by omega)
  have m2 := mod_in (a := IntKind.u64.wrap two) (N := N) (by omega)
  have go : Inv 1 ⟨[0, T, S, 0, IntKind.u64.wrap one % N, 0, 0, 0, T + -1, IntKind.u64.wrap two % N, 0, 0, 0], [false, false], [r0, r1, r2, List.replicate N.toNat [0], List.replicate N.toNat [0]], []⟩ := by
    refine .inr (.inl ⟨rfl, 0, T, S, 0, _, 0, 0, 0, T + -1, _, 0, 0, 0, N, false, false, r0, r1, r2, _, _, rfl, hB, by omega, ⟨?_, fun g => ⟨rfl, rfl, rfl, fun _ => rfl, fun q g1 g2 => by omega⟩, fun g => by omega⟩, ⟨?_, fun g => ⟨rfl, rfl, rfl, fun _ => rfl, fun q g1 g2 => by omega⟩, fun g => by omega⟩⟩)
    · rw [List.length_replicate]; omega
    · rw [List.length_replicate]; omega
  unfold tr0
  refine TOK.br' (fun h => ?_) (fun h => ?_) <;> simp only [d_vi, d_vb, d_vr, d_ci, d_cb, d_nr, d_nl, d_add, d_sub, d_mul, d_rem, d_quo, d_bit, d_mn, d_mx, d_w, d_nn, d_bn, d_len, d_neg, d_at0, d_at1, d_at2, d_at3, d_at4, d_at5, d_at6, d_at7, d_set, d_app, d_cat, d_take, d_drop, d_rep, d_cons, d_lt_t, d_lt_f, d_le_t, d_le_f, d_eqi_t, d_eqi_f, d_eqb_t, d_eqb_f, d_nb_t, d_nb_f, nth0, nthS, hN] at h
  · refine TOK.br' (fun g => ?_) (fun g => ?_) <;> simp only [d_vi, d_vb, d_vr, d_ci, d_cb, d_nr, d_nl, d_add, d_sub, d_mul, d_rem, d_quo, d_bit, d_mn, d_mx, d_w, d_nn, d_bn, d_len, d_neg, d_at0, d_at1, d_at2, d_at3, d_at4, d_at5, d_at6, d_at7, d_set, d_app, d_cat, d_take, d_drop, d_rep, d_cons, d_lt_t, d_lt_f, d_le_t, d_le_f, d_eqi_t, d_eqi_f, d_eqb_t, d_eqb_f, d_nb_t, d_nb_f, nth0, nthS] at g
    · refine ⟨.inl ⟨rfl, one, two, i + 1, T, S, N, r0, _, _, rfl, ?_, by omega, by omega, ?_, by omega⟩, .inr ⟨rfl, ?_⟩⟩
      · unfold FB; simp only [d_vi, d_vb, d_vr, d_ci, d_cb, d_nr, d_nl, d_add, d_sub, d_mul, d_rem, d_quo, d_bit, d_mn, d_mx, d_w, d_nn, d_bn, d_len, d_neg, d_at0, d_at1, d_at2, d_at3, d_at4, d_at5, d_at6, d_at7, d_set, d_app, d_cat, d_take, d_drop, d_rep, d_cons, d_lt_t, d_lt_f, d_le_t, d_le_f, d_eqi_t, d_eqi_f, d_eqb_t, d_eqb_f, d_nb_t, d_nb_f, nth0, nthS, List.length_set]; exact hB
      · simp only [d_vi, d_vb, d_vr, d_ci, d_cb, d_nr, d_nl, d_add, d_sub, d_mul, d_rem, d_quo, d_bit, d_mn, d_mx, d_w, d_nn, d_bn, d_len, d_neg, d_at0, d_at1, d_at2, d_at3, d_at4, d_at5, d_at6, d_at7, d_set, d_app, d_cat, d_take, d_drop, d_rep, d_cons, d_lt_t, d_lt_f, d_le_t, d_le_f, d_eqi_t, d_eqi_f, d_eqb_t, d_eqb_f, d_nb_t, d_nb_f, nth0, nthS, List.length_append, List.length_cons, List.length_nil]; omega
      · simp only [μ, Sb.val, List.map_cons, List.map_nil, d_vi, d_vb, d_vr, d_ci, d_cb, d_nr, d_nl, d_add, d_sub, d_mul, d_rem, d_quo, d_bit, d_mn, d_mx, d_w, d_nn, d_bn, d_len, d_neg, d_at0, d_at1, d_at2, d_at3, d_at4, d_at5, d_at6, d_at7, d_set, d_app, d_cat, d_take, d_drop, d_rep, d_cons, d_lt_t, d_lt_f, d_le_t, d_le_f, d_eqi_t, d_eqi_f, d_eqb_t, d_eqb_f, d_nb_t, d_nb_f, nth0, nthS]; omega
    · refine And.intro (?_ : Inv 1 _) (.inl (by simp [μ]))
      simp (disch := omega) only [Sb.val, List.map_cons, List.map_nil, d_vi, d_vb, d_vr, d_ci, d_cb, d_nr, d_nl, d_add, d_sub, d_mul, d_rem, d_quo, d_bit, d_mn, d_mx, d_w, d_nn, d_bn, d_len, d_neg, d_at0, d_at1, d_at2, d_at3, d_at4, d_at5, d_at6, d_at7, d_set, d_app, d_cat, d_take, d_drop, d_rep, d_cons, d_lt_t, d_lt_f, d_le_t, d_le_f, d_eqi_t, d_eqi_f, d_eqb_t, d_eqb_f, d_nb_t, d_nb_f, nth0, nthS, hN, tmod_pos]
      exact go
  · refine And.intro (?_ : Inv 1 _) (.inl (by simp [μ]))
    simp (disch := omega) only [Sb.val, List.map_cons, List.map_nil, d_vi, d_vb, d_vr, d_ci, d_cb, d_nr, d_nl, d_add, d_sub, d_mul, d_rem, d_quo, d_bit, d_mn, d_mx, d_w, d_nn, d_bn, d_len, d_neg, d_at0, d_at1, d_at2, d_at3, d_at4, d_at5, d_at6, d_at7, d_set, d_app, d_cat, d_take, d_drop, d_rep, d_cons, d_lt_t, d_lt_f, d_le_t, d_le_f, d_eqi_t, d_eqi_f, d_eqb_t, d_eqb_f, d_nb_t, d_nb_f, nth0, nthS, hN, tmod_pos]
    exact go
theorem s1 : ∀ v, Inv 1 v → TOK v (fun _ g => LgOK v (fun q u => Inv q u ∧ lt2 μ (q, u) (1, v)) g) tr1 := by
  intro v hv
  obtain ⟨i, T, S, wa, sa, ka, pa, ha, wb, sb, kb, pb, hb, N, ba, bb, r0, r1, r2, r3, r4, rfl, hB, h1, hA1, hA2⟩ := inv1 hv
  have hB' := hB
  unfold FB at hB'
  have hN : T * S = N := hB'.2.2.2.2.1
  have e1 := hA1.1
  have e2 := hA2.1
  have hx := mod_in (a := sa + ka) (N := N) (by omega)
  have hy := mod_in (a := sb + kb) (N := N) (by omega)
  have step : i < 2 * N → ∀ (ba' bb' : Bool) (ka' pa' ha' kb' pb' hb' : Int) (l1 l2 : List Int),
      ((i < N ∧ ka + 1 < N ∧ ka' = ka + 1 ∧ pa' = 0 ∧ ha' = 0 ∧ ba' = false) ∨ (i < N ∧ ka + 1 = N ∧ ka' = 0 ∧ pa' = 1 ∧ ha' = 0) ∨ (N ≤ i ∧ ka + 1 < N ∧ ka' = ka + 1 ∧ pa' = 1 ∧ ha' = 0 ∧ ba' = true) ∨ (N ≤ i ∧ ka + 1 = N ∧ ka' = 0 ∧ pa' = 2 ∧ ha' = 1)) →
      ((i < N ∧ kb + 1 < N ∧ kb' = kb + 1 ∧ pb' = 0 ∧ hb' = 0 ∧ bb' = false) ∨ (i < N ∧ kb + 1 = N ∧ kb' = 0 ∧ pb' = 1 ∧ hb' = 0) ∨ (N ≤ i ∧ kb + 1 < N ∧ kb' = kb + 1 ∧ pb' = 1 ∧ hb' = 0 ∧ bb' = true) ∨ (N ≤ i ∧ kb + 1 = N ∧ kb' = 0 ∧ pb' = 2 ∧ hb' = 1)) →
      Inv 1 ⟨[i + 1, T, S, wa, sa, ka', pa', ha', wb, sb, kb', pb', hb'], [ba', bb'], [r0, (r1.set ((sa + ka) % N).toNat [cl r1 ((sa + ka) % N)]).set ((sb + kb) % N).toNat [cl r1 ((sb + kb) % N)], r2 ++ [l1] ++ [l2], r3.set ((sa + ka) % N).toNat [cl r1 ((sa + ka) % N)], r4.set ((sb + kb) % N).toNat [cl r1 ((sb + kb) % N)]], []⟩ := by
    intro g ba' bb' ka' pa' ha' kb' pb' hb' l1 l2 d1 d2
    have hc : ∀ j, cl ((r1.set ((sa + ka) % N).toNat [cl r1 ((sa + ka) % N)]).set ((sb + kb) % N).toNat [cl r1 ((sb + kb) % N)]) j = cl r1 j := fun j => by
      rw [show cl r1 ((sb + kb) % N) = cl (r1.set ((sa + ka) % N).toNat [cl r1 ((sa + ka) % N)]) ((sb + kb) % N) from (cl_load _ _ _).symm, cl_load, cl_load]
    refine .inr (.inl ⟨rfl, _, _, _, _, _, _, _, _, _, _, _, _, _, N, _, _, _, _, _, _, _, rfl, ?_, ?_, hA1.step h1.1 g hc d1, hA2.step h1.1 g hc d2⟩)
    · unfold FB; rw [List.length_set, List.length_set]; exact hB
    · rw [List.length_append, List.length_append]; simp only [List.length_cons, List.length_nil]; omega
  have dec : ∀ (a b c d e f g h k l : Int) (x y : Bool) (l0 l1 l2 l3 l4 : List (List Int)), lt2 μ (1, ⟨[i + 1, T, S, wa, a, b, c, d, e, f, g, h, k], [x, y], [l0, l1, l2, l3, l4], []⟩) (1, ⟨[i, T, S, wa, sa, ka, pa, ha, wb, sb, kb, pb, hb], [ba, bb], [r0, r1, r2, r3, r4], []⟩) := fun a b c d e f g h k l x y l0 l1 l2 l3 l4 => .inr ⟨rfl, by simp only [μ, nth0, nthS]; omega⟩
  unfold tr1 tr1_0_1 tr1_0_0_1_1 tr1_0_0_1_0_1_1 tr1_0_0_1_0_1_0 tr1_0_0_1_0_0 tr1_0_0_0_1 tr1_0_0_0_0_1_1 tr1_0_0_0_0_1_0 tr1_0_0_0_0_0
  refine TOK.br' (fun hlt => ?_) (fun h => ?_)
  · simp only [d_vi, d_vb, d_vr, d_ci, d_cb, d_nr, d_nl, d_add, d_sub, d_mul, d_rem, d_quo, d_bit, d_mn, d_mx, d_w, d_nn, d_bn, d_len, d_neg, d_at0, d_at1, d_at2, d_at3, d_at4, d_at5, d_at6, d_at7, d_set, d_app, d_cat, d_take, d_drop, d_rep, d_cons, d_lt_t, d_lt_f, d_le_t, d_le_f, d_eqi_t, d_eqi_f, d_eqb_t, d_eqb_f, d_nb_t, d_nb_f, nth0, nthS, hN] at hlt
    rcases (by omega : i < N ∨ N ≤ i) with z | z
    · obtain ⟨f1, f2, f3, f4, -⟩ := hA1.2.1 z
      obtain ⟨g1, g2, g3, g4, -⟩ := hA2.2.1 z
      rcases (by omega : i = 0 ∨ 0 < i) with y | y
      · repeat' (first
          | (refine TOK.br' (fun h => ?_) (fun h => ?_) <;> (try simp (disch := omega) only [d_cl, d_vi, d_vb, d_vr, d_ci, d_cb, d_nr, d_nl, d_add, d_sub, d_mul, d_rem, d_quo, d_bit, d_mn, d_mx, d_w, d_nn, d_bn, d_len, d_neg, d_at0, d_at1, d_at2, d_at3, d_at4, d_at5, d_at6, d_at7, d_set, d_app, d_cat, d_take, d_drop, d_rep, d_cons, d_lt_t, d_lt_f, d_le_t, d_le_f, d_eqi_t, d_eqi_f, d_eqb_t, d_eqb_f, d_nb_t, d_nb_f, nth0, nthS, hN, tmod_pos, cl_load] at h) <;> (try (exfalso; omega)))
          | (with_reducible refine TOK.leaf' ?_))
        all_goals
          refine And.intro (?_ : Inv 1 _) (?_ : lt2 μ (1, _) _) <;> simp (disch := omega) only [Sb.val, List.map_cons, List.map_nil, d_cl, d_vi, d_vb, d_vr, d_ci, d_cb, d_nr, d_nl, d_add, d_sub, d_mul, d_rem, d_quo, d_bit, d_mn, d_mx, d_w, d_nn, d_bn, d_len, d_neg, d_at0, d_at1, d_at2, d_at3, d_at4, d_at5, d_at6, d_at7, d_set, d_app, d_cat, d_take, d_drop, d_rep, d_cons, d_lt_t, d_lt_f, d_le_t, d_le_f, d_eqi_t, d_eqi_f, d_eqb_t, d_eqb_f, d_nb_t, d_nb_f, nth0, nthS, hN, tmod_pos, cl_load]
          · refine step hlt _ _ _ _ _ _ _ _ _ _ ?_ ?_
            · first
              | exact .inl ⟨z, by omega, by omega, by omega, by omega, rfl⟩
              | exact .inr (.inl ⟨z, by omega, by omega, by omega, by omega⟩)
            · first
              | exact .inl ⟨z, by omega, by omega, by omega, by omega, rfl⟩
              | exact .inr (.inl ⟨z, by omega, by omega, by omega, by omega⟩)
          · exact dec _ _ _ _ _ _ _ _ _ 0 _ _ _ _ _ _ _
      · obtain rfl := f4 (by omega)
        obtain rfl := g4 (by omega)
        repeat' (first
          | (refine TOK.br' (fun h => ?_) (fun h => ?_) <;> (try simp (disch := omega) only [d_cl, d_vi, d_vb, d_vr, d_ci, d_cb, d_nr, d_nl, d_add, d_sub, d_mul, d_rem, d_quo, d_bit, d_mn, d_mx, d_w, d_nn, d_bn, d_len, d_neg, d_at0, d_at1, d_at2, d_at3, d_at4, d_at5, d_at6, d_at7, d_set, d_app, d_cat, d_take, d_drop, d_rep, d_cons, d_lt_t, d_lt_f, d_le_t, d_le_f, d_eqi_t, d_eqi_f, d_eqb_t, d_eqb_f, d_nb_t, d_nb_f, nth0, nthS, hN, tmod_pos, cl_load] at h) <;> (try (exfalso; first | omega | contradiction)))
          | (with_reducible refine TOK.leaf' ?_))
        all_goals
          refine And.intro (?_ : Inv 1 _) (?_ : lt2 μ (1, _) _) <;> simp (disch := omega) only [Sb.val, List.map_cons, List.map_nil, d_cl, d_vi, d_vb, d_vr, d_ci, d_cb, d_nr, d_nl, d_add, d_sub, d_mul, d_rem, d_quo, d_bit, d_mn, d_mx, d_w, d_nn, d_bn, d_len, d_neg, d_at0, d_at1, d_at2, d_at3, d_at4, d_at5, d_at6, d_at7, d_set, d_app, d_cat, d_take, d_drop, d_rep, d_cons, d_lt_t, d_lt_f, d_le_t, d_le_f, d_eqi_t, d_eqi_f, d_eqb_t, d_eqb_f, d_nb_t, d_nb_f, nth0, nthS, hN, tmod_pos, cl_load]
          · refine step hlt _ _ _ _ _ _ _ _ _ _ ?_ ?_
            · first
              | exact .inl ⟨z, by omega, by omega, by omega, by omega, rfl⟩
              | exact .inr (.inl ⟨z, by omega, by omega, by omega, by omega⟩)
            · first
              | exact .inl ⟨z, by omega, by omega, by omega, by omega, rfl⟩
              | exact .inr (.inl ⟨z, by omega, by omega, by omega, by omega⟩)
          · exact dec _ _ _ _ _ _ _ _ _ 0 _ _ _ _ _ _ _
    · obtain ⟨q1, q2, -⟩ := hA1.2.2 z
      obtain ⟨f1, f2, f3, f4⟩ := q2 hlt
      obtain ⟨q3, q4, -⟩ := hA2.2.2 z
      obtain ⟨g1, g2, g3, g4⟩ := q4 hlt
      have x1 : cl r1 ((sa + ka) % N) = cl r3 ((sa + ka) % N) := (q1 _ hx.1 hx.2).symm
      have x2 : cl r1 ((sb + kb) % N) = cl r4 ((sb + kb) % N) := (q3 _ hy.1 hy.2).symm
      rcases (by omega : i = N ∨ N < i) with y | y
      · repeat' (first
          | (refine TOK.br' (fun h => ?_) (fun h => ?_) <;> (try simp (disch := omega) only [d_cl, d_vi, d_vb, d_vr, d_ci, d_cb, d_nr, d_nl, d_add, d_sub, d_mul, d_rem, d_quo, d_bit, d_mn, d_mx, d_w, d_nn, d_bn, d_len, d_neg, d_at0, d_at1, d_at2, d_at3, d_at4, d_at5, d_at6, d_at7, d_set, d_app, d_cat, d_take, d_drop, d_rep, d_cons, d_lt_t, d_lt_f, d_le_t, d_le_f, d_eqi_t, d_eqi_f, d_eqb_t, d_eqb_f, d_nb_t, d_nb_f, nth0, nthS, hN, tmod_pos, cl_load] at h) <;> (try (exfalso; omega)))
          | (with_reducible refine TOK.leaf' ?_))
        all_goals
          refine And.intro (?_ : Inv 1 _) (?_ : lt2 μ (1, _) _) <;> simp (disch := omega) only [Sb.val, List.map_cons, List.map_nil, d_cl, d_vi, d_vb, d_vr, d_ci, d_cb, d_nr, d_nl, d_add, d_sub, d_mul, d_rem, d_quo, d_bit, d_mn, d_mx, d_w, d_nn, d_bn, d_len, d_neg, d_at0, d_at1, d_at2, d_at3, d_at4, d_at5, d_at6, d_at7, d_set, d_app, d_cat, d_take, d_drop, d_rep, d_cons, d_lt_t, d_lt_f, d_le_t, d_le_f, d_eqi_t, d_eqi_f, d_eqb_t, d_eqb_f, d_nb_t, d_nb_f, nth0, nthS, hN, tmod_pos, cl_load]
          · refine step hlt _ _ _ _ _ _ _ _ _ _ ?_ ?_
            · first
              | exact .inr (.inr (.inl ⟨z, by omega, by omega, by omega, by omega, by rw [d_eqi_t]; simp (disch := omega) only [d_cl, d_vi, d_vb, d_vr, d_ci, d_cb, d_nr, d_nl, d_add, d_sub, d_mul, d_rem, d_quo, d_bit, d_mn, d_mx, d_w, d_nn, d_bn, d_len, d_neg, d_at0, d_at1, d_at2, d_at3, d_at4, d_at5, d_at6, d_at7, d_set, d_app, d_cat, d_take, d_drop, d_rep, d_cons, d_lt_t, d_lt_f, d_le_t, d_le_f, d_eqi_t, d_eqi_f, d_eqb_t, d_eqb_f, d_nb_t, d_nb_f, nth0, nthS, hN, tmod_pos, cl_load]; exact x1⟩))
              | exact .inr (.inr (.inr ⟨z, by omega, by omega, by omega, by omega⟩))
            · first
              | exact .inr (.inr (.inl ⟨z, by omega, by omega, by omega, by omega, by rw [d_eqi_t]; simp (disch := omega) only [d_cl, d_vi, d_vb, d_vr, d_ci, d_cb, d_nr, d_nl, d_add, d_sub, d_mul, d_rem, d_quo, d_bit, d_mn, d_mx, d_w, d_nn, d_bn, d_len, d_neg, d_at0, d_at1, d_at2, d_at3, d_at4, d_at5, d_at6, d_at7, d_set, d_app, d_cat, d_take, d_drop, d_rep, d_cons, d_lt_t, d_lt_f, d_le_t, d_le_f, d_eqi_t, d_eqi_f, d_eqb_t, d_eqb_f, d_nb_t, d_nb_f, nth0, nthS, hN, tmod_pos, cl_load]; exact x2⟩))
              | exact .inr (.inr (.inr ⟨z, by omega, by omega, by omega, by omega⟩))
          · exact dec _ _ _ _ _ _ _ _ _ 0 _ _ _ _ _ _ _
      · obtain rfl := f4 (by omega)
        obtain rfl := g4 (by omega)
        repeat' (first
          | (refine TOK.br' (fun h => ?_) (fun h => ?_) <;> (try simp (disch := omega) only [d_cl, d_vi, d_vb, d_vr, d_ci, d_cb, d_nr, d_nl, d_add, d_sub, d_mul, d_rem, d_quo, d_bit, d_mn, d_mx, d_w, d_nn, d_bn, d_len, d_neg, d_at0, d_at1, d_at2, d_at3, d_at4, d_at5, d_at6, d_at7, d_set, d_app, d_cat, d_take, d_drop, d_rep, d_cons, d_lt_t, d_lt_f, d_le_t, d_le_f, d_eqi_t, d_eqi_f, d_eqb_t, d_eqb_f, d_nb_t, d_nb_f, nth0, nthS, hN, tmod_pos, cl_load] at h) <;> (try (exfalso; first | omega | contradiction)))
          | (with_reducible refine TOK.leaf' ?_))
        all_goals
          refine And.intro (?_ : Inv 1 _) (?_ : lt2 μ (1, _) _) <;> simp (disch := omega) only [Sb.val, List.map_cons, List.map_nil, d_cl, d_vi, d_vb, d_vr, d_ci, d_cb, d_nr, d_nl, d_add, d_sub, d_mul, d_rem, d_quo, d_bit, d_mn, d_mx, d_w, d_nn, d_bn, d_len, d_neg, d_at0, d_at1, d_at2, d_at3, d_at4, d_at5, d_at6, d_at7, d_set, d_app, d_cat, d_take, d_drop, d_rep, d_cons, d_lt_t, d_lt_f, d_le_t, d_le_f, d_eqi_t, d_eqi_f, d_eqb_t, d_eqb_f, d_nb_t, d_nb_f, nth0, nthS, hN, tmod_pos, cl_load]
          · refine step hlt _ _ _ _ _ _ _ _ _ _ ?_ ?_
            · first
              | exact .inr (.inr (.inl ⟨z, by omega, by omega, by omega, by omega, by rw [d_eqi_t]; simp (disch := omega) only [d_cl, d_vi, d_vb, d_vr, d_ci, d_cb, d_nr, d_nl, d_add, d_sub, d_mul, d_rem, d_quo, d_bit, d_mn, d_mx, d_w, d_nn, d_bn, d_len, d_neg, d_at0, d_at1, d_at2, d_at3, d_at4, d_at5, d_at6, d_at7, d_set, d_app, d_cat, d_take, d_drop, d_rep, d_cons, d_lt_t, d_lt_f, d_le_t, d_le_f, d_eqi_t, d_eqi_f, d_eqb_t, d_eqb_f, d_nb_t, d_nb_f, nth0, nthS, hN, tmod_pos, cl_load]; exact x1⟩))
              | exact .inr (.inr (.inr ⟨z, by omega, by omega, by omega, by omega⟩))
            · first
              | exact .inr (.inr (.inl ⟨z, by omega, by omega, by omega, by omega, by rw [d_eqi_t]; simp (disch := omega) only [d_cl, d_vi, d_vb, d_vr, d_ci, d_cb, d_nr, d_nl, d_add, d_sub, d_mul, d_rem, d_quo, d_bit, d_mn, d_mx, d_w, d_nn, d_bn, d_len, d_neg, d_at0, d_at1, d_at2, d_at3, d_at4, d_at5, d_at6, d_at7, d_set, d_app, d_cat, d_take, d_drop, d_rep, d_cons, d_lt_t, d_lt_f, d_le_t, d_le_f, d_eqi_t, d_eqi_f, d_eqb_t, d_eqb_f, d_nb_t, d_nb_f, nth0, nthS, hN, tmod_pos, cl_load]; exact x2⟩))
              | exact .inr (.inr (.inr ⟨z, by omega, by omega, by omega, by omega⟩))
          · exact dec _ _ _ _ _ _ _ _ _ 0 _ _ _ _ _ _ _
  · simp only [d_vi, d_vb, d_vr, d_ci, d_cb, d_nr, d_nl, d_add, d_sub, d_mul, d_rem, d_quo, d_bit, d_mn, d_mx, d_w, d_nn, d_bn, d_len, d_neg, d_at0, d_at1, d_at2, d_at3, d_at4, d_at5, d_at6, d_at7, d_set, d_app, d_cat, d_take, d_drop, d_rep, d_cons, d_lt_t, d_lt_f, d_le_t, d_le_f, d_eqi_t, d_eqi_f, d_eqb_t, d_eqb_f, d_nb_t, d_nb_f, nth0, nthS, hN] at h
    have hi : i = 2 * N := by omega
    obtain ⟨q1, -, q2⟩ := hA1.2.2 (by omega)
    obtain ⟨q3, -, q4⟩ := hA2.2.2 (by omega)
    obtain ⟨f1, f2⟩ := q2 (by omega)
    obtain ⟨g1, g2⟩ := q4 (by omega)
    subst f1
    subst g1
    repeat' (first
      | (refine TOK.br' (fun h => ?_) (fun h => ?_) <;> (try simp (disch := omega) only [d_cl, d_vi, d_vb, d_vr, d_ci, d_cb, d_nr, d_nl, d_add, d_sub, d_mul, d_rem, d_quo, d_bit, d_mn, d_mx, d_w, d_nn, d_bn, d_len, d_neg, d_at0, d_at1, d_at2, d_at3, d_at4, d_at5, d_at6, d_at7, d_set, d_app, d_cat, d_take, d_drop, d_rep, d_cons, d_lt_t, d_lt_f, d_le_t, d_le_f, d_eqi_t, d_eqi_f, d_eqb_t, d_eqb_f, d_nb_t, d_nb_f, nth0, nthS, hN, tmod_pos, cl_load] at h) <;> (try (exfalso; omega)))
      | (with_reducible refine TOK.leaf' ?_))
    refine And.intro (?_ : Inv 2 _) (.inl (by simp [μ]))
    simp only [Sb.val, List.map_cons, List.map_nil, d_vi, d_vb, d_vr, d_ci, d_cb, d_nr, d_nl, d_add, d_sub, d_mul, d_rem, d_quo, d_bit, d_mn, d_mx, d_w, d_nn, d_bn, d_len, d_neg, d_at0, d_at1, d_at2, d_at3, d_at4, d_at5, d_at6, d_at7, d_set, d_app, d_cat, d_take, d_drop, d_rep, d_cons, d_lt_t, d_lt_f, d_le_t, d_le_f, d_eqi_t, d_eqi_f, d_eqb_t, d_eqb_f, d_nb_t, d_nb_f, nth0, nthS]
    rw [show ((r3.length : Nat) : Int) = N by omega]
    exact .inr (.inr ⟨rfl, N, 0, T, S, wa, sa, ka, ha, wb, sb, kb, hb, ba, bb, r0, r3, r4, r1, r2, r3, r4, rfl, hB, by omega, q1, q3⟩)
theorem s2 : ∀ v, Inv 2 v → TOK v (fun _ g => LgOK v (fun q u => Inv q u ∧ lt2 μ (q, u) (2, v)) g) tr2 := by
  intro v hv
  obtain ⟨N, j, T, S, wa, sa, ka, ha, wb, sb, kb, hb, ba, bb, r0, r1, r2, r3, r4, r5, r6, rfl, hB, h1, hE1, hE2⟩ := inv2 hv
  have hB' := hB
  unfold FB at hB'
  have e1 : j < N → cl r1 j = cl r3 j := fun g => hE1 j h1.1 g
  have e2 : j < N → cl r2 j = cl r3 j := fun g => hE2 j h1.1 g
  unfold tr2
  repeat' (first
    | (refine TOK.br' (fun h => ?_) (fun h => ?_) <;> (try simp (disch := omega) only [d_cl, d_vi, d_vb, d_vr, d_ci, d_cb, d_nr, d_nl, d_add, d_sub, d_mul, d_rem, d_quo, d_bit, d_mn, d_mx, d_w, d_nn, d_bn, d_len, d_neg, d_at0, d_at1, d_at2, d_at3, d_at4, d_at5, d_at6, d_at7, d_set, d_app, d_cat, d_take, d_drop, d_rep, d_cons, d_lt_t, d_lt_f, d_le_t, d_le_f, d_eqi_t, d_eqi_f, d_eqb_t, d_eqb_f, d_nb_t, d_nb_f, nth0, nthS, Int.reduceEq, not_true_eq_false, not_false_eq_true] at h) <;> (try (exfalso; omega)))
    | (with_reducible refine TOK.leaf' ?_))
  all_goals first
    | exact rfl
    | (refine ⟨.inr (.inr ⟨rfl, N, j + 1, T, S, wa, sa, ka, ha, wb, sb, kb, hb, ba, bb, r0, r1, r2, r3, r4, r5, r6, rfl, hB, by omega, hE1, hE2⟩), .inr ⟨rfl, ?_⟩⟩
       simp only [μ, Sb.val, List.map_cons, List.map_nil, d_vi, d_vb, d_vr, d_ci, d_cb, d_nr, d_nl, d_add, d_sub, d_mul, d_rem, d_quo, d_bit, d_mn, d_mx, d_w, d_nn, d_bn, d_len, d_neg, d_at0, d_at1, d_at2, d_at3, d_at4, d_at5, d_at6, d_at7, d_set, d_app, d_cat, d_take, d_drop, d_rep, d_cons, d_lt_t, d_lt_f, d_le_t, d_le_f, d_eqi_t, d_eqi_f, d_eqb_t, d_eqb_f, d_nb_t, d_nb_f, nth0, nthS]; omega)
/-- At the begin. -/
theorem sS (a0 a1 a2 a3 : Int) (l4 : List (List Int)) : TOK ⟨[a0, a1, a2, a3], [], [l4], []⟩ (fun _ g => LgOK ⟨[a0, a1, a2, a3], [], [l4], []⟩ Inv g) trS := by
  unfold trS
  have hT : 0 ≤ a0 % 4 ∧ a0 % 4 < 4 := by omega
  have hS : 0 ≤ a1 % 4 ∧ a1 % 4 < 4 := by omega
  have hN := prod4 (T := a0 % 4 + 1) (S := a1 % 4 + 1) (by omega) (by omega) (by omega) (by omega)
  refine TOK.br' (fun h => ?_) (fun h => ?_)
  · exact rfl
  simp (disch := omega) only [d_vi, d_vb, d_vr, d_ci, d_cb, d_nr, d_nl, d_add, d_sub, d_mul, d_rem, d_quo, d_bit, d_mn, d_mx, d_w, d_nn, d_bn, d_len, d_neg, d_at0, d_at1, d_at2, d_at3, d_at4, d_at5, d_at6, d_at7, d_set, d_app, d_cat, d_take, d_drop, d_rep, d_cons, d_lt_t, d_lt_f, d_le_t, d_le_f, d_eqi_t, d_eqi_f, d_eqb_t, d_eqb_f, d_nb_t, d_nb_f, nth0, nthS] at h
  refine (show Inv 0 _ from ?_)
  simp (disch := omega) only [Sb.val, List.map_cons, List.map_nil, d_vi, d_vb, d_vr, d_ci, d_cb, d_nr, d_nl, d_add, d_sub, d_mul, d_rem, d_quo, d_bit, d_mn, d_mx, d_w, d_nn, d_bn, d_len, d_neg, d_at0, d_at1, d_at2, d_at3, d_at4, d_at5, d_at6, d_at7, d_set, d_app, d_cat, d_take, d_drop, d_rep, d_cons, d_lt_t, d_lt_f, d_le_t, d_le_f, d_eqi_t, d_eqi_f, d_eqb_t, d_eqb_f, d_nb_t, d_nb_f, nth0, nthS, and3]
  refine .inl ⟨rfl, a2, a3, 0, a0 % 4 + 1, a1 % 4 + 1, (a0 % 4 + 1) * (a1 % 4 + 1), _, _, _, rfl, ?_, by omega, by omega, by simp, h⟩
  unfold FB; rw [List.length_replicate]; generalize (a0 % 4 + 1) * (a1 % 4 + 1) = N at *; omega
theorem SnapQuiet_walk (a0 a1 a2 a3 : Int) (A4 : Option Addr) (n4 c4 : Nat) (l4 : List (List Int)) (w : World) (wa0 : (Lit.int .i64 a0).wf = true) (wa1 : (Lit.int .i64 a1).wf = true) (wa2 : (Lit.int .i64 a2).wf = true) (wa3 : (Lit.int .i64 a3).wf = true) (hr4 : ArgRow w [.i .u64] A4 n4 c4 l4) :
    Calls Try.prog 6 #[.int .i64 a0, .int .i64 a1, .int .i64 a2, .int .i64 a3, .slice A4 n4 c4] w fun e w' => e = .returned (.bool true) ∧ Below w.heap.size w w' :=
  law_calls (v := ⟨[a0, a1, a2, a3], [], [l4], []⟩) (l := [⟨A4, n4, c4, [.i .u64], l4⟩]) (args := args) (args' := [.int .i64 a0, .int .i64 a1, .int .i64 a2, .int .i64 a3, .slice A4 n4 c4]) hI0 hfn hbod (by decide) rfl (by simpa using hr4)
    (.cons (.int _ _) (.cons (.int _ _) (.cons (.int _ _) (.cons (.int _ _) (.cons (arg_slice (id := 0) (s := ⟨A4, n4, c4, [.i .u64], l4⟩) (l := [⟨A4, n4, c4, [.i .u64], l4⟩]) rfl rfl hr4) (.nil _))))))
    (aw ⟨[a0, a1, a2, a3], [], [l4], []⟩ Inv μ KV.nil k0 k1 k2 (sS a0 a1 a2 a3 l4) s0 s1 s2)
end Go.Proofs.Ytnkgkdhddaongaa.KSnapQuiet
