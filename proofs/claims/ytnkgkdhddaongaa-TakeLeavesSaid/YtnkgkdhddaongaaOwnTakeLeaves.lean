/- The law TakeLeaves of take: what is lost turns no word and no value; what is taken turns that word alone: it answers true for all numbers and words. No condition. -/
import Derived.Test.YtnkgkdhddaongaaOwnTakeLeavesS
import Derived.Test.YtnkgkdhddaongaaOwnS16
set_option linter.unusedVariables false
set_option linter.unusedSimpArgs false
set_option maxRecDepth 100000
set_option maxHeartbeats 16000000
namespace Go.Proofs.Ytnkgkdhddaongaa.KTakeLeaves
open Go Go.Lib Go.Proofs.Ytnkgkdhddaongaa.Eng Go.Proofs.Ytnkgkdhddaongaa.Sy Go.RowKit

/-- What holds everywhere. -/
def FB (N T S who slot s e g lo hi : Int) (r0 : List (List Int)) : Prop :=
  1 ≤ T ∧ T ≤ 4 ∧ 1 ≤ S ∧ S ≤ 4 ∧ T * S = N ∧ 1 ≤ N ∧ N ≤ 16 ∧ 0 ≤ who ∧ who < T ∧ 0 ≤ slot ∧ slot < N ∧ (r0.length : Int) = 2 * N + 2 * T ∧ 0 ≤ s ∧ s ≤ 2 ∧ 0 ≤ e ∧ e ≤ 1 ∧ 0 ≤ g ∧ g ≤ 8191 ∧ 0 ≤ lo ∧ lo ≤ 16777215 ∧ 0 ≤ hi ∧ hi ≤ 16777215
/-- The cells of values; the cells of words but one. -/
def CV (N x : Int) (r0 : List (List Int)) : Prop := ∀ j, 0 ≤ j → j < N → cl r0 (N + j) = IntKind.u64.wrap (x + j)
def CW (N slot p : Int) (r0 : List (List Int)) : Prop := ∀ j, 0 ≤ j → j < N → j ≠ slot → cl r0 j = p
def Inv0 (v : Val) : Prop := ∃ (who slot x i s e g lo hi T S N : Int) (lost : Bool) (r0 r1 : List (List Int)), v = ⟨[who, slot, x, i, s, e, g, lo, hi, T, S], [lost], [r0, r1], []⟩ ∧ FB N T S who slot s e g lo hi r0 ∧ (0 ≤ i ∧ i ≤ N ∧ (r1.length : Int) ≤ 2 * i) ∧
  (∀ j, 0 ≤ j → j < i → cl r0 j = pk s e g lo hi ∧ cl r0 (N + j) = IntKind.u64.wrap (x + j))
/-- How far the taking is. -/
def FS (x slot n s e g lo hi k val ph : Int) (lost tl : Bool) (old : Int) (r0 : List (List Int)) : Prop :=
  (lost = false → old = pk s e g lo hi ∧ (n ≤ 4 → k = n ∧ ph = 0 ∧ tl = false) ∧ (5 ≤ n → ph = 1) ∧ (3 ≤ n → val = IntKind.u64.wrap (x + slot)) ∧ (n ≤ 3 → cl r0 slot = pk s e g lo hi) ∧ (4 ≤ n → cl r0 slot = pk 2 e g lo hi)) ∧
  (lost = true → old ≠ pk s e g lo hi ∧ (n ≤ 1 → k = n ∧ ph = 0 ∧ tl = false) ∧ (n = 2 → ph = 0 ∧ tl = true) ∧ (3 ≤ n → ph = 2) ∧ cl r0 slot = pk s e g lo hi)
def Inv1 (v : Val) : Prop := ∃ (slot x n s e g lo hi T S who old k val ph N : Int) (lost tl : Bool) (r0 r1 : List (List Int)), v = ⟨[slot, x, n, s, e, g, lo, hi, T, S, who, old, k, val, ph], [lost, tl], [r0, r1], []⟩ ∧ FB N T S who slot s e g lo hi r0 ∧ (0 ≤ n ∧ n ≤ 6 ∧ (r1.length : Int) ≤ 32 + n ∧ 0 ≤ k ∧ k ≤ 5 ∧ 0 ≤ ph ∧ ph ≤ 2) ∧ CV N x r0 ∧ CW N slot (pk s e g lo hi) r0 ∧ FS x slot n s e g lo hi k val ph lost tl old r0
def Inv2 (v : Val) : Prop := ∃ (slot x i s e g lo hi T S who old k val ph N : Int) (lost tl : Bool) (r0 r1 : List (List Int)), v = ⟨[slot, x, i, s, e, g, lo, hi, T, S, who, old, k, val, ph], [lost, tl], [r0, r1], []⟩ ∧ FB N T S who slot s e g lo hi r0 ∧ (0 ≤ i ∧ i ≤ N ∧ (r1.length : Int) ≤ 38 ∧ 0 ≤ k ∧ k ≤ 5 ∧ 0 ≤ ph ∧ ph ≤ 2) ∧ CV N x r0 ∧ CW N slot (pk s e g lo hi) r0 ∧
  (lost = false → ph = 1 ∧ val = IntKind.u64.wrap (x + slot) ∧ cl r0 slot = pk 2 e g lo hi) ∧ (lost = true → ph = 2 ∧ cl r0 slot = pk s e g lo hi)
def Inv (p : Nat) (v : Val) : Prop := (p = 0 ∧ Inv0 v) ∨ (p = 1 ∧ Inv1 v) ∨ (p = 2 ∧ Inv2 v)
def μ (q : Nat × Val) : Nat × Nat := match q.1 with
  | 0 => (3, (100 - nth 0 q.2.i 3).toNat)
  | 1 => (2, (100 - nth 0 q.2.i 2).toNat)
  | _ => (1, (100 - nth 0 q.2.i 2).toNat)
theorem inv0 {v : Val} (h : Inv 0 v) : Inv0 v := by rcases h with ⟨_, h⟩ | ⟨h, _⟩ | ⟨h, _⟩ <;> first | exact h | (exact absurd h (by decide))
theorem inv1 {v : Val} (h : Inv 1 v) : Inv1 v := by rcases h with ⟨h, _⟩ | ⟨_, h⟩ | ⟨h, _⟩ <;> first | exact h | (exact absurd h (by decide))
theorem inv2 {v : Val} (h : Inv 2 v) : Inv2 v := by rcases h with ⟨h, _⟩ | ⟨h, _⟩ | ⟨_, h⟩ <;> first | exact h | (exact absurd h (by decide))
theorem FB.right {N T S who slot s e g lo hi : Int} {r0 : List (List Int)} (h : FB N T S who slot s e g lo hi r0) : RightW s e g lo hi := by unfold FB at h; unfold RightW; omega
theorem FB.right2 {N T S who slot s e g lo hi : Int} {r0 : List (List Int)} (h : FB N T S who slot s e g lo hi r0) : RightW 2 e g lo hi := by unfold FB at h; unfold RightW; omega
theorem k0 : ∀ v, Inv 0 v → KV v tm0.kn := by
  intro v hv
  obtain ⟨who, slot, x, i, s, e, g, lo, hi, T, S, N, lost, r0, r1, rfl, hB, h1, h2⟩ := inv0 hv
  unfold FB at hB
  have hN : T * S = N := hB.2.2.2.2.1
  unfold tm0
  repeat' (first | exact KV.nil | refine KV.cons ?_ ?_)
  all_goals (simp (disch := omega) only [d_cl, d_vi, d_vb, d_vr, d_ci, d_cb, d_nr, d_nl, d_add, d_sub, d_mul, d_rem, d_quo, d_bit, d_mn, d_mx, d_w, d_nn, d_bn, d_len, d_neg, d_at0, d_at1, d_at2, d_at3, d_at4, d_at5, d_at6, d_at7, d_set, d_app, d_cat, d_take, d_drop, d_rep, d_cons, d_lt_t, d_lt_f, d_le_t, d_le_f, d_eqi_t, d_eqi_f, d_eqb_t, d_eqb_f, d_nb_t, d_nb_f, nth0, nthS, w64, hN]; omega)
theorem k1 : ∀ v, Inv 1 v → KV v tm1.kn := by
  intro v hv
  obtain ⟨slot, x, n, s, e, g, lo, hi, T, S, who, old, k, val, ph, N, lost, tl, r0, r1, rfl, hB, h1, h2, h3, h4⟩ := inv1 hv
  unfold FB at hB
  have hN : T * S = N := hB.2.2.2.2.1
  unfold tm1
  repeat' (first | exact KV.nil | refine KV.cons ?_ ?_)
  all_goals (simp (disch := omega) only [d_cl, d_vi, d_vb, d_vr, d_ci, d_cb, d_nr, d_nl, d_add, d_sub, d_mul, d_rem, d_quo, d_bit, d_mn, d_mx, d_w, d_nn, d_bn, d_len, d_neg, d_at0, d_at1, d_at2, d_at3, d_at4, d_at5, d_at6, d_at7, d_set, d_app, d_cat, d_take, d_drop, d_rep, d_cons, d_lt_t, d_lt_f, d_le_t, d_le_f, d_eqi_t, d_eqi_f, d_eqb_t, d_eqb_f, d_nb_t, d_nb_f, nth0, nthS, w64, hN]; omega)
theorem k2 : ∀ v, Inv 2 v → KV v tm2.kn := by
  intro v hv
  obtain ⟨slot, x, i, s, e, g, lo, hi, T, S, who, old, k, val, ph, N, lost, tl, r0, r1, rfl, hB, h1, h2, h3, h4⟩ := inv2 hv
  unfold FB at hB
  have hN : T * S = N := hB.2.2.2.2.1
  unfold tm2
  repeat' (first | exact KV.nil | refine KV.cons ?_ ?_)
  all_goals (simp (disch := omega) only [d_cl, d_vi, d_vb, d_vr, d_ci, d_cb, d_nr, d_nl, d_add, d_sub, d_mul, d_rem, d_quo, d_bit, d_mn, d_mx, d_w, d_nn, d_bn, d_len, d_neg, d_at0, d_at1, d_at2, d_at3, d_at4, d_at5, d_at6, d_at7, d_set, d_app, d_cat, d_take, d_drop, d_rep, d_cons, d_lt_t, d_lt_f, d_le_t, d_le_f, d_eqi_t, d_eqi_f, d_eqb_t, d_eqb_f, d_nb_t, d_nb_f, nth0, nthS, w64, hN]; omega)
theorem s0 : ∀ v, Inv 0 v → TOK v (fun _ g => LgOK v (fun q u => Inv q u ∧ lt2 μ (q, u) (0, v)) g) tr0 := by
  intro v hv
  obtain ⟨who, slot, x, i, s, e, g, lo, hi, T, S, N, lost, r0, r1, rfl, hB, h1, h2⟩ := inv0 hv
  have hR := hB.right
  have hp := pack_sum hR
  have hB' := hB
  unfold FB at hB'
  have hN : T * S = N := hB'.2.2.2.2.1
  have step : i < N → ∀ (l1 l2 : List Int), Inv 0 ⟨[who, slot, x, i + 1, s, e, g, lo, hi, T, S], [lost], [(r0.set i.toNat [pk s e g lo hi]).set (N + i).toNat [IntKind.u64.wrap (x + i)], r1 ++ [l1] ++ [l2]], []⟩ := fun hi' l1 l2 => by
    refine .inl ⟨rfl, who, slot, x, i + 1, s, e, g, lo, hi, T, S, N, lost, _, _, rfl, ?_, ?_, fun j g1 g2 => ?_⟩
    · unfold FB; rw [List.length_set, List.length_set]; exact hB'
    · rw [List.length_append, List.length_append]; simp only [List.length_cons, List.length_nil]; omega
    · rw [cl_other (by omega) (by omega) (by omega)]
      rcases (by omega : j < i ∨ j = i) with z | z
      · rw [cl_other (by omega) (by omega) (by omega), cl_other (by omega) (by omega) (by omega), cl_other (by omega) (by omega) (by omega)]
        exact h2 j g1 z
      · rw [z, cl_self (by omega) (by omega), cl_self (by omega) (by rw [List.length_set]; omega)]
        exact ⟨rfl, rfl⟩
  have go : ¬ i < N → ∀ old, (lost = false → old = pk s e g lo hi) → (lost = true → old ≠ pk s e g lo hi) → Inv 1 ⟨[slot, x, 0, s, e, g, lo, hi, T, S, who, old, 0, 0, 0], [lost, false], [r0, r1], []⟩ := fun hi' old g1 g2 => by
    have hs := (h2 slot (by omega) (by omega)).1
    refine .inr (.inl ⟨rfl, slot, x, 0, s, e, g, lo, hi, T, S, who, old, 0, 0, 0, N, lost, false, r0, r1, rfl, hB, by omega, fun j e1 e2 => (h2 j e1 (by omega)).2, fun j e1 e2 _ => (h2 j e1 (by omega)).1, fun z => ⟨g1 z, fun _ => ⟨rfl, rfl, rfl⟩, fun z => by omega, fun z => by omega, fun _ => hs, fun z => by omega⟩, fun z => ⟨g2 z, fun _ => ⟨rfl, rfl, rfl⟩, fun z => by omega, fun z => by omega, hs⟩⟩)
  have hx := xor_ne (pk_in hR).1 (pk_in hR).2 (s := 8) (by decide) (by decide)
  unfold tr0
  refine TOK.br' (fun hlt => ?_) (fun hge => ?_)
  · simp only [d_vi, d_vb, d_vr, d_ci, d_cb, d_nr, d_nl, d_add, d_sub, d_mul, d_rem, d_quo, d_bit, d_mn, d_mx, d_w, d_nn, d_bn, d_len, d_neg, d_at0, d_at1, d_at2, d_at3, d_at4, d_at5, d_at6, d_at7, d_set, d_app, d_cat, d_take, d_drop, d_rep, d_cons, d_lt_t, d_lt_f, d_le_t, d_le_f, d_eqi_t, d_eqi_f, d_eqb_t, d_eqb_f, d_nb_t, d_nb_f, nth0, nthS, hN] at hlt
    repeat' (first
      | (refine TOK.br' (fun h => ?_) (fun h => ?_) <;> (try simp (disch := omega) only [d_vi, d_vb, d_vr, d_ci, d_cb, d_nr, d_nl, d_add, d_sub, d_mul, d_rem, d_quo, d_bit, d_mn, d_mx, d_w, d_nn, d_bn, d_len, d_neg, d_at0, d_at1, d_at2, d_at3, d_at4, d_at5, d_at6, d_at7, d_set, d_app, d_cat, d_take, d_drop, d_rep, d_cons, d_lt_t, d_lt_f, d_le_t, d_le_f, d_eqi_t, d_eqi_f, d_eqb_t, d_eqb_f, d_nb_t, d_nb_f, nth0, nthS] at h) <;> (try (exfalso; omega)))
      | (with_reducible refine TOK.leaf' ?_))
    all_goals
      refine And.intro (?_ : Inv 0 _) (.inr ⟨rfl, ?_⟩)
      · simp (disch := omega) only [Sb.val, List.map_cons, List.map_nil, d_cl, d_vi, d_vb, d_vr, d_ci, d_cb, d_nr, d_nl, d_add, d_sub, d_mul, d_rem, d_quo, d_bit, d_mn, d_mx, d_w, d_nn, d_bn, d_len, d_neg, d_at0, d_at1, d_at2, d_at3, d_at4, d_at5, d_at6, d_at7, d_set, d_app, d_cat, d_take, d_drop, d_rep, d_cons, d_lt_t, d_lt_f, d_le_t, d_le_f, d_eqi_t, d_eqi_f, d_eqb_t, d_eqb_f, d_nb_t, d_nb_f, nth0, nthS, d_shl2, d_shl3, d_shl16, d_shl40, hN, hp]
        exact step hlt _ _
      · simp only [μ, Sb.val, List.map_cons, List.map_nil, d_vi, d_vb, d_vr, d_ci, d_cb, d_nr, d_nl, d_add, d_sub, d_mul, d_rem, d_quo, d_bit, d_mn, d_mx, d_w, d_nn, d_bn, d_len, d_neg, d_at0, d_at1, d_at2, d_at3, d_at4, d_at5, d_at6, d_at7, d_set, d_app, d_cat, d_take, d_drop, d_rep, d_cons, d_lt_t, d_lt_f, d_le_t, d_le_f, d_eqi_t, d_eqi_f, d_eqb_t, d_eqb_f, d_nb_t, d_nb_f, nth0, nthS]; omega
  · simp only [d_vi, d_vb, d_vr, d_ci, d_cb, d_nr, d_nl, d_add, d_sub, d_mul, d_rem, d_quo, d_bit, d_mn, d_mx, d_w, d_nn, d_bn, d_len, d_neg, d_at0, d_at1, d_at2, d_at3, d_at4, d_at5, d_at6, d_at7, d_set, d_app, d_cat, d_take, d_drop, d_rep, d_cons, d_lt_t, d_lt_f, d_le_t, d_le_f, d_eqi_t, d_eqi_f, d_eqb_t, d_eqb_f, d_nb_t, d_nb_f, nth0, nthS, hN] at hge
    have h' : ¬ i < N := by omega
    repeat' (first
      | (refine TOK.br' (fun h => ?_) (fun h => ?_) <;> (try simp (disch := omega) only [d_vi, d_vb, d_vr, d_ci, d_cb, d_nr, d_nl, d_add, d_sub, d_mul, d_rem, d_quo, d_bit, d_mn, d_mx, d_w, d_nn, d_bn, d_len, d_neg, d_at0, d_at1, d_at2, d_at3, d_at4, d_at5, d_at6, d_at7, d_set, d_app, d_cat, d_take, d_drop, d_rep, d_cons, d_lt_t, d_lt_f, d_le_t, d_le_f, d_eqi_t, d_eqi_f, d_eqb_t, d_eqb_f, d_nb_t, d_nb_f, nth0, nthS] at h) <;> (try (exfalso; omega)))
      | (with_reducible refine TOK.leaf' ?_))
    all_goals
      refine And.intro (?_ : Inv 1 _) (.inl (by simp [μ]))
      simp (disch := omega) only [Sb.val, List.map_cons, List.map_nil, d_cl, d_vi, d_vb, d_vr, d_ci, d_cb, d_nr, d_nl, d_add, d_sub, d_mul, d_rem, d_quo, d_bit, d_mn, d_mx, d_w, d_nn, d_bn, d_len, d_neg, d_at0, d_at1, d_at2, d_at3, d_at4, d_at5, d_at6, d_at7, d_set, d_app, d_cat, d_take, d_drop, d_rep, d_cons, d_lt_t, d_lt_f, d_le_t, d_le_f, d_eqi_t, d_eqi_f, d_eqb_t, d_eqb_f, d_nb_t, d_nb_f, nth0, nthS, d_shl2, d_shl3, d_shl16, d_shl40, hN, hp]
      refine go h' _ ?_ ?_
      · intro z; first | rfl | (exfalso; simp_all)
      · intro z; first | exact hx.2.2 | (exfalso; simp_all)
theorem s1 : ∀ v, Inv 1 v → TOK v (fun _ g => LgOK v (fun q u => Inv q u ∧ lt2 μ (q, u) (1, v)) g) tr1 := by
  intro v hv
  obtain ⟨slot, x, n, s, e, g, lo, hi, T, S, who, old, k, val, ph, N, lost, tl, r0, r1, rfl, hB, h1, hV, hW, hS⟩ := inv1 hv
  have hR := hB.right
  have hp2 := pack_sum hB.right2
  have hB' := hB
  unfold FB at hB'
  have hN : T * S = N := hB'.2.2.2.2.1
  have hh : 0 ≤ 2 * N + who ∧ 2 * N + who < (r0.length : Int) := by omega
  have slotS : ∀ y, cl (r0.set (2 * N + who).toNat [y]) slot = cl r0 slot := fun y => cl_other (by omega) (by omega) (by omega)
  have nextH : n < 6 → ∀ (y k' ph' : Int) (l : List Int), 0 ≤ k' → k' ≤ 5 → 0 ≤ ph' → ph' ≤ 2 → FS x slot (n + 1) s e g lo hi k' val ph' lost tl old r0 → Inv 1 ⟨[slot, x, n + 1, s, e, g, lo, hi, T, S, who, old, k', val, ph'], [lost, tl], [r0.set (2 * N + who).toNat [y], r1 ++ [l]], []⟩ := fun hn y k' ph' l e1 e2 e3 e4 e5 => by
    refine .inr (.inl ⟨rfl, slot, x, n + 1, s, e, g, lo, hi, T, S, who, old, k', val, ph', N, lost, tl, _, _, rfl, ?_, ?_, fun j g1 g2 => ?_, fun j g1 g2 g3 => ?_, ?_⟩)
    · unfold FB; rw [List.length_set]; exact hB'
    · rw [List.length_append]; simp only [List.length_cons, List.length_nil]; omega
    · rw [cl_other (by omega) (by omega) (by omega)]; exact hV j g1 g2
    · rw [cl_other (by omega) (by omega) (by omega)]; exact hW j g1 g2 g3
    · unfold FS at e5 ⊢; rw [slotS]; exact e5
  have nextL : n < 6 → ∀ (a k' val' : Int) (tl' : Bool) (l : List Int), 0 ≤ k' → k' ≤ 5 → FS x slot (n + 1) s e g lo hi k' val' ph lost tl' old r0 → Inv 1 ⟨[slot, x, n + 1, s, e, g, lo, hi, T, S, who, old, k', val', ph], [lost, tl'], [r0.set a.toNat [cl r0 a], r1 ++ [l]], []⟩ := fun hn a k' val' tl' l e1 e2 e5 => by
    refine .inr (.inl ⟨rfl, slot, x, n + 1, s, e, g, lo, hi, T, S, who, old, k', val', ph, N, lost, tl', _, _, rfl, ?_, ?_, fun j g1 g2 => ?_, fun j g1 g2 g3 => ?_, ?_⟩)
    · unfold FB; rw [List.length_set]; exact hB'
    · rw [List.length_append]; simp only [List.length_cons, List.length_nil]; omega
    · rw [cl_load]; exact hV j g1 g2
    · rw [cl_load]; exact hW j g1 g2 g3
    · unfold FS at e5 ⊢; rw [cl_load]; exact e5
  have dec : ∀ (a1 a2 a3 a4 : Int) (b1 b2 : Bool) (l0 l1 : List (List Int)), n < 6 → lt2 μ (1, ⟨[slot, x, n + 1, s, e, g, lo, hi, T, S, who, a1, a2, a3, a4], [b1, b2], [l0, l1], []⟩) (1, ⟨[slot, x, n, s, e, g, lo, hi, T, S, who, old, k, val, ph], [lost, tl], [r0, r1], []⟩) := fun a1 a2 a3 a4 b1 b2 l0 l1 hn => .inr ⟨rfl, by simp only [μ, nth0, nthS]; omega⟩
  have same : n < 6 → FS x slot (n + 1) s e g lo hi k val ph lost tl old r0 → Inv 1 ⟨[slot, x, n + 1, s, e, g, lo, hi, T, S, who, old, k, val, ph], [lost, tl], [r0, r1], []⟩ := fun hn e5 => .inr (.inl ⟨rfl, slot, x, n + 1, s, e, g, lo, hi, T, S, who, old, k, val, ph, N, lost, tl, r0, r1, rfl, hB, by omega, hV, hW, e5⟩)
  have h1' := h1
  unfold tr1
  cases lost with
  | false =>
    obtain ⟨ho, q1, q2, q3, q4, q5⟩ := hS.1 rfl
    subst ho
    rcases (by omega : n = 0 ∨ n = 1 ∨ n = 2 ∨ n = 3 ∨ n = 4 ∨ n = 5 ∨ n = 6) with rfl | rfl | rfl | rfl | rfl | rfl | rfl
    · obtain ⟨hk, hp, ht⟩ := q1 (by omega)
      subst hk hp ht
      repeat' (first
        | (refine TOK.br' (fun h => ?_) (fun h => ?_) <;> (try simp (disch := omega) only [d_cl, d_vi, d_vb, d_vr, d_ci, d_cb, d_nr, d_nl, d_add, d_sub, d_mul, d_rem, d_quo, d_bit, d_mn, d_mx, d_w, d_nn, d_bn, d_len, d_neg, d_at0, d_at1, d_at2, d_at3, d_at4, d_at5, d_at6, d_at7, d_set, d_app, d_cat, d_take, d_drop, d_rep, d_cons, d_lt_t, d_lt_f, d_le_t, d_le_f, d_eqi_t, d_eqi_f, d_eqb_t, d_eqb_f, d_nb_t, d_nb_f, nth0, nthS, d_shl2, d_shl3, d_shl16, d_shl40, d_shr2, d_shr3, d_shr16, d_shr40, hN, up_e hR, up_g hR, up_lo hR, up_hi hR, Int.reduceEq, not_true_eq_false, not_false_eq_true] at h) <;> (try (exfalso; first | omega | contradiction)))
        | (with_reducible refine TOK.leaf' ?_))
      all_goals
        refine And.intro (?_ : Inv 1 _) (?_ : lt2 μ (1, _) _) <;> simp (disch := omega) only [Sb.val, List.map_cons, List.map_nil, d_cl, d_vi, d_vb, d_vr, d_ci, d_cb, d_nr, d_nl, d_add, d_sub, d_mul, d_rem, d_quo, d_bit, d_mn, d_mx, d_w, d_nn, d_bn, d_len, d_neg, d_at0, d_at1, d_at2, d_at3, d_at4, d_at5, d_at6, d_at7, d_set, d_app, d_cat, d_take, d_drop, d_rep, d_cons, d_lt_t, d_lt_f, d_le_t, d_le_f, d_eqi_t, d_eqi_f, d_eqb_t, d_eqb_f, d_nb_t, d_nb_f, nth0, nthS, d_shl2, d_shl3, d_shl16, d_shl40, d_shr2, d_shr3, d_shr16, d_shr40, hN, up_e hR, up_g hR, up_lo hR, up_hi hR]
        · exact nextH (by omega) _ _ _ _ (by omega) (by omega) (by omega) (by omega) ⟨fun _ => ⟨rfl, fun _ => ⟨by omega, by omega, rfl⟩, fun _ => by exfalso; omega, fun _ => by exfalso; omega, fun _ => q4 (by omega), fun _ => by exfalso; omega⟩, fun z => absurd z (by decide)⟩
        · exact dec _ _ _ _ _ _ _ _ (by omega)
    · obtain ⟨hk, hp, ht⟩ := q1 (by omega)
      subst hk hp ht
      have hc := q4 (by omega)
      repeat' (first
        | (refine TOK.br' (fun h => ?_) (fun h => ?_) <;> (try simp (disch := omega) only [d_cl, d_vi, d_vb, d_vr, d_ci, d_cb, d_nr, d_nl, d_add, d_sub, d_mul, d_rem, d_quo, d_bit, d_mn, d_mx, d_w, d_nn, d_bn, d_len, d_neg, d_at0, d_at1, d_at2, d_at3, d_at4, d_at5, d_at6, d_at7, d_set, d_app, d_cat, d_take, d_drop, d_rep, d_cons, d_lt_t, d_lt_f, d_le_t, d_le_f, d_eqi_t, d_eqi_f, d_eqb_t, d_eqb_f, d_nb_t, d_nb_f, nth0, nthS, d_shl2, d_shl3, d_shl16, d_shl40, d_shr2, d_shr3, d_shr16, d_shr40, hN, up_e hR, up_g hR, up_lo hR, up_hi hR, Int.reduceEq, not_true_eq_false, not_false_eq_true] at h) <;> (try (exfalso; first | omega | contradiction)))
        | (with_reducible refine TOK.leaf' ?_))
      all_goals
        refine And.intro (?_ : Inv 1 _) (?_ : lt2 μ (1, _) _) <;> simp (disch := omega) only [Sb.val, List.map_cons, List.map_nil, d_cl, d_vi, d_vb, d_vr, d_ci, d_cb, d_nr, d_nl, d_add, d_sub, d_mul, d_rem, d_quo, d_bit, d_mn, d_mx, d_w, d_nn, d_bn, d_len, d_neg, d_at0, d_at1, d_at2, d_at3, d_at4, d_at5, d_at6, d_at7, d_set, d_app, d_cat, d_take, d_drop, d_rep, d_cons, d_lt_t, d_lt_f, d_le_t, d_le_f, d_eqi_t, d_eqi_f, d_eqb_t, d_eqb_f, d_nb_t, d_nb_f, nth0, nthS, d_shl2, d_shl3, d_shl16, d_shl40, d_shr2, d_shr3, d_shr16, d_shr40, hN, up_e hR, up_g hR, up_lo hR, up_hi hR]
        · refine nextL (by omega) _ _ _ _ _ (by omega) (by omega) ⟨fun _ => ⟨rfl, fun _ => ⟨by omega, by omega, ?_⟩, fun _ => by exfalso; omega, fun _ => by exfalso; omega, fun _ => hc, fun _ => by exfalso; omega⟩, fun z => absurd z (by decide)⟩
          all_goals (rw [d_not_b, d_eqi_b]; simp only [d_cl, d_vi, d_vb, d_vr, d_ci, d_cb, d_nr, d_nl, d_add, d_sub, d_mul, d_rem, d_quo, d_bit, d_mn, d_mx, d_w, d_nn, d_bn, d_len, d_neg, d_at0, d_at1, d_at2, d_at3, d_at4, d_at5, d_at6, d_at7, d_set, d_app, d_cat, d_take, d_drop, d_rep, d_cons, d_lt_t, d_lt_f, d_le_t, d_le_f, d_eqi_t, d_eqi_f, d_eqb_t, d_eqb_f, d_nb_t, d_nb_f, nth0, nthS, hc]; simp)
        · exact dec _ _ _ _ _ _ _ _ (by omega)
    · obtain ⟨hk, hp, ht⟩ := q1 (by omega)
      subst hk hp ht
      have hv := hV slot (by omega) (by omega)
      repeat' (first
        | (refine TOK.br' (fun h => ?_) (fun h => ?_) <;> (try simp (disch := omega) only [d_cl, d_vi, d_vb, d_vr, d_ci, d_cb, d_nr, d_nl, d_add, d_sub, d_mul, d_rem, d_quo, d_bit, d_mn, d_mx, d_w, d_nn, d_bn, d_len, d_neg, d_at0, d_at1, d_at2, d_at3, d_at4, d_at5, d_at6, d_at7, d_set, d_app, d_cat, d_take, d_drop, d_rep, d_cons, d_lt_t, d_lt_f, d_le_t, d_le_f, d_eqi_t, d_eqi_f, d_eqb_t, d_eqb_f, d_nb_t, d_nb_f, nth0, nthS, d_shl2, d_shl3, d_shl16, d_shl40, d_shr2, d_shr3, d_shr16, d_shr40, hN, up_e hR, up_g hR, up_lo hR, up_hi hR, Int.reduceEq, not_true_eq_false, not_false_eq_true] at h) <;> (try (exfalso; first | omega | contradiction)))
        | (with_reducible refine TOK.leaf' ?_))
      all_goals
        refine And.intro (?_ : Inv 1 _) (?_ : lt2 μ (1, _) _) <;> simp (disch := omega) only [Sb.val, List.map_cons, List.map_nil, d_cl, d_vi, d_vb, d_vr, d_ci, d_cb, d_nr, d_nl, d_add, d_sub, d_mul, d_rem, d_quo, d_bit, d_mn, d_mx, d_w, d_nn, d_bn, d_len, d_neg, d_at0, d_at1, d_at2, d_at3, d_at4, d_at5, d_at6, d_at7, d_set, d_app, d_cat, d_take, d_drop, d_rep, d_cons, d_lt_t, d_lt_f, d_le_t, d_le_f, d_eqi_t, d_eqi_f, d_eqb_t, d_eqb_f, d_nb_t, d_nb_f, nth0, nthS, d_shl2, d_shl3, d_shl16, d_shl40, d_shr2, d_shr3, d_shr16, d_shr40, hN, up_e hR, up_g hR, up_lo hR, up_hi hR]
        · exact nextL (by omega) _ _ _ _ _ (by omega) (by omega) ⟨fun _ => ⟨rfl, fun _ => ⟨by omega, by omega, rfl⟩, fun _ => by exfalso; omega, fun _ => hv, fun _ => q4 (by omega), fun _ => by exfalso; omega⟩, fun z => absurd z (by decide)⟩
        · exact dec _ _ _ _ _ _ _ _ (by omega)
    · obtain ⟨hk, hp, ht⟩ := q1 (by omega)
      subst hk hp ht
      have hc := q4 (by omega)
      have he : e = 0 ∨ e = 1 := by omega
      repeat' (first
        | (refine TOK.br' (fun h => ?_) (fun h => ?_) <;> (try simp (disch := omega) only [d_cl, d_vi, d_vb, d_vr, d_ci, d_cb, d_nr, d_nl, d_add, d_sub, d_mul, d_rem, d_quo, d_bit, d_mn, d_mx, d_w, d_nn, d_bn, d_len, d_neg, d_at0, d_at1, d_at2, d_at3, d_at4, d_at5, d_at6, d_at7, d_set, d_app, d_cat, d_take, d_drop, d_rep, d_cons, d_lt_t, d_lt_f, d_le_t, d_le_f, d_eqi_t, d_eqi_f, d_eqb_t, d_eqb_f, d_nb_t, d_nb_f, nth0, nthS, d_shl2, d_shl3, d_shl16, d_shl40, d_shr2, d_shr3, d_shr16, d_shr40, hN, up_e hR, up_g hR, up_lo hR, up_hi hR, Int.reduceEq, not_true_eq_false, not_false_eq_true] at h) <;> (try (exfalso; first | omega | contradiction)))
        | (with_reducible refine TOK.leaf' ?_))
      all_goals
        refine And.intro (?_ : Inv 1 _) (?_ : lt2 μ (1, _) _) <;> simp (disch := omega) only [Sb.val, List.map_cons, List.map_nil, d_cl, d_vi, d_vb, d_vr, d_ci, d_cb, d_nr, d_nl, d_add, d_sub, d_mul, d_rem, d_quo, d_bit, d_mn, d_mx, d_w, d_nn, d_bn, d_len, d_neg, d_at0, d_at1, d_at2, d_at3, d_at4, d_at5, d_at6, d_at7, d_set, d_app, d_cat, d_take, d_drop, d_rep, d_cons, d_lt_t, d_lt_f, d_le_t, d_le_f, d_eqi_t, d_eqi_f, d_eqb_t, d_eqb_f, d_nb_t, d_nb_f, nth0, nthS, d_shl2, d_shl3, d_shl16, d_shl40, d_shr2, d_shr3, d_shr16, d_shr40, hN, up_e hR, up_g hR, up_lo hR, up_hi hR]
        · rw [hp2]
          refine .inr (.inl ⟨rfl, slot, x, 3 + 1, s, e, g, lo, hi, T, S, who, _, 3 + 1, val, 0, N, false, _, _, _, rfl, ?_, ?_, fun j g1 g2 => ?_, fun j g1 g2 g3 => ?_, ⟨fun _ => ⟨rfl, fun _ => ⟨by omega, rfl, ?_⟩, fun z => by omega, fun _ => q3 (by omega), fun z => by omega, fun _ => cl_self (by omega) (by omega)⟩, fun z => absurd z (by decide)⟩⟩)
          · unfold FB; rw [List.length_set]; exact hB'
          · rw [List.length_append]; simp only [List.length_cons, List.length_nil]; omega
          · rw [cl_other (by omega) (by omega) (by omega)]; exact hV j g1 g2
          · rw [cl_other (by omega) (by omega) (by omega)]; exact hW j g1 g2 g3
          · rw [d_not_b, d_eqi_b]; simp only [d_cl, d_vi, d_vb, d_vr, d_ci, d_cb, d_nr, d_nl, d_add, d_sub, d_mul, d_rem, d_quo, d_bit, d_mn, d_mx, d_w, d_nn, d_bn, d_len, d_neg, d_at0, d_at1, d_at2, d_at3, d_at4, d_at5, d_at6, d_at7, d_set, d_app, d_cat, d_take, d_drop, d_rep, d_cons, d_lt_t, d_lt_f, d_le_t, d_le_f, d_eqi_t, d_eqi_f, d_eqb_t, d_eqb_f, d_nb_t, d_nb_f, nth0, nthS, hc]; simp
        · exact dec _ _ _ _ _ _ _ _ (by omega)
    · obtain ⟨hk, hp, ht⟩ := q1 (by omega)
      subst hk hp ht
      repeat' (first
        | (refine TOK.br' (fun h => ?_) (fun h => ?_) <;> (try simp (disch := omega) only [d_cl, d_vi, d_vb, d_vr, d_ci, d_cb, d_nr, d_nl, d_add, d_sub, d_mul, d_rem, d_quo, d_bit, d_mn, d_mx, d_w, d_nn, d_bn, d_len, d_neg, d_at0, d_at1, d_at2, d_at3, d_at4, d_at5, d_at6, d_at7, d_set, d_app, d_cat, d_take, d_drop, d_rep, d_cons, d_lt_t, d_lt_f, d_le_t, d_le_f, d_eqi_t, d_eqi_f, d_eqb_t, d_eqb_f, d_nb_t, d_nb_f, nth0, nthS, d_shl2, d_shl3, d_shl16, d_shl40, d_shr2, d_shr3, d_shr16, d_shr40, hN, up_e hR, up_g hR, up_lo hR, up_hi hR, Int.reduceEq, not_true_eq_false, not_false_eq_true] at h) <;> (try (exfalso; first | omega | contradiction)))
        | (with_reducible refine TOK.leaf' ?_))
      all_goals
        refine And.intro (?_ : Inv 1 _) (?_ : lt2 μ (1, _) _) <;> simp (disch := omega) only [Sb.val, List.map_cons, List.map_nil, d_cl, d_vi, d_vb, d_vr, d_ci, d_cb, d_nr, d_nl, d_add, d_sub, d_mul, d_rem, d_quo, d_bit, d_mn, d_mx, d_w, d_nn, d_bn, d_len, d_neg, d_at0, d_at1, d_at2, d_at3, d_at4, d_at5, d_at6, d_at7, d_set, d_app, d_cat, d_take, d_drop, d_rep, d_cons, d_lt_t, d_lt_f, d_le_t, d_le_f, d_eqi_t, d_eqi_f, d_eqb_t, d_eqb_f, d_nb_t, d_nb_f, nth0, nthS, d_shl2, d_shl3, d_shl16, d_shl40, d_shr2, d_shr3, d_shr16, d_shr40, hN, up_e hR, up_g hR, up_lo hR, up_hi hR]
        · exact nextH (by omega) _ _ _ _ (by omega) (by omega) (by omega) (by omega) ⟨fun _ => ⟨rfl, fun z => by omega, fun _ => rfl, fun _ => q3 (by omega), fun z => by omega, fun _ => q5 (by omega)⟩, fun z => absurd z (by decide)⟩
        · exact dec _ _ _ _ _ _ _ _ (by omega)
    · have hp := q2 (by omega)
      subst hp
      repeat' (first
        | (refine TOK.br' (fun h => ?_) (fun h => ?_) <;> (try simp (disch := omega) only [d_cl, d_vi, d_vb, d_vr, d_ci, d_cb, d_nr, d_nl, d_add, d_sub, d_mul, d_rem, d_quo, d_bit, d_mn, d_mx, d_w, d_nn, d_bn, d_len, d_neg, d_at0, d_at1, d_at2, d_at3, d_at4, d_at5, d_at6, d_at7, d_set, d_app, d_cat, d_take, d_drop, d_rep, d_cons, d_lt_t, d_lt_f, d_le_t, d_le_f, d_eqi_t, d_eqi_f, d_eqb_t, d_eqb_f, d_nb_t, d_nb_f, nth0, nthS, d_shl2, d_shl3, d_shl16, d_shl40, d_shr2, d_shr3, d_shr16, d_shr40, hN, up_e hR, up_g hR, up_lo hR, up_hi hR, Int.reduceEq, not_true_eq_false, not_false_eq_true] at h) <;> (try (exfalso; first | omega | contradiction)))
        | (with_reducible refine TOK.leaf' ?_))
      all_goals
        refine And.intro (?_ : Inv 1 _) (?_ : lt2 μ (1, _) _) <;> simp (disch := omega) only [Sb.val, List.map_cons, List.map_nil, d_cl, d_vi, d_vb, d_vr, d_ci, d_cb, d_nr, d_nl, d_add, d_sub, d_mul, d_rem, d_quo, d_bit, d_mn, d_mx, d_w, d_nn, d_bn, d_len, d_neg, d_at0, d_at1, d_at2, d_at3, d_at4, d_at5, d_at6, d_at7, d_set, d_app, d_cat, d_take, d_drop, d_rep, d_cons, d_lt_t, d_lt_f, d_le_t, d_le_f, d_eqi_t, d_eqi_f, d_eqb_t, d_eqb_f, d_nb_t, d_nb_f, nth0, nthS, d_shl2, d_shl3, d_shl16, d_shl40, d_shr2, d_shr3, d_shr16, d_shr40, hN, up_e hR, up_g hR, up_lo hR, up_hi hR]
        · exact same (by omega) ⟨fun _ => ⟨rfl, fun z => by omega, fun _ => rfl, fun _ => q3 (by omega), fun z => by omega, fun _ => q5 (by omega)⟩, fun z => absurd z (by decide)⟩
        · exact dec _ _ _ _ _ _ _ _ (by omega)
    · have hp := q2 (by omega)
      subst hp
      repeat' (first
        | (refine TOK.br' (fun h => ?_) (fun h => ?_) <;> (try simp (disch := omega) only [d_cl, d_vi, d_vb, d_vr, d_ci, d_cb, d_nr, d_nl, d_add, d_sub, d_mul, d_rem, d_quo, d_bit, d_mn, d_mx, d_w, d_nn, d_bn, d_len, d_neg, d_at0, d_at1, d_at2, d_at3, d_at4, d_at5, d_at6, d_at7, d_set, d_app, d_cat, d_take, d_drop, d_rep, d_cons, d_lt_t, d_lt_f, d_le_t, d_le_f, d_eqi_t, d_eqi_f, d_eqb_t, d_eqb_f, d_nb_t, d_nb_f, nth0, nthS, d_shl2, d_shl3, d_shl16, d_shl40, d_shr2, d_shr3, d_shr16, d_shr40, hN, up_e hR, up_g hR, up_lo hR, up_hi hR, Int.reduceEq, not_true_eq_false, not_false_eq_true] at h) <;> (try (exfalso; first | omega | contradiction)))
        | (with_reducible refine TOK.leaf' ?_))
      all_goals
        refine And.intro (?_ : Inv 2 _) (?_ : lt2 μ (2, _) _) <;> simp (disch := omega) only [Sb.val, List.map_cons, List.map_nil, d_cl, d_vi, d_vb, d_vr, d_ci, d_cb, d_nr, d_nl, d_add, d_sub, d_mul, d_rem, d_quo, d_bit, d_mn, d_mx, d_w, d_nn, d_bn, d_len, d_neg, d_at0, d_at1, d_at2, d_at3, d_at4, d_at5, d_at6, d_at7, d_set, d_app, d_cat, d_take, d_drop, d_rep, d_cons, d_lt_t, d_lt_f, d_le_t, d_le_f, d_eqi_t, d_eqi_f, d_eqb_t, d_eqb_f, d_nb_t, d_nb_f, nth0, nthS, d_shl2, d_shl3, d_shl16, d_shl40, d_shr2, d_shr3, d_shr16, d_shr40, hN, up_e hR, up_g hR, up_lo hR, up_hi hR]
        · exact .inr (.inr ⟨rfl, slot, x, 0, s, e, g, lo, hi, T, S, who, _, k, val, 1, N, false, tl, r0, r1, rfl, hB, by omega, hV, hW, fun _ => ⟨rfl, q3 (by omega), q5 (by omega)⟩, fun z => absurd z (by decide)⟩)
        · exact .inl (by simp [μ])
  | true =>
    obtain ⟨ho, q1, q2, q3, q4⟩ := hS.2 rfl
    rcases (by omega : n = 0 ∨ n = 1 ∨ n = 2 ∨ n = 3 ∨ n = 4 ∨ n = 5 ∨ n = 6) with rfl | rfl | rfl | rfl | rfl | rfl | rfl
    · obtain ⟨hk, hp, ht⟩ := q1 (by omega)
      subst hk hp ht
      repeat' (first
        | (refine TOK.br' (fun h => ?_) (fun h => ?_) <;> (try simp (disch := omega) only [d_cl, d_vi, d_vb, d_vr, d_ci, d_cb, d_nr, d_nl, d_add, d_sub, d_mul, d_rem, d_quo, d_bit, d_mn, d_mx, d_w, d_nn, d_bn, d_len, d_neg, d_at0, d_at1, d_at2, d_at3, d_at4, d_at5, d_at6, d_at7, d_set, d_app, d_cat, d_take, d_drop, d_rep, d_cons, d_lt_t, d_lt_f, d_le_t, d_le_f, d_eqi_t, d_eqi_f, d_eqb_t, d_eqb_f, d_nb_t, d_nb_f, nth0, nthS, d_shl2, d_shl3, d_shl16, d_shl40, d_shr2, d_shr3, d_shr16, d_shr40, hN, up_e hR, up_g hR, up_lo hR, up_hi hR, Int.reduceEq, not_true_eq_false, not_false_eq_true] at h) <;> (try (exfalso; first | omega | contradiction)))
        | (with_reducible refine TOK.leaf' ?_))
      all_goals
        refine And.intro (?_ : Inv 1 _) (?_ : lt2 μ (1, _) _) <;> simp (disch := omega) only [Sb.val, List.map_cons, List.map_nil, d_cl, d_vi, d_vb, d_vr, d_ci, d_cb, d_nr, d_nl, d_add, d_sub, d_mul, d_rem, d_quo, d_bit, d_mn, d_mx, d_w, d_nn, d_bn, d_len, d_neg, d_at0, d_at1, d_at2, d_at3, d_at4, d_at5, d_at6, d_at7, d_set, d_app, d_cat, d_take, d_drop, d_rep, d_cons, d_lt_t, d_lt_f, d_le_t, d_le_f, d_eqi_t, d_eqi_f, d_eqb_t, d_eqb_f, d_nb_t, d_nb_f, nth0, nthS, d_shl2, d_shl3, d_shl16, d_shl40, d_shr2, d_shr3, d_shr16, d_shr40, hN, up_e hR, up_g hR, up_lo hR, up_hi hR]
        · exact nextH (by omega) _ _ _ _ (by omega) (by omega) (by omega) (by omega) ⟨fun z => absurd z (by decide), fun _ => ⟨ho, fun _ => ⟨by omega, rfl, rfl⟩, fun z => by omega, fun z => by omega, q4⟩⟩
        · exact dec _ _ _ _ _ _ _ _ (by omega)
    · obtain ⟨hk, hp, ht⟩ := q1 (by omega)
      subst hk hp ht
      repeat' (first
        | (refine TOK.br' (fun h => ?_) (fun h => ?_) <;> (try simp (disch := omega) only [d_cl, d_vi, d_vb, d_vr, d_ci, d_cb, d_nr, d_nl, d_add, d_sub, d_mul, d_rem, d_quo, d_bit, d_mn, d_mx, d_w, d_nn, d_bn, d_len, d_neg, d_at0, d_at1, d_at2, d_at3, d_at4, d_at5, d_at6, d_at7, d_set, d_app, d_cat, d_take, d_drop, d_rep, d_cons, d_lt_t, d_lt_f, d_le_t, d_le_f, d_eqi_t, d_eqi_f, d_eqb_t, d_eqb_f, d_nb_t, d_nb_f, nth0, nthS, d_shl2, d_shl3, d_shl16, d_shl40, d_shr2, d_shr3, d_shr16, d_shr40, hN, up_e hR, up_g hR, up_lo hR, up_hi hR, Int.reduceEq, not_true_eq_false, not_false_eq_true] at h) <;> (try (exfalso; first | omega | contradiction)))
        | (with_reducible refine TOK.leaf' ?_))
      all_goals
        refine And.intro (?_ : Inv 1 _) (?_ : lt2 μ (1, _) _) <;> simp (disch := omega) only [Sb.val, List.map_cons, List.map_nil, d_cl, d_vi, d_vb, d_vr, d_ci, d_cb, d_nr, d_nl, d_add, d_sub, d_mul, d_rem, d_quo, d_bit, d_mn, d_mx, d_w, d_nn, d_bn, d_len, d_neg, d_at0, d_at1, d_at2, d_at3, d_at4, d_at5, d_at6, d_at7, d_set, d_app, d_cat, d_take, d_drop, d_rep, d_cons, d_lt_t, d_lt_f, d_le_t, d_le_f, d_eqi_t, d_eqi_f, d_eqb_t, d_eqb_f, d_nb_t, d_nb_f, nth0, nthS, d_shl2, d_shl3, d_shl16, d_shl40, d_shr2, d_shr3, d_shr16, d_shr40, hN, up_e hR, up_g hR, up_lo hR, up_hi hR]
        · refine nextL (by omega) _ _ _ _ _ (by omega) (by omega) ⟨fun z => absurd z (by decide), fun _ => ⟨ho, fun z => by omega, fun _ => ⟨rfl, ?_⟩, fun z => by omega, q4⟩⟩
          rw [d_not_b, d_eqi_b]; simp only [d_cl, d_vi, d_vb, d_vr, d_ci, d_cb, d_nr, d_nl, d_add, d_sub, d_mul, d_rem, d_quo, d_bit, d_mn, d_mx, d_w, d_nn, d_bn, d_len, d_neg, d_at0, d_at1, d_at2, d_at3, d_at4, d_at5, d_at6, d_at7, d_set, d_app, d_cat, d_take, d_drop, d_rep, d_cons, d_lt_t, d_lt_f, d_le_t, d_le_f, d_eqi_t, d_eqi_f, d_eqb_t, d_eqb_f, d_nb_t, d_nb_f, nth0, nthS, q4]; simpa using Ne.symm ho
        · exact dec _ _ _ _ _ _ _ _ (by omega)
    · obtain ⟨hp, ht⟩ := q2 (by omega)
      subst hp ht
      repeat' (first
        | (refine TOK.br' (fun h => ?_) (fun h => ?_) <;> (try simp (disch := omega) only [d_cl, d_vi, d_vb, d_vr, d_ci, d_cb, d_nr, d_nl, d_add, d_sub, d_mul, d_rem, d_quo, d_bit, d_mn, d_mx, d_w, d_nn, d_bn, d_len, d_neg, d_at0, d_at1, d_at2, d_at3, d_at4, d_at5, d_at6, d_at7, d_set, d_app, d_cat, d_take, d_drop, d_rep, d_cons, d_lt_t, d_lt_f, d_le_t, d_le_f, d_eqi_t, d_eqi_f, d_eqb_t, d_eqb_f, d_nb_t, d_nb_f, nth0, nthS, d_shl2, d_shl3, d_shl16, d_shl40, d_shr2, d_shr3, d_shr16, d_shr40, hN, up_e hR, up_g hR, up_lo hR, up_hi hR, Int.reduceEq, not_true_eq_false, not_false_eq_true] at h) <;> (try (exfalso; first | omega | contradiction)))
        | (with_reducible refine TOK.leaf' ?_))
      all_goals
        refine And.intro (?_ : Inv 1 _) (?_ : lt2 μ (1, _) _) <;> simp (disch := omega) only [Sb.val, List.map_cons, List.map_nil, d_cl, d_vi, d_vb, d_vr, d_ci, d_cb, d_nr, d_nl, d_add, d_sub, d_mul, d_rem, d_quo, d_bit, d_mn, d_mx, d_w, d_nn, d_bn, d_len, d_neg, d_at0, d_at1, d_at2, d_at3, d_at4, d_at5, d_at6, d_at7, d_set, d_app, d_cat, d_take, d_drop, d_rep, d_cons, d_lt_t, d_lt_f, d_le_t, d_le_f, d_eqi_t, d_eqi_f, d_eqb_t, d_eqb_f, d_nb_t, d_nb_f, nth0, nthS, d_shl2, d_shl3, d_shl16, d_shl40, d_shr2, d_shr3, d_shr16, d_shr40, hN, up_e hR, up_g hR, up_lo hR, up_hi hR]
        · exact nextH (by omega) _ _ _ _ (by omega) (by omega) (by omega) (by omega) ⟨fun z => absurd z (by decide), fun _ => ⟨ho, fun z => by omega, fun z => by omega, fun _ => rfl, q4⟩⟩
        · exact dec _ _ _ _ _ _ _ _ (by omega)
    · have hp := q3 (by omega)
      subst hp
      repeat' (first
        | (refine TOK.br' (fun h => ?_) (fun h => ?_) <;> (try simp (disch := omega) only [d_cl, d_vi, d_vb, d_vr, d_ci, d_cb, d_nr, d_nl, d_add, d_sub, d_mul, d_rem, d_quo, d_bit, d_mn, d_mx, d_w, d_nn, d_bn, d_len, d_neg, d_at0, d_at1, d_at2, d_at3, d_at4, d_at5, d_at6, d_at7, d_set, d_app, d_cat, d_take, d_drop, d_rep, d_cons, d_lt_t, d_lt_f, d_le_t, d_le_f, d_eqi_t, d_eqi_f, d_eqb_t, d_eqb_f, d_nb_t, d_nb_f, nth0, nthS, d_shl2, d_shl3, d_shl16, d_shl40, d_shr2, d_shr3, d_shr16, d_shr40, hN, up_e hR, up_g hR, up_lo hR, up_hi hR, Int.reduceEq, not_true_eq_false, not_false_eq_true] at h) <;> (try (exfalso; first | omega | contradiction)))
        | (with_reducible refine TOK.leaf' ?_))
      all_goals
        refine And.intro (?_ : Inv 1 _) (?_ : lt2 μ (1, _) _) <;> simp (disch := omega) only [Sb.val, List.map_cons, List.map_nil, d_cl, d_vi, d_vb, d_vr, d_ci, d_cb, d_nr, d_nl, d_add, d_sub, d_mul, d_rem, d_quo, d_bit, d_mn, d_mx, d_w, d_nn, d_bn, d_len, d_neg, d_at0, d_at1, d_at2, d_at3, d_at4, d_at5, d_at6, d_at7, d_set, d_app, d_cat, d_take, d_drop, d_rep, d_cons, d_lt_t, d_lt_f, d_le_t, d_le_f, d_eqi_t, d_eqi_f, d_eqb_t, d_eqb_f, d_nb_t, d_nb_f, nth0, nthS, d_shl2, d_shl3, d_shl16, d_shl40, d_shr2, d_shr3, d_shr16, d_shr40, hN, up_e hR, up_g hR, up_lo hR, up_hi hR]
        · exact same (by omega) ⟨fun z => absurd z (by decide), fun _ => ⟨ho, fun z => by omega, fun z => by omega, fun _ => rfl, q4⟩⟩
        · exact dec _ _ _ _ _ _ _ _ (by omega)
    · have hp := q3 (by omega)
      subst hp
      repeat' (first
        | (refine TOK.br' (fun h => ?_) (fun h => ?_) <;> (try simp (disch := omega) only [d_cl, d_vi, d_vb, d_vr, d_ci, d_cb, d_nr, d_nl, d_add, d_sub, d_mul, d_rem, d_quo, d_bit, d_mn, d_mx, d_w, d_nn, d_bn, d_len, d_neg, d_at0, d_at1, d_at2, d_at3, d_at4, d_at5, d_at6, d_at7, d_set, d_app, d_cat, d_take, d_drop, d_rep, d_cons, d_lt_t, d_lt_f, d_le_t, d_le_f, d_eqi_t, d_eqi_f, d_eqb_t, d_eqb_f, d_nb_t, d_nb_f, nth0, nthS, d_shl2, d_shl3, d_shl16, d_shl40, d_shr2, d_shr3, d_shr16, d_shr40, hN, up_e hR, up_g hR, up_lo hR, up_hi hR, Int.reduceEq, not_true_eq_false, not_false_eq_true] at h) <;> (try (exfalso; first | omega | contradiction)))
        | (with_reducible refine TOK.leaf' ?_))
      all_goals
        refine And.intro (?_ : Inv 1 _) (?_ : lt2 μ (1, _) _) <;> simp (disch := omega) only [Sb.val, List.map_cons, List.map_nil, d_cl, d_vi, d_vb, d_vr, d_ci, d_cb, d_nr, d_nl, d_add, d_sub, d_mul, d_rem, d_quo, d_bit, d_mn, d_mx, d_w, d_nn, d_bn, d_len, d_neg, d_at0, d_at1, d_at2, d_at3, d_at4, d_at5, d_at6, d_at7, d_set, d_app, d_cat, d_take, d_drop, d_rep, d_cons, d_lt_t, d_lt_f, d_le_t, d_le_f, d_eqi_t, d_eqi_f, d_eqb_t, d_eqb_f, d_nb_t, d_nb_f, nth0, nthS, d_shl2, d_shl3, d_shl16, d_shl40, d_shr2, d_shr3, d_shr16, d_shr40, hN, up_e hR, up_g hR, up_lo hR, up_hi hR]
        · exact same (by omega) ⟨fun z => absurd z (by decide), fun _ => ⟨ho, fun z => by omega, fun z => by omega, fun _ => rfl, q4⟩⟩
        · exact dec _ _ _ _ _ _ _ _ (by omega)
    · have hp := q3 (by omega)
      subst hp
      repeat' (first
        | (refine TOK.br' (fun h => ?_) (fun h => ?_) <;> (try simp (disch := omega) only [d_cl, d_vi, d_vb, d_vr, d_ci, d_cb, d_nr, d_nl, d_add, d_sub, d_mul, d_rem, d_quo, d_bit, d_mn, d_mx, d_w, d_nn, d_bn, d_len, d_neg, d_at0, d_at1, d_at2, d_at3, d_at4, d_at5, d_at6, d_at7, d_set, d_app, d_cat, d_take, d_drop, d_rep, d_cons, d_lt_t, d_lt_f, d_le_t, d_le_f, d_eqi_t, d_eqi_f, d_eqb_t, d_eqb_f, d_nb_t, d_nb_f, nth0, nthS, d_shl2, d_shl3, d_shl16, d_shl40, d_shr2, d_shr3, d_shr16, d_shr40, hN, up_e hR, up_g hR, up_lo hR, up_hi hR, Int.reduceEq, not_true_eq_false, not_false_eq_true] at h) <;> (try (exfalso; first | omega | contradiction)))
        | (with_reducible refine TOK.leaf' ?_))
      all_goals
        refine And.intro (?_ : Inv 1 _) (?_ : lt2 μ (1, _) _) <;> simp (disch := omega) only [Sb.val, List.map_cons, List.map_nil, d_cl, d_vi, d_vb, d_vr, d_ci, d_cb, d_nr, d_nl, d_add, d_sub, d_mul, d_rem, d_quo, d_bit, d_mn, d_mx, d_w, d_nn, d_bn, d_len, d_neg, d_at0, d_at1, d_at2, d_at3, d_at4, d_at5, d_at6, d_at7, d_set, d_app, d_cat, d_take, d_drop, d_rep, d_cons, d_lt_t, d_lt_f, d_le_t, d_le_f, d_eqi_t, d_eqi_f, d_eqb_t, d_eqb_f, d_nb_t, d_nb_f, nth0, nthS, d_shl2, d_shl3, d_shl16, d_shl40, d_shr2, d_shr3, d_shr16, d_shr40, hN, up_e hR, up_g hR, up_lo hR, up_hi hR]
        · exact same (by omega) ⟨fun z => absurd z (by decide), fun _ => ⟨ho, fun z => by omega, fun z => by omega, fun _ => rfl, q4⟩⟩
        · exact dec _ _ _ _ _ _ _ _ (by omega)
    · have hp := q3 (by omega)
      subst hp
      repeat' (first
        | (refine TOK.br' (fun h => ?_) (fun h => ?_) <;> (try simp (disch := omega) only [d_cl, d_vi, d_vb, d_vr, d_ci, d_cb, d_nr, d_nl, d_add, d_sub, d_mul, d_rem, d_quo, d_bit, d_mn, d_mx, d_w, d_nn, d_bn, d_len, d_neg, d_at0, d_at1, d_at2, d_at3, d_at4, d_at5, d_at6, d_at7, d_set, d_app, d_cat, d_take, d_drop, d_rep, d_cons, d_lt_t, d_lt_f, d_le_t, d_le_f, d_eqi_t, d_eqi_f, d_eqb_t, d_eqb_f, d_nb_t, d_nb_f, nth0, nthS, d_shl2, d_shl3, d_shl16, d_shl40, d_shr2, d_shr3, d_shr16, d_shr40, hN, up_e hR, up_g hR, up_lo hR, up_hi hR, Int.reduceEq, not_true_eq_false, not_false_eq_true] at h) <;> (try (exfalso; first | omega | contradiction)))
        | (with_reducible refine TOK.leaf' ?_))
      all_goals
        refine And.intro (?_ : Inv 2 _) (?_ : lt2 μ (2, _) _) <;> simp (disch := omega) only [Sb.val, List.map_cons, List.map_nil, d_cl, d_vi, d_vb, d_vr, d_ci, d_cb, d_nr, d_nl, d_add, d_sub, d_mul, d_rem, d_quo, d_bit, d_mn, d_mx, d_w, d_nn, d_bn, d_len, d_neg, d_at0, d_at1, d_at2, d_at3, d_at4, d_at5, d_at6, d_at7, d_set, d_app, d_cat, d_take, d_drop, d_rep, d_cons, d_lt_t, d_lt_f, d_le_t, d_le_f, d_eqi_t, d_eqi_f, d_eqb_t, d_eqb_f, d_nb_t, d_nb_f, nth0, nthS, d_shl2, d_shl3, d_shl16, d_shl40, d_shr2, d_shr3, d_shr16, d_shr40, hN, up_e hR, up_g hR, up_lo hR, up_hi hR]
        · exact .inr (.inr ⟨rfl, slot, x, 0, s, e, g, lo, hi, T, S, who, old, k, val, 2, N, true, tl, r0, r1, rfl, hB, by omega, hV, hW, fun z => absurd z (by decide), fun _ => ⟨rfl, q4⟩⟩)
        · exact .inl (by simp [μ])
theorem s2 : ∀ v, Inv 2 v → TOK v (fun _ g => LgOK v (fun q u => Inv q u ∧ lt2 μ (q, u) (2, v)) g) tr2 := by
  intro v hv
  obtain ⟨slot, x, i, s, e, g, lo, hi, T, S, who, old, k, val, ph, N, lost, tl, r0, r1, rfl, hB, h1, hV, hW, h2, h3⟩ := inv2 hv
  have hp := pack_sum hB.right
  have hp2 := pack_sum hB.right2
  have hB' := hB
  unfold FB at hB'
  have hN : T * S = N := hB'.2.2.2.2.1
  have c1 : i < N → ¬ i = slot → cl r0 i = pk s e g lo hi := fun z1 z2 => hW i (by omega) z1 z2
  have c2 : i = slot → cl r0 i = cl r0 slot := fun z => by rw [z]
  have c3 : i < N → cl r0 (N + i) = IntKind.u64.wrap (x + i) := fun z => hV i (by omega) z
  have next : i < N → Inv 2 ⟨[slot, x, i + 1, s, e, g, lo, hi, T, S, who, old, k, val, ph], [lost, tl], [r0, r1], []⟩ := fun z => .inr (.inr ⟨rfl, slot, x, i + 1, s, e, g, lo, hi, T, S, who, old, k, val, ph, N, lost, tl, r0, r1, rfl, hB, by omega, hV, hW, h2, h3⟩)
  unfold tr2
  cases lost with
  | false =>
    obtain ⟨d1, d2, d3⟩ := h2 rfl
    refine TOK.br' (fun hlt => ?_) (fun hge => ?_)
    · simp only [d_vi, d_vb, d_vr, d_ci, d_cb, d_nr, d_nl, d_add, d_sub, d_mul, d_rem, d_quo, d_bit, d_mn, d_mx, d_w, d_nn, d_bn, d_len, d_neg, d_at0, d_at1, d_at2, d_at3, d_at4, d_at5, d_at6, d_at7, d_set, d_app, d_cat, d_take, d_drop, d_rep, d_cons, d_lt_t, d_lt_f, d_le_t, d_le_f, d_eqi_t, d_eqi_f, d_eqb_t, d_eqb_f, d_nb_t, d_nb_f, nth0, nthS, hN] at hlt
      have c1 := c1 hlt
      have c3 := c3 hlt
      repeat' (first
        | (refine TOK.br' (fun h => ?_) (fun h => ?_) <;> (try simp (disch := omega) only [d_cl, d_vi, d_vb, d_vr, d_ci, d_cb, d_nr, d_nl, d_add, d_sub, d_mul, d_rem, d_quo, d_bit, d_mn, d_mx, d_w, d_nn, d_bn, d_len, d_neg, d_at0, d_at1, d_at2, d_at3, d_at4, d_at5, d_at6, d_at7, d_set, d_app, d_cat, d_take, d_drop, d_rep, d_cons, d_lt_t, d_lt_f, d_le_t, d_le_f, d_eqi_t, d_eqi_f, d_eqb_t, d_eqb_f, d_nb_t, d_nb_f, nth0, nthS, d_shl2, d_shl3, d_shl16, d_shl40, hN, hp, hp2] at h) <;> (try (exfalso; first | omega | contradiction)))
        | (with_reducible refine TOK.leaf' ?_))
      all_goals
        refine ⟨?_, .inr ⟨rfl, ?_⟩⟩
        · exact next hlt
        · simp only [μ, Sb.val, List.map_cons, List.map_nil, d_vi, d_vb, d_vr, d_ci, d_cb, d_nr, d_nl, d_add, d_sub, d_mul, d_rem, d_quo, d_bit, d_mn, d_mx, d_w, d_nn, d_bn, d_len, d_neg, d_at0, d_at1, d_at2, d_at3, d_at4, d_at5, d_at6, d_at7, d_set, d_app, d_cat, d_take, d_drop, d_rep, d_cons, d_lt_t, d_lt_f, d_le_t, d_le_f, d_eqi_t, d_eqi_f, d_eqb_t, d_eqb_f, d_nb_t, d_nb_f, nth0, nthS]; omega
    · repeat' (first
        | (refine TOK.br' (fun h => ?_) (fun h => ?_) <;> (try simp (disch := omega) only [d_cl, d_vi, d_vb, d_vr, d_ci, d_cb, d_nr, d_nl, d_add, d_sub, d_mul, d_rem, d_quo, d_bit, d_mn, d_mx, d_w, d_nn, d_bn, d_len, d_neg, d_at0, d_at1, d_at2, d_at3, d_at4, d_at5, d_at6, d_at7, d_set, d_app, d_cat, d_take, d_drop, d_rep, d_cons, d_lt_t, d_lt_f, d_le_t, d_le_f, d_eqi_t, d_eqi_f, d_eqb_t, d_eqb_f, d_nb_t, d_nb_f, nth0, nthS, d_shl2, d_shl3, d_shl16, d_shl40, hN] at h) <;> (try (exfalso; first | omega | contradiction)))
        | (with_reducible refine TOK.leaf' ?_))
      show (den _ _).b = true
      rw [d_eqi_t]; simp only [d_vi, d_vb, d_vr, d_ci, d_cb, d_nr, d_nl, d_add, d_sub, d_mul, d_rem, d_quo, d_bit, d_mn, d_mx, d_w, d_nn, d_bn, d_len, d_neg, d_at0, d_at1, d_at2, d_at3, d_at4, d_at5, d_at6, d_at7, d_set, d_app, d_cat, d_take, d_drop, d_rep, d_cons, d_lt_t, d_lt_f, d_le_t, d_le_f, d_eqi_t, d_eqi_f, d_eqb_t, d_eqb_f, d_nb_t, d_nb_f, nth0, nthS]; exact d2
  | true =>
    obtain ⟨d1, d3⟩ := h3 rfl
    refine TOK.br' (fun hlt => ?_) (fun hge => ?_)
    · simp only [d_vi, d_vb, d_vr, d_ci, d_cb, d_nr, d_nl, d_add, d_sub, d_mul, d_rem, d_quo, d_bit, d_mn, d_mx, d_w, d_nn, d_bn, d_len, d_neg, d_at0, d_at1, d_at2, d_at3, d_at4, d_at5, d_at6, d_at7, d_set, d_app, d_cat, d_take, d_drop, d_rep, d_cons, d_lt_t, d_lt_f, d_le_t, d_le_f, d_eqi_t, d_eqi_f, d_eqb_t, d_eqb_f, d_nb_t, d_nb_f, nth0, nthS, hN] at hlt
      have c1 := c1 hlt
      have c3 := c3 hlt
      repeat' (first
        | (refine TOK.br' (fun h => ?_) (fun h => ?_) <;> (try simp (disch := omega) only [d_cl, d_vi, d_vb, d_vr, d_ci, d_cb, d_nr, d_nl, d_add, d_sub, d_mul, d_rem, d_quo, d_bit, d_mn, d_mx, d_w, d_nn, d_bn, d_len, d_neg, d_at0, d_at1, d_at2, d_at3, d_at4, d_at5, d_at6, d_at7, d_set, d_app, d_cat, d_take, d_drop, d_rep, d_cons, d_lt_t, d_lt_f, d_le_t, d_le_f, d_eqi_t, d_eqi_f, d_eqb_t, d_eqb_f, d_nb_t, d_nb_f, nth0, nthS, d_shl2, d_shl3, d_shl16, d_shl40, hN, hp, hp2] at h) <;> (try (exfalso; first | omega | contradiction)))
        | (with_reducible refine TOK.leaf' ?_))
      all_goals
        refine ⟨?_, .inr ⟨rfl, ?_⟩⟩
        · exact next hlt
        · simp only [μ, Sb.val, List.map_cons, List.map_nil, d_vi, d_vb, d_vr, d_ci, d_cb, d_nr, d_nl, d_add, d_sub, d_mul, d_rem, d_quo, d_bit, d_mn, d_mx, d_w, d_nn, d_bn, d_len, d_neg, d_at0, d_at1, d_at2, d_at3, d_at4, d_at5, d_at6, d_at7, d_set, d_app, d_cat, d_take, d_drop, d_rep, d_cons, d_lt_t, d_lt_f, d_le_t, d_le_f, d_eqi_t, d_eqi_f, d_eqb_t, d_eqb_f, d_nb_t, d_nb_f, nth0, nthS]; omega
    · repeat' (first
        | (refine TOK.br' (fun h => ?_) (fun h => ?_) <;> (try simp (disch := omega) only [d_cl, d_vi, d_vb, d_vr, d_ci, d_cb, d_nr, d_nl, d_add, d_sub, d_mul, d_rem, d_quo, d_bit, d_mn, d_mx, d_w, d_nn, d_bn, d_len, d_neg, d_at0, d_at1, d_at2, d_at3, d_at4, d_at5, d_at6, d_at7, d_set, d_app, d_cat, d_take, d_drop, d_rep, d_cons, d_lt_t, d_lt_f, d_le_t, d_le_f, d_eqi_t, d_eqi_f, d_eqb_t, d_eqb_f, d_nb_t, d_nb_f, nth0, nthS, d_shl2, d_shl3, d_shl16, d_shl40, hN] at h) <;> (try (exfalso; first | omega | contradiction)))
        | (with_reducible refine TOK.leaf' ?_))
      exact rfl
/-- At the begin. -/
theorem sS (a0 a1 a2 a3 n0 n1 n2 n3 n4 : Int) (b : Bool) (x : Int) : TOK ⟨[a0, a1, a2, a3, n0, n1, n2, n3, n4, x], [b], [], []⟩ (fun _ g => LgOK ⟨[a0, a1, a2, a3, n0, n1, n2, n3, n4, x], [b], [], []⟩ Inv g) trS := by
  unfold trS
  have hT : 0 ≤ a0 % 4 ∧ a0 % 4 < 4 := by omega
  have hS : 0 ≤ a1 % 4 ∧ a1 % 4 < 4 := by omega
  have hN := prod4 (T := a0 % 4 + 1) (S := a1 % 4 + 1) (by omega) (by omega) (by omega) (by omega)
  have h1 := mod_in (a := a2 % 65536) (N := a0 % 4 + 1) (by omega)
  have h2 := mod_in (a := a3 % 65536) (N := (a0 % 4 + 1) * (a1 % 4 + 1)) (by omega)
  repeat' (first
    | (refine TOK.br' (fun h => ?_) (fun h => ?_) <;> (try simp (disch := omega) only [d_vi, d_vb, d_vr, d_ci, d_cb, d_nr, d_nl, d_add, d_sub, d_mul, d_rem, d_quo, d_bit, d_mn, d_mx, d_w, d_nn, d_bn, d_len, d_neg, d_at0, d_at1, d_at2, d_at3, d_at4, d_at5, d_at6, d_at7, d_set, d_app, d_cat, d_take, d_drop, d_rep, d_cons, d_lt_t, d_lt_f, d_le_t, d_le_f, d_eqi_t, d_eqi_f, d_eqb_t, d_eqb_f, d_nb_t, d_nb_f, nth0, nthS] at h))
    | (with_reducible refine TOK.leaf' ?_))
  all_goals first
    | exact rfl
    | (refine (show Inv 0 _ from ?_)
       simp (disch := omega) only [Sb.val, List.map_cons, List.map_nil, d_vi, d_vb, d_vr, d_ci, d_cb, d_nr, d_nl, d_add, d_sub, d_mul, d_rem, d_quo, d_bit, d_mn, d_mx, d_w, d_nn, d_bn, d_len, d_neg, d_at0, d_at1, d_at2, d_at3, d_at4, d_at5, d_at6, d_at7, d_set, d_app, d_cat, d_take, d_drop, d_rep, d_cons, d_lt_t, d_lt_f, d_le_t, d_le_f, d_eqi_t, d_eqi_f, d_eqb_t, d_eqb_f, d_nb_t, d_nb_f, nth0, nthS, and3, and65535, tmod_pos]
       refine .inl ⟨rfl, (a2 % 65536) % (a0 % 4 + 1), (a3 % 65536) % ((a0 % 4 + 1) * (a1 % 4 + 1)), x, 0, n0, n1, n2, n3, n4, a0 % 4 + 1, a1 % 4 + 1, (a0 % 4 + 1) * (a1 % 4 + 1), b, _, _, rfl, ?_, ?_, fun j g1 g2 => by omega⟩
       · unfold FB; rw [List.length_replicate]; generalize (a0 % 4 + 1) * (a1 % 4 + 1) = N at *; omega
       · simp only [List.length_nil]; omega)
theorem TakeLeaves_walk (a0 a1 a2 a3 n0 n1 n2 n3 n4 : Int) (b : Bool) (x : Int) (w : World) (wa0 : (Lit.int .i64 a0).wf = true) (wa1 : (Lit.int .i64 a1).wf = true) (wa2 : (Lit.int .i64 a2).wf = true) (wa3 : (Lit.int .i64 a3).wf = true) (wn0 : (Lit.int .i64 n0).wf = true) (wn1 : (Lit.int .i64 n1).wf = true) (wn2 : (Lit.int .i64 n2).wf = true) (wn3 : (Lit.int .i64 n3).wf = true) (wn4 : (Lit.int .i64 n4).wf = true) (wx : (Lit.int .u64 x).wf = true) :
    Calls Try.prog 11 #[.int .i64 a0, .int .i64 a1, .int .i64 a2, .int .i64 a3, .agg #[.int .i64 n0, .int .i64 n1, .int .i64 n2, .int .i64 n3, .int .i64 n4], .bool b, .int .u64 x] w fun e w' => e = .returned (.bool true) ∧ Below w.heap.size w w' :=
  law_calls (v := ⟨[a0, a1, a2, a3, n0, n1, n2, n3, n4, x], [b], [], []⟩) (l := []) (args := args) (args' := [.int .i64 a0, .int .i64 a1, .int .i64 a2, .int .i64 a3, .agg #[.int .i64 n0, .int .i64 n1, .int .i64 n2, .int .i64 n3, .int .i64 n4], .bool b, .int .u64 x]) hI0 hfn hbod (by decide) rfl (by simp)
    (.cons (.int _ _) (.cons (.int _ _) (.cons (.int _ _) (.cons (.int _ _) (.cons (VRel.ofL (.cons (.int _ _) (.cons (.int _ _) (.cons (.int _ _) (.cons (.int _ _) (.cons (.int _ _) (.nil _))))))) (.cons (.bool _) (.cons (.int _ _) (.nil _))))))))
    (aw ⟨[a0, a1, a2, a3, n0, n1, n2, n3, n4, x], [b], [], []⟩ Inv μ KV.nil k0 k1 k2 (sS a0 a1 a2 a3 n0 n1 n2 n3 n4 b x) s0 s1 s2)
end Go.Proofs.Ytnkgkdhddaongaa.KTakeLeaves
