/- The pure law of StampSorts, over numbers and lists alone: the printed Lean function of the law answers true for every argument. No condition. -/
import Derived.Test.YtlimmmnpcomfjaaPStampSortsx4
import Derived.Laws.BitsLemmas
namespace Go.Proofs.Ytlimmmnpcomfjaa.Pure
open Go.RowKit Go.Proofs.Ytlimmmnpcomfjaa.PStampSorts Go.Proofs.YtlimmmnpcomfjaaW.PrintWords Go.Proofs.YtlimmmnpcomfjaaW.PrintLast Go.Proofs.YtlimmmnpcomfjaaW.PrintMore
set_option linter.unusedVariables false
set_option linter.unusedSimpArgs false

/-! ### numbers -/
theorem wf64 {a : Int} (h : (Lit.int .i64 a).wf = true) : -9223372036854775808 ≤ a ∧ a ≤ 9223372036854775807 := by
  simp only [Lit.wf, IntKind.min, IntKind.max, IntKind.signed, IntKind.bits, Bool.and_eq_true, decide_eq_true_eq, if_true] at h
  omega
theorem wfu {a : Int} (h : (Lit.int .u64 a).wf = true) : 0 ≤ a ∧ a < 18446744073709551616 := by
  simp [Lit.wf, IntKind.min, IntKind.max, IntKind.signed, IntKind.bits] at h
  omega
theorem w64 {a : Int} (h0 : -9223372036854775808 ≤ a) (h1 : a ≤ 9223372036854775807) : wrap64 a = a := by
  unfold wrap64
  omega
theorem wu (a : Int) : IntKind.u64.wrap a = a % 18446744073709551616 := by
  simp [IntKind.wrap, IntKind.bits, IntKind.signed]
theorem wuid {a : Int} (h0 : 0 ≤ a) (h1 : a < 18446744073709551616) : IntKind.u64.wrap a = a := by
  rw [wu]
  omega
theorem wu_pow (n : Int) (h0 : 0 ≤ n) (h1 : n < 2 ^ 64) : IntKind.u64.wrap n = n := by
  rw [wu]
  omega
/-! ### stamps -/
def cmpS (a b c d : Int) : Int := if a < c then -1 else if c < a then 1 else if b < d then -1 else if d < b then 1 else 0
theorem Cmp_eq (a b : Int) : cmp_Compare_int.f a b = some (if a < b then -1 else if b < a then 1 else 0) := by
  unfold cmp_Compare_int.f cmp_isNaN_int.f
  simp only [bne_self_eq_false, Option.bind_some, Bool.false_eq_true, if_false]
  repeat' split
  all_goals first | rfl | omega
theorem Or_eq (x y : Int) (k : Nat) (hk : 3 ≤ k) : cmp_Or_int.f k [x, y] = some (if x = 0 then y else x) := by
  obtain ⟨k, rfl⟩ : ∃ m, k = m + 3 := ⟨k - 3, by omega⟩
  unfold cmp_Or_int.f
  have e1 : wrap64 1 = 1 := w64 (by omega) (by omega)
  have e2 : wrap64 2 = 2 := w64 (by omega) (by omega)
  by_cases hx : x = 0
  · subst hx
    by_cases hy : y = 0
    · subst hy
      simp [cmp_Or_int.l0, rd, e1, e2]
    · simp [cmp_Or_int.l0, rd, e1, e2, hy]
  · simp [cmp_Or_int.l0, rd, hx]
theorem Compare_eq (a b c d : Int) (k : Nat) (hk : 3 ≤ k) : stamp_Stamp_Compare.f k a b c d = some (cmpS a b c d) := by
  unfold stamp_Stamp_Compare.f
  simp only [Cmp_eq, Option.bind_some, Or_eq _ _ k hk]
  unfold cmpS
  congr 1
  by_cases h1 : a < c
  · simp [h1]
  · by_cases h2 : c < a
    · simp [h1, h2]
    · simp [h1, h2]
def RightS (a b : Int) : Prop := 0 ≤ a ∧ a ≤ b ∧ b < 16777215
instance (a b : Int) : Decidable (RightS a b) := by unfold RightS; infer_instance
theorem SRight_eq (a b : Int) : stamp_Stamp_Right.f a b = some (decide (RightS a b)) := by
  unfold stamp_Stamp_Right.f RightS
  repeat' split
  all_goals (congr 1; first | (symm; apply decide_eq_false; omega) | (apply decide_eq_decide.2; omega))
theorem head_true (k : Nat) (hk : 10 ≤ k) : stackyardlaw01_head.f k = some true := at_rounds (g := fun k => stackyardlaw01_head.f k) (fun k => stackyardlaw01_head.mono k) hk (by decide +kernel)
/-! ### the least of stamps -/
def lt44 (x y : S44) : Int := cmpS x.f0 x.f1 y.f0 y.f1
theorem lt44_trans {x y z : S44} (h1 : lt44 x y ≤ 0) (h2 : lt44 y z ≤ 0) : lt44 x z ≤ 0 := by
  unfold lt44 cmpS at *
  repeat' split at h1
  all_goals (repeat' split at h2)
  all_goals first | omega | (repeat' split) <;> omega
theorem lt44_strict {x y z : S44} (h1 : lt44 x y < 0) (h2 : lt44 y z ≤ 0) : lt44 x z < 0 := by
  unfold lt44 cmpS at *
  repeat' split at h1
  all_goals (repeat' split at h2)
  all_goals first | omega | (repeat' split) <;> omega
theorem lt44_anti (x y : S44) : lt44 x y = - lt44 y x := by
  unfold lt44 cmpS
  repeat' split
  all_goals omega
def First (l : List S44) (i best : Int) : Prop :=
  (i = 0 ∧ best = -1) ∨ (0 ≤ best ∧ best < i ∧ ∀ j : Int, 0 ≤ j → j < i → lt44 (rd_T44 l best) (rd_T44 l j) ≤ 0 ∧ (j < best → lt44 (rd_T44 l best) (rd_T44 l j) < 0))
theorem first_take {l : List S44} {i best : Int} (h : First l i best) (hi : 0 ≤ i) (hn : best < 0 ∨ lt44 (rd_T44 l i) (rd_T44 l best) < 0) : First l (i + 1) i := by
  right
  refine ⟨hi, by omega, fun j j0 j1 => ?_⟩
  have hs : lt44 (rd_T44 l i) (rd_T44 l i) = 0 := by unfold lt44 cmpS; repeat' split <;> omega
  by_cases hj : j = i
  · subst hj
    exact ⟨by omega, fun h => by omega⟩
  · rcases h with ⟨h0, h1⟩ | ⟨h0, h1, h2⟩
    · omega
    · have := h2 j j0 (by omega)
      have h3 := lt44_strict (z := rd_T44 l j) (hn.resolve_left (by omega)) this.1
      exact ⟨by omega, fun _ => h3⟩
theorem first_keep {l : List S44} {i best : Int} (h : First l i best) (hb : ¬ best < 0) (hn : ¬ lt44 (rd_T44 l i) (rd_T44 l best) < 0) : First l (i + 1) best := by
  rcases h with ⟨h0, h1⟩ | ⟨h0, h1, h2⟩
  · omega
  · right
    refine ⟨h0, by omega, fun j j0 j1 => ?_⟩
    by_cases hj : j = i
    · subst hj
      have := lt44_anti (rd_T44 l j) (rd_T44 l best)
      exact ⟨by omega, fun h => by omega⟩
    · exact h2 j j0 (by omega)
theorem Least_ev (l : List S44) (hl : (l.length : Int) ≤ 1000000) : ∀ (m : Nat) (i best : Int), 0 ≤ i → i ≤ (l.length : Int) → (l.length : Int) - i = m → First l i best →
    ∃ r, First l (l.length : Int) r ∧ Ev (fun k => stamp_Least.l0 k l best l (l.length : Int) i) r := by
  intro m
  induction m with
  | zero =>
    intro i best h0 h1 hm hF
    have hi : i = (l.length : Int) := by omega
    subst hi
    refine ⟨best, hF, 1, fun k hk => ?_⟩
    obtain ⟨k, rfl⟩ : ∃ m, k = m + 1 := ⟨k - 1, by omega⟩
    simp only [stamp_Least.l0]
    rw [if_neg (by omega)]
  | succ m ih =>
    intro i best h0 h1 hm hF
    have hb : best < i := by rcases hF with ⟨h0, h1⟩ | ⟨h0, h1, h2⟩ <;> omega
    by_cases hn : best < 0 ∨ lt44 (rd_T44 l i) (rd_T44 l best) < 0
    · obtain ⟨r, hr, K, hK⟩ := ih (i + 1) i (by omega) (by omega) (by omega) (first_take hF h0 hn)
      refine ⟨r, hr, K + 4, fun k hk => ?_⟩
      obtain ⟨k, rfl⟩ : ∃ m, k = m + 1 := ⟨k - 1, by omega⟩
      simp only [stamp_Least.l0]
      rw [if_pos (by omega), if_pos h0, if_pos (by omega), w64 (a := i + 1) (by omega) (by omega)]
      by_cases hb0 : best < 0
      · rw [if_pos hb0]
        exact hK k (by omega)
      · rw [if_neg hb0, if_pos (by omega), if_pos (by omega), Compare_eq _ _ _ _ k (by omega)]
        simp only [Option.bind_some]
        rw [if_pos (show cmpS (rd_T44 l i).f0 (rd_T44 l i).f1 (rd_T44 l best).f0 (rd_T44 l best).f1 < 0 from hn.resolve_left hb0)]
        exact hK k (by omega)
    · have hn1 : ¬ best < 0 := fun h => hn (.inl h)
      have hn2 : ¬ lt44 (rd_T44 l i) (rd_T44 l best) < 0 := fun h => hn (.inr h)
      obtain ⟨r, hr, K, hK⟩ := ih (i + 1) best (by omega) (by omega) (by omega) (first_keep hF hn1 hn2)
      refine ⟨r, hr, K + 4, fun k hk => ?_⟩
      obtain ⟨k, rfl⟩ : ∃ m, k = m + 1 := ⟨k - 1, by omega⟩
      simp only [stamp_Least.l0]
      rw [if_pos (by omega), if_pos h0, if_pos (by omega), w64 (a := i + 1) (by omega) (by omega)]
      rw [if_neg hn1, if_pos (by omega), if_pos (by omega), Compare_eq _ _ _ _ k (by omega)]
      simp only [Option.bind_some]
      rw [if_neg (show ¬ cmpS (rd_T44 l i).f0 (rd_T44 l i).f1 (rd_T44 l best).f0 (rd_T44 l best).f1 < 0 from hn2)]
      exact hK k (by omega)
theorem Least_eq (l : List S44) (hl : (l.length : Int) ≤ 1000000) : ∃ r, First l (l.length : Int) r ∧ ∃ K, ∀ k, K ≤ k → stamp_Least.f k l = some r :=
  Least_ev l hl l.length 0 (-1) (by omega) (by omega) (by omega) (.inl ⟨rfl, rfl⟩)
theorem LCompare_eq (a b c d : Int) (k : Nat) (hk : 1 ≤ k) : stackyardlaw01_Compare.f k a b c d = some (cmpS a b c d) := by
  obtain ⟨k, rfl⟩ : ∃ m, k = m + 1 := ⟨k - 1, by omega⟩
  unfold stackyardlaw01_Compare.f cmpS
  simp only [stackyardlaw01_Compare.j0, if_true, Bool.false_eq_true, if_false, Bool.and_eq_true, beq_iff_eq, decide_eq_true_eq]
  repeat' split
  all_goals first | rfl | omega
theorem rd_mem {l : List S44} {i : Int} (h0 : 0 ≤ i) (h1 : i < (l.length : Int)) : rd_T44 l i ∈ l := by
  unfold rd_T44
  rw [List.getD_eq_getElem?_getD, List.getElem?_eq_getElem (by omega : i.toNat < l.length)]
  exact List.getElem_mem _
theorem mem_rd {l : List S44} {x : S44} (h : x ∈ l) : ∃ i : Int, 0 ≤ i ∧ i < (l.length : Int) ∧ rd_T44 l i = x := by
  obtain ⟨n, hn, rfl⟩ := List.getElem_of_mem h
  refine ⟨n, by omega, by omega, ?_⟩
  unfold rd_T44
  rw [List.getD_eq_getElem?_getD, Int.toNat_natCast, List.getElem?_eq_getElem hn]
  rfl
theorem SS0 (n : Int) (hn : n ≤ 60) : ∀ (m : Nat) (i : Int) (left : List S44) (a b : Int), 0 ≤ i → i ≤ n → n - i = m → (left.length : Int) = m → (0 < i → ∀ x ∈ left, cmpS a b x.f0 x.f1 ≤ 0) →
    Ev (fun k => stackyardlaw01_StampSorts.l0 k left n i a b) true := by
  intro m
  induction m with
  | zero =>
    intro i left a b h0 h1 hm hl hx
    refine ⟨1, fun k hk => ?_⟩
    obtain ⟨k, rfl⟩ : ∃ m, k = m + 1 := ⟨k - 1, by omega⟩
    simp only [stackyardlaw01_StampSorts.l0]
    rw [if_neg (by omega), hl]
    rfl
  | succ m ih =>
    intro i left a b h0 h1 hm hl hx
    obtain ⟨r, hF, K, hK⟩ := Least_eq left (by omega)
    obtain ⟨r0, r1, r2⟩ := hF.resolve_left (by omega)
    have hlen : (left.take r.toNat ++ left.drop (r + 1).toNat).length = m := by
      rw [List.length_append, List.length_take, List.length_drop]
      omega
    obtain ⟨K2, hK2⟩ := ih (i + 1) (left.take r.toNat ++ left.drop (r + 1).toNat) (rd_T44 left r).f0 (rd_T44 left r).f1 (by omega) (by omega) (by omega) (by omega) (fun _ x hx => by
      have hm : x ∈ left := by
        rcases List.mem_append.1 hx with h | h
        · exact List.mem_of_mem_take h
        · exact List.mem_of_mem_drop h
      obtain ⟨j, j0, j1, rfl⟩ := mem_rd hm
      exact (r2 j j0 j1).1)
    refine ⟨K + K2 + 2, fun k hk => ?_⟩
    obtain ⟨k, rfl⟩ : ∃ m, k = m + 1 := ⟨k - 1, by omega⟩
    have hlt : (left.take r.toNat).length < 8796093022208 := by rw [List.length_take]; omega
    have hlt2 : (left.take r.toNat).length + (left.drop (r + 1).toNat).length < 8796093022208 := by rw [← List.length_append]; omega
    simp only [stackyardlaw01_StampSorts.l0]
    rw [if_pos (by omega), hK k (by omega)]
    simp only [Option.bind_some, List.nil_append, List.length_nil, Nat.zero_add]
    rw [if_neg (by omega), if_neg (by omega), w64 (a := r + 1) (by omega) (by omega), w64 (a := i + 1) (by omega) (by omega)]
    have hc : LeO (stackyardlaw01_Compare.f k a b (rd_T44 left r).f0 (rd_T44 left r).f1) (some (cmpS a b (rd_T44 left r).f0 (rd_T44 left r).f1)) := by
      rw [LCompare_eq _ _ _ _ k (by omega)]
      exact fun _ h => h
    rw [LCompare_eq _ _ _ _ k (by omega)]
    simp only [Option.bind_some]
    rw [if_pos r0, if_pos r1, if_pos (by omega : r ≤ (left.length : Int)), if_pos hlt, if_pos (by omega : 0 ≤ r + 1), if_pos (by omega : r + 1 ≤ (left.length : Int)), if_pos hlt2]
    by_cases hi : 0 < i
    · rw [if_pos hi, if_neg (by have := hx hi _ (rd_mem r0 r1); omega)]
      exact hK2 k (by omega)
    · rw [if_neg (by omega), if_pos r0, if_pos r1]
      exact hK2 k (by omega)
theorem StampSorts : ∀ (l0 : List S44), (∀ x ∈ l0, (Lit.int .i64 x.f0).wf = true ∧ (Lit.int .i64 x.f1).wf = true) → ∃ k, stackyardlaw01_StampSorts.f k l0 = some true := by
  intro l _
  by_cases hl : (l.length : Int) ≤ 60
  · obtain ⟨K, hK⟩ := SS0 (l.length : Int) hl l.length 0 l 0 0 (by omega) (by omega) (by omega) rfl (fun h => by omega)
    refine ⟨K + 10, ?_⟩
    unfold stackyardlaw01_StampSorts.f
    rw [head_true _ (by omega)]
    simp only [Option.bind_some, if_true, List.nil_append, List.length_nil, Nat.zero_add]
    rw [if_neg (by omega), if_pos (by omega)]
    exact hK _ (by omega)
  · refine ⟨10, ?_⟩
    unfold stackyardlaw01_StampSorts.f
    rw [head_true _ (by omega)]
    simp only [Option.bind_some, if_true]
    rw [if_pos (by omega)]

end Go.Proofs.Ytlimmmnpcomfjaa.Pure
