/- Plain lemmas on the finder's model against the law's own search and look (layer 15). A lemma file: it claims nothing of the program. -/
import Derived.Test.YtpgkbdkkcladcaaOwnWin15
set_option linter.unusedVariables false
set_option linter.unusedSimpArgs false
namespace Go.Proofs.Ytpgkbdkkcladcaa.Sy
open Go
/-! ### nothing found: there is nothing -/
theorem findL_any {rec : FS → Row → Bool × FS} {sm : Row → Row → Bool} {L row : Row} (hf : ∀ st row, G0 L st → Fine L st (rec st row)) (hs : ∀ st row, G0 L st → (rec st row).1 = sm st.d row) :
    ∀ (k : Nat) (i : Int) (st : FS), 0 ≤ i → i + k = (L.length : Int) → G0 L st →
    (findL rec L row k i st).1 = anyI (fun i => freeF i L st.d && (stepO (ansD (L.getD i.toNat []) row) row && sm (st.d.set i.toNat [1]) (stepR (ansD (L.getD i.toNat []) row) row))) k i
  | 0, i, st, h0, h1, hg => rfl
  | k + 1, i, st, h0, h1, hg => by
    have ih := findL_any (row := row) hf hs k
    unfold findL anyI
    by_cases a : freeF i L st.d = true
    · rw [if_pos a]
      by_cases b : stepO (ansD (L.getD i.toNat []) row) row = true
      · rw [if_pos b]
        obtain ⟨g, _⟩ := hg.step h0 (by omega) a
        have e1 := hs (fsIn st i) (stepR (ansD (L.getD i.toNat []) row) row) g
        have e2 := hf (fsIn st i) (stepR (ansD (L.getD i.toNat []) row) row) g
        rw [show (fsIn st i).d = st.d.set i.toNat [1] from rfl] at e1
        generalize rec (fsIn st i) (stepR (ansD (L.getD i.toNat []) row) row) = q at *
        obtain ⟨qb, q⟩ := q
        rw [a, b, ← e1]
        cases qb with
        | true => rfl
        | false =>
          obtain ⟨k1, k2, k3, k4⟩ := fine_out hg h0 (by omega) a e2
          have := ih (i + 1) (fsOut q i) (by omega) (by omega) k1
          rw [k2] at this
          exact this
      · rw [if_neg b]
        have b' : stepO (ansD (L.getD i.toNat []) row) row = false := by simpa using b
        rw [b', Bool.false_and, Bool.and_false, Bool.false_or]
        exact ih (i + 1) st (by omega) (by omega) hg
    · rw [if_neg a]
      have a' : freeF i L st.d = false := by simpa using a
      rw [a', Bool.false_and, Bool.false_or]
      exact ih (i + 1) st (by omega) (by omega) hg
theorem find_some (L : Row) : ∀ (f : Nat) (st : FS) (row : Row), G0 L st → (findF L f st row).1 = someF L f st.d row
  | 0, st, row, hg => rfl
  | f + 1, st, row, hg => by
    unfold findF someF
    split
    · rfl
    · exact findL_any (fun st row h => findF_fine L f st row h) (fun st row h => find_some L f st row h) L.length 0 st (by omega) (by omega) hg
/-! ### what is found holds -/
def step1 (L : Row) (m i : Int) (A row : Row) : Option (Row × Row) := if i < 0 ∨ (L.length : Int) ≤ i ∨ ¬ cl A i = 0 then none
  else if stepO (ansD (L.getD i.toNat []) row) row = true then some (A.set i.toNat [m + 1], stepR (ansD (L.getD i.toNat []) row) row) else none
def runS (L : Row) : List Int → Int → Row → Row → Option (Row × Row)
  | [], _, A, row => some (A, row)
  | i :: o, m, A, row => match step1 L m i A row with
    | none => none
    | some (A', row') => runS L o (m + 1) A' row'
theorem runS_app (L : Row) (x : Int) : ∀ (o : List Int) (m : Int) (A row A' row' : Row), runS L o m A row = some (A', row') → runS L (o ++ [x]) m A row = step1 L (m + o.length) x A' row'
  | [], m, A, row, A', row', h => by
    obtain ⟨rfl, rfl⟩ := Prod.mk.inj (Option.some.inj h)
    show (match step1 L m x A row with | none => none | some (A', row') => some (A', row')) = _
    rw [show m + (([] : List Int).length : Int) = m by simp]
    cases step1 L m x A row <;> rfl
  | i :: o, m, A, row, A', row', h => by
    rw [List.cons_append]
    unfold runS at h ⊢
    revert h
    cases step1 L m i A row with
    | none => intro h; cases h
    | some q =>
      intro h
      rw [show m + ((i :: o).length : Int) = (m + 1) + (o.length : Int) by simp; omega]
      exact runS_app L x o (m + 1) q.1 q.2 A' row' h
theorem runH_S (L : Row) : ∀ (o : List Int) (m : Int) (A row : Row), runH L o m A row = (runS L o m A row).map (·.1)
  | [], m, A, row => rfl
  | i :: o, m, A, row => by
    unfold runH runS step1
    by_cases a : i < 0 ∨ (L.length : Int) ≤ i ∨ ¬ cl A i = 0
    · rw [if_pos a, if_pos a]; rfl
    · rw [if_neg a, if_neg a]
      by_cases b : stepO (ansD (L.getD i.toNat []) row) row = true
      · rw [if_pos b, if_pos b]; exact runH_S L o _ _ _
      · rw [if_neg b, if_neg b]; rfl
def hds (st : FS) : List Int := (st.o.take st.n.toNat).map fun x => nth 0 x 0
theorem hds_len {L : Row} {st : FS} (h : G0 L st) : ((hds st).length : Int) = st.n := by
  have := h.n0; have := h.no
  unfold hds; rw [List.length_map, List.length_take]; omega
theorem clx_set {A : Row} {i k : Int} {x : Int} (h0 : 0 ≤ i) (h1 : i < (A.length : Int)) (h2 : 0 ≤ k) : cl (A.set i.toNat [x]) k = if k = i then x else cl A k := by
  unfold cl
  rw [List.getD_eq_getElem?_getD, List.getElem?_set]
  by_cases e : k = i
  · rw [if_pos (by rw [e]), if_pos (by omega), if_pos e]; rfl
  · rw [if_neg (by omega), if_neg e, ← List.getD_eq_getElem?_getD]
/-- What has been chosen so far, and the row behind it. -/
def Jx (L : Row) (st : FS) (row : Row) : Prop := ∃ A, runS L (hds st) 0 (List.replicate L.length [0]) [] = some (A, row) ∧ A.length = L.length ∧
  (∀ k : Int, 0 ≤ k → k < (L.length : Int) → (cl A k = 0 ↔ cl st.d k = 0)) ∧ (∀ k : Int, 0 ≤ k → k < (L.length : Int) → 0 ≤ cl A k ∧ cl A k ≤ st.n) ∧
  ∀ i k : Int, 0 ≤ i → i < (L.length : Int) → 0 ≤ k → k < (L.length : Int) → 0 ≤ nth 0 (L.getD i.toNat []) 6 → nth 0 (L.getD i.toNat []) 6 < nth 0 (L.getD k.toNat []) 5 → ¬ cl A k = 0 → ¬ cl A i = 0 ∧ cl A i < cl A k
theorem free_all {L D : Row} {i : Int} (h : freeF i L D = true) {k : Int} (h0 : 0 ≤ k) (h1 : k < (L.length : Int)) (h2 : 0 ≤ nth 0 (L.getD k.toNat []) 6) (h3 : nth 0 (L.getD k.toNat []) 6 < nth 0 (L.getD i.toNat []) 5) : ¬ cl D k = 0 := by
  intro h4
  unfold freeF at h
  simp only [Bool.and_eq_true, Bool.not_eq_true', List.any_eq_false, List.mem_range] at h
  refine h.1 k.toNat (by omega) ?_
  unfold blkF
  rw [show ((k.toNat : Nat) : Int) = k by omega, decide_eq_true h4, decide_eq_true h2, decide_eq_true h3]; rfl
theorem Jx.step {L : Row} {st : FS} {row : Row} {i : Int} (hg : G0 L st) (h : Jx L st row) (h0 : 0 ≤ i) (h1 : i < (L.length : Int)) (hf : freeF i L st.d = true) (ho : stepO (ansD (L.getD i.toNat []) row) row = true) :
    Jx L (fsIn st i) (stepR (ansD (L.getD i.toNat []) row) row) := by
  obtain ⟨A, a1, a2, a3, a4, a5⟩ := h
  have hn := hg.n0; have hno := hg.no; have hl := hg.hl
  have ci := (a3 i h0 h1).2 (free_at hf)
  have eh : hds (fsIn st i) = hds st ++ [i] := by
    unfold hds
    rw [show (fsIn st i).n.toNat = st.n.toNat + 1 by show (st.n + 1).toNat = _; omega, show (fsIn st i).o = st.o.take st.n.toNat ++ [[i]] from rfl]
    rw [List.take_of_length_le (by rw [List.length_append, List.length_take]; simp; omega), List.map_append]; rfl
  have hc : ∀ k : Int, 0 ≤ k → cl (A.set i.toNat [st.n + 1]) k = if k = i then st.n + 1 else cl A k := fun k hk => clx_set h0 (by omega) hk
  have hd : ∀ k : Int, 0 ≤ k → cl (fsIn st i).d k = if k = i then 1 else cl st.d k := fun k hk => clx_set h0 (by omega) hk
  refine ⟨A.set i.toNat [st.n + 1], ?_, by rw [List.length_set]; exact a2, fun k k0 k1 => ?_, fun k k0 k1 => ?_, fun j k j0 j1 k0 k1 p1 p2 p3 => ?_⟩
  · rw [eh, runS_app L i _ _ _ _ _ _ a1, hds_len hg, Int.zero_add]
    unfold step1
    rw [if_neg (by omega), if_pos ho]
  · rw [hc k k0, hd k k0]
    have := a3 k k0 k1
    split
    · omega
    · exact this
  · rw [hc k k0]
    have := a4 k k0 k1
    show _ ∧ _ ≤ st.n + 1
    split <;> omega
  · rw [hc k k0] at p3 ⊢
    rw [hc j j0]
    by_cases e : k = i
    · subst e
      have z := free_all hf j0 j1 p1 p2
      have z2 := a3 j j0 j1
      have z3 := a4 j j0 j1
      have z4 : ¬ j = k := fun q => by subst q; exact z (free_at hf)
      rw [if_neg z4, if_pos rfl]
      omega
    · rw [if_neg e] at p3 ⊢
      have z := a5 j k j0 j1 k0 k1 p1 p2 p3
      have z4 : ¬ j = i := fun q => by subst q; exact z.1 ci
      rw [if_neg z4]
      exact z
theorem Jx.same {L : Row} {st st' : FS} {row : Row} (h : Jx L st row) (hd : st'.d = st.d) (hn : st'.n = st.n) (ho : st'.o.take st.n.toNat = st.o.take st.n.toNat) : Jx L st' row := by
  have : hds st' = hds st := by unfold hds; rw [hn, ho]
  unfold Jx
  rw [this, hd, hn]; exact h
theorem findL_J {rec : FS → Row → Bool × FS} {L row : Row} (hf : ∀ st row, G0 L st → Fine L st (rec st row)) (hj : ∀ st row q, G0 L st → Jx L st row → rec st row = (true, q) → (∃ r, Jx L q r) ∧ leftN L q.d L.length = 0) :
    ∀ (k : Nat) (i : Int) (st q : FS), 0 ≤ i → i + k = (L.length : Int) → G0 L st → Jx L st row → findL rec L row k i st = (true, q) → (∃ r, Jx L q r) ∧ leftN L q.d L.length = 0
  | 0, i, st, q, h0, h1, hg, hJ, h => by cases h
  | k + 1, i, st, q, h0, h1, hg, hJ, h => by
    have ih := findL_J (row := row) hf hj k
    unfold findL at h
    by_cases a : freeF i L st.d = true
    · rw [if_pos a] at h
      by_cases b : stepO (ansD (L.getD i.toNat []) row) row = true
      · rw [if_pos b] at h
        obtain ⟨g, _⟩ := hg.step h0 (by omega) a
        have e2 := hf (fsIn st i) (stepR (ansD (L.getD i.toNat []) row) row) g
        have e3 := hj (fsIn st i) (stepR (ansD (L.getD i.toNat []) row) row)
        generalize rec (fsIn st i) (stepR (ansD (L.getD i.toNat []) row) row) = p at *
        obtain ⟨pb, p⟩ := p
        cases pb with
        | true =>
          obtain ⟨⟨r, hr⟩, hl⟩ := e3 p g (hJ.step hg h0 (by omega) a b) rfl
          have h : ({ p with t := true } : FS) = q := (Prod.mk.inj h).2
          subst h
          exact ⟨⟨r, hr.same rfl rfl rfl⟩, hl⟩
        | false =>
          obtain ⟨k1, k2, k3, k4⟩ := fine_out hg h0 (by omega) a e2
          exact ih (i + 1) (fsOut p i) q (by omega) (by omega) k1 (hJ.same k2 k3 k4) h
      · rw [if_neg b] at h
        exact ih (i + 1) st q (by omega) (by omega) hg hJ h
    · rw [if_neg a] at h
      exact ih (i + 1) st q (by omega) (by omega) hg hJ h
theorem findF_J (L : Row) : ∀ (f : Nat) (st : FS) (row : Row) (q : FS), G0 L st → Jx L st row → findF L f st row = (true, q) → (∃ r, Jx L q r) ∧ leftN L q.d L.length = 0
  | 0, st, row, q, hg, hJ, h => by cases h
  | f + 1, st, row, q, hg, hJ, h => by
    unfold findF at h
    split at h
    · rename_i z
      obtain rfl := (Prod.mk.inj h).2
      exact ⟨⟨row, hJ⟩, z⟩
    · exact findL_J (fun st row h => findF_fine L f st row h) (fun st row q h1 h2 h3 => findF_J L f st row q h1 h2 h3) L.length 0 st q (by omega) (by omega) hg hJ h
theorem left_none {L D : Row} (h : leftN L D L.length = 0) {i : Nat} (hi : i < L.length) : ¬ (0 ≤ nth 0 (L.getD i []) 6 ∧ cl D i = 0) := by
  rintro ⟨h1, h2⟩
  unfold leftN at h
  rw [List.countP_eq_zero] at h
  refine h i (List.mem_range.2 hi) ?_
  unfold lefF
  rw [decide_eq_true h1, decide_eq_true h2]; rfl
theorem Jx.holds {L : Row} {q : FS} {r : Row} (h : Jx L q r) (hl : leftN L q.d L.length = 0) : holdsM L (hds q) = true := by
  obtain ⟨A, a1, a2, a3, a4, a5⟩ := h
  unfold holdsM
  rw [runH_S, a1]
  show goodH L A = true
  unfold goodH
  rw [List.all_eq_true]
  intro i hi
  rw [List.mem_range] at hi
  have e1 : (decide (0 ≤ nth 0 (L.getD i []) 6) && decide (cl A i = 0)) = false := by
    rw [Bool.and_eq_false_iff, decide_eq_false_iff_not, decide_eq_false_iff_not]
    have := left_none hl hi
    have := a3 i (by omega) (by omega)
    omega
  rw [e1, Bool.not_false, Bool.true_and, List.all_eq_true]
  intro k hk
  rw [List.mem_range] at hk
  rw [Bool.not_eq_true']
  cases hb : badH L A i k with
  | false => rfl
  | true =>
    unfold badH at hb
    simp only [Bool.and_eq_true, decide_eq_true_eq] at hb
    obtain ⟨⟨⟨b1, b2⟩, b3⟩, b4⟩ := hb
    have := a5 i k (by omega) (by omega) (by omega) (by omega) (by rw [Int.toNat_natCast]; exact b1) (by rw [Int.toNat_natCast, Int.toNat_natCast]; exact b2) b3
    omega
/-! ### from the begin -/
def st0 (L : Row) : FS := ⟨List.replicate L.length [0], 0, [], false⟩
theorem cnt0_rep (n : Nat) : cnt0 (List.replicate n [0]) = n := by unfold cnt0; rw [List.countP_replicate]; simp
theorem cntZ_rep (n : Nat) : cntZ (List.replicate n [0]) = n := by unfold cntZ; rw [List.countP_replicate]; simp [nth]
theorem clx_rep (n : Nat) (k : Int) : cl (List.replicate n [0]) k = 0 := by
  unfold cl
  rw [List.getD_eq_getElem?_getD, List.getElem?_replicate]
  split <;> rfl
theorem g0_st0 (L : Row) : G0 L (st0 L) := by
  refine ⟨fun x hx => .inl (List.eq_of_mem_replicate hx), by simp [st0], by simp [st0], by simp [st0], ?_⟩
  show 0 + (cnt0 (List.replicate L.length [0]) : Int) ≤ _
  rw [cnt0_rep]; omega
theorem finds_none {L : Row} : (findM L (st0 L) []).1 = someM L (List.replicate L.length [0]) [] := by
  unfold findM someM
  rw [find_some L _ _ _ (g0_st0 L)]
  show someF L (cnt0 (List.replicate L.length [0]) + 1) _ _ = _
  rw [cnt0_rep, cntZ_rep]; rfl
theorem finds_holds {L : Row} (h : (findM L (st0 L) []).1 = true) : holdsM L (hds (findM L (st0 L) []).2) = true := by
  have j0 : Jx L (st0 L) [] := ⟨List.replicate L.length [0], rfl, by simp, fun k _ _ => Iff.rfl, fun k _ _ => by rw [clx_rep]; exact ⟨Int.le_refl _, Int.le_refl _⟩, fun i k _ _ _ _ _ _ h => absurd (clx_rep _ _) h⟩
  obtain ⟨⟨r, hr⟩, hl⟩ := findF_J L _ (st0 L) [] (findM L (st0 L) []).2 (g0_st0 L) j0 (Prod.ext h rfl)
  exact hr.holds hl
end Go.Proofs.Ytpgkbdkkcladcaa.Sy
