/- The second engine, part 18: contracts of functions, and their use at calls. A lemma file: it claims nothing of the program. -/
import Derived.Test.YtckbckijpdnlaaaOwnS17
set_option linter.unusedVariables false
set_option linter.unusedSimpArgs false
namespace Go.Proofs.Ytckbckijpdnlaaa.Sy
open Go Go.Lib Go.Proofs.Ytckbckijpdnlaaa.Eng

/-! ### other names, put to use -/
def own' (π : Nm) (pH : SH) (id : Nat) : Option Nat := (π.old.find? fun p => Nat.beq p.2 id && (sOwn (pH[p.1]?) && decide (π.at p.1 = some id))).map (·.1)
def rhoF (π : Nm) (L : Nat) (j : Nat) : Nat := match π.at j with
  | some id => id
  | none => L + j
def placeOld (τ : Sb) (ρ : Nat → Nat) (π : Nm) (pH rH : SH) : Nat → SH → SH
  | _, [] => []
  | k, b :: H => (match own' π pH k with
    | some j => (match rH[j]? with
      | some b' => sbB τ ρ b'
      | none => .dead)
    | none => b) :: placeOld τ ρ π pH rH (k + 1) H
def placeNew (τ : Sb) (ρ : Nat → Nat) (π : Nm) : Nat → SH → SH
  | _, [] => []
  | j, b :: r => (match π.at j with
    | some _ => .dead
    | none => sbB τ ρ b) :: placeNew τ ρ π (j + 1) r
def place (τ : Sb) (π : Nm) (pH rH Hr : SH) : SH := placeOld τ (rhoF π Hr.length) π pH rH 0 Hr ++ placeNew τ (rhoF π Hr.length) π 0 rH
section
variable {τ : Sb} {ρ : Nat → Nat} {π : Nm} {pH rH Hr : SH}
theorem placeOld_len : ∀ (k : Nat) (H : SH), (placeOld τ ρ π pH rH k H).length = H.length
  | _, [] => rfl
  | k, b :: H => by simp [placeOld, placeOld_len (k + 1) H]
theorem placeOld_get : ∀ (k : Nat) (H : SH) (i : Nat), (placeOld τ ρ π pH rH k H)[i]? = (H[i]?).map fun b => match own' π pH (k + i) with
    | some j => (match rH[j]? with
      | some b' => sbB τ ρ b'
      | none => .dead)
    | none => b
  | _, [], i => by simp [placeOld]
  | k, b :: H, 0 => by simp [placeOld]
  | k, b :: H, i + 1 => by
    simp only [placeOld, List.getElem?_cons_succ, placeOld_get (k + 1) H i, show k + 1 + i = k + (i + 1) by omega]
theorem placeNew_get : ∀ (k : Nat) (r : SH) (i : Nat), (placeNew τ ρ π k r)[i]? = (r[i]?).map fun b => match π.at (k + i) with
    | some _ => .dead
    | none => sbB τ ρ b
  | _, [], i => by simp [placeNew]
  | k, b :: H, 0 => by simp [placeNew]
  | k, b :: H, i + 1 => by
    simp only [placeNew, List.getElem?_cons_succ, placeNew_get (k + 1) H i, show k + 1 + i = k + (i + 1) by omega]
theorem own'_some {id j : Nat} (h : own' π pH id = some j) : π.at j = some id ∧ sOwn (pH[j]?) = true := by
  unfold own' at h
  cases hf : π.old.find? (fun p => Nat.beq p.2 id && (sOwn (pH[p.1]?) && decide (π.at p.1 = some id))) with
  | none => rw [hf] at h; cases h
  | some p =>
    rw [hf] at h
    cases h
    have := List.find?_some hf
    simp only [Bool.and_eq_true, decide_eq_true_eq] at this
    exact ⟨this.2.2, this.2.1⟩
theorem lookup_mem {α : Type} {j : Nat} {x : α} : ∀ {l : List (Nat × α)}, l.lookup j = some x → (j, x) ∈ l
  | [], h => by cases h
  | (a, b) :: l, h => by
    simp only [List.lookup_cons] at h
    cases hc : j == a with
    | true => rw [hc] at h; cases h; have : j = a := by simpa using hc
              subst this; exact List.mem_cons_self ..
    | false => rw [hc] at h; exact List.mem_cons_of_mem _ (lookup_mem h)
theorem own'_none {id j : Nat} (h : own' π pH id = none) (hj : π.at j = some id) : sOwn (pH[j]?) = false := by
  unfold own' at h
  rw [Option.map_eq_none_iff, List.find?_eq_none] at h
  have := h (j, id) (lookup_mem hj)
  cases ho : sOwn (pH[j]?) with
  | false => rfl
  | true =>
    exfalso
    apply this
    simp only [Bool.and_eq_true, decide_eq_true_eq]
    exact ⟨Nat.beq_refl id, ho, hj⟩
theorem sOwn1 (u : Val) (b : SB) : sOwn (some b) = (db u b).own := by cases b <;> rfl
/-- A run under the pattern's names, under one's own. -/
theorem relabel {m m1 : Mp} {w w' : World} {v : Val} {σ : Sb} (hM : Match m (dH v Hr) w) (hlt : ∀ j k, π.at j = some k → j < pH.length)
    (hown : ∀ j id b, π.at j = some id → pH[j]? = some b → (db (σ.val v) b).own = true → ∃ b', Hr[id]? = some b' ∧ (db v b').own = true)
    (hvn : ∀ j, π.void.contains j = true → π.at j = none)
    (h1 : Run (mapN π (dH (σ.val v) pH) m) (dH (σ.val v) pH) w (dH (τ.val v) rH) m1 w') :
    ∃ m2, Rho (rhoF π Hr.length) m1 m2 ∧ Run m (dH v Hr) w (dH v (place τ π pH rH Hr)) m2 w' := by
  let L := Hr.length
  let ρ := rhoF π L
  let m2 : Mp := fun id => if id < L then m id else if π.at (id - L) = none then m1 (id - L) else none
  have hmL : ∀ id i, m id = some i → id < L := fun id i hi => by have := hM.lt hi; rwa [dH_len] at this
  have m2old : ∀ id, id < L → m2 id = m id := fun id h => by simp only [m2, if_pos h]
  have m2new : ∀ j, π.at j = none → m2 (L + j) = m1 j := fun j h => by simp only [m2, if_neg (show ¬ L + j < L by omega), Nat.add_sub_cancel_left, if_pos h]
  have hpl := h1.len
  rw [dH_len, dH_len] at hpl
  -- what the names of the pattern stand for
  have m1pat : ∀ j id i, π.at j = some id → m1 j = some i → m id = some i := fun j id i hj hi => by
    rw [h1.dom j (by rw [dH_len]; exact hlt j id hj), mapN_at hj] at hi
    exact hi
  have m1void : ∀ j i, j < pH.length → π.at j = none → m1 j = some i → i.void = true := fun j i hj hn hi => by
    rw [h1.dom j (by rw [dH_len]; exact hj)] at hi
    unfold mapN at hi
    rw [hn] at hi
    simp only at hi
    split at hi
    · cases hi; rfl
    · cases hi
  have hρ : Rho ρ m1 m2 := fun j i hi => by
    show m2 (rhoF π L j) = some i
    unfold rhoF
    cases hj : π.at j with
    | some id =>
      have := m1pat j id i hj hi
      simp only
      rw [m2old id (hmL id i this)]; exact this
    | none => simp only; rw [m2new j hj]; exact hi
  have patOwned : ∀ k, Owned (mapN π (dH (σ.val v) pH) m) (dH (σ.val v) pH) k → ∃ j id i b b', π.at j = some id ∧ m id = some i ∧ pH[j]? = some b ∧ (db (σ.val v) b).own = true ∧ Hr[id]? = some b' ∧ (db v b').own = true ∧ i.void = false ∧ i.blk = k := by
    rintro k ⟨j, i, b, g1, g2, g3, g4, g5⟩
    rw [dH_get] at g2
    cases hb : pH[j]? with
    | none => rw [hb] at g2; cases g2
    | some b0 =>
      rw [hb] at g2
      cases g2
      unfold mapN at g1
      cases hj : π.at j with
      | none =>
        rw [hj] at g1
        simp only at g1
        split at g1
        · cases g1; cases g4
        · cases g1
      | some id =>
        rw [hj] at g1
        obtain ⟨b', e1, e2⟩ := hown j id b0 hj hb g3
        exact ⟨j, id, i, b0, b', hj, g1, hb, g3, e1, e2, g4, g5⟩
  have outOwned : ∀ k, Owned (mapN π (dH (σ.val v) pH) m) (dH (σ.val v) pH) k → Owned m (dH v Hr) k := fun k h => by
    obtain ⟨j, id, i, b, b', _, e2, _, _, e5, e6, e7, e8⟩ := patOwned k h
    exact ⟨id, i, db v b', e2, dH_get' e5, e6, e7, e8⟩
  -- blocks of one's own that the call does not have
  have kept : ∀ id i b, m id = some i → Hr[id]? = some b → own' π pH id = none → (db v b).live = true → i.void = false → i.blk < w.heap.size ∧ ¬ Owned (mapN π (dH (σ.val v) pH) m) (dH (σ.val v) pH) i.blk := by
    intro id i b hi hb hn hl hv
    obtain ⟨b1, hb1, hB⟩ := hM.has id i hi
    rw [dH_get' hb] at hb1
    cases hb1
    refine ⟨hB.live_lt hl hv, fun ho => ?_⟩
    obtain ⟨j, id', i', pb, b', e1, e2, e3, e4, e5, e6, e7, e8⟩ := patOwned _ ho
    have := hM.inj id' id i' i _ _ e2 hi (dH_get' e5) (dH_get' hb) e6 hl e7 hv e8
    subst this
    have := own'_none hn e1
    rw [e3, sOwn1 (σ.val v)] at this
    rw [this] at e4; cases e4
  have hH2 : ∀ id, (place τ π pH rH Hr)[id]? = if id < L then (Hr[id]?).map (fun b => match own' π pH id with
      | some j => (match rH[j]? with
        | some b' => sbB τ ρ b'
        | none => .dead)
      | none => b) else (rH[id - L]?).map fun b => match π.at (id - L) with
        | some _ => .dead
        | none => sbB τ ρ b := by
    intro id
    unfold place
    split
    · rename_i h
      rw [List.getElem?_append_left (by rw [placeOld_len]; exact h), placeOld_get, Nat.zero_add]
    · rename_i h
      rw [List.getElem?_append_right (by rw [placeOld_len]; omega), placeOld_len, placeNew_get, Nat.zero_add]
  -- a live block behind the call: kept, or one of the call's
  have src : ∀ id i b, m2 id = some i → (dH v (place τ π pH rH Hr))[id]? = some b → b.live = true → i.void = false →
      (id < L ∧ m id = some i ∧ own' π pH id = none ∧ ∃ c, Hr[id]? = some c ∧ b = db v c) ∨
      (∃ j c, ρ j = id ∧ m1 j = some i ∧ rH[j]? = some c ∧ b = db v (sbB τ ρ c) ∧ (id < L → own' π pH id = some j ∧ π.at j = some id) ∧ (L ≤ id → pH.length ≤ j)) := by
    intro id i b hi hb hl hv
    rw [dH_get, hH2] at hb
    by_cases h : id < L
    · rw [if_pos h] at hb
      rw [m2old id h] at hi
      cases hr : Hr[id]? with
      | none => rw [hr] at hb; cases hb
      | some c =>
        rw [hr] at hb
        simp only [Option.map_some, Option.some.injEq] at hb
        cases ho : own' π pH id with
        | none => rw [ho] at hb; exact .inl ⟨h, hi, rfl, c, rfl, hb.symm⟩
        | some j =>
          rw [ho] at hb
          simp only at hb
          have hat := (own'_some ho).1
          cases hrj : rH[j]? with
          | none => rw [hrj] at hb; subst hb; cases hl
          | some c' =>
            rw [hrj] at hb
            refine .inr ⟨j, c', ?_, ?_, hrj, hb.symm, fun _ => ⟨rfl, hat⟩, fun g => absurd h (by omega)⟩
            · show rhoF π L j = id; unfold rhoF; rw [hat]
            · rw [h1.dom j (by rw [dH_len]; exact hlt j id hat), mapN_at hat]; exact hi
    · rw [if_neg h] at hb
      cases hr : rH[id - L]? with
      | none => rw [hr] at hb; cases hb
      | some c =>
        rw [hr] at hb
        simp only [Option.map_some, Option.some.injEq] at hb
        cases hat : π.at (id - L) with
        | some q => rw [hat] at hb; subst hb; cases hl
        | none =>
          rw [hat] at hb
          have hi' : m1 (id - L) = some i := by
            have := m2new (id - L) hat
            rw [show L + (id - L) = id by omega] at this
            rw [← this]; exact hi
          refine .inr ⟨id - L, c, ?_, hi', hr, hb.symm, fun g => absurd g h, fun _ => ?_⟩
          · show rhoF π L (id - L) = id; unfold rhoF; rw [hat]; simp only; omega
          · rcases Nat.lt_or_ge (id - L) pH.length with g | g
            · have := m1void _ _ g hat hi'
              rw [hv] at this; cases this
            · exact g
  -- where a block of the call's lies
  have lies : ∀ j i c, m1 j = some i → rH[j]? = some c → (db (τ.val v) c).live = true → i.void = false → ∀ id, (id < L → own' π pH id = some j ∧ π.at j = some id) → (L ≤ id → pH.length ≤ j) →
      w.heap.size ≤ i.blk ∨ Owned (mapN π (dH (σ.val v) pH) m) (dH (σ.val v) pH) i.blk := by
    intro j i c hj hc hl hv id g1 g2
    rcases Nat.lt_or_ge id L with h | h
    · obtain ⟨e1, e2⟩ := g1 h
      have hs := (own'_some e1).2
      cases hp : pH[j]? with
      | none => rw [hp] at hs; cases hs
      | some pb =>
        rw [hp, sOwn1 (σ.val v)] at hs
        exact .inr ⟨j, i, db (σ.val v) pb, by rw [← h1.dom j (by rw [dH_len]; exact hlt j id e2)]; exact hj, dH_get' hp, hs, hv, rfl⟩
    · exact h1.new j i _ (by rw [dH_len]; exact g2 h) hj (dH_get' hc) hl hv
  refine ⟨m2, hρ, ⟨⟨fun id i hi => ?_, fun id id' i i' b b' a1 a2 a3 a4 a5 a6 a7 a8 a9 => ?_⟩, fun id i hi => ?_, fun id hid => ?_, ?_, fun id b hid hb hl => ?_, fun id i b hid hi hb hl hv => ?_, h1.os, h1.tape, h1.output, h1.size, fun k hk hn => h1.keep k hk fun ho => hn (outOwned k ho)⟩⟩
  · by_cases h : id < L
    · rw [m2old id h] at hi
      obtain ⟨b, hb, hB⟩ := hM.has id i hi
      rw [dH_get] at hb
      cases hr : Hr[id]? with
      | none => rw [hr] at hb; cases hb
      | some c =>
        rw [hr] at hb
        cases hb
        cases ho : own' π pH id with
        | none =>
          refine ⟨db v c, by rw [dH_get, hH2, if_pos h, hr]; simp only [Option.map_some, ho], ?_⟩
          have hB2 : BRel m2 w i (db v c) := hB.mono fun q iq hq => by rw [m2old q (hmL q iq hq)]; exact hq
          cases hl : (db v c).live with
          | false => cases hd : db v c <;> rw [hd] at hl <;> first | trivial | cases hl
          | true => exact hB2.frame fun hv hlt' => h1.keep _ hlt' (kept id i c hi hr ho hl hv).2
        | some j =>
          have hat := (own'_some ho).1
          have hj : m1 j = some i := by rw [h1.dom j (by rw [dH_len]; exact hlt j id hat), mapN_at hat]; exact hi
          obtain ⟨b1, hb1, hB1⟩ := h1.mt.has j i hj
          rw [dH_get] at hb1
          cases hrj : rH[j]? with
          | none => rw [hrj] at hb1; cases hb1
          | some c' =>
            rw [hrj] at hb1
            cases hb1
            exact ⟨db v (sbB τ ρ c'), by rw [dH_get, hH2, if_pos h, hr]; simp only [Option.map_some, ho, hrj], sbB_ok hρ hB1⟩
    · have hi' : π.at (id - L) = none ∧ m1 (id - L) = some i := by
        simp only [m2, if_neg h] at hi
        split at hi
        · rename_i g; exact ⟨g, hi⟩
        · cases hi
      obtain ⟨b1, hb1, hB1⟩ := h1.mt.has _ i hi'.2
      rw [dH_get] at hb1
      cases hrj : rH[id - L]? with
      | none => rw [hrj] at hb1; cases hb1
      | some c' =>
        rw [hrj] at hb1
        cases hb1
        exact ⟨db v (sbB τ ρ c'), by rw [dH_get, hH2, if_neg h, hrj]; simp only [Option.map_some, hi'.1], sbB_ok hρ hB1⟩
  · have no : ∀ (id i c) (j' i' c' id'), m id = some i → own' π pH id = none → Hr[id]? = some c → (db v c).live = true → i.void = false → m1 j' = some i' → rH[j']? = some c' → (db (τ.val v) c').live = true → i'.void = false → (id' < L → own' π pH id' = some j' ∧ π.at j' = some id') → (L ≤ id' → pH.length ≤ j') → i.blk = i'.blk → False := by
      intro id i c j' i' c' id' g1 g2 g3 g4 g5 g6 g7 g8 g9 g10 g11 e
      obtain ⟨k1, k2⟩ := kept id i c g1 g3 g2 g4 g5
      rcases lies j' i' c' g6 g7 g8 g9 id' g10 g11 with h | h
      · omega
      · rw [← e] at h; exact k2 h
    rcases src id i b a1 a3 (ABlk.own_live a5) a7 with ⟨c1, c2, c3, c, c4, c5⟩ | ⟨j, c, c1, c2, c3, c4, c5, c6⟩ <;>
      rcases src id' i' b' a2 a4 a6 a8 with ⟨d1, d2, d3, d, d4, d5⟩ | ⟨j', d, d1, d2, d3, d4, d5, d6⟩
    · subst c5 d5
      exact hM.inj id id' i i' _ _ c2 d2 (dH_get' c4) (dH_get' d4) a5 a6 a7 a8 a9
    · subst c5 d4
      rw [sbB_live] at a6
      exact (no id i c j' i' d id' c2 c3 c4 (ABlk.own_live a5) a7 d2 d3 a6 a8 d5 d6 a9).elim
    · subst c4 d5
      have a5' := ABlk.own_live a5
      rw [sbB_live] at a5'
      exact (no id' i' d j i c id d2 d3 d4 a6 a8 c2 c3 a5' a7 c5 c6 a9.symm).elim
    · subst c4 d4
      rw [sbB_own] at a5
      rw [sbB_live] at a6
      have := h1.mt.inj j j' i i' _ _ c2 d2 (dH_get' c3) (dH_get' d3) a5 a6 a7 a8 a9
      subst this
      rw [← c1, ← d1]
  · rw [m2old id (hmL id i hi)]; exact hi
  · rw [dH_len] at hid; exact m2old id hid
  · rw [dH_len, dH_len, place, List.length_append, placeOld_len]; omega
  · rw [dH_len] at hid
    rw [dH_get, hH2, if_pos hid] at hb
    cases hr : Hr[id]? with
    | none => rw [hr] at hb; cases hb
    | some c =>
      rw [hr] at hb
      simp only [Option.map_some, Option.some.injEq] at hb
      cases ho : own' π pH id with
      | none => rw [ho] at hb; subst hb; exact ⟨_, dH_get' hr, hl, fun h => h⟩
      | some j =>
        obtain ⟨hat, hs⟩ := own'_some ho
        cases hp : pH[j]? with
        | none => rw [hp] at hs; cases hs
        | some pb =>
          rw [hp, sOwn1 (σ.val v)] at hs
          obtain ⟨b', e1, e2⟩ := hown j id pb hat hp hs
          rw [hr] at e1
          cases e1
          exact ⟨_, dH_get' hr, ABlk.own_live e2, fun _ => e2⟩
  · rw [dH_len] at hid
    rcases src id i b hi hb hl hv with ⟨c1, _⟩ | ⟨j, c, c1, c2, c3, c4, c5, c6⟩
    · omega
    · subst c4
      rw [sbB_live] at hl
      rcases h1.new j i _ (by rw [dH_len]; exact c6 hid) c2 (dH_get' c3) hl hv with h | h
      · exact .inl h
      · exact .inr (outOwned _ h)
end
end Go.Proofs.Ytckbckijpdnlaaa.Sy
