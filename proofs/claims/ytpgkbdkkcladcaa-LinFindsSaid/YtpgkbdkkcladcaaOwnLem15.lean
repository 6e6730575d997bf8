/- Plain lemmas on the finder's model (layer 15). A lemma file: it claims nothing of the program. -/
import Derived.Test.YtpgkbdkkcladcaaOwnPhi15
set_option linter.unusedVariables false
set_option linter.unusedSimpArgs false
namespace Go.Proofs.Ytpgkbdkkcladcaa.Sy
open Go
def All01 (D : Row) : Prop := ∀ x ∈ D, x = [0] ∨ x = [1]
structure G0 (L : Row) (st : FS) : Prop where
  h1 : All01 st.d
  hl : st.d.length = L.length
  n0 : 0 ≤ st.n
  no : st.n ≤ (st.o.length : Int)
  c : st.n + (cnt0 st.d : Int) ≤ (L.length : Int)
theorem cnt_set : ∀ {D : Row} {i : Nat}, i < D.length → D.getD i [] = [0] → cnt0 (D.set i [1]) + 1 = cnt0 D
  | [], i, h, _ => by simp at h
  | x :: D, 0, _, h => by
    have : x = [0] := by simpa using h
    subst this
    simp [cnt0]
  | x :: D, i + 1, h, h2 => by
    have := cnt_set (D := D) (i := i) (by simpa using h) (by simpa using h2)
    simp only [List.set_cons_succ]
    unfold cnt0 at *
    simp only [List.countP_cons]
    omega
theorem All01.set {D : Row} (h : All01 D) (i : Nat) {x : List Int} (hx : x = [0] ∨ x = [1]) : All01 (D.set i x) := fun y hy => by
  rcases List.mem_or_eq_of_mem_set hy with g | g
  · exact h y g
  · rw [g]; exact hx
theorem free_at {i : Int} {L D : Row} (h : freeF i L D = true) : cl D i = 0 := by
  unfold freeF at h
  simp only [Bool.and_eq_true, decide_eq_true_eq] at h
  exact h.2
theorem nought {D : Row} (h : All01 D) {i : Int} (h0 : 0 ≤ i) (h1 : i < (D.length : Int)) (hc : cl D i = 0) : D.getD i.toNat [] = [0] := by
  have hm : D.getD i.toNat [] ∈ D := by
    rw [List.getD_eq_getElem?_getD, List.getElem?_eq_getElem (by omega : i.toNat < D.length)]
    exact List.getElem_mem _
  rcases h _ hm with g | g
  · exact g
  · unfold cl at hc; rw [g] at hc; cases hc
theorem set_back {D : Row} {i : Nat} (h1 : i < D.length) (h : D.getD i [] = [0]) : (D.set i [1]).set i [0] = D := by
  rw [List.set_set]
  rw [List.getD_eq_getElem?_getD, List.getElem?_eq_getElem h1] at h
  have h : D[i] = [0] := h
  rw [← h, List.set_getElem_self]
theorem G0.step {L : Row} {st : FS} {i : Int} (hg : G0 L st) (h0 : 0 ≤ i) (h1 : i < (L.length : Int)) (hf : freeF i L st.d = true) : G0 L (fsIn st i) ∧ cnt0 (fsIn st i).d + 1 = cnt0 st.d ∧ st.d.getD i.toNat [] = [0] := by
  have hl := hg.hl
  have hn := nought hg.h1 h0 (by omega) (free_at hf)
  have hc := cnt_set (by omega : i.toNat < st.d.length) hn
  have h2 := hg.n0; have h3 := hg.no; have h4 := hg.c
  refine ⟨⟨hg.h1.set _ (.inr rfl), by simpa [fsIn] using hl, by show 0 ≤ st.n + 1; omega, ?_, ?_⟩, hc, hn⟩
  · show st.n + 1 ≤ ((st.o.take st.n.toNat ++ [[i]]).length : Int)
    rw [List.length_append, List.length_take]; simp; omega
  · show st.n + 1 + (cnt0 (st.d.set i.toNat [1]) : Int) ≤ _
    omega
/-- What the finder gives, by what it is handed. -/
def Fine (L : Row) (st : FS) (q : Bool × FS) : Prop := G0 L q.2 ∧ (q.1 = false → q.2.d = st.d ∧ q.2.n = st.n ∧ q.2.o.take st.n.toNat = st.o.take st.n.toNat)
theorem fine_out {L : Row} {st : FS} {i : Int} {q : FS} (hg : G0 L st) (h0 : 0 ≤ i) (h1 : i < (L.length : Int)) (hf : freeF i L st.d = true) (h : Fine L (fsIn st i) (false, q)) :
    G0 L (fsOut q i) ∧ (fsOut q i).d = st.d ∧ (fsOut q i).n = st.n ∧ (fsOut q i).o.take st.n.toNat = st.o.take st.n.toNat := by
  obtain ⟨hq, hr⟩ := h
  obtain ⟨e1, e2, e3⟩ := hr rfl
  obtain ⟨_, hc, hn⟩ := hg.step h0 h1 hf
  have hl := hg.hl; have h2 := hg.n0; have h3 := hg.no; have h4 := hg.c
  have hd : (fsOut q i).d = st.d := by
    show q.d.set i.toNat [0] = st.d
    rw [e1]; exact set_back (by omega) hn
  have hnn : (fsOut q i).n = st.n := by show q.n + -1 = st.n; rw [e2]; show st.n + 1 + -1 = st.n; omega
  have ho := hq.no
  rw [e2] at ho
  have ho : st.n + 1 ≤ (q.o.length : Int) := ho
  refine ⟨⟨by rw [hd]; exact hg.h1, by rw [hd]; exact hl, by rw [hnn]; exact h2, by rw [hnn]; show st.n ≤ (q.o.length : Int); omega, by rw [hnn, hd]; exact h4⟩, hd, hnn, ?_⟩
  show q.o.take st.n.toNat = _
  have e4 : (fsIn st i).n.toNat = st.n.toNat + 1 := by show (st.n + 1).toNat = _; omega
  rw [e4] at e3
  have e5 : q.o.take st.n.toNat = (q.o.take (st.n.toNat + 1)).take st.n.toNat := by rw [List.take_take, Nat.min_eq_left (by omega)]
  rw [e5, e3]
  show ((st.o.take st.n.toNat ++ [[i]]).take (st.n.toNat + 1)).take st.n.toNat = _
  rw [List.take_take, Nat.min_eq_left (by omega), List.take_append_of_le_length (by rw [List.length_take]; omega), List.take_take, Nat.min_self]
theorem findL_fine {rec : FS → Row → Bool × FS} {L row : Row} (hrec : ∀ st row, G0 L st → Fine L st (rec st row)) : ∀ (k : Nat) (i : Int) (st : FS), 0 ≤ i → i + k = (L.length : Int) → G0 L st → Fine L st (findL rec L row k i st)
  | 0, i, st, h0, h1, hg => ⟨hg, fun _ => ⟨rfl, rfl, rfl⟩⟩
  | k + 1, i, st, h0, h1, hg => by
    have ih := findL_fine (row := row) hrec k
    unfold findL
    split
    · rename_i hf
      split
      · obtain ⟨hs, _⟩ := hg.step h0 (by omega) hf
        have hq := hrec (fsIn st i) (stepR (ansD (L.getD i.toNat []) row) row) hs
        split
        · rename_i q e
          rw [e] at hq
          exact ⟨⟨hq.1.h1, hq.1.hl, hq.1.n0, hq.1.no, hq.1.c⟩, fun h => by cases h⟩
        · rename_i q e
          rw [e] at hq
          obtain ⟨g1, g2, g3, g4⟩ := fine_out hg h0 (by omega) hf hq
          obtain ⟨k1, k2⟩ := ih (i + 1) (fsOut q i) (by omega) (by omega) g1
          refine ⟨k1, fun h => ?_⟩
          obtain ⟨j1, j2, j3⟩ := k2 h
          rw [g2] at j1; rw [g3] at j2 j3
          exact ⟨j1, j2, j3.trans g4⟩
      · exact ih (i + 1) st (by omega) (by omega) hg
    · exact ih (i + 1) st (by omega) (by omega) hg
theorem findF_fine (L : Row) : ∀ (f : Nat) (st : FS) (row : Row), G0 L st → Fine L st (findF L f st row)
  | 0, st, row, hg => ⟨hg, fun _ => ⟨rfl, rfl, rfl⟩⟩
  | f + 1, st, row, hg => by
    unfold findF
    split
    · exact ⟨hg, fun h => by cases h⟩
    · exact findL_fine (fun st row h => findF_fine L f st row h) _ 0 st (by omega) (by omega) hg
theorem findM_fine {L : Row} {st : FS} {row : Row} (hg : G0 L st) : Fine L st (findM L st row) := findF_fine L _ st row hg
theorem good_iff {n : Int} {D L : Row} : goodF n D L = true ↔ All01 D ∧ n + (cnt0 D : Int) ≤ (L.length : Int) := by
  unfold goodF All01
  simp only [Bool.and_eq_true, List.all_eq_true, Bool.or_eq_true, beq_iff_eq, decide_eq_true_eq]
/-- The rounds, one by one. -/
theorem findL_end {rec : FS → Row → Bool × FS} {L row : Row} {i : Int} {st : FS} (h0 : 0 ≤ i) (h : ¬ i < (L.length : Int)) : findL rec L row (L.length - i.toNat) i st = (false, st) := by
  rw [show L.length - i.toNat = 0 by omega]; rfl
section
variable {rec : FS → Row → Bool × FS} {L row : Row} {i : Int} {st : FS}
theorem findL_no (h0 : 0 ≤ i) (h : i < (L.length : Int)) (hf : freeF i L st.d = false) : findL rec L row (L.length - i.toNat) i st = findL rec L row (L.length - (i + 1).toNat) (i + 1) st := by
  rw [show L.length - i.toNat = (L.length - (i + 1).toNat) + 1 by omega]
  conv => lhs; unfold findL
  rw [if_neg (by rw [hf]; decide)]
theorem findL_not (h0 : 0 ≤ i) (h : i < (L.length : Int)) (hf : freeF i L st.d = true) (ho : stepO (ansD (L.getD i.toNat []) row) row = false) : findL rec L row (L.length - i.toNat) i st = findL rec L row (L.length - (i + 1).toNat) (i + 1) st := by
  rw [show L.length - i.toNat = (L.length - (i + 1).toNat) + 1 by omega]
  conv => lhs; unfold findL
  rw [if_pos hf, if_neg (by rw [ho]; decide)]
theorem findL_yes {q : FS} (h0 : 0 ≤ i) (h : i < (L.length : Int)) (hf : freeF i L st.d = true) (ho : stepO (ansD (L.getD i.toNat []) row) row = true) (hr : rec (fsIn st i) (stepR (ansD (L.getD i.toNat []) row) row) = (true, q)) : findL rec L row (L.length - i.toNat) i st = (true, { q with t := true }) := by
  rw [show L.length - i.toNat = (L.length - (i + 1).toNat) + 1 by omega]
  conv => lhs; unfold findL
  rw [if_pos hf, if_pos ho, hr]
theorem findL_back {q : FS} (h0 : 0 ≤ i) (h : i < (L.length : Int)) (hf : freeF i L st.d = true) (ho : stepO (ansD (L.getD i.toNat []) row) row = true) (hr : rec (fsIn st i) (stepR (ansD (L.getD i.toNat []) row) row) = (false, q)) : findL rec L row (L.length - i.toNat) i st = findL rec L row (L.length - (i + 1).toNat) (i + 1) (fsOut q i) := by
  rw [show L.length - i.toNat = (L.length - (i + 1).toNat) + 1 by omega]
  conv => lhs; unfold findL
  rw [if_pos hf, if_pos ho, hr]
end
theorem fArg_mk {x y z : D} {L D O R : Row} {n : Int} (hx : x.l = [n, (O.length : Int)]) (hxr : x.r = L) (hy : y.r = D) (hz : z.r = O ++ R) : fArg x y z = findM L ⟨D, n, O, false⟩ R := by
  unfold fArg
  rw [hx, hxr, hy, hz]
  simp only [nth, Int.toNat_natCast, List.take_left', List.drop_left']
theorem left_succ {L D : Row} {i : Int} (h0 : 0 ≤ i) : leftN L D (i + 1).toNat = leftN L D i.toNat + if lefF L D i.toNat = true then 1 else 0 := by
  unfold leftN
  rw [show (i + 1).toNat = i.toNat + 1 by omega, List.range_succ, List.countP_append]
  simp
end Go.Proofs.Ytpgkbdkkcladcaa.Sy
