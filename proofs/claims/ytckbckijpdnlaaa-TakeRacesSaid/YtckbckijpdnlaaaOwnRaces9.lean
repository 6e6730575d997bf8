/- Threads that take what is in one place. A lemma file: it claims nothing of the program. -/
import Derived.Test.YtckbckijpdnlaaaOwnLem10
set_option linter.unusedVariables false
set_option linter.unusedSimpArgs false
set_option maxHeartbeats 4000000
namespace Go.Proofs.Ytckbckijpdnlaaa.Sy
open Go
/-- Has it been had by this one? -/
def wonI (k : KSt) : Int := if k.lost = false ∧ 4 ≤ k.n then 1 else 0
def gone (r : Row) : Int := if cl r 0 = 26 then 1 else 0
structure RCom (T x : Int) (r : Row) : Prop where
  tb : 1 ≤ T ∧ T ≤ 4
  len : (r.length : Int) = 4 * T
  wd : cl r 0 = 25 ∨ cl r 0 = 26
  vl : cl r T = x
/-- A taker, as it stands. -/
structure ROne (T x : Int) (r : Row) (w : Int) (k : KSt) : Prop where
  n : 0 ≤ k.n ∧ k.n ≤ 5
  ph : 0 ≤ k.ph ∧ k.ph ≤ 2
  hz : cl r (2 * T + w) = if k.ph = 0 ∧ 1 ≤ k.n then 1 else 0
  vl : 3 ≤ k.n → k.lost = false → k.val = x
  lo : k.lost = true → cl r 0 = 26 ∧ (k.n = 2 ∨ k.n = 4) ∧ k.ph ≠ 1
  p2 : k.ph = 2 → k.lost = true
  p1 : k.ph = 1 → k.n = 5 ∧ k.lost = false
  p0 : k.ph = 0 → k.n ≤ 4
  wn : wonI k = 1 → cl r 0 = 26
def kpot (k : KSt) : Int := if k.ph = 0 then (if k.lost = true then 1 else 5 - k.n) else 0
def KPot (k : KSt) (m : Int) : Prop := k.ph = 0 → kpot k ≤ m
theorem KPot.mono {k : KSt} {m m' : Int} (h : KPot k m) (hm : m ≤ m') : KPot k m' := fun z => by have := h z; omega
structure RKept (T x : Int) (r r' : Row) (w : Int) (k k' : KSt) : Prop where
  com : RCom T x r'
  own : ROne T x r' w k'
  oth : ∀ u q, 0 ≤ u → u < T → u ≠ w → ROne T x r u q → ROne T x r' u q
  cnt : gone r' - wonI k' = gone r - wonI k
  pot : ∀ m, KPot k m → KPot k' (m - 1)
theorem taken25 : takenW 25 = 26 := by decide
theorem race_step {T x w : Int} {r : Row} {k : KSt} (hC : RCom T x r) (hw : 0 ≤ w) (hT : w < T) (h : ROne T x r w k) :
    RKept T x r ((takeT T 1 w 0 25 r k).row r) w k (takeStep T 1 0 25 r k) := by
  have hC' := hC
  obtain ⟨tb, len, wd, vl⟩ := hC'
  have h' := h
  obtain ⟨hn, hp, hz, hv, hl, h2, h1, h0, hw1⟩ := h'
  -- loads, and nothing
  have same : ∀ (r' : Row) (k' : KSt), cl r' = cl r → (r'.length : Int) = r.length → ROne T x r w k' → wonI k' = wonI k → (∀ m, KPot k m → KPot k' (m - 1)) → RKept T x r r' w k k' := by
    intro r' k' e el q1 q2 q3
    refine ⟨⟨tb, by omega, by rw [e]; exact wd, by rw [e]; exact vl⟩, ?_, fun u q a b c d => ?_, by unfold gone; rw [e, q2], q3⟩
    · exact ⟨q1.n, q1.ph, by rw [e]; exact q1.hz, q1.vl, by rw [e]; exact q1.lo, q1.p2, q1.p1, q1.p0, by rw [e]; exact q1.wn⟩
    · exact ⟨d.n, d.ph, by rw [e]; exact d.hz, d.vl, by rw [e]; exact d.lo, d.p2, d.p1, d.p0, by rw [e]; exact d.wn⟩
  -- its hazard
  have haz : ∀ (y : Int) (k' : KSt), (∀ r' : Row, cl r' 0 = cl r 0 → cl r' (2 * T + w) = y → ROne T x r' w k') → wonI k' = wonI k → (∀ m, KPot k m → KPot k' (m - 1)) → RKept T x r (r.set (2 * T + w).toNat [y]) w k k' := by
    intro y k' q1 q2 q3
    have c0 : cl (r.set (2 * T + w).toNat [y]) 0 = cl r 0 := cl_other (by omega) (by omega) (by omega)
    have cT : cl (r.set (2 * T + w).toNat [y]) T = cl r T := cl_other (by omega) (by omega) (by omega)
    refine ⟨⟨tb, by rw [List.length_set]; exact len, by rw [c0]; exact wd, by rw [cT]; exact vl⟩, q1 _ c0 (cl_self (by omega) (by omega)), fun u q a b c d => ?_, by unfold gone; rw [c0, q2], q3⟩
    have cu : cl (r.set (2 * T + w).toNat [y]) (2 * T + u) = cl r (2 * T + u) := cl_other (by omega) (by omega) (by omega)
    exact ⟨d.n, d.ph, by rw [cu]; exact d.hz, d.vl, by rw [c0]; exact d.lo, d.p2, d.p1, d.p0, by rw [c0]; exact d.wn⟩
  obtain ⟨n, lost, val, ph⟩ := k
  dsimp only at hn hp hz hv hl h2 h1 h0
  by_cases hph : ph = 0
  · subst hph
    cases lost with
    | true =>
      have eT : takeT T 1 w 0 25 r ⟨n, true, val, 0⟩ = ⟨2 * (T * 1) + w, 1, 0, 1⟩ := rfl
      have eS : takeStep T 1 0 25 r ⟨n, true, val, 0⟩ = ⟨n, true, val, 2⟩ := rfl
      rw [eT, eS]
      unfold Tch.row
      dsimp only
      rw [Int.mul_one, if_neg (by omega)]
      have hl' := hl rfl
      refine haz 0 _ (fun r' e0 e1 => ⟨hn, by dsimp only; omega, by rw [e1]; dsimp only; rw [if_neg (by omega)], fun _ z => by (cases z), fun _ => ⟨by rw [e0]; exact hl'.1, hl'.2.1, by dsimp only; omega⟩, fun _ => rfl, fun z => by (cases z), fun z => by (cases z), fun z => ?_⟩) rfl (fun m z y => by cases y)
      rw [e0]; exact hl'.1
    | false =>
      rcases (by omega : n = 0 ∨ n = 1 ∨ n = 2 ∨ n = 3 ∨ n = 4) with rfl | rfl | rfl | rfl | rfl
      · have eT : takeT T 1 w 0 25 r ⟨0, false, val, 0⟩ = ⟨2 * (T * 1) + w, 1, 0 + 1, 1⟩ := rfl
        have eS : takeStep T 1 0 25 r ⟨0, false, val, 0⟩ = ⟨0 + 1, false, val, 0⟩ := rfl
        rw [eT, eS]
        unfold Tch.row
        dsimp only
        rw [Int.mul_one, if_neg (by omega)]
        exact haz _ _ (fun r' e0 e1 => ⟨by dsimp only; decide, by dsimp only; decide, by rw [e1]; rfl, fun z => (by dsimp only at z; omega), fun z => by (cases z), fun z => by (cases z), fun z => by (cases z), fun _ => by dsimp only; decide, fun z => absurd (show wonI ⟨0 + 1, false, 0, 0⟩ = 1 from z) (by decide)⟩) rfl (fun m z _ => by have := z rfl; unfold kpot at this ⊢; simp at this ⊢; omega)
      · have eT : takeT T 1 w 0 25 r ⟨1, false, val, 0⟩ = ⟨0, 0, cl r 0, 1⟩ := rfl
        have eS : takeStep T 1 0 25 r ⟨1, false, val, 0⟩ = ⟨2, !decide (cl r 0 = 25), val, 0⟩ := rfl
        rw [eT, eS]
        unfold Tch.row
        dsimp only
        rw [if_neg (by decide)]
        have hz1 : cl r (2 * T + w) = 1 := hz
        refine same _ _ (cl_load_fun r 0) (by rw [List.length_set]) ⟨by dsimp only; decide, by dsimp only; decide, by rw [hz1]; rfl, fun z => (by dsimp only at z; omega), fun z => ?_, fun z => by (cases z), fun z => by (cases z), fun _ => by dsimp only; decide, fun z => ?_⟩ ?_ (fun m z _ => ?_)
        · have : ¬ cl r 0 = 25 := by simpa using z
          exact ⟨by omega, .inl rfl, by dsimp only; decide⟩
        · unfold wonI at z; dsimp only at z; split at z
          · omega
          · cases z
        · unfold wonI; dsimp only; rw [if_neg (by omega), if_neg (by omega)]
        · have := z rfl; unfold kpot at this ⊢; dsimp only at this ⊢; rw [if_pos rfl] at this ⊢; rw [if_neg (by decide)] at this; split <;> omega
      · have eT : takeT T 1 w 0 25 r ⟨2, false, val, 0⟩ = ⟨T * 1 + 0, 0, cl r (T * 1 + 0), 1⟩ := rfl
        have eS : takeStep T 1 0 25 r ⟨2, false, val, 0⟩ = ⟨3, false, cl r (T * 1 + 0), 0⟩ := rfl
        rw [eT, eS, Int.mul_one, Int.add_zero]
        unfold Tch.row
        dsimp only
        rw [if_neg (by omega)]
        have hz1 : cl r (2 * T + w) = 1 := hz
        exact same _ _ (cl_load_fun r T) (by rw [List.length_set]) ⟨by dsimp only; decide, by dsimp only; decide, by rw [hz1]; rfl, fun _ _ => vl, fun z => by (cases z), fun z => by (cases z), fun z => by (cases z), fun _ => by dsimp only; decide, fun z => absurd (show wonI ⟨3, false, 0, 0⟩ = 1 from z) (by decide)⟩ rfl (fun m z _ => by have := z rfl; unfold kpot at this ⊢; simp at this ⊢; omega)
      · have hz1 : cl r (2 * T + w) = 1 := hz
        have hval : val = x := hv (by decide) rfl
        by_cases hw0 : cl r 0 = 25
        · have eT : takeT T 1 w 0 25 r ⟨3, false, val, 0⟩ = ⟨0, 2, 26, 1⟩ := by
            show (if cl r 0 = 25 then (⟨0, 2, takenW 25, 1⟩ : Tch) else _) = _
            rw [if_pos hw0, taken25]
          have eS : takeStep T 1 0 25 r ⟨3, false, val, 0⟩ = ⟨4, false, val, 0⟩ := by
            show (⟨4, !decide (cl r 0 = 25), val, 0⟩ : KSt) = _
            rw [hw0]; rfl
          rw [eT, eS]
          unfold Tch.row
          dsimp only
          rw [if_neg (by decide)]
          have c0 : cl (r.set (0 : Int).toNat [26]) 0 = 26 := cl_self (by omega) (by omega)
          have co : ∀ j, 0 < j → cl (r.set (0 : Int).toNat [26]) j = cl r j := fun j hj => cl_other (by omega) (by omega) (by omega)
          refine ⟨⟨tb, by rw [List.length_set]; exact len, .inr c0, by rw [co T (by omega)]; exact vl⟩, ⟨by dsimp only; decide, by dsimp only; decide, by rw [co _ (by omega), hz1]; rfl, fun _ _ => hval, fun z => by (cases z), fun z => by (cases z), fun z => by (cases z), fun _ => by dsimp only; decide, fun _ => c0⟩, fun u q a b c d => ?_, ?_, fun m z _ => by have := z rfl; unfold kpot at this ⊢; simp at this ⊢; omega⟩
          · exact ⟨d.n, d.ph, by rw [co _ (by omega)]; exact d.hz, d.vl, fun z => ⟨c0, (d.lo z).2⟩, d.p2, d.p1, d.p0, fun _ => c0⟩
          · unfold gone; rw [c0, if_pos rfl, hw0, if_neg (by decide)]; rfl
        · have eT : takeT T 1 w 0 25 r ⟨3, false, val, 0⟩ = ⟨0, 2, cl r 0, 0⟩ := by
            show (if cl r 0 = 25 then _ else (⟨0, 2, cl r 0, 0⟩ : Tch)) = _
            rw [if_neg hw0]
          have eS : takeStep T 1 0 25 r ⟨3, false, val, 0⟩ = ⟨4, true, val, 0⟩ := by
            show (⟨4, !decide (cl r 0 = 25), val, 0⟩ : KSt) = _
            rw [decide_eq_false hw0]; rfl
          rw [eT, eS]
          unfold Tch.row
          dsimp only
          rw [if_neg (by decide)]
          exact same _ _ (cl_load_fun r 0) (by rw [List.length_set]) ⟨by dsimp only; decide, by dsimp only; decide, by rw [hz1]; rfl, fun _ z => by (cases z), fun _ => ⟨by omega, .inr rfl, by dsimp only; decide⟩, fun z => by (cases z), fun z => by (cases z), fun _ => by dsimp only; decide, fun z => absurd (show wonI ⟨4, true, 0, 0⟩ = 1 from z) (by decide)⟩ rfl (fun m z _ => by have := z rfl; unfold kpot at this ⊢; simp at this ⊢; omega)
      · have eT : takeT T 1 w 0 25 r ⟨4, false, val, 0⟩ = ⟨2 * (T * 1) + w, 1, 0, 1⟩ := rfl
        have eS : takeStep T 1 0 25 r ⟨4, false, val, 0⟩ = ⟨5, false, val, 1⟩ := rfl
        rw [eT, eS]
        unfold Tch.row
        dsimp only
        rw [Int.mul_one, if_neg (by omega)]
        have hw2 := hw1 rfl
        have hval : val = x := hv (by decide) rfl
        exact haz 0 _ (fun r' e0 e1 => ⟨by dsimp only; decide, by dsimp only; decide, by rw [e1]; rfl, fun _ _ => hval, fun z => by (cases z), fun z => by (cases z), fun _ => ⟨rfl, rfl⟩, fun z => by (cases z), fun _ => by rw [e0]; exact hw2⟩) rfl (fun m z y => by cases y)
  · have eT : takeT T 1 w 0 25 r ⟨n, lost, val, ph⟩ = noT := if_neg hph
    have eS : takeStep T 1 0 25 r ⟨n, lost, val, ph⟩ = ⟨n, lost, val, ph⟩ := if_neg hph
    rw [eT, eS]
    have er : noT.row r = r := if_pos (by decide)
    rw [er]
    exact same r _ rfl rfl h rfl (fun m z y => absurd y hph)
end Go.Proofs.Ytckbckijpdnlaaa.Sy
