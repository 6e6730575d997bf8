/- Puts of all threads side by side. A lemma file: it claims nothing of the program. -/
import Derived.Test.YtckbckijpdnlaaaOwnPa10
set_option linter.unusedVariables false
set_option linter.unusedSimpArgs false
set_option maxHeartbeats 4000000
namespace Go.Proofs.Ytckbckijpdnlaaa.Sy
open Go
theorem both' {v : Val} {α : Type} {ψ : Kn → α → Prop} {t e : Tree α} (h1 : TOK v ψ t) (h2 : TOK v ψ e) : TOK v ψ (.both t e) := ⟨h1, h2⟩
theorem most27 {T S src dl who : Int} (hL : LB T S src dl who) (hd : dl ≤ 3) : 4 ≤ putMost T S src dl ∧ putMost T S src dl ≤ 27 := by
  unfold LB at hL
  unfold putMost tickMost
  rcases (by omega : T = 1 ∨ T = 2 ∨ T = 3 ∨ T = 4) with rfl | rfl | rfl | rfl <;> (repeat' split) <;> omega
def F00 : Int → Int := fun _ => 0
/-- A put of a thread, as it stands among the others. -/
def One (T S src now : Int) (r : Row) (w : Int) (p : PSt) : Prop := PB T S src 1 p ∧ LH p.t ∧ PA T S src w 1 (100 + w) now now (-1) F00 r p
structure Com (T S src now : Int) (r : Row) : Prop where
  lb : 1 ≤ T ∧ T ≤ 4 ∧ 1 ≤ S ∧ S ≤ 4 ∧ 0 ≤ src ∧ src ≤ 4
  len : (r.length : Int) = 2 * (T * S) + 2 * T
  rb : RowB r
  num : NumB T S now r
  nn : 0 ≤ now
def PotB (T S src : Int) (p : PSt) (m : Int) : Prop := p.ph = 0 → ppot T S src 1 p ≤ m
/-- What a step of one of them keeps. -/
structure Kept (T S src now : Int) (r r' : Row) (w : Int) (p p' : PSt) : Prop where
  com : Com T S src (now + 1) r'
  own : One T S src (now + 1) r' w p'
  oth : ∀ u q, 0 ≤ u → u < T → u ≠ w → One T S src now r u q → One T S src (now + 1) r' u q
  pot : ∀ m, PotB T S src p m → PotB T S src p' (m - 1)
theorem PotB.mono {T S src : Int} {p : PSt} {m m' : Int} (h : PotB T S src p m) (hm : m ≤ m') : PotB T S src p m' := fun z => by have := h z; omega
theorem many_step {T S src now w : Int} {r : Row} {p : PSt} (hC : Com T S src now r) (hw : 0 ≤ w) (hT : w < T) (hn : now < 1000) (h : One T S src now r w p) :
    Kept T S src now r ((putT T S src 1 w 1 (100 + w) r now p).row r) w p (putStep T S src 1 w r now p) := by
  obtain ⟨lb, len, rb, num, nn⟩ := hC
  obtain ⟨hP, hH, hA⟩ := h
  have hL : LB T S src 1 w := by unfold LB; omega
  have G := pa_step hL hP num len nn (Int.le_refl _) (Int.le_refl _) (by omega) hA
  have nb := putT_new (who := w) (en := 1) (val := 100 + w) (now := now) rb hP (by omega) (by decide)
  have rb' : RowB ((putT T S src 1 w 1 (100 + w) r now p).row r) := by
    unfold Tch.row
    split
    · exact rb
    · exact rb.set nb.1 nb.2
  have len' : (((putT T S src 1 w 1 (100 + w) r now p).row r).length : Int) = 2 * (T * S) + 2 * T := by
    unfold Tch.row
    split
    · exact len
    · rw [setLen]; exact len
  refine ⟨⟨lb, len', rb', G.num, by omega⟩, ⟨PB.step hL rb nn hP, ?_, G.pa⟩, fun u q hu0 hu1 hne ⟨oP, oH, oA⟩ => ⟨oP, oH, ?_⟩, fun m hm z => ?_⟩
  · unfold putStep
    split
    · split
      · exact hH
      · split
        · exact LH.step hP.2.2.1 hH
        · split <;> exact hH
    · exact hH
  · exact oA.other (by omega) oP (by omega) (by omega) G.up (fun z => G.own z u hu0 hu1 hne) G.haz (fun j h1 h2 => G.oth u j hu0 hu1 hne h1 h2)
  · by_cases hp : p.ph = 0
    · have := (ppot_step (who := w) (r := r) (now := now) hL rb nn hP).1 hp
      have := hm hp
      omega
    · rw [(ppot_step (who := w) (r := r) (now := now) hL rb nn hP).2 hp] at z
      exact absurd z hp
theorem one0 {T S src now w : Int} {r : Row} (hC : Com T S src now r) (hw : 0 ≤ w) (hT : w < T) (hz : ∀ j, cl r j = 0) : One T S src now r w put0 := by
  have lb := hC.lb
  have hL : LB T S src 1 w := by unfold LB; omega
  have hn := hC.nn
  have h0 := (hC.rb (2 * (T * S) + T)).1
  refine ⟨PB0 hL, ⟨by decide, by decide, by decide, by decide⟩, PA0 hL hC.nn ⟨fun _ => by omega, fun _ => .inl (by decide), fun _ => .inl ⟨rfl, by omega⟩, fun _ => by omega, fun _ => .inl ⟨rfl, by omega⟩⟩ (fun j _ _ => hz _) (fun j _ _ => hz _)⟩
/-- What is told at the end. -/
theorem one_end {T S src now w : Int} {r : Row} {p : PSt} (hC : Com T S src now r) (hw : 0 ≤ w) (hT : w < T) (h : One T S src now r w p) (hp : ¬ p.ph = 0) :
    p.ph = 1 ∧ p.c.k = 0 ∧ (0 ≤ p.t.lo ∧ p.t.lo ≤ p.t.hi ∧ p.t.hi < 16777215) ∧ cl r (T * S + (w * S + p.c.k)) = 100 + w ∧ wS (cl r (w * S + p.c.k)) = 1 ∧ wE (cl r (w * S + p.c.k)) = 1 ∧ wL (cl r (w * S + p.c.k)) = p.t.lo ∧ wH (cl r (w * S + p.c.k)) = p.t.hi := by
  have lb := hC.lb
  obtain ⟨hP, hH, hA⟩ := h
  have hQ : ∀ j, Qual F00 T S w j := fun j => ⟨by show wG 0 < 8191; decide, .inl (by show wS 0 = 0; decide)⟩
  have hp1 : p.ph = 1 := by
    rcases (by have := hP.2.2.2; omega : p.ph = 1 ∨ p.ph = 2) with z | z
    · exact z
    · exact absurd (hQ 0) (pa_full hP hA z 0 (by decide) (by omega))
  obtain ⟨d1, d2, d3, d4, d5, d6, d7, d8, d9, d10, d11, d12⟩ := pa_done hP hA hp1
  have hk : p.c.k = 0 := by
    rcases (by omega : p.c.k = 0 ∨ 0 < p.c.k) with z | z
    · exact z
    · exact absurd (hQ 0) (d4 0 (by decide) z)
  obtain ⟨w1, w2, w3, w4, w5, _⟩ := word_parts (en := 1) hP hp1 (by decide)
  rw [d12]
  exact ⟨hp1, hk, d8, d11, w1, w2, w4, w5⟩
end Go.Proofs.Ytckbckijpdnlaaa.Sy
