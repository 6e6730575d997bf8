/- A put where nobody turns its thread's words: what its steps keep. A lemma file: it claims nothing of the program. -/
import Derived.Test.YtckbckijpdnlaaaOwnOrd5
import Derived.Test.YtckbckijpdnlaaaOwnNxt10
set_option linter.unusedVariables false
set_option linter.unusedSimpArgs false
set_option maxHeartbeats 4000000
namespace Go.Proofs.Ytckbckijpdnlaaa.Sy
open Go
theorem CF.congr {F F' : Int → Int} {T S who : Int} {c : CSt} (hb : CB T S c) (h1 : ∀ j, 0 ≤ j → j < S → F' (who * S + j) = F (who * S + j)) (h2 : ∀ t, 0 ≤ t → t < T → F' (2 * (T * S) + t) = F (2 * (T * S) + t)) (h : CF F T S who c) : CF F' T S who c := by
  unfold CB at hb
  have hq : ∀ j, 0 ≤ j → j < S → (Qual F' T S who j ↔ Qual F T S who j) := fun j a b => by
    unfold Qual
    rw [h1 j a b]
    constructor
    · rintro ⟨x, y | ⟨y, z⟩⟩
      · exact ⟨x, .inl y⟩
      · exact ⟨x, .inr ⟨y, fun t u v => by rw [← h2 t u v]; exact z t u v⟩⟩
    · rintro ⟨x, y | ⟨y, z⟩⟩
      · exact ⟨x, .inl y⟩
      · exact ⟨x, .inr ⟨y, fun t u v => by rw [h2 t u v]; exact z t u v⟩⟩
  obtain ⟨a, b, d, e⟩ := h
  refine ⟨fun j u v z => a j u v ((hq j u (by omega)).1 z), fun u v => ?_, fun u => ?_, fun u => ?_⟩
  · obtain ⟨x, y, z, w⟩ := b u v
    rw [h1 _ (by omega) (by omega)]
    exact ⟨x, y, z, fun t m n => by rw [h2 t m (by omega)]; exact w t m n⟩
  · obtain ⟨x, y⟩ := d u
    rw [h1 _ (by omega) (by omega)]
    exact ⟨(hq _ (by omega) (by omega)).2 x, y⟩
  · obtain ⟨x, y⟩ := e u
    exact ⟨x, fun z => y ((hq _ (by omega) (by omega)).1 z)⟩
theorem tickT_cell {T S src dl who now : Int} {r : Row} {t : TSt} (hL : LB T S src dl who) (hB : TB T src dl t) : (tickT T S src dl who r now t).cell < 0 ∨ (2 * (T * S) + T ≤ (tickT T S src dl who r now t).cell ∧ (tickT T S src dl who r now t).cell < 2 * (T * S) + T + T) := by
  unfold LB at hL; unfold TB at hB
  unfold tickT
  split
  · unfold tickGo noT
    dsimp only
    repeat' split
    all_goals (dsimp only; omega)
  · exact .inl (by decide)
/-- A put where nobody turns its thread's words. -/
structure PA (T S src who en val N nw h : Int) (F0 : Int → Int) (r : Row) (p : PSt) : Prop where
  cf : CF F0 T S who p.c
  ti : TI T S src who N nw r p.t
  tp : p.t.ph ≠ 2
  lb : p.t.ph = 0 → LBd T S src r nw p.t h
  fin : p.t.ph = 1 → h < p.t.lo ∧ p.t.hi ≤ N ∧ Past T S src r nw p.t.hi
  own : ∀ j, 0 ≤ j → j < S → (p.ph = 1 → j ≠ p.c.k) → cl r (who * S + j) = F0 (who * S + j)
  haz : ∀ t, 0 ≤ t → t < T → cl r (2 * (T * S) + t) = F0 (2 * (T * S) + t)
  val : p.st = true → cl r (T * S + (who * S + p.c.k)) = val
  word : p.ph = 1 → cl r (who * S + p.c.k) = putWord en p
  full : p.ph = 2 → p.c.ph = 2
structure PGo (T S src who en val N now h : Int) (F0 : Int → Int) (r r' : Row) (p' : PSt) : Prop where
  pa : PA T S src who en val (N + 1) (now + 1) h F0 r' p'
  num : NumB T S (N + 1) r'
  up : NumUp T S r r'
  own : src = 1 → ∀ j, 0 ≤ j → j < T → j ≠ who → cl r' (2 * (T * S) + T + j) = cl r (2 * (T * S) + T + j)
  haz : ∀ t, 0 ≤ t → t < T → cl r' (2 * (T * S) + t) = cl r (2 * (T * S) + t)
  oth : ∀ w j, 0 ≤ w → w < T → w ≠ who → 0 ≤ j → j < S → cl r' (w * S + j) = cl r (w * S + j) ∧ cl r' (T * S + (w * S + j)) = cl r (T * S + (w * S + j))
section
variable {T S src dl who en val N nw now h : Int} {F0 : Int → Int} {r r' : Row} {p : PSt}
theorem PA.other (hT : 0 < T) {N' nw' : Int} (hP : PB T S src dl p) (hN : N ≤ N') (hw : nw ≤ nw') (hu : NumUp T S r r') (hs : src = 1 → cl r' (2 * (T * S) + T + who) = cl r (2 * (T * S) + T + who)) (hh : ∀ t, 0 ≤ t → t < T → cl r' (2 * (T * S) + t) = cl r (2 * (T * S) + t)) (ho : ∀ j, 0 ≤ j → j < S → cl r' (who * S + j) = cl r (who * S + j) ∧ cl r' (T * S + (who * S + j)) = cl r (T * S + (who * S + j))) (a : PA T S src who en val N nw h F0 r p) : PA T S src who en val N' nw' h F0 r' p := by
  have hc := hP.1
  unfold CB at hc
  have hk := ho p.c.k (by omega) (by omega)
  exact ⟨a.cf, a.ti.other hT hu hw hN hs, a.tp, fun z => (a.lb z).other hT hu hw, fun z => ⟨(a.fin z).1, by have := (a.fin z).2.1; omega, (a.fin z).2.2.other hT hu hw⟩, fun j u v w => by rw [(ho j u v).1]; exact a.own j u v w, fun t u v => by rw [hh t u v]; exact a.haz t u v, fun z => by rw [hk.2]; exact a.val z, fun z => by rw [hk.1]; exact a.word z, a.full⟩
theorem sep2 {w w' j j' : Int} (hw : 0 ≤ w) (hw' : 0 ≤ w') (hne : w ≠ w') (hj : 0 ≤ j) (hjS : j < S) (hj' : 0 ≤ j') (hjS' : j' < S) : w * S + j ≠ w' * S + j' := by
  intro e
  have e1 : (w * S + j) / S = w := by rw [Int.add_comm, Int.add_mul_ediv_right _ _ (by omega), Int.ediv_eq_zero_of_lt hj hjS]; omega
  have e2 : (w' * S + j') / S = w' := by rw [Int.add_comm, Int.add_mul_ediv_right _ _ (by omega), Int.ediv_eq_zero_of_lt hj' hjS']; omega
  rw [e] at e1; omega
theorem pa_step (hL : LB T S src dl who) (hP : PB T S src dl p) (hN : NumB T S N r) (hl : (r.length : Int) = 2 * (T * S) + 2 * T) (h0 : 0 ≤ nw) (hw : nw ≤ now) (hn : now ≤ N) (hb : N < 16777213) (a : PA T S src who en val N nw h F0 r p) :
    PGo T S src who en val N now h F0 r ((putT T S src dl who en val r now p).row r) (putStep T S src dl who r now p) := by
  have hL' := hL
  unfold LB at hL'
  have hTS : 0 ≤ T * S := Int.mul_nonneg (by omega) (by omega)
  have hP' := hP
  obtain ⟨h1, h2, h3, h4, h5, h6, h7, h8, h9, h10⟩ := hP
  have h1' := h1
  unfold CB at h1'
  have wk := wwho (T := T) (S := S) (who := who) (k := p.c.k) (by omega) (by omega) (by omega) (by omega) (by omega)
  have same : ∀ (r' : Row) (p' : PSt), cl r' = cl r → CF F0 T S who p'.c → p'.t = p.t → p'.st = p.st → p'.ph ≠ 1 → (p'.ph = 2 → p'.c.ph = 2) → (p'.st = true → p'.c.k = p.c.k) → p.ph ≠ 1 → PGo T S src who en val N now h F0 r r' p' := by
    intro r' p' e q1 q2 q3 q4 q5 q6 q7
    have up : NumUp T S r r' := fun j _ _ => by rw [e]; exact Int.le_refl _
    refine ⟨⟨q1, ?_, by rw [q2]; exact a.tp, fun z => ?_, fun z => ?_, fun j u v w => by rw [e]; exact a.own j u v (fun z => absurd z q7), fun t u v => by rw [e]; exact a.haz t u v, fun z => ?_, fun z => absurd z q4, q5⟩, fun j u v => by rw [e]; exact hN.mono (by omega) j u v, up, fun _ j _ _ _ => by rw [e], fun t _ _ => by rw [e], fun w j _ _ _ _ _ => by rw [e]; exact ⟨rfl, rfl⟩⟩
    · rw [q2]; exact a.ti.other (by omega) up (by omega) (by omega) (fun _ => by rw [e])
    · rw [q2] at z ⊢; exact (a.lb z).other (by omega) up (by omega)
    · rw [q2] at z ⊢; exact ⟨(a.fin z).1, by have := (a.fin z).2.1; omega, (a.fin z).2.2.other (by omega) up (by omega)⟩
    · rw [q6 z, e]; exact a.val (q3 ▸ z)
  by_cases hp : p.ph = 0
  · have hcl : ∀ j, 0 ≤ j → j < S → cl r (who * S + j) = F0 (who * S + j) := fun j u v => a.own j u v (fun z => by omega)
    by_cases hc : p.c.ph = 0
    · have e1 : putT T S src dl who en val r now p = claimT T S who r p.c := by unfold putT; rw [if_pos hp, if_pos hc]
      have e2 : putStep T S src dl who r now p = { p with c := claimStep T S who r p.c, ph := fullB (claimStep T S who r p.c).ph p.ph } := by unfold putStep; rw [if_pos hp, if_pos hc]
      have e4 : claimT T S who r p.c = ⟨claimCell T S who p.c, 0, cl r (claimCell T S who p.c), 1⟩ := by unfold claimT; rw [if_pos hc]
      have e5 : cl ((claimT T S who r p.c).row r) = cl r := by
        rw [e4]; unfold Tch.row; dsimp only
        split
        · rfl
        · exact cl_load_fun _ _
      rw [e1, e2]
      have hst : p.st = false := by
        cases e : p.st with
        | false => rfl
        | true => have := (h7 e).1; omega
      have cf : CF F0 T S who (claimStep T S who r p.c) := by
        have g1 : CF (cl r) T S who p.c := a.cf.congr h1 hcl (fun t u v => a.haz t u v)
        have g2 := g1.step h1
        exact g2.congr (h1.step (by omega)) (fun j u v => (hcl j u v).symm) (fun t u v => (a.haz t u v).symm)
      refine same _ _ e5 cf rfl rfl ?_ (fun z => ?_) (fun z => ?_) (by omega)
      · show fullB _ _ ≠ 1
        unfold fullB; split <;> omega
      · have z : fullB (claimStep T S who r p.c).ph p.ph = 2 := z
        unfold fullB at z
        split at z
        · assumption
        · omega
      · exact absurd (show p.st = true from z) (by rw [hst]; decide)
    · by_cases ht : p.t.ph = 0
      · have e1 : putT T S src dl who en val r now p = tickT T S src dl who r now p.t := by unfold putT; rw [if_pos hp, if_neg hc, if_pos ht]
        have G := tick_go hL hN a.ti h3 ht hl hw h0 hn hb
        have e2 : putStep T S src dl who r now p = { p with t := tickStep T S src dl who r now p.t } := by unfold putStep fullB; rw [if_pos hp, if_neg hc, if_pos ht, if_neg G.ph]
        have hst : p.st = false := by
          cases e : p.st with
          | false => rfl
          | true => have := (h7 e).2; omega
        have low : ∀ j, 0 ≤ j → j < 2 * (T * S) + T → cl ((tickT T S src dl who r now p.t).row r) j = cl r j := fun j u v => by
          rcases tickT_cell (now := now) (r := r) hL h3 with z | ⟨z1, z2⟩
          · unfold Tch.row; rw [if_pos z]
          · unfold Tch.row; rw [if_neg (by omega)]; exact cl_other (by omega) u (by omega)
        rw [e1, e2]
        have w0 : ∀ w j, 0 ≤ w → w < T → 0 ≤ j → j < S → 0 ≤ w * S + j ∧ w * S + j < T * S := fun w j u1 u2 u3 u4 => by
          have := wwho (T := T) (S := S) (who := w) (k := j) u1 u2 (by omega) u3 u4
          omega
        refine ⟨⟨a.cf, G.ti, G.ph, fun z => ?_, fun z => ?_, fun j u v w => ?_, fun t u v => ?_, fun z => absurd (show p.st = true from z) (by rw [hst]; decide), fun z => absurd (show p.ph = 1 from z) (by omega), fun z => absurd (show p.ph = 2 from z) (by omega)⟩, G.num, G.up, G.own, fun t u v => low _ (by omega) (by omega), fun w j u1 u2 u3 u4 u5 => ?_⟩
        · exact G.go z h (a.lb ht)
        · have := G.fin z
          exact ⟨this.2.2.2.1 h (a.lb ht), this.2.2.1, this.2.2.2.2⟩
        · have := w0 who j (by omega) (by omega) u v
          rw [low _ (by omega) (by omega)]; exact hcl j u v
        · rw [low _ (by omega) (by omega)]; exact a.haz t u v
        · have := w0 w j u1 u2 u4 u5
          exact ⟨low _ (by omega) (by omega), low _ (by omega) (by omega)⟩
      · have ct : p.t.ph = 1 := by unfold TB at h3; have := a.tp; omega
        have cc : p.c.ph = 1 := by have := (h6 hp).1; omega
        have keep : ∀ (cell x : Int) (p' : PSt), (cell = who * S + p.c.k ∨ cell = T * S + (who * S + p.c.k)) → p'.c = p.c → p'.t = p.t → (cell = who * S + p.c.k → p'.ph = 1) → p'.ph ≠ 2 → (p'.st = true → cl (r.set cell.toNat [x]) (T * S + (who * S + p.c.k)) = val) → (p'.ph = 1 → cl (r.set cell.toNat [x]) (who * S + p.c.k) = putWord en p') → PGo T S src who en val N now h F0 r (r.set cell.toNat [x]) p' := by
          intro cell x p' q1 q2 q3 q4 q5 q6 q7
          have w0 : ∀ w j, 0 ≤ w → w < T → 0 ≤ j → j < S → 0 ≤ w * S + j ∧ w * S + j < T * S := fun w j u1 u2 u3 u4 => by
            have := wwho (T := T) (S := S) (who := w) (k := j) u1 u2 (by omega) u3 u4
            omega
          have hi : ∀ j, 2 * (T * S) ≤ j → cl (r.set cell.toNat [x]) j = cl r j := fun j u => cl_other (by omega) (by omega) (by omega)
          have up : NumUp T S r (r.set cell.toNat [x]) := fun j u v => by rw [hi _ (by omega)]; exact Int.le_refl _
          refine ⟨⟨by rw [q2]; exact a.cf, ?_, by rw [q3]; exact a.tp, fun z => ?_, fun z => ?_, fun j u v w => ?_, fun t u v => by rw [hi _ (by omega)]; exact a.haz t u v, fun z => by rw [q2]; exact q6 z, fun z => by rw [q2]; exact q7 z, fun z => absurd z q5⟩, fun j u v => by rw [hi _ (by omega)]; exact hN.mono (by omega) j u v, up, fun _ j u v w => hi _ (by omega), fun t u v => hi _ (by omega), fun w j u1 u2 u3 u4 u5 => ?_⟩
          · rw [q3]; exact a.ti.other (by omega) up (by omega) (by omega) (fun _ => hi _ (by omega))
          · rw [q3] at z; exact absurd z ht
          · rw [q3] at z ⊢; exact ⟨(a.fin z).1, by have := (a.fin z).2.1; omega, (a.fin z).2.2.other (by omega) up (by omega)⟩
          · have b1 := w0 who j (by omega) (by omega) u v
            by_cases e : cell = who * S + p.c.k
            · have ne : j ≠ p.c.k := by rw [← q2]; exact w (q4 e)
              rw [e, cl_other (by omega) (by omega) (by omega)]; exact hcl j u v
            · rw [cl_other (by omega) (by omega) (by omega)]; exact hcl j u v
          · have b1 := w0 w j u1 u2 u4 u5
            have ne := sep2 (S := S) (w := w) (w' := who) (j := j) (j' := p.c.k) u1 (by omega) u3 u4 u5 (by omega) (by omega)
            exact ⟨cl_other (by omega) (by omega) (by omega), cl_other (by omega) (by omega) (by omega)⟩
        by_cases hst : p.st = true
        · have e1 : putT T S src dl who en val r now p = ⟨who * S + p.c.k, 1, putWord en p, 1⟩ := by unfold putT; rw [if_pos hp, if_neg hc, if_neg ht, if_pos hst]
          have e2 : putStep T S src dl who r now p = { p with ph := 1 } := by unfold putStep; rw [if_pos hp, if_neg hc, if_neg ht, if_pos hst]
          rw [e1, e2]
          unfold Tch.row
          dsimp only
          rw [if_neg (by omega)]
          refine keep _ _ _ (.inl rfl) rfl rfl (fun _ => rfl) (by dsimp only; decide) (fun _ => ?_) (fun _ => ?_)
          · rw [cl_other (by omega) (by omega) (by omega)]; exact a.val hst
          · exact cl_self (by omega) (by omega)
        · have e1 : putT T S src dl who en val r now p = ⟨T * S + (who * S + p.c.k), 1, val, 1⟩ := by unfold putT; rw [if_pos hp, if_neg hc, if_neg ht, if_neg hst]
          have e2 : putStep T S src dl who r now p = { p with st := true } := by unfold putStep; rw [if_pos hp, if_neg hc, if_neg ht, if_neg hst]
          rw [e1, e2]
          unfold Tch.row
          dsimp only
          rw [if_neg (by omega)]
          refine keep _ _ _ (.inr rfl) rfl rfl (fun z => by omega) (by dsimp only; omega) (fun _ => ?_) (fun z => by dsimp only at z; omega)
          exact cl_self (by omega) (by omega)
  · have e1 : putT T S src dl who en val r now p = noT := by unfold putT; rw [if_neg hp]
    have e2 : putStep T S src dl who r now p = p := by unfold putStep; rw [if_neg hp]
    rw [e1, e2]
    have er : noT.row r = r := if_pos (by decide)
    rw [er]
    exact ⟨a.other (by omega) hP' (by omega) (by omega) NumUp.rfl' (fun _ => rfl) (fun _ _ _ => rfl) (fun _ _ _ => ⟨rfl, rfl⟩), hN.mono (by omega), NumUp.rfl', fun _ _ _ _ _ => rfl, fun _ _ _ => rfl, fun _ _ _ _ _ _ _ => ⟨rfl, rfl⟩⟩
/-- A put that begins. -/
theorem PA0 (hL : LB T S src dl who) (hN : 0 ≤ N) (hh : Past T S src r nw h) (ho : ∀ j, 0 ≤ j → j < S → cl r (who * S + j) = F0 (who * S + j)) (hz : ∀ t, 0 ≤ t → t < T → cl r (2 * (T * S) + t) = F0 (2 * (T * S) + t)) : PA T S src who en val N nw h F0 r put0 := by
  unfold LB at hL
  refine ⟨⟨fun j u v => (by have : j < 0 := v; omega), fun _ u => absurd u (by decide), fun u => (by cases u), fun u => (by cases u)⟩, TI0 hN (by omega), by decide, fun _ => hh, fun u => (by cases u), fun j u v _ => ho j u v, hz, fun u => (by cases u), fun u => (by cases u), fun u => (by cases u)⟩
theorem up_s {s e g lo hi : Int} (h : RightW s e g lo hi) : Go.bits .and .u64 (pk s e g lo hi) 3 = s := by
  have h1 := pk_in h
  rw [show (3 : Int) = 2 ^ 2 - 1 from rfl, and_u64 2 (by decide) (by omega) (by omega)]
  exact (pk_parts h).1
theorem word_parts (hP : PB T S src dl p) (hp : p.ph = 1) (he : 0 ≤ en ∧ en ≤ 1) : wS (putWord en p) = 1 ∧ wE (putWord en p) = en ∧ wG (putWord en p) = p.c.wg + 1 ∧ wL (putWord en p) = p.t.lo ∧ wH (putWord en p) = p.t.hi ∧ putWord en p = pk 1 en (p.c.wg + 1) p.t.lo p.t.hi ∧ RightW 1 en (p.c.wg + 1) p.t.lo p.t.hi := by
  obtain ⟨h1, h2, h3, h4, h5, h6, h7, h8, h9, h10⟩ := hP
  have q := h7 (h8 hp)
  unfold TB at h3; unfold CW at h2
  have hg := h2.2.2.1 q.1
  have ht := h3.2.2.2.2.2.2.2.2.2 q.2
  have hR : RightW 1 en (p.c.wg + 1) p.t.lo p.t.hi := by unfold RightW; omega
  have e : putWord en p = pk 1 en (p.c.wg + 1) p.t.lo p.t.hi := by
    unfold putWord
    rw [if_pos (by omega)]
    exact packW_b hR
  refine ⟨?_, ?_, ?_, ?_, ?_, e, hR⟩
  · rw [e]; exact up_s hR
  · rw [e]; exact up_e hR
  · rw [e]; exact up_g hR
  · rw [e]; exact up_lo hR
  · rw [e]; exact up_hi hR
/-- At the end. -/
theorem pa_done (hP : PB T S src dl p) (a : PA T S src who en val N nw h F0 r p) (hp : p.ph = 1) : p.c.ph = 1 ∧ p.t.ph = 1 ∧ (0 ≤ p.c.k ∧ p.c.k < S) ∧ (∀ j, 0 ≤ j → j < p.c.k → ¬ Qual F0 T S who j) ∧ Qual F0 T S who p.c.k ∧ WordIs (F0 (who * S + p.c.k)) p.c ∧ h < p.t.lo ∧ (0 ≤ p.t.lo ∧ p.t.lo ≤ p.t.hi ∧ p.t.hi < 16777215) ∧ p.t.hi ≤ N ∧ Past T S src r nw p.t.hi ∧ cl r (T * S + (who * S + p.c.k)) = val ∧ cl r (who * S + p.c.k) = putWord en p := by
  have hb := hP
  obtain ⟨h1, h2, h3, h4, h5, h6, h7, h8, h9, h10⟩ := hP
  have hst := h8 hp
  have q := h7 hst
  unfold CB at h1; unfold TB at h3
  have f := a.fin q.2
  have c := a.cf.2.2.1 q.1
  exact ⟨q.1, q.2, by omega, a.cf.1, c.1, c.2, f.1, h3.2.2.2.2.2.2.2.2.2 q.2, f.2.1, f.2.2, a.val hst, a.word hp⟩
theorem pa_full (hP : PB T S src dl p) (a : PA T S src who en val N nw h F0 r p) (hp : p.ph = 2) : ∀ j, 0 ≤ j → j < S → ¬ Qual F0 T S who j := by
  have c := a.cf.2.2.2 (a.full hp)
  intro j u v
  by_cases e : j = p.c.k
  · rw [e]; exact c.2
  · exact a.cf.1 j u (by omega)
end
end Go.Proofs.Ytckbckijpdnlaaa.Sy
