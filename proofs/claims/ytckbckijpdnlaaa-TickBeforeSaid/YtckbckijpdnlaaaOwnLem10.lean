/- What the model of a put's steps does. A lemma file: it claims nothing of the program. -/
import Derived.Test.YtckbckijpdnlaaaOwnLem06
set_option linter.unusedVariables false
set_option linter.unusedSimpArgs false
set_option maxHeartbeats 4000000
namespace Go.Proofs.Ytckbckijpdnlaaa.Sy
open Go
/-- Numbers of 64 bits alone. -/
def RowB (r : Row) : Prop := ∀ j, 0 ≤ cl r j ∧ cl r j < 18446744073709551616
theorem RowB.set {r : Row} (h : RowB r) {i x : Int} (h0 : 0 ≤ x) (h1 : x < 18446744073709551616) : RowB (r.set i.toNat [x]) := fun j => by
  rcases cl_or r i j x with e | e <;> rw [e]
  · exact ⟨h0, h1⟩
  · exact h j
theorem lowN_b {x : Int} (h : 0 ≤ x) : 0 ≤ lowN x ∧ lowN x ≤ 16777215 ∧ (x < 16777215 → lowN x = x) ∧ (16777215 ≤ x → lowN x = 16777215) := by
  unfold lowN minTop imin
  split
  · rw [w64 (by omega) (by omega)]; omega
  · rw [w64 (by omega) (by omega)]; omega
theorem minTop_b {x : Int} (h : 0 ≤ x) : 0 ≤ minTop x ∧ minTop x ≤ 16777215 ∧ minTop x ≤ x := by
  unfold minTop imin
  split <;> omega
theorem u64_in (x : Int) : 0 ≤ IntKind.u64.wrap x ∧ IntKind.u64.wrap x < 18446744073709551616 := by rw [wu64']; omega
def tickMost (T src dl : Int) : Int := if src = 1 then T + 1 else if src = 2 then 4 else if src = 4 then dl + 2 else 1
/-- What holds of a layout. -/
def LB (T S src dl who : Int) : Prop := 1 ≤ T ∧ T ≤ 4 ∧ 1 ≤ S ∧ S ≤ 4 ∧ 0 ≤ src ∧ src ≤ 4 ∧ 0 ≤ dl ∧ dl ≤ 100 ∧ 0 ≤ who ∧ who < T
/-- A stamp that is made, as it may stand. -/
def TB (T src dl : Int) (t : TSt) : Prop := 0 ≤ t.n ∧ t.n ≤ 200 ∧ 0 ≤ t.a ∧ t.a ≤ 16777215 ∧ 0 ≤ t.b ∧ t.b ≤ 16777215 ∧ 0 ≤ t.ph ∧ t.ph ≤ 2 ∧ (t.ph = 0 → t.n < tickMost T src dl) ∧ (t.ph = 1 → 0 ≤ t.lo ∧ t.lo ≤ t.hi ∧ t.hi < 16777215)
def tpot (T src dl : Int) (t : TSt) : Int := if t.ph = 0 then tickMost T src dl - t.n else 0
theorem TB.step {T S src dl who now : Int} {r : Row} {t : TSt} (hL : LB T S src dl who) (hr : RowB r) (hn : 0 ≤ now) (h : TB T src dl t) : TB T src dl (tickStep T S src dl who r now t) := by
  unfold tickStep
  split
  · rename_i hp
    unfold LB at hL
    have hx := lowN_b (hr (2 * (T * S) + T)).1
    have hy := lowN_b (hr (2 * (T * S) + T + t.n)).1
    have hz := minTop_b hn
    obtain ⟨n, a, b, lo, hi, ph⟩ := t
    unfold TB tickMost at h ⊢
    dsimp only at h hp hy ⊢
    subst hp
    unfold tickGo tickDone imax
    dsimp only
    generalize lowN (cl r (2 * (T * S) + T)) = X at *
    generalize lowN (cl r (2 * (T * S) + T + n)) = Y at *
    generalize minTop now = M at *
    have hw : IntKind.i64.wrap (X + -1) = X - 1 := by rw [w64 (by omega) (by omega)]; omega
    simp only [hw]
    have hx1 := hx.1
    have hx2 := hx.2.1
    have hy1 := hy.1
    have hy2 := hy.2.1
    clear hx hy hr hw
    repeat' split
    all_goals (dsimp only at *; omega)
  · exact h
theorem tpot_step {T S src dl who now : Int} {r : Row} {t : TSt} (hL : LB T S src dl who) (hr : RowB r) (hn : 0 ≤ now) (h : TB T src dl t) : t.ph = 0 → tpot T src dl (tickStep T S src dl who r now t) + 1 ≤ tpot T src dl t := by
  intro hp
  have hs := TB.step (who := who) hL hr hn h
  have e : (tickStep T S src dl who r now t).n = t.n + 1 := by unfold tickStep; rw [if_pos hp]
  unfold TB at h hs
  unfold tpot
  rw [if_pos hp, e]
  split <;> omega
theorem tickT_new {T S src dl who now : Int} {r : Row} {t : TSt} (hr : RowB r) (h : TB T src dl t) : 0 ≤ (tickT T S src dl who r now t).new ∧ (tickT T S src dl who r now t).new < 18446744073709551616 := by
  have hx := hr (2 * (T * S) + T)
  have hy := hr (2 * (T * S) + T + t.n)
  have hz := u64_in (cl r (2 * (T * S) + T) + 1)
  unfold TB at h
  unfold tickT
  split
  · unfold tickGo
    dsimp only
    generalize cl r (2 * (T * S) + T) = X at *
    generalize cl r (2 * (T * S) + T + t.n) = Y at *
    generalize IntKind.u64.wrap (X + 1) = Z at *
    repeat' split
    all_goals (dsimp only [noT]; omega)
  · dsimp only [noT]; omega
theorem wG_b (x : Int) : 0 ≤ wG x ∧ wG x ≤ 8191 := and_in _ (by decide) (by decide)
theorem wS_b (x : Int) : 0 ≤ wS x ∧ wS x ≤ 3 := and_in _ (by decide) (by decide)
def CW (c : CSt) : Prop := 0 ≤ c.wg ∧ c.wg ≤ 8191 ∧ (c.ph = 1 → c.wg < 8191) ∧ (c.ph = 0 → 0 ≤ c.g → c.wg < 8191)
theorem CW.step {T S who : Int} {r : Row} {c : CSt} (h : CW c) : CW (claimStep T S who r c) := by
  have hb := wG_b (cl r (who * S + c.k))
  obtain ⟨k, g, ws, we, wg, wl, wh, ph⟩ := c
  unfold CW at h ⊢
  unfold claimStep claimLook claimGuard claimPass
  dsimp only at h hb ⊢
  repeat' split
  all_goals (dsimp only at *; omega)
/-- A put, as it may stand. -/
def PB (T S src dl : Int) (p : PSt) : Prop := CB T S p.c ∧ CW p.c ∧ TB T src dl p.t ∧ 0 ≤ p.ph ∧ p.ph ≤ 2 ∧ (p.ph = 0 → p.c.ph ≠ 2 ∧ p.t.ph ≠ 2) ∧ (p.st = true → p.c.ph = 1 ∧ p.t.ph = 1) ∧ (p.ph = 1 → p.st = true) ∧ (p.c.ph = 0 → p.t.ph = 0 ∧ p.t.n = 0) ∧ (p.ph = 2 → p.st = false ∧ (p.c.ph = 2 ∨ p.c.ph = 1 ∧ p.t.ph = 2))
def ppot (T S src dl : Int) (p : PSt) : Int := if p.ph = 0 then cpot T S p.c + tpot T src dl p.t + (if p.st = true then 1 else 2) else 0
theorem PB.step {T S src dl who now : Int} {r : Row} {p : PSt} (hL : LB T S src dl who) (hr : RowB r) (hn : 0 ≤ now) (h : PB T S src dl p) : PB T S src dl (putStep T S src dl who r now p) := by
  obtain ⟨h1, h2, h3, h4, h5, h6, h7, h8, h9, h10⟩ := h
  have hL' := hL
  unfold LB at hL'
  unfold putStep
  split
  · rename_i hp
    split
    · rename_i hc
      have hs := h1.step (who := who) (r := r) (by omega)
      have hs2 := h2.step (T := T) (S := S) (who := who) (r := r)
      have hs' := hs
      unfold CB at hs'
      have ht := h9 hc
      have hst : p.st = false := by
        cases e : p.st with
        | false => rfl
        | true => have := (h7 e).1; omega
      refine ⟨hs, hs2, h3, ?_, ?_, ?_, ?_, ?_, ?_, ?_⟩ <;> dsimp only [fullB] <;> (try split) <;> (try intro z) <;> (try (rw [hst] at z; cases z)) <;> (try exact hst) <;> (try (exact ⟨hst, by omega⟩)) <;> omega
    · split
      · rename_i hc ht
        have hs := h3.step (who := who) (r := r) hL hr hn
        have hs' := hs
        unfold TB at hs'
        have hst : p.st = false := by
          cases e : p.st with
          | false => rfl
          | true => have := (h7 e).2; omega
        have hb := h1
        unfold CB at hb
        refine ⟨h1, h2, hs, ?_, ?_, ?_, ?_, ?_, ?_, ?_⟩ <;> dsimp only [fullB] <;> (try split) <;> (try intro z) <;> (try (rw [hst] at z; cases z)) <;> (try exact hst) <;> (try (exact ⟨hst, by omega⟩)) <;> omega
      · rename_i hc ht
        have hb := h1
        unfold CB at hb
        have hd := h3
        unfold TB at hd
        split
        · rename_i hst
          refine ⟨h1, h2, h3, ?_, ?_, ?_, ?_, ?_, ?_, ?_⟩ <;> dsimp only <;> (try intro z) <;> (try exact h7 hst) <;> (try exact hst) <;> omega
        · rename_i hst
          refine ⟨h1, h2, h3, ?_, ?_, ?_, ?_, ?_, ?_, ?_⟩ <;> dsimp only <;> (try intro z) <;> (try exact h6 hp) <;> (try rfl) <;> omega
  · exact ⟨h1, h2, h3, h4, h5, h6, h7, h8, h9, h10⟩
theorem ppot_nn {T S src dl who : Int} {p : PSt} (hL : LB T S src dl who) (h : PB T S src dl p) : 0 ≤ ppot T S src dl p ∧ (p.ph = 0 → 1 ≤ ppot T S src dl p) := by
  obtain ⟨h1, h2, h3, h4, h5, h6, h7, h8, h9, h10⟩ := h
  unfold LB at hL
  have hc := cpot_nn (by omega) h1
  have ht : 0 ≤ tpot T src dl p.t := by unfold tpot; unfold TB at h3; split <;> omega
  unfold ppot
  split
  · split <;> omega
  · omega
theorem ppot_step {T S src dl who now : Int} {r : Row} {p : PSt} (hL : LB T S src dl who) (hr : RowB r) (hn : 0 ≤ now) (h : PB T S src dl p) : (p.ph = 0 → ppot T S src dl (putStep T S src dl who r now p) + 1 ≤ ppot T S src dl p) ∧ (p.ph ≠ 0 → putStep T S src dl who r now p = p) := by
  refine ⟨fun hp => ?_, fun hp => by unfold putStep; exact if_neg hp⟩
  have hpos := (ppot_nn hL h).2 hp
  obtain ⟨h1, h2, h3, h4, h5, h6, h7, h8, h9, h10⟩ := h
  have hL' := hL
  unfold LB at hL'
  by_cases hf : (putStep T S src dl who r now p).ph = 0
  · unfold ppot at hpos ⊢
    rw [if_pos hf, if_pos hp]
    unfold putStep
    rw [if_pos hp]
    split
    · rename_i hc
      have := (cpot_step (who := who) (r := r) (by omega) h1).1 hc
      dsimp only
      split <;> omega
    · split
      · rename_i hc ht
        have := tpot_step (who := who) (r := r) hL hr hn h3 ht
        dsimp only
        split <;> omega
      · split
        · rename_i hc ht hst
          exfalso
          unfold putStep at hf
          rw [if_pos hp, if_neg hc, if_neg ht, if_pos hst] at hf
          dsimp only at hf
          omega
        · rename_i hc ht hst
          dsimp only
          simp only [if_neg hst, if_true]
          omega
  · have e : ppot T S src dl (putStep T S src dl who r now p) = 0 := by unfold ppot; rw [if_neg hf]
    omega
theorem packW_b {s e g lo hi : Int} (h : 0 ≤ s ∧ s ≤ 2 ∧ 0 ≤ e ∧ e ≤ 1 ∧ 0 ≤ g ∧ g ≤ 8191 ∧ 0 ≤ lo ∧ lo ≤ 16777215 ∧ 0 ≤ hi ∧ hi ≤ 16777215) : packW s e g lo hi = pk s e g lo hi := pack_sum h
theorem putT_new {T S src dl who en val now : Int} {r : Row} {p : PSt} (hr : RowB r) (h : PB T S src dl p) (hv : 0 ≤ val ∧ val < 18446744073709551616) (he : 0 ≤ en ∧ en ≤ 1) : 0 ≤ (putT T S src dl who en val r now p).new ∧ (putT T S src dl who en val r now p).new < 18446744073709551616 := by
  obtain ⟨h1, h2, h3, h4, h5, h6, h7, h8, h9, h10⟩ := h
  unfold CW at h2
  unfold putT
  split
  · split
    · rename_i hc
      unfold claimT
      rw [if_pos hc]
      exact hr _
    · split
      · exact tickT_new hr h3
      · split
        · dsimp only
          unfold putWord
          split
          · have g : RightW 1 en (p.c.wg + 1) p.t.lo p.t.hi := by unfold RightW; omega
            rw [packW_b g]; exact pk_in g
          · exact ⟨by decide, by decide⟩
        · exact hv
  · exact ⟨by decide, by decide⟩
/-- A put that begins. -/
def put0 : PSt := ⟨⟨0, -1, 0, 0, 0, 0, 0, 0⟩, ⟨0, 0, 0, 0, 0, 0⟩, false, 0⟩
theorem PB0 {T S src dl who : Int} (hL : LB T S src dl who) : PB T S src dl put0 := by
  unfold LB at hL
  refine ⟨?_, ?_, ?_, by decide, by decide, fun _ => by decide, fun z => (by cases z), fun z => (by cases z), fun _ => ⟨rfl, rfl⟩, fun z => (by cases z)⟩
  · unfold CB put0; dsimp only; omega
  · unfold CW put0; dsimp only; omega
  · unfold TB put0 tickMost; dsimp only; repeat' split
    all_goals omega
def putMost (T S src dl : Int) : Int := S * (T + 1) + tickMost T src dl + 2
theorem ppot0 (T S src dl : Int) : ppot T S src dl put0 = putMost T S src dl := by
  unfold ppot put0 cpot tpot putMost; simp
end Go.Proofs.Ytckbckijpdnlaaa.Sy
