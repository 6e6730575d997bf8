/- Stamps made by picks of threads: the model of the law's run, and what it keeps. A lemma file: it claims nothing of the program. -/
import Derived.Test.YtckbckijpdnlaaaOwnOrd5
import Derived.Test.YtckbckijpdnlaaaOwnNxt10
set_option linter.unusedVariables false
set_option linter.unusedSimpArgs false
set_option maxHeartbeats 4000000
namespace Go.Proofs.Ytckbckijpdnlaaa.Sy
open Go
structure RSt where
  i : Int
  r : Row
  tk : Int → Option TSt
  bg : Row
  all : Row
  fst : Row
  lst : Row
def pickW (T : Int) (e : List Int) : Int := (Go.bits .and .i64 (nth 0 e 0) 65535).tmod T
/-- A step, by a ticker as it stands. -/
def rgo (T src dl now w : Int) (s : RSt) (t : TSt) (bg : Row) : RSt :=
  { i := s.i + 1, r := (tickT T 1 src dl w s.r (now + s.i) t).row s.r,
    tk := fun u => if u = w then (if (tickStep T 1 src dl w s.r (now + s.i) t).ph = 0 then some (tickStep T 1 src dl w s.r (now + s.i) t) else none) else s.tk u,
    bg := bg,
    all := if (tickStep T 1 src dl w s.r (now + s.i) t).ph = 1 then s.all ++ [[(tickStep T 1 src dl w s.r (now + s.i) t).lo, (tickStep T 1 src dl w s.r (now + s.i) t).hi]] else s.all,
    fst := if (tickStep T 1 src dl w s.r (now + s.i) t).ph = 1 then s.fst ++ [[cl bg w]] else s.fst,
    lst := if (tickStep T 1 src dl w s.r (now + s.i) t).ph = 1 then s.lst ++ [[s.i]] else s.lst }
def rstep (T src dl now : Int) (s : RSt) (e : List Int) : RSt := match s.tk (pickW T e) with
  | some t => rgo T src dl now (pickW T e) s t s.bg
  | none => rgo T src dl now (pickW T e) s tick0 (s.bg.set (pickW T e).toNat [s.i])
def run0 (T : Int) : RSt := ⟨0, List.replicate (4 * T).toNat [0], fun _ => none, List.replicate T.toNat [0], [], [], []⟩
def runF (T src dl now : Int) (l : Row) : RSt := l.foldl (rstep T src dl now) (run0 T)
def RunSt (T src dl now : Int) (l : Row) (t : Int) : RSt := (l.take t.toNat).foldl (rstep T src dl now) (run0 T)
theorem RunSt_succ {T src dl now t : Int} {l : Row} (h0 : 0 ≤ t) (h1 : t < (l.length : Int)) : RunSt T src dl now l (t + 1) = rstep T src dl now (RunSt T src dl now l t) (l.getD t.toNat []) := by
  unfold RunSt
  have e : (t + 1).toNat = t.toNat + 1 := by omega
  rw [e, List.take_add_one, List.foldl_append]
  have e2 : l[t.toNat]? = some (l.getD t.toNat []) := by
    rw [List.getD_eq_getElem?_getD, List.getElem?_eq_getElem (by omega)]; rfl
  rw [e2]; rfl
theorem RunSt_all {T src dl now : Int} {l : Row} : RunSt T src dl now l (l.length : Int) = runF T src dl now l := by
  unfold RunSt runF
  rw [show ((l.length : Int)).toNat = l.length from rfl, List.take_length]
theorem pickW_in {T : Int} (hT : 1 ≤ T) (e : List Int) : 0 ≤ pickW T e ∧ pickW T e < T := by
  have hb := and_in (k := .i64) (nth 0 e 0) (m := 65535) (by decide) (by decide)
  unfold pickW
  rw [tmod_pos hb.1]
  exact mod_in (by omega)
theorem cl_app {a : Row} {x : List Int} {j : Int} (h0 : 0 ≤ j) : cl (a ++ [x]) j = if j < (a.length : Int) then cl a j else if j = (a.length : Int) then nth 0 x 0 else 0 := by
  unfold cl
  rw [List.getD_eq_getElem?_getD, List.getD_eq_getElem?_getD]
  split
  · rw [List.getElem?_append_left (by omega)]
  · rw [List.getElem?_append_right (by omega)]
    split
    · rw [show j.toNat - a.length = 0 by omega]; rfl
    · have : 1 ≤ j.toNat - a.length := by omega
      rw [List.getElem?_eq_none (by simpa using this)]; rfl
/-- The second number of a row's entry. -/
def cl1 (a : Row) (j : Int) : Int := nth 0 (a.getD j.toNat []) 1
theorem cl1_app {a : Row} {x : List Int} {j : Int} (h0 : 0 ≤ j) : cl1 (a ++ [x]) j = if j < (a.length : Int) then cl1 a j else if j = (a.length : Int) then nth 0 x 1 else 0 := by
  unfold cl1
  rw [List.getD_eq_getElem?_getD, List.getD_eq_getElem?_getD]
  split
  · rw [List.getElem?_append_left (by omega)]
  · rw [List.getElem?_append_right (by omega)]
    split
    · rw [show j.toNat - a.length = 0 by omega]; rfl
    · have : 1 ≤ j.toNat - a.length := by omega
      rw [List.getElem?_eq_none (by simpa using this)]; rfl
theorem TB0 {T src dl : Int} (hT : 1 ≤ T) (hd : 0 ≤ dl) : TB T src dl tick0 := by
  unfold TB tick0 tickMost; dsimp only
  repeat' split
  all_goals omega
structure RunInv (T src dl now : Int) (s : RSt) : Prop where
  ii : 0 ≤ s.i
  len : (s.r.length : Int) = 4 * T
  rb : RowB s.r
  num : NumB T 1 (now + s.i) s.r
  bgl : (s.bg.length : Int) = T
  tk : ∀ w t, 0 ≤ w → w < T → s.tk w = some t → t.ph = 0 ∧ TB T src dl t ∧ LH t ∧ TI T 1 src w (now + s.i) (now + s.i) s.r t ∧ 0 ≤ cl s.bg w ∧ cl s.bg w < s.i
  l1 : s.fst.length = s.all.length
  l2 : s.lst.length = s.all.length
  l3 : (s.all.length : Int) ≤ s.i
  st : ∀ j, 0 ≤ j → j < (s.all.length : Int) → (0 ≤ cl s.all j ∧ cl s.all j ≤ cl1 s.all j ∧ cl1 s.all j < 16777215) ∧ (0 ≤ cl s.lst j ∧ cl s.lst j < s.i ∧ cl s.fst j ≤ cl s.lst j) ∧ Past T 1 src s.r (now + s.i) (cl1 s.all j)
  lb : ∀ j w t, 0 ≤ j → j < (s.all.length : Int) → 0 ≤ w → w < T → s.tk w = some t → cl s.lst j < cl s.bg w → LBd T 1 src s.r (now + s.i) t (cl1 s.all j)
  bf : ∀ j k, 0 ≤ j → j < (s.all.length : Int) → 0 ≤ k → k < (s.all.length : Int) → cl s.lst j < cl s.fst k → cl1 s.all j < cl s.all k
theorem rgo_inv {T src dl now w : Int} {s : RSt} {t : TSt} {bg : Row} (hT : 1 ≤ T ∧ T ≤ 4) (hs : 0 ≤ src ∧ src ≤ 4) (hd : 0 ≤ dl ∧ dl ≤ 100) (hn : 0 ≤ now ∧ now ≤ 65535) (hi : s.i < 200) (h : RunInv T src dl now s) (hw : 0 ≤ w) (hwT : w < T)
    (t0 : t.ph = 0) (tB : TB T src dl t) (tL : LH t) (tI : TI T 1 src w (now + s.i) (now + s.i) s.r t) (b0 : 0 ≤ cl bg w) (b1 : cl bg w ≤ s.i) (bl : (bg.length : Int) = T) (bo : ∀ u, 0 ≤ u → u ≠ w → cl bg u = cl s.bg u) (hl : ∀ j, 0 ≤ j → j < (s.all.length : Int) → cl s.lst j < cl bg w → LBd T 1 src s.r (now + s.i) t (cl1 s.all j)) :
    RunInv T src dl now (rgo T src dl now w s t bg) := by
  obtain ⟨ii, len, rb, num, bgl, tk, l1, l2, l3, st, lb, bf⟩ := h
  have hL : LB T 1 src dl w := by unfold LB; omega
  have G := tick_go (now := now + s.i) hL num tI tB t0 (by omega) (Int.le_refl _) (by omega) (Int.le_refl _) (by omega)
  have rb' : RowB ((tickT T 1 src dl w s.r (now + s.i) t).row s.r) := by
    have nb := tickT_new (who := w) (S := 1) (now := now + s.i) rb tB
    unfold Tch.row
    split
    · exact rb
    · exact rb.set nb.1 nb.2
  have len' : (((tickT T 1 src dl w s.r (now + s.i) t).row s.r).length : Int) = 4 * T := by
    unfold Tch.row
    split
    · exact len
    · rw [List.length_set]; exact len
  have tB' : TB T src dl (tickStep T 1 src dl w s.r (now + s.i) t) := TB.step hL rb (by omega) tB
  have tL' : LH (tickStep T 1 src dl w s.r (now + s.i) t) := LH.step tB tL
  have tki : ∀ u q, 0 ≤ u → u < T → (if u = w then (if (tickStep T 1 src dl w s.r (now + s.i) t).ph = 0 then some (tickStep T 1 src dl w s.r (now + s.i) t) else none) else s.tk u) = some q →
      (u = w ∧ (tickStep T 1 src dl w s.r (now + s.i) t).ph = 0 ∧ q = tickStep T 1 src dl w s.r (now + s.i) t) ∨ (u ≠ w ∧ s.tk u = some q) := by
    intro u q h1 h2 h3
    split at h3
    · split at h3
      · cases h3; exact .inl ⟨by assumption, by assumption, rfl⟩
      · cases h3
    · exact .inr ⟨by assumption, h3⟩
  have tk' : ∀ u q, 0 ≤ u → u < T → (if u = w then (if (tickStep T 1 src dl w s.r (now + s.i) t).ph = 0 then some (tickStep T 1 src dl w s.r (now + s.i) t) else none) else s.tk u) = some q → q.ph = 0 ∧ TB T src dl q ∧ LH q ∧ TI T 1 src u (now + (s.i + 1)) (now + (s.i + 1)) ((tickT T 1 src dl w s.r (now + s.i) t).row s.r) q ∧ 0 ≤ cl bg u ∧ cl bg u < s.i + 1 := by
    intro u q h1 h2 h3
    rw [show now + (s.i + 1) = now + s.i + 1 by omega]
    rcases tki u q h1 h2 h3 with ⟨rfl, e1, rfl⟩ | ⟨e1, e2⟩
    · exact ⟨e1, tB', tL', G.ti, b0, by omega⟩
    · obtain ⟨q1, q2, q3, q4, q5, q6⟩ := tk u q h1 h2 e2
      exact ⟨q1, q2, q3, q4.other (by omega) G.up (by omega) (by omega) (fun z => G.own z u h1 h2 e1), by rw [bo u h1 e1]; omega, by rw [bo u h1 e1]; omega⟩
  have past' : ∀ j, 0 ≤ j → j < (s.all.length : Int) → Past T 1 src ((tickT T 1 src dl w s.r (now + s.i) t).row s.r) (now + (s.i + 1)) (cl1 s.all j) := fun j h1 h2 => (st j h1 h2).2.2.other (by omega) G.up (by omega)
  have lb' : ∀ j u q, 0 ≤ j → j < (s.all.length : Int) → 0 ≤ u → u < T → (if u = w then (if (tickStep T 1 src dl w s.r (now + s.i) t).ph = 0 then some (tickStep T 1 src dl w s.r (now + s.i) t) else none) else s.tk u) = some q → cl s.lst j < cl bg u → LBd T 1 src ((tickT T 1 src dl w s.r (now + s.i) t).row s.r) (now + (s.i + 1)) q (cl1 s.all j) := by
    intro j u q h1 h2 h3 h4 h5 h6
    rw [show now + (s.i + 1) = now + s.i + 1 by omega]
    rcases tki u q h3 h4 h5 with ⟨rfl, e1, rfl⟩ | ⟨e1, e2⟩
    · exact G.go e1 _ (hl j h1 h2 h6)
    · exact (lb j u q h1 h2 h3 h4 e2 (by rw [← bo u h3 e1]; exact h6)).other (by omega) G.up (by omega)
  have num' : NumB T 1 (now + (s.i + 1)) ((tickT T 1 src dl w s.r (now + s.i) t).row s.r) := by rw [show now + (s.i + 1) = now + s.i + 1 by omega]; exact G.num
  by_cases hp : (tickStep T 1 src dl w s.r (now + s.i) t).ph = 1
  · obtain ⟨f1, f2, f3, f4, f5⟩ := G.fin hp
    unfold rgo
    simp only [if_pos hp]
    generalize (tickT T 1 src dl w s.r (now + s.i) t).row s.r = r' at *
    generalize htt : tickStep T 1 src dl w s.r (now + s.i) t = t' at *
    have la : ∀ (a : Row) (x : List Int), ((a ++ [x]).length : Int) = (a.length : Int) + 1 := fun a x => by rw [List.length_append, List.length_singleton]; rfl
    refine ⟨by dsimp only; omega, len', rb', num', bl, tk', ?_, ?_, ?_, ?_, ?_, ?_⟩
    · rw [List.length_append, List.length_append, l1]; rfl
    · rw [List.length_append, List.length_append, l2]; rfl
    · dsimp only; rw [la]; omega
    · intro j h1 h2
      dsimp only at h2 ⊢
      rw [la] at h2
      rw [cl_app h1, cl1_app h1, cl_app h1, cl_app h1, l1, l2]
      by_cases e : j < (s.all.length : Int)
      · simp only [if_pos e]
        obtain ⟨a1, a2, a3⟩ := st j h1 e
        exact ⟨a1, by omega, past' j h1 e⟩
      · have e2 : j = (s.all.length : Int) := by omega
        simp only [if_neg e, if_pos e2]
        refine ⟨⟨f1, f2, ?_⟩, ⟨?_, ?_, ?_⟩, ?_⟩
        · show t'.hi < _; omega
        · show 0 ≤ s.i; omega
        · show s.i < s.i + 1; omega
        · show cl bg w ≤ s.i; exact b1
        · rw [show now + (s.i + 1) = now + s.i + 1 by omega]; exact f5
    · intro j u q h1 h2 h3 h4 h5 h6
      dsimp only at h2 h5 h6 ⊢
      rw [la] at h2
      rw [cl_app h1, l2] at h6
      rw [cl1_app h1]
      by_cases e : j < (s.all.length : Int)
      · rw [if_pos e] at h6 ⊢
        exact lb' j u q h1 e h3 h4 h5 h6
      · have e2 : j = (s.all.length : Int) := by omega
        rw [if_neg e, if_pos e2] at h6
        exfalso
        have h6 : s.i < cl bg u := h6
        have := (tk' u q h3 h4 h5).2.2.2.2.2
        omega
    · intro j k h1 h2 h3 h4 h5
      dsimp only at h2 h4 h5 ⊢
      rw [la] at h2 h4
      rw [cl_app h1, cl_app h3, l1, l2] at h5
      rw [cl1_app h1, cl_app h3]
      by_cases e : j < (s.all.length : Int)
      · by_cases f : k < (s.all.length : Int)
        · simp only [if_pos e, if_pos f] at h5 ⊢
          exact bf j k h1 e h3 f h5
        · have f2 : k = (s.all.length : Int) := by omega
          simp only [if_pos e, if_neg f, if_pos f2] at h5 ⊢
          exact f4 _ (hl j h1 e h5)
      · have e2 : j = (s.all.length : Int) := by omega
        simp only [if_neg e, if_pos e2] at h5
        exfalso
        by_cases f : k < (s.all.length : Int)
        · simp only [if_pos f] at h5
          have h5 : s.i < cl s.fst k := h5
          have := (st k h3 f).2.1
          omega
        · have f2 : k = (s.all.length : Int) := by omega
          simp only [if_neg f, if_pos f2] at h5
          have h5 : s.i < cl bg w := h5
          omega
  · unfold rgo
    simp only [if_neg hp]
    exact ⟨by dsimp only; omega, len', rb', num', bl, tk', l1, l2, by dsimp only; omega, fun j h1 h2 => ⟨(st j h1 h2).1, by have := (st j h1 h2).2.1; dsimp only; omega, past' j h1 h2⟩, lb', bf⟩
theorem rstep_inv {T src dl now : Int} {s : RSt} (e : List Int) (hT : 1 ≤ T ∧ T ≤ 4) (hs : 0 ≤ src ∧ src ≤ 4) (hd : 0 ≤ dl ∧ dl ≤ 100) (hn : 0 ≤ now ∧ now ≤ 65535) (hi : s.i < 200) (h : RunInv T src dl now s) : RunInv T src dl now (rstep T src dl now s e) := by
  obtain ⟨w0, w1⟩ := pickW_in hT.1 e
  unfold rstep
  split
  · rename_i t ht
    obtain ⟨q1, q2, q3, q4, q5, q6⟩ := h.tk _ _ w0 w1 ht
    exact rgo_inv hT hs hd hn hi h w0 w1 q1 q2 q3 q4 q5 (by omega) h.bgl (fun _ _ _ => rfl) (fun j h1 h2 h3 => h.lb j _ _ h1 h2 w0 w1 ht h3)
  · rename_i ht
    have e1 : cl (s.bg.set (pickW T e).toNat [s.i]) (pickW T e) = s.i := cl_self w0 (by have := h.bgl; omega)
    exact rgo_inv hT hs hd hn hi h w0 w1 rfl (TB0 hT.1 hd.1) ⟨by decide, by decide, by decide, by decide⟩ (TI0 (by have := h.ii; omega) w0) (by rw [e1]; exact h.ii) (by rw [e1]; exact Int.le_refl _) (by rw [List.length_set]; exact h.bgl) (fun u h1 h2 => cl_other w0 h1 (fun z => h2 z.symm)) (fun j h1 h2 h3 => (h.st j h1 h2).2.2)
theorem run0_inv {T src dl now : Int} (hT : 1 ≤ T ∧ T ≤ 4) (hn : 0 ≤ now) : RunInv T src dl now (run0 T) := by
  refine ⟨Int.le_refl 0, ?_, ?_, ?_, ?_, fun w t _ _ z => (by cases z), rfl, rfl, Int.le_refl 0, fun j h1 h2 => ?_, fun j w t h1 h2 => ?_, fun j k h1 h2 => ?_⟩
  · unfold run0; rw [List.length_replicate]; omega
  · intro j; unfold run0; dsimp only; rw [cl_rep]; exact ⟨by decide, by decide⟩
  · intro j _ _; unfold run0; dsimp only; rw [cl_rep]; omega
  · unfold run0; rw [List.length_replicate]; omega
  all_goals (exfalso; have : j < 0 := h2; omega)
theorem runst_i {T src dl now : Int} {l : Row} : ∀ n : Nat, n ≤ l.length → (RunSt T src dl now l (n : Int)).i = (n : Int)
  | 0, _ => rfl
  | n + 1, h => by
    have ih := runst_i (T := T) (src := src) (dl := dl) (now := now) (l := l) n (by omega)
    have e := RunSt_succ (T := T) (src := src) (dl := dl) (now := now) (t := (n : Int)) (l := l) (by omega) (by omega)
    rw [show ((n + 1 : Nat) : Int) = (n : Int) + 1 by omega, e]
    unfold rstep
    split <;> (show (RunSt T src dl now l (n : Int)).i + 1 = _; rw [ih])
theorem runst_inv {T src dl now : Int} {l : Row} (hT : 1 ≤ T ∧ T ≤ 4) (hs : 0 ≤ src ∧ src ≤ 4) (hd : 0 ≤ dl ∧ dl ≤ 100) (hn : 0 ≤ now ∧ now ≤ 65535) (hl : l.length ≤ 120) : ∀ n : Nat, n ≤ l.length → RunInv T src dl now (RunSt T src dl now l (n : Int))
  | 0, _ => run0_inv hT hn.1
  | n + 1, h => by
    have ih := runst_inv hT hs hd hn hl n (by omega)
    have e := RunSt_succ (T := T) (src := src) (dl := dl) (now := now) (t := (n : Int)) (l := l) (by omega) (by omega)
    rw [show ((n + 1 : Nat) : Int) = (n : Int) + 1 by omega, e]
    have ei := runst_i (T := T) (src := src) (dl := dl) (now := now) (l := l) n (by omega)
    exact rstep_inv _ hT hs hd hn (by rw [ei]; omega) ih
/-- What the law asks. -/
theorem run_law {T src dl now : Int} {l : Row} (hT : 1 ≤ T ∧ T ≤ 4) (hs : 0 ≤ src ∧ src ≤ 4) (hd : 0 ≤ dl ∧ dl ≤ 100) (hn : 0 ≤ now ∧ now ≤ 65535) (hl : l.length ≤ 120) : RunInv T src dl now (runF T src dl now l) ∧ (runF T src dl now l).i = (l.length : Int) := by
  rw [← RunSt_all]
  exact ⟨runst_inv hT hs hd hn hl l.length (Nat.le_refl _), runst_i l.length (Nat.le_refl _)⟩
end Go.Proofs.Ytckbckijpdnlaaa.Sy
