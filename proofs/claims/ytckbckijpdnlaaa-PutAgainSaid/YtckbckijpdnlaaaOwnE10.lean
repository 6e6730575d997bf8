/- The engine, part 10: code, and whole calls, reckoned. A lemma file: it claims nothing of the program. -/
import Derived.Test.YtckbckijpdnlaaaOwnE9
import Derived.Deep.LoopGhost
import Derived.LoopN
set_option linter.unusedVariables false
set_option linter.unusedSimpArgs false
namespace Go.Proofs.Ytckbckijpdnlaaa.Eng
open Go Go.Lib

def npan : Exit → Bool
  | .normal => true
  | .exit _ => true
  | .ret => true
  | _ => false
/-- What holds behind a piece of code, in memory. -/
def Post (N : Nat) (m0 : Mp) (H0 : AHeap) (w0 : World) (Q : Exit → TM → AHeap → Prop) : Exit → Act → World → Prop :=
  fun e a w => npan e = true ∧ ∃ T H, Q e T H ∧ ASat N m0 H0 w0 T H a w
/-- A piece of code, from what is known ahead of it to what holds behind it. -/
structure AW (P : Program) (N : Nat) (H0 : AHeap) (c : Code) (T : TM) (H : AHeap) (Q : Exit → TM → AHeap → Prop) : Prop where
  run : ∀ m0 w0 a w, Match m0 H0 w0 → ASat N m0 H0 w0 T H a w → c.wp P (Post N m0 H0 w0 Q) a w
def thenQ (K : TM → AHeap → Prop) (Q : Exit → TM → AHeap → Prop) : Exit → TM → AHeap → Prop
  | .normal, T, H => K T H
  | e, T, H => Q e T H
def blockQ (id : Nat) (Q : Exit → TM → AHeap → Prop) : Exit → TM → AHeap → Prop
  | .exit id', T, H => if id' = id then Q .normal T H else Q (.exit id') T H
  | e, T, H => Q e T H

section
variable {P : Program} {I : Tab} {G : Sums} {N : Nat} {H0 : AHeap} {T : TM} {H : AHeap} {Q : Exit → TM → AHeap → Prop} {c x y : Code}

theorem AW.mono {Q' : Exit → TM → AHeap → Prop} (h : AW P N H0 c T H Q) (hq : ∀ e T H, Q e T H → Q' e T H) : AW P N H0 c T H Q' :=
  ⟨fun m0 w0 a w hM hs => Code.wp_mono (fun e a w ⟨h1, T, H, h2, h3⟩ => ⟨h1, T, H, hq _ _ _ h2, h3⟩) (h.run m0 w0 a w hM hs)⟩
theorem AW.skip (h : Q .normal T H) : AW P N H0 .skip T H Q := ⟨fun m0 w0 a w hM hs => wp_skip ⟨rfl, T, H, h, hs⟩⟩
theorem AW.exit {id : Nat} (h : Q (.exit id) T H) : AW P N H0 (.exit id) T H Q := ⟨fun m0 w0 a w hM hs => wp_exit ⟨rfl, T, H, h, hs⟩⟩
theorem AW.ret (h : Q .ret T H) : AW P N H0 .ret T H Q := ⟨fun m0 w0 a w hM hs => wp_ret ⟨rfl, T, H, h, hs⟩⟩
theorem AW.seq (h : AW P N H0 x T H (thenQ (fun T H => AW P N H0 y T H Q) Q)) : AW P N H0 (.seq x y) T H Q :=
  ⟨fun m0 w0 a w hM hs => wp_seq (Code.wp_mono (fun e a w hp => by
    obtain ⟨h1, T, H, h2, h3⟩ := hp
    cases e with
    | normal => exact h2.run m0 w0 a w hM h3
    | exit id => exact ⟨h1, T, H, h2, h3⟩
    | goto l => cases h1
    | ret => exact ⟨h1, T, H, h2, h3⟩
    | panic ch => cases h1
    | outgrown => cases h1) (h.run m0 w0 a w hM hs))⟩
theorem AW.cond {o : Operand} {b : Bool} (hb : ev T o = some (.bool b)) (h : AW P N H0 (if b then x else y) T H Q) : AW P N H0 (.cond o x y) T H Q :=
  ⟨fun m0 w0 a w hM hs => by
    obtain ⟨m, h1, h2, h3, h4⟩ := hs
    have := ev_ok h2 hb
    generalize hq : a.eval o = q at this
    cases this
    exact wp_cond hq (h.run m0 w0 a w hM ⟨m, h1, h2, h3, h4⟩)⟩
theorem AW.block {id : Nat} (h : AW P N H0 c T H (blockQ id Q)) : AW P N H0 (.block id c) T H Q :=
  ⟨fun m0 w0 a w hM hs => wp_block (Code.wp_mono (fun e a w hp => by
    obtain ⟨h1, T, H, h2, h3⟩ := hp
    cases e with
    | normal => exact ⟨h1, T, H, h2, h3⟩
    | exit id' =>
      simp only [Exit.inBlock]
      simp only [blockQ] at h2
      split
      · rename_i hid
        rw [if_pos hid] at h2
        exact ⟨rfl, T, H, h2, h3⟩
      · rename_i hid
        rw [if_neg hid] at h2
        exact ⟨rfl, T, H, h2, h3⟩
    | goto l => cases h1
    | ret => exact ⟨h1, T, H, h2, h3⟩
    | panic ch => cases h1
    | outgrown => cases h1) (h.run m0 w0 a w hM hs))⟩
theorem AW.region (hI : TOk P I) (hG : SOk P G) {id : Nat} {ops : Array Oper} {T' : TM} {H' : AHeap} (hr : areg I G N ops ops.toList T H = some (T', H')) (h : Q .normal T' H') : AW P N H0 (.region id ops false) T H Q :=
  ⟨fun m0 w0 a w hM hs => wp_region_list (areg_ok hI hG (fun a' w' hs' => ⟨rfl, T', H', h, hs'⟩) _ _ _ _ _ hr hs)⟩
theorem AW.draw (hI : TOk P I) (hG : SOk P G) (hm : P.follows .mixedOrders = true) {id : Nat} {ops : Array Oper} {ord : List Nat} (hl : ord.length = ops.size) (hs : Region.noSelect ops = true) (ho : ordOk ops (Array.replicate ops.size false) ord = true) {T' : TM} {H' : AHeap}
    (hr : dreg I G N ops ord T H [] = some (T', H')) (h : Q .normal T' H') : AW P N H0 (.region id ops true) T H Q :=
  ⟨fun m0 w0 a w hM ⟨m, h1, h2, h3, h4⟩ => wp_region_any hm (by
    rw [← hl]
    refine wpAny_of_R _ _ _ _ (dreg_ok (m0 := m0) (H0 := H0) (w0 := w0) hI hG hs (fun c a w hq => by cases hq.1) (fun a' w' hs' => ⟨rfl, T', H', h, hs'⟩) ord _ T H [] [] m a _ ?_ hr h1.drew h2 h3 h4 (by simp))
    rw [hl]
    exact ho)⟩
/-- What is known may be less. -/
def Le (N : Nat) (H0 : AHeap) (T' : TM) (H' : AHeap) (T : TM) (H : AHeap) : Prop := ∀ m0 w0 a w, Match m0 H0 w0 → ASat N m0 H0 w0 T' H' a w → ASat N m0 H0 w0 T H a w
theorem Le.refl (N : Nat) (H0 : AHeap) (T : TM) (H : AHeap) : Le N H0 T H T H := fun _ _ _ _ _ h => h
theorem AW.weak {T' : TM} {H' : AHeap} (hl : Le N H0 T' H' T H) (h : AW P N H0 c T H Q) : AW P N H0 c T' H' Q := ⟨fun m0 w0 a w hM hs => h.run m0 w0 a w hM (hl m0 w0 a w hM hs)⟩
theorem AW.loop {ι : Type} (S : ι → TM) (K : ι → AHeap) (μ : ι → Nat) (i0 : ι)
    (round : ∀ i, AW P N H0 c (S i) (K i) (thenQ (fun T' H' => ∃ j, μ j < μ i ∧ Le N H0 T' H' (S j) (K j)) Q)) : AW P N H0 (.loop c) (S i0) (K i0) Q :=
  ⟨fun m0 w0 a w hM hs => wp_loop_ghost (fun n a w => ∃ i, μ i = n ∧ ASat N m0 H0 w0 (S i) (K i) a w) (μ i0) ⟨i0, rfl, hs⟩ (by
    rintro n a w ⟨i, rfl, hs⟩
    refine Code.wp_mono (fun e a w hp => ?_) ((round i).run m0 w0 a w hM hs)
    obtain ⟨h1, T, H, h2, h3⟩ := hp
    cases e with
    | normal =>
      obtain ⟨j, h4, h5⟩ := h2
      exact ⟨μ j, h4, j, rfl, h5 _ _ _ _ hM h3⟩
    | exit id => exact ⟨h1, T, H, h2, h3⟩
    | goto l => cases h1
    | ret => exact ⟨h1, T, H, h2, h3⟩
    | panic ch => cases h1
    | outgrown => cases h1)⟩

/-! ### code, reckoned -/
def plan (ops : Array Oper) : Nat → Array Bool → List Nat
  | 0, _ => []
  | n + 1, listed =>
    let rs := Region.ready .any ops listed
    match rs.find? (fun i => (match ops[i]? with
      | some o => freeOp o.op
      | none => false) && Region.free .any ops listed i) with
    | some i => i :: plan ops n (listed.setIfInBounds i true)
    | none => match rs with
      | [i] => i :: plan ops n (listed.setIfInBounds i true)
      | _ => []
def planOk (ops : Array Oper) (ord : List Nat) : Bool := ord.length == ops.size && Region.noSelect ops && ordOk ops (Array.replicate ops.size false) ord
def aexec (I : Tab) (G : Sums) (N : Nat) : Nat → Code → TM → AHeap → Option (Exit × TM × AHeap)
  | 0, _, _, _ => none
  | n + 1, c, T, H => match c with
    | .skip => some (.normal, T, H)
    | .seq x y => match aexec I G N n x T H with
      | some (.normal, T1, H1) => aexec I G N n y T1 H1
      | r => r
    | .cond o x y => match ev T o with
      | some (.bool true) => aexec I G N n x T H
      | some (.bool false) => aexec I G N n y T H
      | _ => none
    | .block id x => match aexec I G N n x T H with
      | some (.exit id', T1, H1) => if id' = id then some (.normal, T1, H1) else some (.exit id', T1, H1)
      | r => r
    | .loop x => match aexec I G N n x T H with
      | some (.normal, T1, H1) => aexec I G N n (.loop x) T1 H1
      | r => r
    | .exit id => some (.exit id, T, H)
    | .ret => some (.ret, T, H)
    | .region _ ops false => match areg I G N ops ops.toList T H with
      | some (T1, H1) => some (.normal, T1, H1)
      | none => none
    | .region _ ops true => if planOk ops (plan ops ops.size (Array.replicate ops.size false)) = true then match dreg I G N ops (plan ops ops.size (Array.replicate ops.size false)) T H [] with
      | some (T1, H1) => some (.normal, T1, H1)
      | none => none
      else none
    | _ => none
/-- How many rounds a loop goes. -/
def cnt (I : Tab) (G : Sums) (N : Nat) : Nat → Code → TM → AHeap → Nat
  | 0, _, _, _ => 0
  | n + 1, x, T, H => match aexec I G N n x T H with
    | some (.normal, T1, H1) => cnt I G N n x T1 H1 + 1
    | _ => 1
/-- Code without loops, or with, reckoned: what comes of it. -/
theorem aexec_both (hI : TOk P I) (hG : SOk P G) (hm : P.follows .mixedOrders = true) : ∀ (n : Nat) (c : Code) (T : TM) (H : AHeap) (e : Exit) (T' : TM) (H' : AHeap), aexec I G N n c T H = some (e, T', H') → ∀ m0 w0 a w, ASat N m0 H0 w0 T H a w →
    c.wp P (fun e' a' w' => e' = e ∧ npan e' = true ∧ ASat N m0 H0 w0 T' H' a' w') a w ∧ ∀ x, c = .loop x → Code.rounds P x (fun e' a' w' => e' = e ∧ npan e' = true ∧ ASat N m0 H0 w0 T' H' a' w') (cnt I G N n x T H) a w
  | 0, _, _, _, _, _, _, h, _, _, _, _, _ => by cases h
  | n + 1, c, T, H, e, T', H', h, m0, w0, a, w, hs => by
    simp only [aexec] at h
    split at h
    · refine ⟨?_, fun _ hx => by cases hx⟩
      cases h; exact wp_skip ⟨rfl, rfl, hs⟩
    · rename_i x y
      refine ⟨?_, fun _ hx => by cases hx⟩
      split at h
      · rename_i T1 H1 hx
        refine wp_seq (Code.wp_mono (fun e1 a1 w1 hp => ?_) (aexec_both hI hG hm n x T H _ _ _ hx m0 w0 a w hs).1)
        obtain ⟨rfl, _, hp⟩ := hp
        exact (aexec_both hI hG hm n y T1 H1 _ _ _ h m0 w0 a1 w1 hp).1
      · rename_i hne
        refine wp_seq (Code.wp_mono (fun e1 a1 w1 hp => ?_) (aexec_both hI hG hm n x T H _ _ _ h m0 w0 a w hs).1)
        obtain ⟨rfl, h1, hp⟩ := hp
        cases e1 with
        | normal => exact absurd h (hne _ _)
        | exit id => exact ⟨rfl, h1, hp⟩
        | goto l => cases h1
        | ret => exact ⟨rfl, h1, hp⟩
        | panic ch => cases h1
        | outgrown => cases h1
    · rename_i o x y
      refine ⟨?_, fun _ hx => by cases hx⟩
      obtain ⟨m, h1, h2, h3, h4⟩ := hs
      split at h
      · rename_i hb
        have := ev_ok h2 hb
        generalize hq : a.eval o = q at this
        cases this
        exact wp_cond_true hq (aexec_both hI hG hm n x T H _ _ _ h m0 w0 a w ⟨m, h1, h2, h3, h4⟩).1
      · rename_i hb
        have := ev_ok h2 hb
        generalize hq : a.eval o = q at this
        cases this
        exact wp_cond_false hq (aexec_both hI hG hm n y T H _ _ _ h m0 w0 a w ⟨m, h1, h2, h3, h4⟩).1
      · cases h
    · rename_i id x
      refine ⟨?_, fun _ hx => by cases hx⟩
      split at h
      · rename_i id' T1 H1 hx
        refine wp_block (Code.wp_mono (fun e1 a1 w1 hp => ?_) (aexec_both hI hG hm n x T H _ _ _ hx m0 w0 a w hs).1)
        obtain ⟨rfl, _, hp⟩ := hp
        simp only [Exit.inBlock]
        split at h
        · rename_i hid
          rw [if_pos hid]
          cases h
          exact ⟨rfl, rfl, hp⟩
        · rename_i hid
          rw [if_neg hid]
          cases h
          exact ⟨rfl, rfl, hp⟩
      · rename_i hne
        refine wp_block (Code.wp_mono (fun e1 a1 w1 hp => ?_) (aexec_both hI hG hm n x T H _ _ _ h m0 w0 a w hs).1)
        obtain ⟨rfl, h1, hp⟩ := hp
        cases e1 with
        | normal => exact ⟨rfl, h1, hp⟩
        | exit id => exact absurd h (hne _ _ _)
        | goto l => cases h1
        | ret => exact ⟨rfl, h1, hp⟩
        | panic ch => cases h1
        | outgrown => cases h1
    · rename_i x
      have key : Code.rounds P x (fun e' a' w' => e' = e ∧ npan e' = true ∧ ASat N m0 H0 w0 T' H' a' w') (cnt I G N (n + 1) x T H) a w := by
        simp only [cnt]
        split at h
        · rename_i T1 H1 hx
          rw [rounds_succ]
          refine Code.wp_mono (fun e1 a1 w1 hp => ?_) (aexec_both hI hG hm n x T H _ _ _ hx m0 w0 a w hs).1
          obtain ⟨rfl, _, hp⟩ := hp
          exact (aexec_both hI hG hm n (.loop x) T1 H1 _ _ _ h m0 w0 a1 w1 hp).2 x rfl
        · rename_i hne
          show Code.rounds P x _ (0 + 1) a w
          rw [rounds_succ]
          refine Code.wp_mono (fun e1 a1 w1 hp => ?_) (aexec_both hI hG hm n x T H _ _ _ h m0 w0 a w hs).1
          obtain ⟨rfl, h1, hp⟩ := hp
          cases e1 with
          | normal => exact absurd h (hne _ _)
          | exit id => exact ⟨rfl, h1, hp⟩
          | goto l => cases h1
          | ret => exact ⟨rfl, h1, hp⟩
          | panic ch => cases h1
          | outgrown => cases h1
      refine ⟨wp_loop_rounds _ key, fun y hy => ?_⟩
      cases hy
      exact key
    · refine ⟨?_, fun _ hx => by cases hx⟩
      cases h; exact wp_exit ⟨rfl, rfl, hs⟩
    · refine ⟨?_, fun _ hx => by cases hx⟩
      cases h; exact wp_ret ⟨rfl, rfl, hs⟩
    · rename_i id ops
      refine ⟨?_, fun _ hx => by cases hx⟩
      split at h
      · rename_i T1 H1 hr
        cases h
        exact wp_region_list (areg_ok hI hG (fun a' w' hs' => ⟨rfl, rfl, hs'⟩) _ _ _ _ _ hr hs)
      · cases h
    · rename_i id ops
      refine ⟨?_, fun _ hx => by cases hx⟩
      split at h
      · rename_i hp
        split at h
        · rename_i T1 H1 hr
          cases h
          simp only [planOk, Bool.and_eq_true, beq_iff_eq] at hp
          obtain ⟨⟨hl, hsel⟩, ho⟩ := hp
          obtain ⟨m, h1, h2, h3, h4⟩ := hs
          refine wp_region_any hm ?_
          rw [← hl]
          refine wpAny_of_R _ _ _ _ (dreg_ok (m0 := m0) (H0 := H0) (w0 := w0) hI hG hsel (fun c a w hq => by cases hq.1) (fun a' w' hs' => ⟨rfl, rfl, hs'⟩) _ _ T H [] [] m a _ ?_ hr h1.drew h2 h3 h4 (by simp))
          rw [hl]
          exact ho
        · cases h
      · cases h
    · cases h
theorem aexec_ok (hI : TOk P I) (hG : SOk P G) (hm : P.follows .mixedOrders = true) {n : Nat} {c : Code} {T : TM} {H : AHeap} {e : Exit} {T' : TM} {H' : AHeap} (h : aexec I G N n c T H = some (e, T', H')) {m0 : Mp} {w0 : World} {a : Act} {w : World} (hs : ASat N m0 H0 w0 T H a w) :
    c.wp P (fun e' a' w' => e' = e ∧ npan e' = true ∧ ASat N m0 H0 w0 T' H' a' w') a w := (aexec_both hI hG hm n c T H e T' H' h m0 w0 a w hs).1
end
end Go.Proofs.Ytckbckijpdnlaaa.Eng
