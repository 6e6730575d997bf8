/- Parts E9, E10, E11, E12, E13, E14, E15, E16 of the engine, in one text. A lemma file: it claims nothing of the program. -/
import Derived.Test.YtpgkbdkkcladcaaOwnEA
import Derived.OrdersHeld
import Derived.Deep.LoopGhost
import Derived.LoopN
set_option linter.unusedVariables false
set_option linter.unusedSimpArgs false
/- The engine, part 9: a statement's operations, in whatever order they may be done; code. A lemma file: it claims nothing of the program. -/
namespace Go.Proofs.Ytpgkbdkkcladcaa.Eng
open Go Go.Lib

section
variable {P : Program} {I : Tab} {G : Sums} {m0 : Mp} {H0 : AHeap} {w0 : World} {H : AHeap} {m : Mp} {w : World} {a : Act} {o : Oper} {T : TM}

/-- One operation, whatever it is. -/
theorem aop_step (hI : TOk P I) (hG : SOk P G) (h : Run m0 H0 w0 H m w) (hT : TRel m T a) {v : Value} {H' : AHeap} {tc : List Nat} (hr : aop I G o.op T H = some (v, H', tc)) {next : Act → World → Prop} {Q : Exit → Act → World → Prop}
    (hk : ∀ m' w' v', Run m0 H0 w0 H' m' w' → Mp.le m m' → VRel m' v v' → Frame m tc w w' → next (a.put o.dst v') w') : o.wp P a w next Q := by
  by_cases hc : isCall o.op = true
  · cases hop : o.op <;> rw [hop] at hc <;> first | (cases hc; done) | skip
    rename_i c
    cases c with
    | mk callee args ats =>
      cases callee <;> first | (cases hc; done) | skip
      rename_i x
      rw [hop] at hr
      unfold aop at hr
      simp only at hr
      split at hr
      · rename_i vs hvs
        split at hr
        all_goals first | (cases ‹Callee.value _ = Callee.builtin _›; done) | skip
        · rename_i f hcal
          cases hcal
          obtain ⟨fn, h1, h2, h3⟩ := hG.fn _ _ _ _ _ _ hr
          have hL := evs_ok hT hvs
          have := hG.ok _ _ _ _ _ _ hr m0 H0 w0 m w _ h hL
          have hargs : args.map a.eval = (args.toList.map a.eval).toArray := by apply Array.ext'; simp
          have hex : (execOp a.eval o).run P w = .ok (.enter f (args.toList.map a.eval).toArray) w := by
            have hb : ¬ fn.body = none := by intro hq; rw [hq] at h3; cases h3
            simp [execOp, hop, resolve, Act.eval, Deferred.ofValue, invoke, callFunc, h1, h2, hb, hargs]
          unfold Oper.wp
          rw [hex]
          show Calls P f _ w _
          refine this.mono ?_
          rintro e w' ⟨m', v', rfl, r1, r2, r3, r4⟩
          exact hk m' w' v' r1 r2 r3 r4
        · cases hr
      · cases hr
  · obtain ⟨m', w', v', h1, h2, h3, h4, h5⟩ := aop_good hI h hT (by simpa using hc) hr
    unfold Oper.wp
    rcases h1 with h1 | ⟨h1, rfl⟩
    · rw [h1]; exact hk m' w' v' h2 h3 h4 h5
    · rw [h1]; exact hk m' w' undef h2 h3 h4 h5

/-! ### guards -/
def yieldedA (ops : Array Oper) (T : TM) (j : Nat) : Option (Option Bool) := match (ops[j]?).bind (·.dst) with
  | none => some none
  | some d => match T.lookup d with
    | some (.bool b) => some (some b)
    | some (.tuple _) => some none
    | _ => none
def wantedA (ops : Array Oper) (o : Oper) (T : TM) : Option Bool := match o.guard with
  | none => some true
  | some (j, want) => match yieldedA ops T j with
    | some y => some (y == some want)
    | none => none
theorem wanted_ok {ops : Array Oper} (hT : TRel m T a) {b : Bool} (h : wantedA ops o T = some b) : Region.wanted o (yielded ops a.tmps) = b := by
  unfold wantedA at h
  unfold Region.wanted
  split at h
  · rename_i hg; rw [hg]; cases h; rfl
  · rename_i j want hg
    rw [hg]
    simp only
    split at h
    · rename_i y hy
      cases h
      congr 1
      unfold yieldedA at hy
      unfold yielded
      split at hy
      · rename_i hd
        cases hy
        rw [hd]; rfl
      · rename_i d hd
        rw [hd]
        simp only [Option.bind_some]
        split at hy
        · rename_i c hc
          cases hy
          obtain ⟨h1, h2⟩ := hT d _ hc
          rw [Array.getD_eq_getD_getElem?, Array.getElem?_eq_getElem h1] at h2
          rw [Array.getElem?_eq_getElem h1]
          generalize a.tmps[d] = q at h2
          simp only [Option.getD_some] at h2
          cases h2
          rfl
        · rename_i c hc
          cases hy
          obtain ⟨h1, h2⟩ := hT d _ hc
          rw [Array.getD_eq_getD_getElem?, Array.getElem?_eq_getElem h1] at h2
          rw [Array.getElem?_eq_getElem h1]
          generalize a.tmps[d] = q at h2
          simp only [Option.getD_some] at h2
          cases h2
          rfl
        · cases hy
    · cases h

/-- A state of a call, in memory. -/
def ASat (N : Nat) (m0 : Mp) (H0 : AHeap) (w0 : World) (T : TM) (H : AHeap) (a : Act) (w : World) : Prop :=
  ∃ m, Run m0 H0 w0 H m w ∧ TRel m T a ∧ a.tmps.size = N ∧ a.defers = []
def dstOk (N : Nat) : Option Tmp → Bool
  | some d => decide (d < N)
  | none => true
theorem size_put (a : Act) (d : Option Tmp) (v : Value) : (a.put d v).tmps.size = a.tmps.size := by cases d <;> simp [Act.put]
theorem defers_put (a : Act) (d : Option Tmp) (v : Value) : (a.put d v).defers = a.defers := by cases d <;> rfl
theorem dst_ok {N : Nat} (hN : a.tmps.size = N) {d : Option Tmp} (h : dstOk N d = true) : ∀ k, d = some k → k < a.tmps.size := by
  intro k hk
  subst hk
  rw [hN]
  simpa [dstOk] using h

/-! ### in the text's order -/
def areg (I : Tab) (G : Sums) (N : Nat) (ops : Array Oper) : List Oper → TM → AHeap → Option (TM × AHeap)
  | [], T, H => some (T, H)
  | o :: rest, T, H => match wantedA ops o T with
    | some true => match aop I G o.op T H with
      | some (v, H', _) => if dstOk N o.dst = true then areg I G N ops rest (put T o.dst v) H' else none
      | none => none
    | some false => if dstOk N o.dst = true then areg I G N ops rest (put T o.dst undef) H else none
    | none => none
theorem areg_ok (hI : TOk P I) (hG : SOk P G) {N : Nat} {ops : Array Oper} {Q : Exit → Act → World → Prop} {T' : TM} {H' : AHeap} (hQ : ∀ a' w', ASat N m0 H0 w0 T' H' a' w' → Q .normal a' w') :
    ∀ (l : List Oper) (T : TM) (H : AHeap) (a : Act) (w : World), areg I G N ops l T H = some (T', H') → ASat N m0 H0 w0 T H a w → wpList P ops Q l a w
  | [], T, H, a, w, hr, hs => by cases hr; exact hQ a w hs
  | o :: rest, T, H, a, w, hr, ⟨m, h1, h2, h3, h4⟩ => by
    simp only [areg] at hr
    unfold wpList
    split at hr
    · rename_i hw
      rw [wanted_ok h2 hw, if_pos rfl]
      split at hr
      · rename_i v H1 tc ho
        split at hr
        · rename_i hd
          refine .inl (aop_step hI hG h1 h2 ho fun m' w' v' r1 r2 r3 _ => ?_)
          exact areg_ok hI hG hQ rest _ _ _ _ hr ⟨m', r1, put_ok (h2.mono r2) r3 (dst_ok h3 hd), by rw [size_put]; exact h3, by rw [defers_put]; exact h4⟩
        · cases hr
      · cases hr
    · rename_i hw
      rw [wanted_ok h2 hw, if_neg (by simp)]
      split at hr
      · rename_i hd
        exact areg_ok hI hG hQ rest _ _ _ _ hr ⟨m, h1, put_ok h2 (undef_ok m) (dst_ok h3 hd), by rw [size_put]; exact h3, by rw [defers_put]; exact h4⟩
      · cases hr
    · cases hr

/-! ### in whatever order -/
def waits (o : Oper) (i : Nat) : Bool := o.after.any fun e => Region.binds .any e && e.on == i
def ownB : Option ABlk → Bool
  | some b => b.own
  | none => false
def liveB : Option ABlk → Bool
  | some b => b.live
  | none => false
/-- An order that serves: what turns nothing goes first; else there is one that may come. -/
def ordOk (ops : Array Oper) : Array Bool → List Nat → Bool
  | listed, [] => (Region.ready .any ops listed).isEmpty
  | listed, i :: r => (((match ops[i]? with
      | some o => freeOp o.op
      | none => false) && Region.free .any ops listed i && (Region.ready .any ops listed).contains i) || (Region.ready .any ops listed == [i])) && ordOk ops (listed.setIfInBounds i true) r
def dreg (I : Tab) (G : Sums) (N : Nat) (ops : Array Oper) : List Nat → TM → AHeap → List (Nat × Nat) → Option (TM × AHeap)
  | [], T, H, _ => some (T, H)
  | i :: r, T, H, L => match ops[i]? with
    | none => none
    | some o => if dstOk N o.dst = true then match wantedA ops o T with
      | some true => match aop I G o.op T H with
        | some (v, H', tc) => if freeOp o.op = true then dreg I G N ops r (put T o.dst v) H' (match loadId o.op T with
            | some id => (i, id) :: L
            | none => L)
          else if (tc.all (fun q => ownB (H[q]?)) && L.all (fun p => waits o p.1 || (!tc.contains p.2 && liveB (H[p.2]?)))) = true then dreg I G N ops r (put T o.dst v) H' L else none
        | none => none
      | some false => dreg I G N ops r (put T o.dst undef) H L
      | none => none
      else none

def Keeps (ops : Array Oper) (LB : List (Nat × Nat)) (j : Nat) (w w' : World) : Prop :=
  ∀ p ∈ LB, p.2 < w.heap.size → (∀ o, ops[j]? = some o → waits o p.1 = false) → w'.heap[p.2]? = w.heap[p.2]?
theorem Keeps.refl (ops : Array Oper) (LB : List (Nat × Nat)) (j : Nat) (w : World) : Keeps ops LB j w w := fun _ _ _ _ => rfl
def wpAnyR (P : Program) (ops : Array Oper) (Q : Exit → Act → World → Prop) (R : Nat → World → World → Prop) : Nat → Array Bool → Act → World → Prop
  | 0, listed, a, w => Region.ready .any ops listed = [] ∧ Q .normal a w
  | fuel + 1, listed, a, w =>
    (Region.ready .any ops listed = [] → Q .normal a w) ∧
    ∀ i ∈ Region.ready .any ops listed, wpOp P ops Q i (fun a' w' => R i w w' ∧ wpAnyR P ops Q R fuel (listed.setIfInBounds i true) a' w') a w
theorem wpAny_of_R {ops : Array Oper} {Q : Exit → Act → World → Prop} {R : Nat → World → World → Prop} : ∀ (fuel : Nat) (listed : Array Bool) (a : Act) (w : World), wpAnyR P ops Q R fuel listed a w → wpAny P .any ops Q fuel listed a w
  | 0, _, _, _, h => h
  | fuel + 1, _, _, _, h => ⟨h.1, fun i hi => wpOp_mono (fun a' w' h' => wpAny_of_R fuel _ a' w' h'.2) (h.2 i hi)⟩
theorem wpAnyR.mono {ops : Array Oper} {Q : Exit → Act → World → Prop} {R R' : Nat → World → World → Prop} (hR : ∀ i w w', R' i w w' → R i w w') : ∀ (fuel : Nat) (listed : Array Bool) (a : Act) (w : World), wpAnyR P ops Q R' fuel listed a w → wpAnyR P ops Q R fuel listed a w
  | 0, _, _, _, h => h
  | fuel + 1, _, _, _, h => ⟨h.1, fun i hi => wpOp_mono (fun a' w' h' => ⟨hR _ _ _ h'.1, wpAnyR.mono hR fuel _ a' w' h'.2⟩) (h.2 i hi)⟩
theorem wpAnyR_first {ops : Array Oper} {Q : Exit → Act → World → Prop} {R R' : Nat → World → World → Prop} {C : World → Prop} {i : Nat} {oi : Oper} {v : Value} (hi : ops[i]? = some oi) (hsel : ∀ (j : Nat) (o : Oper) cs b, ops[j]? = some o → o.op ≠ .select cs b)
    (hQ : ∀ c a w, Q (.panic c) (a.put oi.dst v) w → Q (.panic c) a w) (hRR : ∀ j w w', R' j w w' → R j w w') (hRi : ∀ w, R i w w)
    (hC : ∀ j w w', (∀ oj, ops[j]? = some oj → ∀ e ∈ oj.after, Region.binds .any e = true → e.on ≠ i) → R' j w w' → C w → C w') :
    ∀ (fuel : Nat) (listed : Array Bool) (a : Act) (w : World),
      (∀ j oj, ops[j]? = some oj → j ≠ i → listed.getD j true = false → (∀ e ∈ oj.after, Region.binds .any e = true → e.on ≠ i) → oi.apart ops oj = true) →
      i ∈ Region.ready .any ops listed → YieldsIf P ops C oi v a → C w →
      wpAnyR P ops Q R' fuel (listed.setIfInBounds i true) (a.put oi.dst v) w → wpAnyR P ops Q R (fuel + 1) listed a w := by
  intro fuel
  induction fuel with
  | zero =>
    intro listed a w _ hr hy hS H
    refine ⟨fun h => (by rw [h] at hr; cases hr), fun j hj => ?_⟩
    by_cases hji : j = i
    · subst hji; exact hy.wpOp hi hS ⟨hRi w, H⟩
    · have := ready_mono hj hji
      rw [H.1] at this
      cases this
  | succ fuel ih =>
    intro listed a w hfree hr hy hS H
    refine ⟨fun h => (by rw [h] at hr; cases hr), fun j hj => ?_⟩
    by_cases hji : j = i
    · subst hji; exact hy.wpOp hi hS ⟨hRi w, wpAnyR.mono hRR _ _ _ _ H⟩
    · have h1 := H.2 j (ready_mono hj hji)
      obtain ⟨hjun, oj, hoj, hall⟩ := mem_ready.1 hj
      have hnot : ∀ e ∈ oj.after, Region.binds .any e = true → e.on ≠ i := fun e he hb heq => by
        have h1 := hall e he hb
        have h0 := (mem_ready.1 hr).1
        rw [heq] at h1
        rcases Nat.lt_or_ge i listed.size with h' | h'
        · simp [h'] at h0 h1; rw [h0] at h1; cases h1
        · simp [Array.getElem?_eq_none h'] at h1
      have h2 := wpOp_putIf hoj (hfree j oj hoj hji hjun hnot) (fun cs b => hsel i oi cs b hi) (fun cs b => hsel j oj cs b hoj) hQ hy h1
      have hfree' : ∀ k ok, ops[k]? = some ok → k ≠ i → (listed.setIfInBounds j true).getD k true = false →
          (∀ e ∈ ok.after, Region.binds .any e = true → e.on ≠ i) → oi.apart ops ok = true := fun k ok hk hki hun hno => by
        refine hfree k ok hk hki ?_ hno
        by_cases hjk : j = k
        · subst hjk; exact hjun
        · rw [getD_set_ne true hjk] at hun; exact hun
      refine wpOp_mono (fun a' w' h3 => ⟨hRR _ _ _ h3.2.1, ih (listed.setIfInBounds j true) a' w' hfree' (ready_mono hr (Ne.symm hji)) h3.1
        (hC j w w' (fun oj' hoj' => by rw [hoj] at hoj'; cases hoj'; exact hnot) h3.2.1 hS) ?_⟩) h2
      rw [Array.setIfInBounds_comm _ _ hji]
      exact h3.2.2

theorem waits_no {o : Oper} {i : Nat} (h : ∀ e ∈ o.after, Region.binds .any e = true → e.on ≠ i) : waits o i = false := by
  unfold waits
  rw [Array.any_eq_false']
  intro e he
  simp only [Bool.and_eq_true, beq_iff_eq, not_and]
  exact h e he

theorem dreg_ok (hI : TOk P I) (hG : SOk P G) {N : Nat} {ops : Array Oper} {Q : Exit → Act → World → Prop} {T' : TM} {H' : AHeap} (hsel : Region.noSelect ops = true) (hQp : ∀ c a w, ¬ Q (.panic c) a w)
    (hQ : ∀ a' w', ASat N m0 H0 w0 T' H' a' w' → Q .normal a' w') :
    ∀ (ord : List Nat) (listed : Array Bool) (T : TM) (H : AHeap) (L LB : List (Nat × Nat)) (m : Mp) (a : Act) (w : World), ordOk ops listed ord = true → dreg I G N ops ord T H L = some (T', H') →
      Run m0 H0 w0 H m w → TRel m T a → a.tmps.size = N → a.defers = [] → (∀ p ∈ LB, ∃ id i, (p.1, id) ∈ L ∧ m id = some i ∧ i.void = false ∧ i.blk = p.2) →
      wpAnyR P ops Q (Keeps ops LB) ord.length listed a w
  | [], listed, T, H, L, LB, m, a, w, ho, hr, h1, h2, h3, h4, hLB => by
    cases hr
    exact ⟨by simpa [ordOk] using ho, hQ a w ⟨m, h1, h2, h3, h4⟩⟩
  | i :: ord, listed, T, H, L, LB, m, a, w, ho, hr, h1, h2, h3, h4, hLB => by
    simp only [ordOk, Bool.and_eq_true, Bool.or_eq_true, beq_iff_eq] at ho
    obtain ⟨ho, hord⟩ := ho
    simp only [dreg] at hr
    split at hr
    · cases hr
    · rename_i o hoi
      split at hr
      · rename_i hd
        have hdst := dst_ok h3 hd
        rcases ho with ⟨⟨hf, hfree⟩, hcon⟩ | hone
        · rw [hoi] at hf
          simp only at hf
          have hready : i ∈ Region.ready .any ops listed := by simpa using hcon
          split at hr
          · rename_i hw
            split at hr
            · rename_i v H1 tc hop
              rw [if_pos hf] at hr
              obtain ⟨rfl, rfl, v', hv, hrun⟩ := aop_free hI h1 h2 hf hop
              have hT' : TRel m (put T o.dst v) (a.put o.dst v') := put_ok h2 hv hdst
              cases hl : loadId o.op T with
              | none =>
                rw [hl] at hr
                have ih := dreg_ok hI hG hsel hQp hQ ord (listed.setIfInBounds i true) _ _ L LB m (a.put o.dst v') w hord hr h1 hT' (by rw [size_put]; exact h3) (by rw [defers_put]; exact h4) hLB
                exact wpAnyR_first (C := fun _ => True) hoi (Region.noSelect_spec hsel) (fun c a w hq => (hQp _ _ _ hq).elim) (fun _ _ _ h => h) (fun w => Keeps.refl _ _ _ w) (fun _ _ _ _ _ _ => trivial) _ listed a w
                  (Region.free_spec hoi hfree) hready (.inl ⟨wanted_ok h2 hw, fun w' _ => hrun w' (fun id hid => by rw [hl] at hid; cases hid)⟩) trivial ih
              | some id =>
                rw [hl] at hr
                have hmi : ∃ i', m id = some i' ∧ i'.void = false ∧ i'.blk < w.heap.size := by
                  cases hopc : o.op <;> rw [hopc] at hl <;> simp only [loadId] at hl <;> first | (cases hl; done) | skip
                  rename_i t x
                  split at hl
                  · rename_i id' k s hev
                    cases hl
                    have hvr := ev_ok h2 hev
                    rw [hopc] at hop
                    unfold aop at hop
                    simp only [hev] at hop
                    unfold aLoad at hop
                    generalize a.eval x = q at hvr
                    cases hvr with
                    | ptr hm hv0 =>
                      rename_i i'
                      refine ⟨i', hm, hv0, ?_⟩
                      split at hop
                      · rename_i heq
                        cases heq
                        split at hop
                        · rename_i b hb
                          split at hop
                          · rename_i cs hcs
                            obtain ⟨b', hb', hB⟩ := h1.mt.has _ _ hm
                            rw [hb] at hb'
                            cases hb'
                            exact hB.live_lt (by cases b <;> first | rfl | (cases s <;> simp [rd] at hcs)) hv0
                          · cases hop
                        · cases hop
                      · cases hop
                  · cases hl
                obtain ⟨i', hm, hv0, hlt⟩ := hmi
                have ih := dreg_ok hI hG hsel hQp hQ ord (listed.setIfInBounds i true) _ _ ((i, id) :: L) ((i, i'.blk) :: LB) m (a.put o.dst v') w hord hr h1 hT' (by rw [size_put]; exact h3) (by rw [defers_put]; exact h4) (fun p hp => by
                  rcases List.mem_cons.1 hp with rfl | hp
                  · exact ⟨id, i', by simp, hm, hv0, rfl⟩
                  · obtain ⟨q, iq, q1, q2⟩ := hLB p hp
                    exact ⟨q, iq, by simp [q1], q2⟩)
                refine wpAnyR_first (C := fun w' => w'.heap[i'.blk]? = w.heap[i'.blk]?) hoi (Region.noSelect_spec hsel) (fun c a w hq => (hQp _ _ _ hq).elim) (fun j w1 w2 hk p hp => hk p (by simp [hp])) (fun w => Keeps.refl _ _ _ w)
                  (fun j w1 w2 hno hk hc => ?_) _ listed a w (Region.free_spec hoi hfree) hready (.inl ⟨wanted_ok h2 hw, fun w' hc => hrun w' (fun id' hid j hj => ?_)⟩) rfl ih
                · have hlt1 : i'.blk < w1.heap.size := by
                    rw [Array.getElem?_eq_getElem hlt] at hc
                    exact heap_lt hc
                  rw [hk (i, i'.blk) (by simp) hlt1 (fun oj hoj => waits_no (hno oj hoj))]
                  exact hc
                · rw [hl] at hid
                  cases hid
                  rw [hm] at hj
                  cases hj
                  exact hc
            · cases hr
          · rename_i hw
            have ih := dreg_ok hI hG hsel hQp hQ ord (listed.setIfInBounds i true) _ _ L LB m (a.put o.dst undef) w hord hr h1 (put_ok h2 (undef_ok m) hdst) (by rw [size_put]; exact h3) (by rw [defers_put]; exact h4) hLB
            exact wpAnyR_first (C := fun _ => True) hoi (Region.noSelect_spec hsel) (fun c a w hq => (hQp _ _ _ hq).elim) (fun _ _ _ h => h) (fun w => Keeps.refl _ _ _ w) (fun _ _ _ _ _ _ => trivial) _ listed a w
              (Region.free_spec hoi hfree) hready (.inr ⟨wanted_ok h2 hw, rfl⟩) trivial ih
          · cases hr
        · refine ⟨fun h => (by rw [hone] at h; cases h), fun j hj => ?_⟩
          rw [hone] at hj
          obtain rfl : j = i := by simpa using hj
          unfold wpOp
          rw [hoi]
          simp only
          split at hr
          · rename_i hw
            rw [wanted_ok h2 hw, if_pos rfl]
            split at hr
            · rename_i v H1 tc hop
              refine .inl (aop_step hI hG h1 h2 hop fun m' w' v' r1 r2 r3 r4 => ?_)
              have hT' : TRel m' (put T o.dst v) (a.put o.dst v') := put_ok (h2.mono r2) r3 hdst
              have go : ∀ L', (∀ p, p ∈ L → p ∈ L') → dreg I G N ops ord (put T o.dst v) H1 L' = some (T', H') → Keeps ops LB j w w' → Keeps ops LB j w w' ∧ wpAnyR P ops Q (Keeps ops LB) ord.length (listed.setIfInBounds j true) (a.put o.dst v') w' := by
                intro L' hLL hr' hk
                exact ⟨hk, dreg_ok hI hG hsel hQp hQ ord _ _ _ L' LB m' (a.put o.dst v') w' hord hr' r1 hT' (by rw [size_put]; exact h3) (by rw [defers_put]; exact h4) (fun p hp => by
                  obtain ⟨q, iq, q1, q2, q3⟩ := hLB p hp
                  exact ⟨q, iq, hLL _ q1, r2 _ _ q2, q3⟩)⟩
              split at hr
              · rename_i hf
                obtain ⟨rfl, rfl, _⟩ := aop_free hI h1 h2 hf hop
                refine go _ ?_ hr (fun p hp hlt _ => r4.keep p.2 hlt (fun q hq => by simp at hq))
                intro p hp
                split
                · simp [hp]
                · exact hp
              · split at hr
                · rename_i hchk
                  simp only [Bool.and_eq_true, List.all_eq_true, Bool.or_eq_true, Bool.not_eq_true'] at hchk
                  obtain ⟨hown, hL⟩ := hchk
                  refine go L (fun p hp => hp) hr (fun p hp hlt hno => ?_)
                  obtain ⟨id, ip, q1, q2, q3, q4⟩ := hLB p hp
                  rcases hL _ q1 with hw' | ⟨hc1, hc2⟩
                  · rw [hno o hoi] at hw'; cases hw'
                  · refine r4.keep p.2 hlt (fun q hq iq hiq hvq e => ?_)
                    have hqo := hown q hq
                    obtain ⟨bq, hbq, _⟩ := h1.mt.has _ _ hiq
                    obtain ⟨bp, hbp, _⟩ := h1.mt.has _ _ q2
                    rw [hbq] at hqo
                    simp only at hc2
                    rw [hbp] at hc2
                    have := h1.mt.inj q id iq ip bq bp hiq q2 hbq hbp hqo hc2 hvq q3 (by rw [e, q4])
                    subst this
                    have : tc.contains q = true := by simpa using hq
                    simp only at hc1
                    rw [this] at hc1
                    cases hc1
                · cases hr
            · cases hr
          · rename_i hw
            rw [wanted_ok h2 hw, if_neg (by simp)]
            exact ⟨Keeps.refl _ _ _ w, dreg_ok hI hG hsel hQp hQ ord _ _ _ L LB m (a.put o.dst undef) w hord hr h1 (put_ok h2 (undef_ok m) hdst) (by rw [size_put]; exact h3) (by rw [defers_put]; exact h4) hLB⟩
          · cases hr
      · cases hr
end
end Go.Proofs.Ytpgkbdkkcladcaa.Eng
/- The engine, part 10: code, and whole calls, reckoned. A lemma file: it claims nothing of the program. -/
namespace Go.Proofs.Ytpgkbdkkcladcaa.Eng
open Go Go.Lib

def npan : Exit → Bool
  | .normal => true
  | .exit _ => true
  | .ret => true
  | _ => false
/-- What holds behind a piece of code, in memory. -/
def Post (N : Nat) (m0 : Mp) (H0 : AHeap) (w0 : World) (Q : Exit → TM → AHeap → Prop) : Exit → Act → World → Prop :=
  fun e a w => npan e = true ∧ ∃ T H, Q e T H ∧ ASat N m0 H0 w0 T H a w
/-- A piece of code, from what is known ahead of it to what holds behind it. -/
structure AW (P : Program) (N : Nat) (H0 : AHeap) (c : Code) (T : TM) (H : AHeap) (Q : Exit → TM → AHeap → Prop) : Prop where
  run : ∀ m0 w0 a w, Match m0 H0 w0 → ASat N m0 H0 w0 T H a w → c.wp P (Post N m0 H0 w0 Q) a w
def thenQ (K : TM → AHeap → Prop) (Q : Exit → TM → AHeap → Prop) : Exit → TM → AHeap → Prop
  | .normal, T, H => K T H
  | e, T, H => Q e T H
def blockQ (id : Nat) (Q : Exit → TM → AHeap → Prop) : Exit → TM → AHeap → Prop
  | .exit id', T, H => if id' = id then Q .normal T H else Q (.exit id') T H
  | e, T, H => Q e T H

section
variable {P : Program} {I : Tab} {G : Sums} {N : Nat} {H0 : AHeap} {T : TM} {H : AHeap} {Q : Exit → TM → AHeap → Prop} {c x y : Code}

theorem AW.mono {Q' : Exit → TM → AHeap → Prop} (h : AW P N H0 c T H Q) (hq : ∀ e T H, Q e T H → Q' e T H) : AW P N H0 c T H Q' :=
  ⟨fun m0 w0 a w hM hs => Code.wp_mono (fun e a w ⟨h1, T, H, h2, h3⟩ => ⟨h1, T, H, hq _ _ _ h2, h3⟩) (h.run m0 w0 a w hM hs)⟩
theorem AW.skip (h : Q .normal T H) : AW P N H0 .skip T H Q := ⟨fun m0 w0 a w hM hs => wp_skip ⟨rfl, T, H, h, hs⟩⟩
theorem AW.exit {id : Nat} (h : Q (.exit id) T H) : AW P N H0 (.exit id) T H Q := ⟨fun m0 w0 a w hM hs => wp_exit ⟨rfl, T, H, h, hs⟩⟩
theorem AW.ret (h : Q .ret T H) : AW P N H0 .ret T H Q := ⟨fun m0 w0 a w hM hs => wp_ret ⟨rfl, T, H, h, hs⟩⟩
theorem AW.seq (h : AW P N H0 x T H (thenQ (fun T H => AW P N H0 y T H Q) Q)) : AW P N H0 (.seq x y) T H Q :=
  ⟨fun m0 w0 a w hM hs => wp_seq (Code.wp_mono (fun e a w hp => by
    obtain ⟨h1, T, H, h2, h3⟩ := hp
    cases e with
    | normal => exact h2.run m0 w0 a w hM h3
    | exit id => exact ⟨h1, T, H, h2, h3⟩
    | goto l => cases h1
    | ret => exact ⟨h1, T, H, h2, h3⟩
    | panic ch => cases h1
    | outgrown => cases h1) (h.run m0 w0 a w hM hs))⟩
theorem AW.cond {o : Operand} {b : Bool} (hb : ev T o = some (.bool b)) (h : AW P N H0 (if b then x else y) T H Q) : AW P N H0 (.cond o x y) T H Q :=
  ⟨fun m0 w0 a w hM hs => by
    obtain ⟨m, h1, h2, h3, h4⟩ := hs
    have := ev_ok h2 hb
    generalize hq : a.eval o = q at this
    cases this
    exact wp_cond hq (h.run m0 w0 a w hM ⟨m, h1, h2, h3, h4⟩)⟩
theorem AW.block {id : Nat} (h : AW P N H0 c T H (blockQ id Q)) : AW P N H0 (.block id c) T H Q :=
  ⟨fun m0 w0 a w hM hs => wp_block (Code.wp_mono (fun e a w hp => by
    obtain ⟨h1, T, H, h2, h3⟩ := hp
    cases e with
    | normal => exact ⟨h1, T, H, h2, h3⟩
    | exit id' =>
      simp only [Exit.inBlock]
      simp only [blockQ] at h2
      split
      · rename_i hid
        rw [if_pos hid] at h2
        exact ⟨rfl, T, H, h2, h3⟩
      · rename_i hid
        rw [if_neg hid] at h2
        exact ⟨rfl, T, H, h2, h3⟩
    | goto l => cases h1
    | ret => exact ⟨h1, T, H, h2, h3⟩
    | panic ch => cases h1
    | outgrown => cases h1) (h.run m0 w0 a w hM hs))⟩
theorem AW.region (hI : TOk P I) (hG : SOk P G) {id : Nat} {ops : Array Oper} {T' : TM} {H' : AHeap} (hr : areg I G N ops ops.toList T H = some (T', H')) (h : Q .normal T' H') : AW P N H0 (.region id ops false) T H Q :=
  ⟨fun m0 w0 a w hM hs => wp_region_list (areg_ok hI hG (fun a' w' hs' => ⟨rfl, T', H', h, hs'⟩) _ _ _ _ _ hr hs)⟩
theorem AW.draw (hI : TOk P I) (hG : SOk P G) (hm : P.follows .mixedOrders = true) {id : Nat} {ops : Array Oper} {ord : List Nat} (hl : ord.length = ops.size) (hs : Region.noSelect ops = true) (ho : ordOk ops (Array.replicate ops.size false) ord = true) {T' : TM} {H' : AHeap}
    (hr : dreg I G N ops ord T H [] = some (T', H')) (h : Q .normal T' H') : AW P N H0 (.region id ops true) T H Q :=
  ⟨fun m0 w0 a w hM ⟨m, h1, h2, h3, h4⟩ => wp_region_any hm (by
    rw [← hl]
    refine wpAny_of_R _ _ _ _ (dreg_ok (m0 := m0) (H0 := H0) (w0 := w0) hI hG hs (fun c a w hq => by cases hq.1) (fun a' w' hs' => ⟨rfl, T', H', h, hs'⟩) ord _ T H [] [] m a _ ?_ hr h1.drew h2 h3 h4 (by simp))
    rw [hl]
    exact ho)⟩
/-- What is known may be less. -/
def Le (N : Nat) (H0 : AHeap) (T' : TM) (H' : AHeap) (T : TM) (H : AHeap) : Prop := ∀ m0 w0 a w, Match m0 H0 w0 → ASat N m0 H0 w0 T' H' a w → ASat N m0 H0 w0 T H a w
theorem Le.refl (N : Nat) (H0 : AHeap) (T : TM) (H : AHeap) : Le N H0 T H T H := fun _ _ _ _ _ h => h
theorem AW.weak {T' : TM} {H' : AHeap} (hl : Le N H0 T' H' T H) (h : AW P N H0 c T H Q) : AW P N H0 c T' H' Q := ⟨fun m0 w0 a w hM hs => h.run m0 w0 a w hM (hl m0 w0 a w hM hs)⟩
theorem AW.loop {ι : Type} (S : ι → TM) (K : ι → AHeap) (μ : ι → Nat) (i0 : ι)
    (round : ∀ i, AW P N H0 c (S i) (K i) (thenQ (fun T' H' => ∃ j, μ j < μ i ∧ Le N H0 T' H' (S j) (K j)) Q)) : AW P N H0 (.loop c) (S i0) (K i0) Q :=
  ⟨fun m0 w0 a w hM hs => wp_loop_ghost (fun n a w => ∃ i, μ i = n ∧ ASat N m0 H0 w0 (S i) (K i) a w) (μ i0) ⟨i0, rfl, hs⟩ (by
    rintro n a w ⟨i, rfl, hs⟩
    refine Code.wp_mono (fun e a w hp => ?_) ((round i).run m0 w0 a w hM hs)
    obtain ⟨h1, T, H, h2, h3⟩ := hp
    cases e with
    | normal =>
      obtain ⟨j, h4, h5⟩ := h2
      exact ⟨μ j, h4, j, rfl, h5 _ _ _ _ hM h3⟩
    | exit id => exact ⟨h1, T, H, h2, h3⟩
    | goto l => cases h1
    | ret => exact ⟨h1, T, H, h2, h3⟩
    | panic ch => cases h1
    | outgrown => cases h1)⟩

/-! ### code, reckoned -/
def plan (ops : Array Oper) : Nat → Array Bool → List Nat
  | 0, _ => []
  | n + 1, listed =>
    let rs := Region.ready .any ops listed
    match rs.find? (fun i => (match ops[i]? with
      | some o => freeOp o.op
      | none => false) && Region.free .any ops listed i) with
    | some i => i :: plan ops n (listed.setIfInBounds i true)
    | none => match rs with
      | [i] => i :: plan ops n (listed.setIfInBounds i true)
      | _ => []
def planOk (ops : Array Oper) (ord : List Nat) : Bool := ord.length == ops.size && Region.noSelect ops && ordOk ops (Array.replicate ops.size false) ord
def aexec (I : Tab) (G : Sums) (N : Nat) : Nat → Code → TM → AHeap → Option (Exit × TM × AHeap)
  | 0, _, _, _ => none
  | n + 1, c, T, H => match c with
    | .skip => some (.normal, T, H)
    | .seq x y => match aexec I G N n x T H with
      | some (.normal, T1, H1) => aexec I G N n y T1 H1
      | r => r
    | .cond o x y => match ev T o with
      | some (.bool true) => aexec I G N n x T H
      | some (.bool false) => aexec I G N n y T H
      | _ => none
    | .block id x => match aexec I G N n x T H with
      | some (.exit id', T1, H1) => if id' = id then some (.normal, T1, H1) else some (.exit id', T1, H1)
      | r => r
    | .loop x => match aexec I G N n x T H with
      | some (.normal, T1, H1) => aexec I G N n (.loop x) T1 H1
      | r => r
    | .exit id => some (.exit id, T, H)
    | .ret => some (.ret, T, H)
    | .region _ ops false => match areg I G N ops ops.toList T H with
      | some (T1, H1) => some (.normal, T1, H1)
      | none => none
    | .region _ ops true => if planOk ops (plan ops ops.size (Array.replicate ops.size false)) = true then match dreg I G N ops (plan ops ops.size (Array.replicate ops.size false)) T H [] with
      | some (T1, H1) => some (.normal, T1, H1)
      | none => none
      else none
    | _ => none
/-- How many rounds a loop goes. -/
def cnt (I : Tab) (G : Sums) (N : Nat) : Nat → Code → TM → AHeap → Nat
  | 0, _, _, _ => 0
  | n + 1, x, T, H => match aexec I G N n x T H with
    | some (.normal, T1, H1) => cnt I G N n x T1 H1 + 1
    | _ => 1
/-- Code without loops, or with, reckoned: what comes of it. -/
theorem aexec_both (hI : TOk P I) (hG : SOk P G) (hm : P.follows .mixedOrders = true) : ∀ (n : Nat) (c : Code) (T : TM) (H : AHeap) (e : Exit) (T' : TM) (H' : AHeap), aexec I G N n c T H = some (e, T', H') → ∀ m0 w0 a w, ASat N m0 H0 w0 T H a w →
    c.wp P (fun e' a' w' => e' = e ∧ npan e' = true ∧ ASat N m0 H0 w0 T' H' a' w') a w ∧ ∀ x, c = .loop x → Code.rounds P x (fun e' a' w' => e' = e ∧ npan e' = true ∧ ASat N m0 H0 w0 T' H' a' w') (cnt I G N n x T H) a w
  | 0, _, _, _, _, _, _, h, _, _, _, _, _ => by cases h
  | n + 1, c, T, H, e, T', H', h, m0, w0, a, w, hs => by
    simp only [aexec] at h
    split at h
    · refine ⟨?_, fun _ hx => by cases hx⟩
      cases h; exact wp_skip ⟨rfl, rfl, hs⟩
    · rename_i x y
      refine ⟨?_, fun _ hx => by cases hx⟩
      split at h
      · rename_i T1 H1 hx
        refine wp_seq (Code.wp_mono (fun e1 a1 w1 hp => ?_) (aexec_both hI hG hm n x T H _ _ _ hx m0 w0 a w hs).1)
        obtain ⟨rfl, _, hp⟩ := hp
        exact (aexec_both hI hG hm n y T1 H1 _ _ _ h m0 w0 a1 w1 hp).1
      · rename_i hne
        refine wp_seq (Code.wp_mono (fun e1 a1 w1 hp => ?_) (aexec_both hI hG hm n x T H _ _ _ h m0 w0 a w hs).1)
        obtain ⟨rfl, h1, hp⟩ := hp
        cases e1 with
        | normal => exact absurd h (hne _ _)
        | exit id => exact ⟨rfl, h1, hp⟩
        | goto l => cases h1
        | ret => exact ⟨rfl, h1, hp⟩
        | panic ch => cases h1
        | outgrown => cases h1
    · rename_i o x y
      refine ⟨?_, fun _ hx => by cases hx⟩
      obtain ⟨m, h1, h2, h3, h4⟩ := hs
      split at h
      · rename_i hb
        have := ev_ok h2 hb
        generalize hq : a.eval o = q at this
        cases this
        exact wp_cond_true hq (aexec_both hI hG hm n x T H _ _ _ h m0 w0 a w ⟨m, h1, h2, h3, h4⟩).1
      · rename_i hb
        have := ev_ok h2 hb
        generalize hq : a.eval o = q at this
        cases this
        exact wp_cond_false hq (aexec_both hI hG hm n y T H _ _ _ h m0 w0 a w ⟨m, h1, h2, h3, h4⟩).1
      · cases h
    · rename_i id x
      refine ⟨?_, fun _ hx => by cases hx⟩
      split at h
      · rename_i id' T1 H1 hx
        refine wp_block (Code.wp_mono (fun e1 a1 w1 hp => ?_) (aexec_both hI hG hm n x T H _ _ _ hx m0 w0 a w hs).1)
        obtain ⟨rfl, _, hp⟩ := hp
        simp only [Exit.inBlock]
        split at h
        · rename_i hid
          rw [if_pos hid]
          cases h
          exact ⟨rfl, rfl, hp⟩
        · rename_i hid
          rw [if_neg hid]
          cases h
          exact ⟨rfl, rfl, hp⟩
      · rename_i hne
        refine wp_block (Code.wp_mono (fun e1 a1 w1 hp => ?_) (aexec_both hI hG hm n x T H _ _ _ h m0 w0 a w hs).1)
        obtain ⟨rfl, h1, hp⟩ := hp
        cases e1 with
        | normal => exact ⟨rfl, h1, hp⟩
        | exit id => exact absurd h (hne _ _ _)
        | goto l => cases h1
        | ret => exact ⟨rfl, h1, hp⟩
        | panic ch => cases h1
        | outgrown => cases h1
    · rename_i x
      have key : Code.rounds P x (fun e' a' w' => e' = e ∧ npan e' = true ∧ ASat N m0 H0 w0 T' H' a' w') (cnt I G N (n + 1) x T H) a w := by
        simp only [cnt]
        split at h
        · rename_i T1 H1 hx
          rw [rounds_succ]
          refine Code.wp_mono (fun e1 a1 w1 hp => ?_) (aexec_both hI hG hm n x T H _ _ _ hx m0 w0 a w hs).1
          obtain ⟨rfl, _, hp⟩ := hp
          exact (aexec_both hI hG hm n (.loop x) T1 H1 _ _ _ h m0 w0 a1 w1 hp).2 x rfl
        · rename_i hne
          show Code.rounds P x _ (0 + 1) a w
          rw [rounds_succ]
          refine Code.wp_mono (fun e1 a1 w1 hp => ?_) (aexec_both hI hG hm n x T H _ _ _ h m0 w0 a w hs).1
          obtain ⟨rfl, h1, hp⟩ := hp
          cases e1 with
          | normal => exact absurd h (hne _ _)
          | exit id => exact ⟨rfl, h1, hp⟩
          | goto l => cases h1
          | ret => exact ⟨rfl, h1, hp⟩
          | panic ch => cases h1
          | outgrown => cases h1
      refine ⟨wp_loop_rounds _ key, fun y hy => ?_⟩
      cases hy
      exact key
    · refine ⟨?_, fun _ hx => by cases hx⟩
      cases h; exact wp_exit ⟨rfl, rfl, hs⟩
    · refine ⟨?_, fun _ hx => by cases hx⟩
      cases h; exact wp_ret ⟨rfl, rfl, hs⟩
    · rename_i id ops
      refine ⟨?_, fun _ hx => by cases hx⟩
      split at h
      · rename_i T1 H1 hr
        cases h
        exact wp_region_list (areg_ok hI hG (fun a' w' hs' => ⟨rfl, rfl, hs'⟩) _ _ _ _ _ hr hs)
      · cases h
    · rename_i id ops
      refine ⟨?_, fun _ hx => by cases hx⟩
      split at h
      · rename_i hp
        split at h
        · rename_i T1 H1 hr
          cases h
          simp only [planOk, Bool.and_eq_true, beq_iff_eq] at hp
          obtain ⟨⟨hl, hsel⟩, ho⟩ := hp
          obtain ⟨m, h1, h2, h3, h4⟩ := hs
          refine wp_region_any hm ?_
          rw [← hl]
          refine wpAny_of_R _ _ _ _ (dreg_ok (m0 := m0) (H0 := H0) (w0 := w0) hI hG hsel (fun c a w hq => by cases hq.1) (fun a' w' hs' => ⟨rfl, rfl, hs'⟩) _ _ T H [] [] m a _ ?_ hr h1.drew h2 h3 h4 (by simp))
          rw [hl]
          exact ho
        · cases h
      · cases h
    · cases h
theorem aexec_ok (hI : TOk P I) (hG : SOk P G) (hm : P.follows .mixedOrders = true) {n : Nat} {c : Code} {T : TM} {H : AHeap} {e : Exit} {T' : TM} {H' : AHeap} (h : aexec I G N n c T H = some (e, T', H')) {m0 : Mp} {w0 : World} {a : Act} {w : World} (hs : ASat N m0 H0 w0 T H a w) :
    c.wp P (fun e' a' w' => e' = e ∧ npan e' = true ∧ ASat N m0 H0 w0 T' H' a' w') a w := (aexec_both hI hG hm n c T H e T' H' h m0 w0 a w hs).1
end
end Go.Proofs.Ytpgkbdkkcladcaa.Eng
/- The engine, part 11: whole calls, reckoned, with all that they call. A lemma file: it claims nothing of the program. -/
namespace Go.Proofs.Ytpgkbdkkcladcaa.Eng
open Go Go.Lib

/-! ### what a call can reach -/
def idsN : Nat → Value → List Nat
  | 0, _ => []
  | _ + 1, .pointer (some a) => [a.block]
  | _ + 1, .slice (some a) _ _ => [a.block]
  | n + 1, .agg cs => cs.toList.flatMap (idsN n)
  | n + 1, .tuple cs => cs.toList.flatMap (idsN n)
  | n + 1, .iface _ v => idsN n v
  | n + 1, .func _ a b => a.toList.flatMap (idsN n) ++ b.toList.flatMap (idsN n)
  | _, _ => []
def blkIds : Option ABlk → List Nat
  | some (.cells vs) => vs.flatMap (idsN 4)
  | some (.ro vs) => vs.flatMap (idsN 4)
  | some (.row _ _ els) => els.flatMap fun c => c.flatMap (idsN 4)
  | some (.old _ _ els) => els.flatMap fun c => c.flatMap (idsN 4)
  | _ => []
def reach (H : AHeap) : Nat → List Nat → List Nat → List Nat
  | 0, _, R => R
  | n + 1, todo, R => match todo with
    | [] => R
    | i :: rest => if R.contains i = true then reach H n rest R else reach H n (blkIds (H[i]?) ++ rest) (i :: R)
def restr (R : List Nat) : Nat → AHeap → AHeap
  | _, [] => []
  | k, b :: H => (if R.contains k = true then b else .dead) :: restr R (k + 1) H
/-- What was put aside comes back. -/
def join (R : List Nat) : Nat → AHeap → AHeap → AHeap
  | _, [], H1 => H1
  | _, _, [] => []
  | k, b :: H, b1 :: H1 => (if R.contains k = true then b1 else b) :: join R (k + 1) H H1
theorem restr_len (R : List Nat) : ∀ (k : Nat) (H : AHeap), (restr R k H).length = H.length
  | _, [] => rfl
  | k, b :: H => by simp [restr, restr_len R (k + 1) H]
theorem restr_get (R : List Nat) : ∀ (k : Nat) (H : AHeap) (id : Nat), (restr R k H)[id]? = (H[id]?).map fun b => if R.contains (k + id) = true then b else .dead
  | _, [], id => by simp [restr]
  | k, b :: H, 0 => by simp [restr]
  | k, b :: H, id + 1 => by
    simp only [restr, List.getElem?_cons_succ]
    rw [restr_get R (k + 1) H id]
    congr 1
    funext c
    rw [show k + 1 + id = k + (id + 1) by omega]
theorem join_len (R : List Nat) : ∀ (k : Nat) (H H1 : AHeap), H.length ≤ H1.length → (join R k H H1).length = H1.length
  | _, [], _, _ => rfl
  | _, _ :: _, [], h => by simp at h
  | k, b :: H, b1 :: H1, h => by simp [join, join_len R (k + 1) H H1 (by simpa using h)]
theorem join_get (R : List Nat) : ∀ (k : Nat) (H H1 : AHeap), H.length ≤ H1.length → ∀ (id : Nat), (join R k H H1)[id]? = if id < H.length ∧ R.contains (k + id) = false then H[id]? else H1[id]?
  | _, [], _, _, id => by simp [join]
  | _, _ :: _, [], h, _ => by simp at h
  | k, b :: H, b1 :: H1, h, 0 => by
    by_cases hc : k ∈ R <;> simp [join, hc]
  | k, b :: H, b1 :: H1, h, id + 1 => by
    simp only [join, List.getElem?_cons_succ, List.length_cons]
    rw [join_get R (k + 1) H H1 (by simpa using h) id, show k + 1 + id = k + (id + 1) by omega]
    by_cases hc : id < H.length ∧ R.contains (k + (id + 1)) = false
    · rw [if_pos hc, if_pos ⟨by omega, hc.2⟩]
    · rw [if_neg hc, if_neg (fun h => hc ⟨by omega, h.2⟩)]

section
variable {P : Program} {I : Tab} {m0 : Mp} {H0 : AHeap} {w0 : World} {H H1 : AHeap} {m m' : Mp} {w w' : World} {R : List Nat}

theorem Match.restr (h : Match m H w) (R : List Nat) : Match m (restr R 0 H) w := by
  have g : ∀ (q : Nat) (b : ABlk), (Eng.restr R 0 H)[q]? = some b → b.live = true → H[q]? = some b := by
    intro q b hq hl
    rw [restr_get] at hq
    cases hH : H[q]? with
    | none => rw [hH] at hq; cases hq
    | some c =>
      rw [hH] at hq
      simp only [Option.map_some, Option.some.injEq] at hq
      split at hq
      · rw [hq]
      · subst hq; cases hl
  refine ⟨fun id i hi => ?_, fun id id' i i' b b' h1 h2 h3 h4 h5 h6 h7 h8 h9 => h.inj id id' i i' b b' h1 h2 (g _ _ h3 (ABlk.own_live h5)) (g _ _ h4 h6) h5 h6 h7 h8 h9, h.base, fun id i b hi hb ho hv => h.ownb id i b hi (g _ _ hb (ABlk.own_live ho)) ho hv⟩
  obtain ⟨b, hb, hB⟩ := h.has id i hi
  rw [restr_get, hb]
  by_cases hc : R.contains (0 + id) = true
  · exact ⟨b, by simp only [Option.map_some, hc, if_true], hB⟩
  · exact ⟨.dead, by simp only [Option.map_some, hc, if_false]; simp, trivial⟩
theorem owned_restr (h : Match m H w) {k : Nat} (ho : Owned m (restr R 0 H) k) : ∃ id i b, R.contains id = true ∧ m id = some i ∧ H[id]? = some b ∧ b.own = true ∧ i.void = false ∧ i.blk = k := by
  obtain ⟨id, i, b, h1, h2, h3, h4, h5⟩ := ho
  rw [restr_get, Nat.zero_add] at h2
  cases hH : H[id]? with
  | none => rw [hH] at h2; cases h2
  | some c =>
    rw [hH] at h2
    simp only [Option.map_some, Option.some.injEq] at h2
    split at h2
    · rename_i hc; subst h2; exact ⟨id, i, c, hc, h1, hH, h3, h4, h5⟩
    · subst h2; cases h3
/-- A call that was handed a part of what is known: all that was put aside is as it was. -/
theorem Run.join (h : Run m0 H0 w0 H m w) (h1 : Run m (restr R 0 H) w H1 m' w') : Run m0 H0 w0 (join R 0 H H1) m' w' ∧ Frame m (R.filter fun id => ownB (H[id]?)) w w' := by
  have hlen : H.length ≤ H1.length := by have := h1.len; rwa [restr_len] at this
  have hdom : ∀ id, id < H.length → m' id = m id := fun id hid => h1.dom id (by rw [restr_len]; exact hid)
  -- blocks of what was put aside
  have haside : ∀ id i b, id < H.length → R.contains id = false → m id = some i → H[id]? = some b → b.live = true → i.void = false → i.blk < w.heap.size ∧ ¬ Owned m (Eng.restr R 0 H) i.blk := by
    intro id i b hid hc hi hb hl hv
    obtain ⟨b', hb', hB⟩ := h.mt.has id i hi
    rw [hb] at hb'
    cases hb'
    refine ⟨hB.live_lt hl hv, fun ho => ?_⟩
    obtain ⟨q, iq, bq, q1, q2, q3, q4, q5, q6⟩ := owned_restr h.mt ho
    have := h.mt.inj q id iq i bq b q2 hi q3 hb q4 hl q5 hv q6
    subst this
    rw [hc] at q1
    cases q1
  have hg := join_get R 0 H H1 hlen
  simp only [Nat.zero_add] at hg
  have hsz := h1.size
  have hin : ∀ (id : Nat) (b : ABlk), (Eng.join R 0 H H1)[id]? = some b → (id < H.length ∧ R.contains id = false ∧ H[id]? = some b) ∨ (¬ (id < H.length ∧ R.contains id = false) ∧ H1[id]? = some b) := by
    intro id b hb
    rw [hg] at hb
    by_cases hc : id < H.length ∧ R.contains id = false
    · rw [if_pos hc] at hb; exact .inl ⟨hc.1, hc.2, hb⟩
    · rw [if_neg hc] at hb; exact .inr ⟨hc, hb⟩
  -- live blocks of the call's own end lie in new memory, or in what it was handed
  have hlive : ∀ (id : Nat) (i : MI) (b : ABlk), m' id = some i → H1[id]? = some b → b.live = true → i.void = false → ¬ (id < H.length ∧ R.contains id = false) →
      ∀ id2 i2 b2, id2 < H.length → R.contains id2 = false → m id2 = some i2 → H[id2]? = some b2 → b2.live = true → i2.void = false → (b.own = true ∨ b2.own = true) → i.blk ≠ i2.blk := by
    intro id i b hi hb hl hv hn id2 i2 b2 hid2 hc2 hi2 hb2 hl2 hv2 hown e
    obtain ⟨g1, g2⟩ := haside id2 i2 b2 hid2 hc2 hi2 hb2 hl2 hv2
    rcases Nat.lt_or_ge id H.length with hid | hid
    · obtain ⟨b0, r1, r2, r3⟩ := h1.old id b (by rw [restr_len]; exact hid) hb hl
      rw [restr_get, Nat.zero_add] at r1
      cases hH : H[id]? with
      | none => rw [hH] at r1; cases r1
      | some c =>
        rw [hH] at r1
        simp only [Option.map_some, Option.some.injEq] at r1
        split at r1
        · rename_i hc
          subst r1
          rw [hdom id hid] at hi
          rcases hown with ho | ho
          · have := h.mt.inj id id2 i i2 c b2 hi hi2 hH hb2 (r3 ho) hl2 hv hv2 e
            subst this
            rw [hc] at hc2; cases hc2
          · have := h.mt.inj id2 id i2 i b2 c hi2 hi hb2 hH ho r2 hv2 hv e.symm
            subst this
            rw [hc] at hc2; cases hc2
        · subst r1; cases r2
    · rcases h1.new id i b (by rw [restr_len]; exact hid) hi hb hl hv with h' | h'
      · omega
      · rw [e] at h'; exact g2 h'
  refine ⟨⟨⟨fun id i hi => ?_, fun id id' i i' b b' a1 a2 a3 a4 a5 a6 a7 a8 a9 => ?_, h1.mt.base, fun id i b hi hb ho hv => (by
      rcases hin id b hb with ⟨c1, c2, c3⟩ | ⟨c1, c3⟩
      · exact h.mt.ownb id i b (by rw [← hdom id c1]; exact hi) c3 ho hv
      · exact h1.mt.ownb id i b hi c3 ho hv)⟩, Mp.le_trans h.ext h1.ext, fun id hid => ?_, ?_, fun id b hid hb hl => ?_, fun id i b hid hi hb hl hv => ?_, h1.os.trans h.os, h1.tape.trans h.tape, h1.output.trans h.output, Nat.le_trans h.size h1.size, fun k hk hn => ?_⟩, ⟨h1.size, fun k hk hno => ?_⟩⟩
  · by_cases hc : id < H.length ∧ R.contains id = false
    · obtain ⟨b, hb, hB⟩ := h.mt.has id i (by rw [← hdom id hc.1]; exact hi)
      refine ⟨b, by rw [hg, if_pos hc]; exact hb, ?_⟩
      cases hl : b.live with
      | false => cases b <;> first | trivial | cases hl
      | true =>
        refine (hB.mono h1.ext).frame fun hv hlt => ?_
        exact h1.keep _ hlt (haside id i b hc.1 hc.2 (by rw [← hdom id hc.1]; exact hi) hb hl hv).2
    · obtain ⟨b, hb, hB⟩ := h1.mt.has id i hi
      exact ⟨b, by rw [hg, if_neg hc]; exact hb, hB⟩
  · rcases hin id b a3 with ⟨c1, c2, c3⟩ | ⟨c1, c3⟩ <;> rcases hin id' b' a4 with ⟨d1, d2, d3⟩ | ⟨d1, d3⟩
    · exact h.mt.inj id id' i i' b b' (by rw [← hdom id c1]; exact a1) (by rw [← hdom id' d1]; exact a2) c3 d3 a5 a6 a7 a8 a9
    · exact absurd a9.symm (hlive id' i' b' a2 d3 a6 a8 d1 id i b c1 c2 (by rw [← hdom id c1]; exact a1) c3 (ABlk.own_live a5) a7 (.inr a5))
    · exact absurd a9 (hlive id i b a1 c3 (ABlk.own_live a5) a7 c1 id' i' b' d1 d2 (by rw [← hdom id' d1]; exact a2) d3 a6 a8 (.inl a5))
    · exact h1.mt.inj id id' i i' b b' a1 a2 c3 d3 a5 a6 a7 a8 a9
  · rw [hdom id (Nat.lt_of_lt_of_le hid h.len)]; exact h.dom id hid
  · rw [join_len R 0 H H1 hlen]; exact Nat.le_trans h.len hlen
  · rcases hin id b hb with ⟨c1, c2, c3⟩ | ⟨c1, c3⟩
    · exact h.old id b hid c3 hl
    · have hidH : id < H.length := Nat.lt_of_lt_of_le hid h.len
      obtain ⟨b0, r1, r2, r3⟩ := h1.old id b (by rw [restr_len]; exact hidH) c3 hl
      rw [restr_get, Nat.zero_add] at r1
      cases hH : H[id]? with
      | none => rw [hH] at r1; cases r1
      | some c =>
        rw [hH] at r1
        simp only [Option.map_some, Option.some.injEq] at r1
        split at r1
        · subst r1
          obtain ⟨b1, s1, s2, s3⟩ := h.old id c hid hH r2
          exact ⟨b1, s1, s2, fun ho => s3 (r3 ho)⟩
        · subst r1; cases r2
  · rcases hin id b hb with ⟨c1, c2, c3⟩ | ⟨c1, c3⟩
    · exact h.new id i b hid (by rw [← hdom id c1]; exact hi) c3 hl hv
    · rcases Nat.lt_or_ge id H.length with hidH | hidH
      · obtain ⟨b0, r1, r2, r3⟩ := h1.old id b (by rw [restr_len]; exact hidH) c3 hl
        rw [restr_get, Nat.zero_add] at r1
        cases hH : H[id]? with
        | none => rw [hH] at r1; cases r1
        | some c =>
          rw [hH] at r1
          simp only [Option.map_some, Option.some.injEq] at r1
          split at r1
          · subst r1
            exact h.new id i c hid (by rw [← hdom id hidH]; exact hi) hH r2 hv
          · subst r1; cases r2
      · rcases h1.new id i b (by rw [restr_len]; exact hidH) hi c3 hl hv with h' | h'
        · exact .inl (Nat.le_trans h.size h')
        · obtain ⟨q, iq, bq, q1, q2, q3, q4, q5, q6⟩ := owned_restr h.mt h'
          exact h.orig _ ⟨q, iq, bq, q2, q3, q4, q5, q6⟩
  · have hnk : ¬ Owned m (Eng.restr R 0 H) k := fun ho => by
      obtain ⟨q, iq, bq, q1, q2, q3, q4, q5, q6⟩ := owned_restr h.mt ho
      rcases h.orig k ⟨q, iq, bq, q2, q3, q4, q5, q6⟩ with h' | h'
      · omega
      · exact hn h'
    rw [h1.keep k (Nat.lt_of_lt_of_le hk h.size) hnk]
    exact h.keep k hk hn
  · refine h1.keep k hk fun ho => ?_
    obtain ⟨q, iq, bq, q1, q2, q3, q4, q5, q6⟩ := owned_restr h.mt ho
    exact hno q (List.mem_filter.2 ⟨by simpa using q1, by rw [q3]; exact q4⟩) iq q2 q5 q6

/-! ### a call's results -/
def ares (I : Tab) (T : TM) (H : AHeap) : List ResultVar → Option (List Value)
  | [] => some []
  | .tmp t :: r => match T.lookup t, ares I T H r with
    | some v, some vs => some (v :: vs)
    | _, _ => none
  | .cell p t :: r => match T.lookup p, ares I T H r with
    | some u, some vs => match aLoad I t u H with
      | some (v, _, _) => some (v :: vs)
      | none => none
    | _, _ => none
def resOf (ts : Array Value) : ResultVar → Sem Value
  | .tmp t => pure (ts.getD t undef)
  | .cell p t => do loadVar t (← asAddr (ts.getD p undef))
def aresult : List Value → Value
  | [v] => v
  | vs => .tuple vs.toArray
theorem ares_ok (hI : TOk P I) {T : TM} {a : Act} (h : Run m0 H0 w0 H m w) (hT : TRel m T a) : ∀ {rs : List ResultVar} {vs : List Value}, ares I T H rs = some vs →
    ∃ us : List Value, LRel m vs us ∧ (rs.mapM (resOf a.tmps)).run P w = .ok us w
  | [], vs, hr => by cases hr; exact ⟨[], .nil m, by simp⟩
  | .tmp t :: r, vs, hr => by
    simp only [ares] at hr
    split at hr
    · rename_i v ws hv hws
      cases hr
      obtain ⟨us, h1, h2⟩ := ares_ok hI h hT hws
      refine ⟨_, .cons (hT t v hv).2 h1, ?_⟩
      simp only [List.mapM_cons, resOf, Sem.run_bind, Sem.run_pure, Result.andThen_ok, h2]
    · cases hr
  | .cell p t :: r, vs, hr => by
    simp only [ares] at hr
    split at hr
    · rename_i u ws hu hws
      split at hr
      · rename_i v H' tc hv
        cases hr
        obtain ⟨us, h1, h2⟩ := ares_ok hI h hT hws
        have hp := (hT p u hu).2
        unfold aLoad at hv
        split at hv
        · rename_i i id k s hi
          split at hv
          · rename_i b hb
            split at hv
            · rename_i cs hcs
              split at hv
              · rename_i v' hv'
                cases hv
                generalize hq : a.tmps.getD p undef = q at hp
                cases hp with
                | ptr hm hv0 =>
                  obtain ⟨b', hb', hB⟩ := h.mt.has _ _ hm
                  rw [hb] at hb'
                  cases hb'
                  obtain ⟨xs, hL, hc⟩ := rd_vals hB hcs hv0
                  have hlen : xs.length = i.size := by rw [← hL.1]; exact rd_len hcs
                  rcases tval_ok hv' with ⟨g1, rfl⟩ | ⟨g1, rfl⟩
                  · refine ⟨.agg xs.toArray :: us, .cons (.ofL hL) h1, ?_⟩
                    simp only [List.mapM_cons, resOf, hq, Sem.run_bind, asAddr, Sem.run_pure, pure_bind, Result.andThen_ok, run_loadVar_vals hI hi hlen hc rfl (.inl ⟨g1, rfl⟩), h2]
                  · obtain ⟨y, ys, rfl, hy, hys⟩ := hL.cons_inv
                    obtain rfl := hys.nil_inv
                    refine ⟨y :: us, .cons hy h1, ?_⟩
                    simp only [List.mapM_cons, resOf, hq, Sem.run_bind, asAddr, Sem.run_pure, pure_bind, Result.andThen_ok, run_loadVar_vals hI hi hlen hc rfl (.inr ⟨g1, rfl⟩), h2]
              · cases hv
            · cases hv
          · cases hv
        · cases hv
      · cases hr
    · cases hr
theorem aresult_pair {m : Mp} : ∀ {vs us : List Value}, LRel m vs us → ∃ u, VRel m (aresult vs) u ∧ (if h : us.toArray.size = 1 then us.toArray[0] else Value.tuple us.toArray) = u
  | [v], _, h1 => by
    obtain ⟨y, ys, rfl, h3, h4⟩ := h1.cons_inv
    obtain rfl := h4.nil_inv
    exact ⟨y, h3, by simp⟩
  | [], _, h1 => by
    obtain rfl := h1.nil_inv
    exact ⟨.tuple #[], .tuple rfl (fun j p q hp => by simp at hp), by simp⟩
  | v :: v2 :: vs, us, h1 => by
    refine ⟨.tuple us.toArray, ?_, ?_⟩
    · show VRel m (.tuple (v :: v2 :: vs).toArray) _
      exact .tuple (by simpa using h1.1) (fun j p q hp hq => h1.2 j p q (by simpa using hp) (by simpa using hq))
    · have hl := h1.1
      rw [dif_neg]
      simp at hl ⊢
      omega
theorem aresult_ok (hI : TOk P I) {T : TM} {a : Act} (h : Run m0 H0 w0 H m w) (hT : TRel m T a) {fn : Func} {vs : List Value} (hr : ares I T H fn.results.toList = some vs) :
    ∃ u, VRel m (aresult vs) u ∧ (results fn a.tmps).run P w = .ok u w := by
  obtain ⟨us, h1, h2⟩ := ares_ok hI h hT hr
  have hl := h1.1
  have hmap : (fn.results.mapM (resOf a.tmps)).run P w = .ok us.toArray w := by
    rw [Array.mapM_eq_mapM_toList, Sem.run_map, h2]
    rfl
  have hdef : results fn a.tmps = (fn.results.mapM (resOf a.tmps) >>= fun vs => pure (if h : vs.size = 1 then vs[0] else .tuple vs)) := by
    unfold results
    congr 1
  have hres : ∀ u : Value, (if h : us.toArray.size = 1 then us.toArray[0] else .tuple us.toArray) = u → (results fn a.tmps).run P w = .ok u w := by
    intro u hu
    rw [hdef, Sem.run_bind, hmap, Result.andThen_ok, Sem.run_pure, hu]
  obtain ⟨u, g1, g2⟩ := aresult_pair h1
  exact ⟨u, g1, hres u g2⟩

/-! ### calls -/
def args0 : Nat → List Value → TM
  | _, [] => []
  | k, v :: vs => (k, v) :: args0 (k + 1) vs
theorem args0_get {m : Mp} : ∀ (k : Nat) (vs us : List Value), LRel m vs us → ∀ t v, (args0 k vs).lookup t = some v → k ≤ t ∧ ∃ u, us[t - k]? = some u ∧ VRel m v u
  | _, [], _, _, t, v, h => by simp [args0] at h
  | k, x :: vs, us, hL, t, v, h => by
    obtain ⟨y, ys, rfl, h1, h2⟩ := hL.cons_inv
    simp only [args0, List.lookup_cons] at h
    by_cases e : t = k
    · subst e
      simp at h
      subst h
      exact ⟨Nat.le_refl _, y, by simp, h1⟩
    · have hb : (t == k) = false := by simpa using e
      rw [hb] at h
      obtain ⟨g1, u, g2, g3⟩ := args0_get (k + 1) vs ys h2 t v h
      refine ⟨by omega, u, ?_, g3⟩
      rw [show t - k = (t - (k + 1)) + 1 by omega]
      simpa using g2
/-- At a call's begin. -/
theorem ASat.start (h : Match m H w) {vs us : List Value} (hL : LRel m vs us) {n : Nat} (hn : us.length ≤ n) :
    ASat n m H w (args0 0 vs) H { tmps := us.toArray ++ Array.replicate (n - us.toArray.size) undef, defers := [] } w := by
  refine ⟨m, .start h, fun t v ht => ?_, by simp; omega, rfl⟩
  obtain ⟨_, u, h1, h2⟩ := args0_get 0 vs us hL t v ht
  simp only [Nat.sub_zero] at h1
  have hlt : t < us.length := (List.getElem?_eq_some_iff.1 h1).1
  refine ⟨by simp; omega, ?_⟩
  rw [Array.getD_eq_getD_getElem?, Array.getElem?_append_left (by simpa using hlt)]
  simp [h1, h2]

/-- Functions by their numbers. -/
abbrev Funs := FuncId → Option Func
def retE : Exit → Bool
  | .normal => true
  | .ret => true
  | _ => false
def fnOk (fn : Func) : Bool := fn.name != "runtime.NumGoroutine"
def acall (I : Tab) (F : Funs) : Nat → Sums
  | 0 => fun _ _ _ => none
  | n + 1 => fun f args H => match F f with
    | some fn => match fn.body with
      | some c => if fnOk fn = true ∧ args.length ≤ fn.ntmps then
          let R := reach H (n + 1) (args.flatMap (idsN 4)) []
          match aexec I (acall I F n) fn.ntmps n c (args0 0 args) (restr R 0 H) with
          | some (e, T, H1) => if retE e = true then match ares I T H1 fn.results.toList with
              | some vs => some (aresult vs, join R 0 H H1, R.filter fun id => ownB (H[id]?))
              | none => none
              else none
          | none => none
        else none
      | none => none
    | none => none
theorem acall_ok (hI : TOk P I) (hm : P.follows .mixedOrders = true) {F : Funs} (hF : ∀ f fn, F f = some fn → P.funcs[f]? = some fn) : ∀ n, SOk P (acall I F n)
  | 0 => ⟨fun _ _ _ _ _ _ h => (by cases h), fun _ _ _ _ _ _ h => (by cases h)⟩
  | n + 1 => by
    have ih := acall_ok hI hm hF n
    refine ⟨fun f args H v H' tc h => ?_, fun f args H v H' tc h => ?_⟩
    · simp only [acall] at h
      split at h
      · rename_i fn hfn
        split at h
        · rename_i c hc
          split at h
          · rename_i hok
            exact ⟨fn, hF f fn hfn, by simpa [fnOk] using hok.1, by rw [hc]; rfl⟩
          · cases h
        · cases h
      · cases h
    · simp only [acall] at h
      split at h
      · rename_i fn hfn
        split at h
        · rename_i c hc
          split at h
          · rename_i hok
            split at h
            · rename_i e T H1 hex
              split at h
              · rename_i he
                split at h
                · rename_i vs hvs
                  cases h
                  intro m0 H0 w0 m w args' hR hL
                  refine calls_of_wp (hF f fn hfn) hc ?_
                  have hl := hL.1
                  have hst := ASat.start (n := fn.ntmps) (hR.mt.restr (reach H (n + 1) (args.flatMap (idsN 4)) [])) hL (by rw [← hl]; exact hok.2)
                  refine Code.wp_mono (fun e' a' w' hp => ?_) (aexec_ok hI ih hm hex hst)
                  obtain ⟨rfl, hnp, m', h1, h2, h3, h4⟩ := hp
                  obtain ⟨u, h5, h6⟩ := aresult_ok hI h1 h2 hvs
                  obtain ⟨j1, j2⟩ := hR.join h1
                  have key : a'.defers = [] ∧ ∃ v, (results fn a'.tmps).run P w' = .ok v w' ∧ ∃ (m'' : Mp) (v' : Value), Ending.returned v = .returned v' ∧ Run m0 H0 w0 (Eng.join (reach H (n + 1) (args.flatMap (idsN 4)) []) 0 H H1) m'' w' ∧ Mp.le m m'' ∧ VRel m'' (aresult vs) v' ∧ Frame m ((reach H (n + 1) (args.flatMap (idsN 4)) []).filter fun id => ownB (H[id]?)) w w' :=
                    ⟨h4, u, h6, m', u, rfl, j1, h1.ext, h5, j2⟩
                  cases e' with
                  | normal => exact key
                  | ret => exact key
                  | exit id => cases he
                  | goto l => cases hnp
                  | panic ch => cases hnp
                  | outgrown => cases hnp
                · cases h
              · cases h
            · cases h
          · cases h
        · cases h
      · cases h
end
end Go.Proofs.Ytpgkbdkkcladcaa.Eng
/- The engine, part 12: the program's own tables; a call that is handed nothing. A lemma file: it claims nothing of the program. -/
namespace Go.Proofs.Ytpgkbdkkcladcaa.Eng
open Go Go.Lib Go.RowKit

/-! ### equality of structs of numbers, bools, texts -/
def fieldsEq (P : Program) (rec : TypeId → Option (List CK)) : Nat → List Field → Option (List CK)
  | _, [] => some []
  | o, f :: fs => if f.offset = o ∧ f.name ≠ "_" then match rec f.type, fieldsEq P rec (o + P.cellsOf f.type) fs with
    | some a, some b => if a.length = P.cellsOf f.type then some (a ++ b) else none
    | _, _ => none
    else none
def eqOk (P : Program) : Nat → TypeId → Option (List CK)
  | 0, _ => none
  | d + 1, t => match P.underlying t with
    | some (.int k) => if P.cellsOf t = 1 then some [.i k] else none
    | some .bool => if P.cellsOf t = 1 then some [.b] else none
    | some .string => if P.cellsOf t = 1 then some [.s] else none
    | some (.struct fs) => if P.stoodInHeld t = false then fieldsEq P (eqOk P d) 0 fs.toList else none
    | _ => none
def isAggT (P : Program) (t : TypeId) : Bool := match P.underlying t with
  | some (.struct _) => true
  | some (.array _ _) => true
  | _ => false
/-- A value of a type, out of its cells. -/
def valOf (P : Program) (t : TypeId) (cs : List Value) : Value := if isAggT P t = true then .agg cs.toArray else cs.headD undef
section
variable {P : Program} {w : World}
theorem eqL_len : ∀ {cs : List CK} {xs ys : List Value} {b : Bool}, eqL cs xs ys = some b → xs.length = cs.length ∧ ys.length = cs.length
  | [], [], [], _, _ => ⟨rfl, rfl⟩
  | [], [], _ :: _, _, h => by simp [eqL] at h
  | [], _ :: _, _, _, h => by simp [eqL] at h
  | _ :: _, [], _, _, h => by simp [eqL] at h
  | _ :: _, _ :: _, [], _, h => by simp [eqL] at h
  | c :: cs, x :: xs, y :: ys, b, h => by
    simp only [eqL] at h
    split at h
    · rename_i p q hp hq; simp [eqL_len hq]
    · cases h
theorem eqL_part : ∀ (az : List CK) {bs : List CK} {xs ys : List Value} {b : Bool}, eqL (az ++ bs) xs ys = some b → ∃ p q, eqL az (xs.take az.length) (ys.take az.length) = some p ∧ eqL bs (xs.drop az.length) (ys.drop az.length) = some q ∧ b = (p && q)
  | [], bs, xs, ys, b, h => ⟨true, b, by simp [eqL], by simpa using h, by simp⟩
  | a :: az, _, [], [], b, h => by simp [eqL] at h
  | a :: az, _, [], _ :: _, _, h => by simp [eqL] at h
  | a :: az, _, _ :: _, [], _, h => by simp [eqL] at h
  | a :: az, bs, x :: xs, y :: ys, b, h => by
    simp only [List.cons_append, eqL] at h
    split at h
    · rename_i p q hp hq
      cases h
      obtain ⟨p', q', h1, h2, rfl⟩ := eqL_part az hq
      refine ⟨p && p', q', ?_, by simpa using h2, by simp [Bool.and_assoc]⟩
      simp only [List.length_cons, List.take_succ_cons, eqL, hp, h1]
    · cases h
theorem run_part_val {t : TypeId} {d : TypeDesc} (hu : P.underlying t = some d) (hs : (sizeOf t).run P w = .ok (P.cellsOf t) w) {cs : List Value} {off : Nat} (h1 : isAggT P t = false → P.cellsOf t = 1) (hl : isAggT P t = false → off + P.cellsOf t ≤ cs.length) :
    (part t cs.toArray off).run P w = .ok (valOf P t ((cs.drop off).take (P.cellsOf t))) w := by
  have hagg : (isAgg t).run P w = .ok (isAggT P t) w := by
    unfold Go.isAgg isAggT
    rw [Sem.run_bind, run_underlying hu w, Result.andThen_ok, hu]
    cases d <;> rfl
  unfold part valOf
  rw [Sem.run_bind, hagg, Result.andThen_ok]
  cases hq : isAggT P t with
  | true =>
    simp only [if_true, Sem.run_bind, hs, Result.andThen_ok, Sem.run_pure]
    congr 2
    apply Array.ext'
    simp [List.extract_eq_take_drop]
  | false =>
    have := h1 hq
    have hl := hl hq
    rw [this] at hl ⊢
    have hlt : off < cs.length := by omega
    have e1 : cs.toArray[off]? = some cs[off] := by simp [hlt]
    have e2 : ((cs.drop off).take 1).headD undef = cs[off] := by
      rw [List.drop_eq_getElem_cons hlt]
      rw [List.take_succ_cons, List.headD_cons]
    simp only [Bool.false_eq_true, if_false, e1, e2, Sem.run_pure]
theorem sizeOf_run {t : TypeId} {d : TypeDesc} (hu : P.underlying t = some d) : (sizeOf t).run P w = .ok (P.cellsOf t) w := by
  unfold Program.underlying at hu
  cases hq : P.info? t with
  | none => rw [hq] at hu; cases hu
  | some i => simp [sizeOf, typeInfo, hq, Program.cellsOf]
theorem eqOk_und : ∀ {d : Nat} {t : TypeId} {cs : List CK}, eqOk P d t = some cs → ∃ u, P.underlying t = some u ∧ (isAggT P t = false → P.cellsOf t = 1)
  | 0, _, _, h => by cases h
  | d + 1, t, cs, h => by
    simp only [eqOk] at h
    split at h
    · rename_i hu; split at h
      · rename_i hc; exact ⟨_, hu, fun _ => hc⟩
      · cases h
    · rename_i hu; split at h
      · rename_i hc; exact ⟨_, hu, fun _ => hc⟩
      · cases h
    · rename_i hu; split at h
      · rename_i hc; exact ⟨_, hu, fun _ => hc⟩
      · cases h
    · rename_i fs hu; exact ⟨_, hu, fun h => by simp [isAggT, hu] at h⟩
    · cases h
theorem eqOne {c : CK} {xs ys : List Value} {b : Bool} (he : eqL [c] xs ys = some b) : ∃ x y, xs = [x] ∧ ys = [y] ∧ eqV c x y = some b := by
  match xs, ys, he with
  | [x], [y], he =>
    refine ⟨x, y, rfl, rfl, ?_⟩
    simp only [eqL] at he
    split at he
    · rename_i p q hp hq
      cases hq
      cases he
      simpa using hp
    · cases he
  | [], [], he => simp [eqL] at he
  | [], _ :: _, he => simp [eqL] at he
  | _ :: _, [], he => simp [eqL] at he
  | [_], _ :: _ :: _, he => simp [eqL] at he
  | _ :: _ :: _, [_], he => simp [eqL] at he
  | _ :: _ :: _, _ :: _ :: _, he => simp [eqL] at he
theorem eqOk_run : ∀ (d : Nat) (t : TypeId) (D : Nat) (cs : List CK) (xs ys : List Value) (b : Bool), eqOk P d t = some cs → d ≤ D → eqL cs xs ys = some b → (Op.equalIn D t (valOf P t xs) (valOf P t ys)).run P w = .ok b w
  | 0, _, _, _, _, _, _, h, _, _ => by cases h
  | d + 1, t, D, cs, xs, ys, b, h, hD, he => by
    obtain ⟨D, rfl⟩ : ∃ D', D = D' + 1 := ⟨D - 1, by omega⟩
    simp only [eqOk] at h
    split at h
    · rename_i k hu
      split at h
      · cases h
        obtain ⟨x, y, rfl, rfl, h3⟩ := eqOne he
        have ha : isAggT P t = false := by simp [isAggT, hu]
        simp only [valOf, ha, Bool.false_eq_true, if_false, List.headD_cons]
        cases x <;> cases y <;> simp only [eqV] at h3 <;> first | (cases h3; done) | skip
        split at h3
        · rename_i hk; obtain ⟨rfl, rfl⟩ := hk; cases h3; exact run_equalIn_int w D t _ _ _ _ hu
        · cases h3
      · cases h
    · rename_i hu
      split at h
      · cases h
        obtain ⟨x, y, rfl, rfl, h3⟩ := eqOne he
        have ha : isAggT P t = false := by simp [isAggT, hu]
        simp only [valOf, ha, Bool.false_eq_true, if_false, List.headD_cons]
        cases x <;> cases y <;> simp only [eqV] at h3 <;> first | (cases h3; done) | skip
        cases h3; exact run_equalIn_bool' w D t _ _ hu
      · cases h
    · rename_i hu
      split at h
      · cases h
        obtain ⟨x, y, rfl, rfl, h3⟩ := eqOne he
        have ha : isAggT P t = false := by simp [isAggT, hu]
        simp only [valOf, ha, Bool.false_eq_true, if_false, List.headD_cons]
        cases x <;> cases y <;> simp only [eqV] at h3 <;> first | (cases h3; done) | skip
        cases h3
        exact run_equalIn_string w D t _ _ hu
      · cases h
    · rename_i fs hu
      split at h
      · rename_i hp
        have ha : isAggT P t = true := by simp [isAggT, hu]
        have hfo : P.fieldsOf t = fs := by simp [Program.fieldsOf, hu]
        have e1 : valOf P t xs = .agg xs.toArray := by simp [valOf, ha]
        have e2 : valOf P t ys = .agg ys.toArray := by simp [valOf, ha]
        rw [e1, e2, run_equalIn_struct w D t _ _ (by rw [hfo]; exact hu) hp, hfo]
        have key : ∀ (fs : List Field) (o : Nat) (cs : List CK) (b : Bool), fieldsEq P (eqOk P d) o fs = some cs → eqL cs (xs.drop o) (ys.drop o) = some b → (Op.eqFields D xs.toArray ys.toArray fs).run P w = .ok b w := by
          intro fs
          induction fs with
          | nil =>
            intro o cs b hfe hb
            cases hfe
            have : b = true := by
              have := eqL_len hb
              simp only [List.length_nil, List.length_eq_zero_iff] at this
              rw [this.1, this.2] at hb
              simp [eqL] at hb; rw [hb]
            subst this
            simp [Op.eqFields]
          | cons f fs ih =>
            intro o cs b hfe hb
            simp only [fieldsEq] at hfe
            split at hfe
            · rename_i hc
              obtain ⟨c1, c2⟩ := hc
              split at hfe
              · rename_i az bs has hbs
                split at hfe
                · rename_i hal
                  cases hfe
                  have hlen := eqL_len hb
                  simp only [List.length_drop, List.length_append] at hlen
                  obtain ⟨u, hu', hone⟩ := eqOk_und has
                  obtain ⟨p, q, h1, h2, rfl⟩ := eqL_part az hb
                  have hs := sizeOf_run (w := w) hu'
                  have hpx := run_part_val (w := w) hu' hs (cs := xs) (off := o) hone (fun h0 => by have := hone h0; omega)
                  have hpy := run_part_val (w := w) hu' hs (cs := ys) (off := o) hone (fun h0 => by have := hone h0; omega)
                  rw [hal] at h1
                  have hrec := eqOk_run d f.type D _ _ _ p has (by omega) h1
                  have ht := ih _ _ q hbs (by rw [hal, List.drop_drop, List.drop_drop] at h2; exact h2)
                  unfold Op.eqFields
                  rw [if_pos c2]
                  simp only [Sem.run_bind, c1, hpx, hpy, Result.andThen_ok, hrec]
                  cases p with
                  | false => simp
                  | true => simp [ht]
                · cases hfe
              · cases hfe
            · cases hfe
        exact key fs.toList 0 _ b h (by simpa using he)
      · cases h
    · cases h
end
def tinfoT (P : Program) : Tab := fun t => match P.underlying t, P.info? t with
  | some u, some inf => match inf.zero with
    | some z => some ⟨tdOf u, inf.size, inf.bytes, z, if isAggT P t = true ∧ P.eqGuardType P.depth t = false then (match eqOk P 8 t with | some cs => if cs.length = inf.size then some cs else none | none => none) else none⟩
    | none => none
  | _, _ => none
theorem tinfoT_ok (P : Program) : TOk P (tinfoT P) := by
  refine ⟨fun t i h => ?_, fun t i cs h he => ?_⟩
  · unfold tinfoT at h
    split at h
    · rename_i u inf hu hinf
      split at h
      · rename_i z hz
        cases h
        exact ⟨u, inf, hu, hinf, rfl, rfl, rfl, hz⟩
      · cases h
    · cases h
  · unfold tinfoT at h
    split at h
    · rename_i u inf hu hinf
      split at h
      · cases h
        dsimp only at he
        split at he
        · rename_i hc
          split at he
          · rename_i cs' hk
            split at he
            · cases he
              refine ⟨hc.2, fun xs ys b w hl hb => ?_⟩
              have := eqOk_run (w := w) 8 t 10000 _ xs ys b hk (by omega) hb
              simpa [valOf, hc.1] using this
            · cases he
          · cases he
        · cases he
      · cases h
    · cases h
def funsT (P : Program) : Funs := fun f => P.funcs[f]?
/-- A call that is handed nothing, reckoned: it answers true. -/
def isTrue (r : Res) : Bool := match r with
  | some (.bool b, _, _) => b
  | _ => false
theorem true_calls {P : Program} {I : Tab} {F : Funs} {n : Nat} {f : FuncId} (hI : TOk P I) (hm : P.follows .mixedOrders = true) (hF : ∀ f fn, F f = some fn → P.funcs[f]? = some fn) (h : isTrue (acall I F n f [] []) = true) (w : World) (hB : Base w := by trivial) :
    Calls P f #[] w fun e w' => e = .returned (.bool true) ∧ Below w.heap.size w w' := by
  cases hr : acall I F n f [] [] with
  | none => rw [hr] at h; cases h
  | some r =>
    obtain ⟨v, H', tc⟩ := r
    rw [hr] at h
    have hv : v = .bool true := by cases v <;> simp [isTrue] at h; rw [h]
    subst hv
    have hM : Match (fun _ => none) [] w := ⟨fun _ _ h => (by cases h), fun _ _ _ _ _ _ h => (by cases h), hB, fun _ _ _ h => (by cases h)⟩
    refine ((acall_ok hI hm hF n).ok f [] [] _ _ _ hr _ _ _ _ _ [] (.start hM) (.nil _)).mono ?_
    rintro e w' ⟨m', v', rfl, h1, h2, h3, h4⟩
    cases h3
    refine ⟨rfl, h1.os, h1.tape, h1.output, h1.size, fun k hk => h1.keep k hk ?_⟩
    rintro ⟨id, i, b, h, _⟩
    cases h
end Go.Proofs.Ytpgkbdkkcladcaa.Eng
/- The engine, part 13: regions by what must hold behind them, and functions by what is claimed of them. A lemma file: it claims nothing of the program. -/
namespace Go.Proofs.Ytpgkbdkkcladcaa.Eng
open Go Go.Lib

/-- What must hold behind what an operation gives. -/
def OP (r : Res) (k : Value → AHeap → List Nat → Prop) : Prop := match r with
  | some (v, H', tc) => k v H' tc
  | none => False
theorem OP_some (v : Value) (H : AHeap) (tc : List Nat) (k : Value → AHeap → List Nat → Prop) : OP (some (v, H, tc)) k = k v H tc := rfl
theorem OP_none (k : Value → AHeap → List Nat → Prop) : OP none k = False := rfl
theorem OP.congr {r r' : Res} {k : Value → AHeap → List Nat → Prop} (h : r = r') : OP r k = OP r' k := by rw [h]
theorem OP.inv {r : Res} {k : Value → AHeap → List Nat → Prop} (h : OP r k) : ∃ v H' tc, r = some (v, H', tc) ∧ k v H' tc := by
  unfold OP at h
  split at h
  · exact ⟨_, _, _, rfl, h⟩
  · exact h.elim
/-- Whether a guarded operation is done. -/
def WP (b : Option Bool) (x y : Prop) : Prop := match b with
  | some true => x
  | some false => y
  | none => False
theorem WP.congr {b b' : Option Bool} {x y : Prop} (h : b = b') : WP b x y = WP b' x y := by rw [h]
/-- A number's operation. -/
def OI (r : Option Oper) (k : Oper → Prop) : Prop := match r with
  | some o => k o
  | none => False
theorem OI_some (o : Oper) (k : Oper → Prop) : OI (some o) k = k o := rfl
theorem OI.congr {r r' : Option Oper} {k : Oper → Prop} (h : r = r') : OI r k = OI r' k := by rw [h]
attribute [congr] OP.congr WP.congr OI.congr
def RP (I : Tab) (G : Sums) (N : Nat) (ops : Array Oper) : List Oper → TM → AHeap → (TM → AHeap → Prop) → Prop
  | [], T, H, K => K T H
  | o :: rest, T, H, K => dstOk N o.dst = true ∧ WP (wantedA ops o T)
      (OP (aop I G o.op T H) fun v H' _ => RP I G N ops rest (put T o.dst v) H' K)
      (RP I G N ops rest (put T o.dst undef) H K)
theorem RP.inv {I : Tab} {G : Sums} {N : Nat} {ops : Array Oper} {K : TM → AHeap → Prop} : ∀ {l : List Oper} {T : TM} {H : AHeap}, RP I G N ops l T H K → ∃ T' H', areg I G N ops l T H = some (T', H') ∧ K T' H'
  | [], T, H, h => ⟨T, H, rfl, h⟩
  | o :: rest, T, H, h => by
    obtain ⟨hd, h⟩ := h
    unfold WP at h
    split at h
    · rename_i hw
      obtain ⟨v, H', tc, he, h⟩ := h.inv
      obtain ⟨T', H'', h1, h2⟩ := RP.inv h
      exact ⟨T', H'', by simp only [areg, hw, he, hd, if_true]; exact h1, h2⟩
    · rename_i hw
      obtain ⟨T', H'', h1, h2⟩ := RP.inv h
      exact ⟨T', H'', by simp only [areg, hw, hd, if_true]; exact h1, h2⟩
    · exact h.elim
/-- Drawn regions: a step's own condition. -/
def dok (H : AHeap) (o : Oper) (tc : List Nat) (L : List (Nat × Nat)) : Bool := tc.all (fun q => ownB (H[q]?)) && L.all (fun p => waits o p.1 || (!tc.contains p.2 && liveB (H[p.2]?)))
def lnext (o : Oper) (i : Nat) (T : TM) (L : List (Nat × Nat)) : List (Nat × Nat) := match loadId o.op T with
  | some id => (i, id) :: L
  | none => L
def DP (I : Tab) (G : Sums) (N : Nat) (ops : Array Oper) : List Nat → TM → AHeap → List (Nat × Nat) → (TM → AHeap → Prop) → Prop
  | [], T, H, _, K => K T H
  | i :: r, T, H, L, K => OI (ops.toList[i]?) fun o => dstOk N o.dst = true ∧ WP (wantedA ops o T)
      (OP (aop I G o.op T H) fun v H' tc => WP (some (freeOp o.op)) (DP I G N ops r (put T o.dst v) H' (lnext o i T L) K) (dok H o tc L = true ∧ DP I G N ops r (put T o.dst v) H' L K))
      (DP I G N ops r (put T o.dst undef) H L K)
theorem DP.inv {I : Tab} {G : Sums} {N : Nat} {ops : Array Oper} {K : TM → AHeap → Prop} : ∀ {l : List Nat} {T : TM} {H : AHeap} {L : List (Nat × Nat)}, DP I G N ops l T H L K → ∃ T' H', dreg I G N ops l T H L = some (T', H') ∧ K T' H'
  | [], T, H, L, h => ⟨T, H, rfl, h⟩
  | i :: r, T, H, L, h => by
    unfold DP at h
    cases ho : ops.toList[i]? with
    | none => rw [ho] at h; exact h.elim
    | some o =>
      rw [ho] at h
      have ho' : ops[i]? = some o := by simpa using ho
      obtain ⟨hd, h⟩ := h
      unfold WP at h
      split at h
      · rename_i hw
        obtain ⟨v, H', tc, he, h⟩ := h.inv
        split at h
        · rename_i hf
          have hf : freeOp o.op = true := by simpa using hf
          obtain ⟨T', H'', h1, h2⟩ := DP.inv h
          exact ⟨T', H'', by simp only [dreg, ho', hw, he, hd, hf, if_true]; exact h1, h2⟩
        · rename_i hf
          have hf : freeOp o.op = false := by simpa using hf
          obtain ⟨hk, h⟩ := h
          obtain ⟨T', H'', h1, h2⟩ := DP.inv h
          refine ⟨T', H'', ?_, h2⟩
          unfold dok at hk
          simp only [dreg, ho', hw, he, hd, if_true, hf]
          rw [if_neg (by simp), if_pos hk]
          exact h1
        · exact h.elim
      · rename_i hw
        obtain ⟨T', H'', h1, h2⟩ := DP.inv h
        exact ⟨T', H'', by simp only [dreg, ho', hw, hd, if_true]; exact h1, h2⟩
      · exact h.elim

section
variable {P : Program} {I : Tab} {G : Sums} {N : Nat} {H0 : AHeap} {T : TM} {H : AHeap} {Q : Exit → TM → AHeap → Prop} {c x y : Code}
/-- What is behind a region, shut away from the walk. -/
structure Kx (K : TM → AHeap → Prop) (Q : Exit → TM → AHeap → Prop) : Prop where
  k : ∀ T' H', Q .normal T' H' → K T' H'
theorem AW.regionK (hI : TOk P I) (hG : SOk P G) {id : Nat} {ops : Array Oper} (h : ∀ K : TM → AHeap → Prop, Kx K Q → RP I G N ops ops.toList T H K) : AW P N H0 (.region id ops false) T H Q := by
  obtain ⟨T', H', h1, h2⟩ := (h (Q .normal) ⟨fun _ _ h => h⟩).inv
  exact .region hI hG h1 h2
theorem AW.drawK (hI : TOk P I) (hG : SOk P G) (hm : P.follows .mixedOrders = true) {id : Nat} {ops : Array Oper} (ord : List Nat) (ho : planOk ops ord = true)
    (h : ∀ K : TM → AHeap → Prop, Kx K Q → DP I G N ops ord T H [] K) : AW P N H0 (.region id ops true) T H Q := by
  obtain ⟨T', H', h1, h2⟩ := (h (Q .normal) ⟨fun _ _ h => h⟩).inv
  simp only [planOk, Bool.and_eq_true, beq_iff_eq] at ho
  exact .draw hI hG hm ho.1.1 ho.1.2 ho.2 h1 h2
theorem thenQ.norm {K : TM → AHeap → Prop} (h : K T H) : thenQ K Q .normal T H := h
theorem AW.seqS (h : AW P N H0 x T H (thenQ (fun T H => AW P N H0 y T H Q) Q)) : AW P N H0 (.seq x y) T H Q := .seq h
theorem AW.condS {o : Operand} (b : Bool) (hb : ev T o = some (.bool b)) (h1 : b = true → AW P N H0 x T H Q) (h2 : b = false → AW P N H0 y T H Q) : AW P N H0 (.cond o x y) T H Q := by
  refine .cond hb ?_
  cases b with
  | true => exact h1 rfl
  | false => exact h2 rfl

/-! ### functions by what is claimed of them -/
abbrev Sum := List Value → AHeap → Res
/-- What is claimed of a function is true. -/
structure SumOk (P : Program) (f : FuncId) (S : Sum) : Prop where
  fn : ∃ fn, P.funcs[f]? = some fn ∧ fn.name ≠ "runtime.NumGoroutine" ∧ fn.body.isSome = true
  ok : ∀ args H v H' tc, S args H = some (v, H', tc) → ∀ m0 H0 w0 m w args', Run m0 H0 w0 H m w → LRel m args args' → CallGood P m0 H0 w0 m f args'.toArray w v H' tc
def noSums : Sums := fun _ _ _ => none
theorem noSums_ok : SOk P noSums := ⟨fun _ _ _ _ _ _ h => (by cases h), fun _ _ _ _ _ _ h => (by cases h)⟩
def addS (f : FuncId) (S : Sum) (G : Sums) : Sums := fun g => if g = f then S else G g
theorem SOk.add (hG : SOk P G) {f : FuncId} {S : Sum} (hS : SumOk P f S) : SOk P (addS f S G) :=
  ⟨fun g args H v H' tc h => by
    unfold addS at h
    split at h
    · rename_i e; subst e; exact hS.fn
    · exact hG.fn g args H v H' tc h,
  fun g args H v H' tc h => by
    unfold addS at h
    split at h
    · rename_i e; subst e; exact hS.ok args H v H' tc h
    · exact hG.ok g args H v H' tc h⟩
/-- How a function ends. -/
def Ends (I : Tab) (fn : Func) (Z : Value → AHeap → Prop) : Exit → TM → AHeap → Prop := fun e T H1 => retE e = true ∧ ∃ vs, ares I T H1 fn.results.toList = some vs ∧ Z (aresult vs) H1
theorem SumOk.mk' (hI : TOk P I) {f : FuncId} {S : Sum} {fn : Func} {c : Code} (hf : P.funcs[f]? = some fn) (hc : fn.body = some c) (hn : (fn.name != "runtime.NumGoroutine") = true)
    (h : ∀ args H v H' tc, S args H = some (v, H', tc) → args.length ≤ fn.ntmps ∧ ∃ R : List Nat, tc = (R.filter fun id => ownB (H[id]?)) ∧ ∀ Hr : AHeap, Hr.length = H.length → (∀ id, R.contains id = true → Hr[id]? = H[id]?) →
      AW P fn.ntmps Hr c (args0 0 args) Hr (Ends I fn fun u H1 => u = v ∧ join R 0 H H1 = H')) : SumOk P f S := by
  refine ⟨⟨fn, hf, by simpa using hn, by rw [hc]; rfl⟩, fun args H v H' tc hS m0 H0 w0 m w args' hR hL => ?_⟩
  obtain ⟨hlen, R, rfl, hA⟩ := h args H v H' tc hS
  refine calls_of_wp hf hc ?_
  have hl := hL.1
  have hst := ASat.start (n := fn.ntmps) (hR.mt.restr R) hL (by rw [← hl]; exact hlen)
  have hA := hA (restr R 0 H) (restr_len R 0 H) (fun id hid => by
    rw [restr_get]
    simp only [Nat.zero_add, hid, if_true]
    cases H[id]? <;> rfl)
  refine Code.wp_mono (fun e' a' w' hp => ?_) (hA.run _ _ _ _ (hR.mt.restr R) hst)
  obtain ⟨hnp, T, H1, ⟨he, vs, hvs, rfl, rfl⟩, m', h1, h2, h3, h4⟩ := hp
  obtain ⟨u, h5, h6⟩ := aresult_ok hI h1 h2 hvs
  obtain ⟨j1, j2⟩ := hR.join h1
  have key : a'.defers = [] ∧ ∃ v, (results fn a'.tmps).run P w' = .ok v w' ∧ ∃ (m'' : Mp) (v' : Value), Ending.returned v = .returned v' ∧ Run m0 H0 w0 (Eng.join R 0 H H1) m'' w' ∧ Mp.le m m'' ∧ VRel m'' (aresult vs) v' ∧ Frame m (R.filter fun id => ownB (H[id]?)) w w' :=
    ⟨h4, u, h6, m', u, rfl, j1, h1.ext, h5, j2⟩
  cases e' with
  | normal => exact key
  | ret => exact key
  | exit id => cases he
  | goto l => cases hnp
  | panic ch => cases hnp
  | outgrown => cases hnp
end
end Go.Proofs.Ytpgkbdkkcladcaa.Eng
/- The engine, part 14: what is known, under other names, and what is known no more. A lemma file: it claims nothing of the program. -/
namespace Go.Proofs.Ytpgkbdkkcladcaa.Eng
open Go Go.Lib

/-- What names those alone that a lesser map knows. -/
theorem VRel.cov {a m m1 : Mp} (h1 : Mp.le a m) (h2 : Mp.le a m1) {v u0 : Value} (h : VRel a v u0) : ∀ {u : Value}, VRel m v u → VRel m1 v u := by
  induction h with
  | bool b => intro u h; cases h; exact .bool _
  | int k n => intro u h; cases h; exact .int _ _
  | str s => intro u h; cases h; exact .str _
  | nilp => intro u h; cases h; exact .nilp
  | nils => intro u h; cases h; exact .nils
  | nili => intro u h; cases h; exact .nili
  | nilf => intro u h; cases h; exact .nilf
  | ptr h hv =>
    intro u k
    cases k with
    | ptr k kv =>
      have := h1 _ _ h
      rw [k] at this
      cases this
      exact .ptr (h2 _ _ h) kv
  | slc h hv hl hc =>
    intro u k
    have g := h1 _ _ h
    cases k with
    | slc k kv kl kc => rw [k] at g; cases g; exact .slc (h2 _ _ h) kv kl kc
    | vslc k kv => rw [k] at g; cases g; exact .vslc (h2 _ _ h) kv
    | eslc k kv => rw [k] at g; cases g; exact .eslc (h2 _ _ h) kv
  | vslc h hv =>
    intro u k
    have g := h1 _ _ h
    cases k with
    | slc k kv kl kc => rw [k] at g; cases g; exact .slc (h2 _ _ h) kv kl kc
    | vslc k kv => rw [k] at g; cases g; exact .vslc (h2 _ _ h) kv
    | eslc k kv => rw [k] at g; cases g; exact .eslc (h2 _ _ h) kv
  | eslc h hv =>
    intro u k
    have g := h1 _ _ h
    cases k with
    | slc k kv kl kc => rw [k] at g; cases g; exact .slc (h2 _ _ h) kv kl kc
    | vslc k kv => rw [k] at g; cases g; exact .vslc (h2 _ _ h) kv
    | eslc k kv => rw [k] at g; cases g; exact .eslc (h2 _ _ h) kv
  | @agg cs cs' hs hh ih =>
    intro u k
    cases k with
    | @agg _ ds ks kk =>
      refine .agg ks fun j x y hx hy => ?_
      have hj : j < cs'.size := by rw [← hs]; exact (Array.getElem?_eq_some_iff.1 hx).1
      exact ih j x _ hx (Array.getElem?_eq_getElem hj) (kk j x y hx hy)
  | @tuple cs cs' hs hh ih =>
    intro u k
    cases k with
    | @tuple _ ds ks kk =>
      refine .tuple ks fun j x y hx hy => ?_
      have hj : j < cs'.size := by rw [← hs]; exact (Array.getElem?_eq_some_iff.1 hx).1
      exact ih j x _ hx (Array.getElem?_eq_getElem hj) (kk j x y hx hy)
  | iface h ih => intro u k; cases k with | iface k => exact .iface (ih k)
  | @func fn p p' q q' hs hh hs2 hh2 ih ih2 =>
    intro u k
    cases k with
    | @func _ _ _ _ _ ks kk ks2 kk2 =>
      refine .func ks (fun j x y hx hy => ?_) ks2 (fun j x y hx hy => ?_)
      · have hj : j < p'.size := by rw [← hs]; exact (Array.getElem?_eq_some_iff.1 hx).1
        exact ih j x _ hx (Array.getElem?_eq_getElem hj) (kk j x y hx hy)
      · have hj : j < q'.size := by rw [← hs2]; exact (Array.getElem?_eq_some_iff.1 hx).1
        exact ih2 j x _ hx (Array.getElem?_eq_getElem hj) (kk2 j x y hx hy)
theorem LRel.cov {a m m1 : Mp} (h1 : Mp.le a m) (h2 : Mp.le a m1) {vs us0 us : List Value} (h : LRel a vs us0) (k : LRel m vs us) : LRel m1 vs us :=
  ⟨k.1, fun j x y hx hy => by
    have hj : j < us0.length := by rw [← h.1]; exact (List.getElem?_eq_some_iff.1 hx).1
    exact (h.2 j x _ hx (List.getElem?_eq_getElem hj)).cov h1 h2 (k.2 j x y hx hy)⟩
theorem BRel.cov {a m m1 : Mp} (h1 : Mp.le a m) (h2 : Mp.le a m1) {w0 w : World} {i0 i : MI} {b : ABlk} (h : BRel a w0 i0 b) (k : BRel m w i b) : BRel m1 w i b := by
  cases b with
  | cells vs =>
    obtain ⟨_, _, _, cs0, T0, _, g6⟩ := h
    obtain ⟨k1, k2, k3, cs, T, k5, k6⟩ := k
    exact ⟨k1, k2, k3, cs, T, k5, g6.cov h1 h2 k6⟩
  | ro vs =>
    obtain ⟨_, _, _, cs0, T0, _, g6⟩ := h
    obtain ⟨k1, k2, k3, cs, T, k5, k6⟩ := k
    exact ⟨k1, k2, k3, cs, T, k5, g6.cov h1 h2 k6⟩
  | row s z els =>
    obtain ⟨_, _, _, g4⟩ := h
    obtain ⟨k1, k2, k3, k4⟩ := k
    refine ⟨k1, k2, k3, k4.imp id ?_⟩
    rintro ⟨k5, cs, T, k7, k8, k9, k10⟩
    refine ⟨k5, cs, T, k7, k8, k9, fun e c he => ?_⟩
    rcases g4 with ⟨_, ge, _⟩ | ⟨_, cs0, T0, _, _, _, g10⟩
    · rw [ge] at he; simp at he
    · exact (g10 e c he).cov h1 h2 (k10 e c he)
  | old s z els =>
    obtain ⟨_, _, g4⟩ := h
    obtain ⟨k1, k2, k4⟩ := k
    refine ⟨k1, k2, k4.imp id ?_⟩
    rintro ⟨k5, k6, k7⟩
    refine ⟨k5, k6, fun e c q v he hv => ?_⟩
    obtain ⟨b, hb, hr⟩ := k7 e c q v he hv
    rcases g4 with ⟨_, ge, _⟩ | ⟨_, _, g7⟩
    · rw [ge] at he; simp at he
    · obtain ⟨b0, _, hr0⟩ := g7 e c q v he hv
      exact ⟨b, hb, hr0.cov h1 h2 hr⟩
  | iter s p => exact k
  | dead => trivial

/-- A value, under other names. -/
def VTo (m m1 : Mp) (v v' : Value) : Prop := ∀ u, VRel m v u → VRel m1 v' u
def LTo (m m1 : Mp) (vs vs' : List Value) : Prop := ∀ us, LRel m vs us → LRel m1 vs' us
def BTo (m m1 : Mp) (b b' : ABlk) : Prop := ∀ w i, BRel m w i b → BRel m1 w i b'
def maps (π : Nat → Nat) (n : Nat) (m : Mp) : Mp := fun j => if j < n then m (π j) else none

section
variable {m0 : Mp} {H0 : AHeap} {w0 : World} {H : AHeap} {m : Mp} {w w' : World}
theorem maps_le (h : Run m0 H0 w0 H m w) (h0 : Match m0 H0 w0) {π : Nat → Nat} {n : Nat} (hlen : H0.length ≤ n) (hid : ∀ j, j < H0.length → π j = j) : Mp.le m0 (maps π n m) := fun id i hi => by
  have hl := h0.lt hi
  unfold maps
  rw [if_pos (by omega), hid id hl]
  exact h.ext _ _ hi
theorem Run.ren (h : Run m0 H0 w0 H m w) (h0 : Match m0 H0 w0) {π : Nat → Nat} {H' : AHeap} (hlen : H0.length ≤ H'.length) (hid : ∀ j, j < H0.length → π j = j)
    (hinj : ∀ i j, i < H'.length → j < H'.length → π i = π j → i = j)
    (hb : ∀ j b', H'[j]? = some b' → b' = .dead ∨ ∃ b, H[π j]? = some b ∧ (b'.own = true → b.own = true) ∧ (b'.live = true → b.live = true) ∧ (m (π j) ≠ none → BTo m (maps π H'.length m) b b')) :
    Run m0 H0 w0 H' (maps π H'.length m) w := by
  have hm : ∀ j i, maps π H'.length m j = some i → j < H'.length ∧ m (π j) = some i := by
    intro j i hj
    unfold maps at hj
    split at hj
    · rename_i hl; exact ⟨hl, hj⟩
    · cases hj
  have hlv : ∀ j b', H'[j]? = some b' → b'.live = true → ∃ b, H[π j]? = some b ∧ (b'.own = true → b.own = true) ∧ b.live = true := by
    intro j b' hj hl
    rcases hb j b' hj with rfl | ⟨b, h1, h2, h3, _⟩
    · cases hl
    · exact ⟨b, h1, h2, h3 hl⟩
  refine ⟨⟨fun j i hj => ?_, fun j j' i1 i2 b1 b2 h1 h2 h3 h4 h5 h6 h7 h8 h9 => ?_, h.mt.base, fun j i b hj hb2 ho hv => (by
      obtain ⟨_, hj⟩ := hm j i hj
      obtain ⟨c, e1, e2, _⟩ := hlv j b hb2 (ABlk.own_live ho)
      exact h.mt.ownb _ i c hj e1 (e2 ho) hv)⟩, maps_le h h0 hlen hid, fun q hq => ?_, hlen, fun q bq hq hbq hl => ?_, fun q iq bq hq hiq hbq hl hvq => ?_, h.os, h.tape, h.output, h.size, h.keep⟩
  · obtain ⟨hl, hj⟩ := hm j i hj
    refine ⟨H'[j], List.getElem?_eq_getElem hl, ?_⟩
    rcases hb j _ (List.getElem?_eq_getElem hl) with e | ⟨b, g1, _, _, g4⟩
    · rw [e]; trivial
    · obtain ⟨b2, g5, g6⟩ := h.mt.has _ _ hj
      rw [g1] at g5
      cases g5
      exact g4 (by rw [hj]; simp) _ _ g6
  · obtain ⟨l1, q1⟩ := hm _ _ h1
    obtain ⟨l2, q2⟩ := hm _ _ h2
    obtain ⟨c1, e1, e2, e3⟩ := hlv _ _ h3 (ABlk.own_live h5)
    obtain ⟨c2, f1, f2, f3⟩ := hlv _ _ h4 h6
    exact hinj _ _ l1 l2 (h.mt.inj _ _ i1 i2 c1 c2 q1 q2 e1 f1 (e2 h5) f3 h7 h8 h9)
  · unfold maps
    rw [if_pos (by omega), hid q hq]
    exact h.dom q hq
  · obtain ⟨c, e1, e2, e3⟩ := hlv _ _ hbq hl
    rw [hid q hq] at e1
    obtain ⟨b0, g1, g2, g3⟩ := h.old q c hq e1 e3
    exact ⟨b0, g1, g2, fun ho => g3 (e2 ho)⟩
  · obtain ⟨l, hiq⟩ := hm _ _ hiq
    obtain ⟨c, e1, e2, e3⟩ := hlv _ _ hbq hl
    refine h.new (π q) iq c ?_ hiq e1 e3 hvq
    rcases Nat.lt_or_ge (π q) H0.length with hlt | hge
    · have := hinj (π q) q (by omega) l (hid _ hlt)
      omega
    · exact hge
end

/-! ### what a value, a block is under other names -/
def VT (π : Nat → Nat) (n : Nat) (v v' : Value) : Prop := ∀ m u, VRel m v u → VRel (maps π n m) v' u
def LT (π : Nat → Nat) (n : Nat) : List Value → List Value → Prop
  | [], [] => True
  | x :: xs, y :: ys => VT π n x y ∧ LT π n xs ys
  | _, _ => False
def RT (π : Nat → Nat) (n : Nat) : List (List Value) → List (List Value) → Prop
  | [], [] => True
  | x :: xs, y :: ys => LT π n x y ∧ RT π n xs ys
  | _, _ => False
def BT (π : Nat → Nat) (n : Nat) (b b' : ABlk) : Prop := ∀ m w i, BRel m w i b → BRel (maps π n m) w i b'
section
variable {π : Nat → Nat} {n : Nat}
theorem VT.scal {v : Value} (h : scal v = true) : VT π n v v := fun m u k => by
  cases v <;> simp [Eng.scal] at h <;> cases k <;> constructor
theorem VT.int (k : IntKind) (x : Int) : VT π n (.int k x) (.int k x) := .scal rfl
theorem VT.bool (b : Bool) : VT π n (.bool b) (.bool b) := .scal rfl
theorem VT.str (s : ByteArray) : VT π n (.string s) (.string s) := .scal rfl
theorem VT.nilp : VT π n (.pointer none) (.pointer none) := fun m u k => by cases k; exact .nilp
theorem VT.nils : VT π n (.slice none 0 0) (.slice none 0 0) := fun m u k => by cases k; exact .nils
theorem maps_at {m : Mp} {j : Nat} (h : j < n) : maps π n m j = m (π j) := by unfold maps; rw [if_pos h]
theorem VT.ptr {id id' k : Nat} {s : Option Nat} (h : id' < n) (hp : π id' = id) : VT π n (.pointer (some ⟨id, k, s⟩)) (.pointer (some ⟨id', k, s⟩)) := fun m u q => by
  cases q with
  | ptr q qv => exact .ptr (by rw [maps_at h, hp]; exact q) qv
theorem VT.slice {id id' e len cp : Nat} (h : id' < n) (hp : π id' = id) : VT π n (.slice (some ⟨id, e, none⟩) len cp) (.slice (some ⟨id', e, none⟩) len cp) := fun m u q => by
  cases q with
  | slc q qv ql qc => exact .slc (by rw [maps_at h, hp]; exact q) qv ql qc
  | vslc q qv => exact .vslc (by rw [maps_at h, hp]; exact q) qv
  | eslc q qv => exact .eslc (by rw [maps_at h, hp]; exact q) qv
theorem LT.to {m : Mp} : ∀ {vs vs' us : List Value}, LT π n vs vs' → LRel m vs us → LRel (maps π n m) vs' us
  | [], [], us, _, k => by obtain rfl := k.nil_inv; exact .nil _
  | [], _ :: _, _, h, _ => h.elim
  | _ :: _, [], _, h, _ => h.elim
  | x :: xs, y :: ys, us, h, k => by
    obtain ⟨u, us', rfl, k1, k2⟩ := k.cons_inv
    exact .cons (h.1 _ _ k1) (LT.to h.2 k2)
theorem VT.agg {cs cs' : List Value} (h : LT π n cs cs') : VT π n (.agg cs.toArray) (.agg cs'.toArray) := fun m u k => by
  cases k with
  | @agg _ ds ks kk =>
    have := VRel.ofL (LT.to h (us := ds.toList) ⟨by simpa using ks, fun j a b ha hb => kk j a b (by simpa using ha) (by simpa using hb)⟩)
    simpa using this
theorem VT.tuple {cs cs' : List Value} (h : LT π n cs cs') : VT π n (.tuple cs.toArray) (.tuple cs'.toArray) := fun m u k => by
  cases k with
  | @tuple _ ds ks kk =>
    have := LT.to h (us := ds.toList) ⟨by simpa using ks, fun j a b ha hb => kk j a b (by simpa using ha) (by simpa using hb)⟩
    exact .tuple (by simpa using this.1) (fun j a b ha hb => this.2 j a b (by simpa using ha) (by simpa using hb))
theorem LT.len : ∀ {vs vs' : List Value}, LT π n vs vs' → vs.length = vs'.length
  | [], [], _ => rfl
  | [], _ :: _, h => h.elim
  | _ :: _, [], h => h.elim
  | x :: xs, y :: ys, h => by simp [LT.len h.2]
theorem RT.get : ∀ {a b : List (List Value)}, RT π n a b → ∀ (e : Nat) (c : List Value), b[e]? = some c → ∃ c0, a[e]? = some c0 ∧ LT π n c0 c
  | [], [], _, e, c, h => by simp at h
  | [], _ :: _, h, _, _, _ => h.elim
  | _ :: _, [], h, _, _, _ => h.elim
  | x :: xs, y :: ys, h, 0, c, k => by simp at k; subst k; exact ⟨x, rfl, h.1⟩
  | x :: xs, y :: ys, h, e + 1, c, k => by simpa using RT.get h.2 e c (by simpa using k)
theorem RT.len : ∀ {a b : List (List Value)}, RT π n a b → a.length = b.length
  | [], [], _ => rfl
  | [], _ :: _, h => h.elim
  | _ :: _, [], h => h.elim
  | x :: xs, y :: ys, h => by simp [RT.len h.2]
theorem BT.dead (b : ABlk) : BT π n b .dead := fun _ _ _ _ => trivial
theorem BT.cells {vs vs' : List Value} (h : LT π n vs vs') : BT π n (.cells vs) (.cells vs') := fun m w i k => by
  obtain ⟨k1, k2, k3, cs, T, k5, k6⟩ := k
  exact ⟨k1, k2, k3, cs, T, k5, h.to k6⟩
theorem BT.row {s : Bool} {z : Nat} {els els' : List (List Value)} (h : ∀ (e : Nat) (c : List Value), els'[e]? = some c → ∃ c0, els[e]? = some c0 ∧ LT π n c0 c) (hl : els.length = els'.length) (ho : RowOk z els → RowOk z els') : BT π n (.row s z els) (.row s z els') := fun m w i k => by
  obtain ⟨k1, k2, k3, k4⟩ := k
  refine ⟨k1, k2, ho k3, k4.imp ?_ ?_⟩
  · rintro ⟨g1, g2, g3⟩; subst g2; exact ⟨g1, by simpa using hl.symm, g3⟩
  · rintro ⟨k5, cs, T, k7, k8, k9, k10⟩
    refine ⟨k5, cs, T, k7, k8, by rw [← hl]; exact k9, fun e c he => ?_⟩
    obtain ⟨c0, g1, g2⟩ := h e c he
    exact g2.to (k10 e c0 g1)
/-- A row of numbers, bools, texts. -/
theorem LT.scal : ∀ {vs : List Value}, (∀ v ∈ vs, Eng.scal v = true) → LT π n vs vs
  | [], _ => trivial
  | x :: xs, h => ⟨.scal (h x (by simp)), LT.scal fun v hv => h v (by simp [hv])⟩
theorem BT.rowS {s : Bool} {z : Nat} {els : List (List Value)} (h : ∀ c ∈ els, ∀ v ∈ c, Eng.scal v = true) : BT π n (.row s z els) (.row s z els) :=
  .row (fun e c he => ⟨c, he, .scal (h c (List.mem_of_getElem? he))⟩) rfl id
end

/-- What a call knows at its end, told anew: by other names, and no more than serves. -/
def Ren (H0 H1 : AHeap) (u : Value) (H2 : AHeap) (v : Value) : Prop := ∃ π : Nat → Nat, H0.length ≤ H2.length ∧ (∀ j, j < H0.length → π j = j) ∧ (∀ i j, i < H2.length → j < H2.length → π i = π j → i = j) ∧
  (∀ j b', H2[j]? = some b' → b' = .dead ∨ (j < H0.length ∧ H0[j]? = some b' ∧ H1[j]? = some b') ∨ ∃ b, H1[π j]? = some b ∧ (b'.own = true → b.own = true) ∧ (b'.live = true → b.live = true) ∧ BT π H2.length b b') ∧ VT π H2.length u v
theorem Ren.run {m0 : Mp} {H0 : AHeap} {w0 : World} {H1 H2 : AHeap} {m : Mp} {w : World} {u v u' : Value} (hr : Ren H0 H1 u H2 v) (h : Run m0 H0 w0 H1 m w) (h0 : Match m0 H0 w0) (hv : VRel m u u') : ∃ m', Run m0 H0 w0 H2 m' w ∧ Mp.le m0 m' ∧ VRel m' v u' := by
  obtain ⟨π, h1, h2, h3, h4, h5⟩ := hr
  have hle := maps_le h h0 (π := π) (n := H2.length) h1 h2
  refine ⟨maps π H2.length m, h.ren h0 h1 h2 h3 fun j b' hj => ?_, hle, h5 _ _ hv⟩
  rcases h4 j b' hj with g | ⟨g1, g2, g3⟩ | ⟨b, g1, g2, g3, g4⟩
  · exact .inl g
  · refine .inr ⟨b', by rw [h2 j g1]; exact g3, id, id, fun hne => ?_⟩
    rw [h2 j g1, h.dom j g1] at hne
    cases hi : m0 j with
    | none => exact absurd hi hne
    | some i =>
      obtain ⟨b, hb, hB⟩ := h0.has j i hi
      rw [g2] at hb
      cases hb
      exact fun w' i' hB' => hB.cov h.ext hle hB'
  · exact .inr ⟨b, g1, g2, g3, fun _ => g4 _⟩
theorem Ren.refl {H0 H1 : AHeap} {u : Value} (hl : H0.length ≤ H1.length) (hu : VT id H1.length u u) (hb : ∀ j b, H1[j]? = some b → (j < H0.length ∧ H0[j]? = some b) ∨ BT id H1.length b b) : Ren H0 H1 u H1 u :=
  ⟨id, hl, fun _ _ => rfl, fun _ _ _ _ h => h, fun j b hj => by
    rcases hb j b hj with ⟨h1, h2⟩ | h
    · exact .inr (.inl ⟨h1, h2, hj⟩)
    · exact .inr (.inr ⟨b, hj, id, id, h⟩), hu⟩
/-- Nothing new is known, and what was known is as it was. -/
theorem Ren.pure {H0 X : AHeap} {u : Value} (hu : VT id H0.length u u) : Ren H0 (H0 ++ X) u H0 u :=
  ⟨id, Nat.le_refl _, fun _ _ => rfl, fun _ _ _ _ h => h, fun j b hj => by
    have hl := (List.getElem?_eq_some_iff.1 hj).1
    exact .inr (.inl ⟨hl, hj, by rw [List.getElem?_append_left hl]; exact hj⟩), hu⟩
/-- One block is turned. -/
theorem Ren.set {H0 X : AHeap} {u : Value} {id : Nat} {b : ABlk} (hu : VT (fun j => j) H0.length u u) (hb : BT (fun j => j) H0.length b b) : Ren H0 (H0.set id b ++ X) u (H0.set id b) u :=
  ⟨fun j => j, by simp, fun _ _ => rfl, fun _ _ _ _ h => h, fun j b' hj => by
    have hl := (List.getElem?_eq_some_iff.1 hj).1
    have hg : (H0.set id b ++ X)[j]? = some b' := by rw [List.getElem?_append_left hl]; exact hj
    by_cases e : id = j
    · subst e
      rw [List.getElem?_set_self (by simpa using hl)] at hj
      cases hj
      exact .inr (.inr ⟨b, hg, fun h => h, fun h => h, by simpa using hb⟩)
    · refine .inr (.inl ⟨by simpa using hl, ?_, hg⟩)
      rw [List.getElem?_set_ne e] at hj
      exact hj, by simpa using hu⟩
section
variable {P : Program} {I : Tab}
theorem SumOk.of (hI : TOk P I) {f : FuncId} {S : Sum} {fn : Func} {c : Code} (hf : P.funcs[f]? = some fn) (hc : fn.body = some c) (hn : (fn.name != "runtime.NumGoroutine") = true)
    (h : ∀ args H v H' tc, S args H = some (v, H', tc) → args.length ≤ fn.ntmps ∧ ∃ R : List Nat, tc = (R.filter fun id => ownB (H[id]?)) ∧ ∀ Hr : AHeap, Hr.length = H.length → (∀ id, R.contains id = true → Hr[id]? = H[id]?) →
      AW P fn.ntmps Hr c (args0 0 args) Hr (Ends I fn fun u H1 => ∃ H2, Ren Hr H1 u H2 v ∧ join R 0 H H2 = H')) : SumOk P f S := by
  refine ⟨⟨fn, hf, by simpa using hn, by rw [hc]; rfl⟩, fun args H v H' tc hS m0 H0 w0 m w args' hR hL => ?_⟩
  obtain ⟨hlen, R, rfl, hA⟩ := h args H v H' tc hS
  refine calls_of_wp hf hc ?_
  have hl := hL.1
  have hM := hR.mt.restr R
  have hst := ASat.start (n := fn.ntmps) hM hL (by rw [← hl]; exact hlen)
  have hA := hA (restr R 0 H) (restr_len R 0 H) (fun id hid => by
    rw [restr_get]
    simp only [Nat.zero_add, hid, if_true]
    cases H[id]? <;> rfl)
  refine Code.wp_mono (fun e' a' w' hp => ?_) (hA.run _ _ _ _ hM hst)
  obtain ⟨hnp, T, H1, ⟨he, vs, hvs, H2, hren, rfl⟩, m', h1, h2, h3, h4⟩ := hp
  obtain ⟨u, h5, h6⟩ := aresult_ok hI h1 h2 hvs
  obtain ⟨m2, r1, r2, r3⟩ := hren.run h1 hM h5
  obtain ⟨j1, j2⟩ := hR.join r1
  have key : a'.defers = [] ∧ ∃ v', (results fn a'.tmps).run P w' = .ok v' w' ∧ ∃ (m'' : Mp) (v'' : Value), Ending.returned v' = .returned v'' ∧ Run m0 H0 w0 (Eng.join R 0 H H2) m'' w' ∧ Mp.le m m'' ∧ VRel m'' v v'' ∧ Frame m (R.filter fun id => ownB (H[id]?)) w w' :=
    ⟨h4, u, h6, m2, u, rfl, j1, r2, r3, j2⟩
  cases e' with
  | normal => exact key
  | ret => exact key
  | exit id => cases he
  | goto l => cases hnp
  | panic ch => cases hnp
  | outgrown => cases hnp
/-- What was put aside is as it was. -/
theorem join_nil (H : AHeap) : ∀ (k : Nat) (H1 : AHeap), H1.length = H.length → join [] k H H1 = H := by
  induction H with
  | nil => intro k H1 h; have : H1 = [] := by simpa using h
           subst this; rfl
  | cons b H ih =>
    intro k H1 h
    cases H1 with
    | nil => simp at h
    | cons c H1 => simp [join, ih (k + 1) H1 (by simpa using h)]
end
end Go.Proofs.Ytpgkbdkkcladcaa.Eng
/- The engine, part 15: how a walk goes on. A lemma file: it claims nothing of the program. -/
namespace Go.Proofs.Ytpgkbdkkcladcaa.Eng
open Go Go.Lib

section
variable {P : Program} {I : Tab} {G : Sums} {N : Nat} {H0 : AHeap} {T : TM} {H : AHeap} {K : TM → AHeap → Prop} {Q : Exit → TM → AHeap → Prop}
theorem thenQ.ret (h : Q .ret T H) : thenQ K Q .ret T H := h
theorem thenQ.exit {i : Nat} (h : Q (.exit i) T H) : thenQ K Q (.exit i) T H := h
theorem blockQ.norm {id : Nat} (h : Q .normal T H) : blockQ id Q .normal T H := h
theorem blockQ.ret {id : Nat} (h : Q .ret T H) : blockQ id Q .ret T H := h
theorem blockQ.hit {id : Nat} (h : Q .normal T H) : blockQ id Q (.exit id) T H := by simp only [blockQ, if_true]; exact h
theorem blockQ.miss {id i : Nat} (hne : i ≠ id) (h : Q (.exit i) T H) : blockQ id Q (.exit i) T H := by simp only [blockQ, if_neg hne]; exact h
theorem Ends.ret {fn : Func} {Z : Value → AHeap → Prop} {vs : List Value} (hv : ares I T H fn.results.toList = some vs) (hz : Z (aresult vs) H) : Ends I fn Z .ret T H := ⟨rfl, vs, hv, hz⟩
theorem Ends.norm {fn : Func} {Z : Value → AHeap → Prop} {vs : List Value} (hv : ares I T H fn.results.toList = some vs) (hz : Z (aresult vs) H) : Ends I fn Z .normal T H := ⟨rfl, vs, hv, hz⟩
end
/-- A fact that a walk shall not use. -/
structure Shut (p : Prop) : Prop where
  o : p
/-- Less: told so that a walk's simp does not turn reads of lists by it. -/
def Lt (a b : Nat) : Prop := a < b
theorem Lt.get {α : Type} {H : List α} {i : Nat} {b : α} (h : H[i]? = some b) : Lt i H.length := (List.getElem?_eq_some_iff.1 h).1
theorem get_app_lt {α : Type} {H X : List α} {i : Nat} (h : Lt i H.length) : (H ++ X)[i]? = H[i]? := List.getElem?_append_left h
theorem set_app_lt {α : Type} {H X : List α} {i : Nat} {b : α} (h : Lt i H.length) : (H ++ X).set i b = H.set i b ++ X := List.set_append_left _ _ h
theorem get_set_lt {α : Type} {H : List α} {i : Nat} {b : α} (h : Lt i H.length) : (H.set i b)[i]? = some b := List.getElem?_set_self h
theorem get_set_no {α : Type} {H : List α} {i j : Nat} {b : α} (h : ¬ i = j) : (H.set i b)[j]? = H[j]? := List.getElem?_set_ne h
theorem int_beq (a b : Int) : (a == b) = decide (a = b) := by
  by_cases h : a = b <;> simp [h]
/-- Guards that are not known: both ways. -/
theorem WP_some (b : Bool) (x y : Prop) : WP (some b) x y ↔ ((b = true → x) ∧ (b = false → y)) := by cases b <;> simp [WP]
theorem WP_dec (p : Prop) [Decidable p] (x y : Prop) : WP (some (decide p)) x y ↔ ((p → x) ∧ (¬ p → y)) := by by_cases h : p <;> simp [WP, h]
theorem WP_not (b : Bool) (x y : Prop) : WP (some (!b)) x y = WP (some b) y x := by cases b <;> rfl
theorem WP_beq {α : Type} [BEq α] [LawfulBEq α] (a b : α) (x y : Prop) : WP (some (a == b)) x y ↔ ((a = b → x) ∧ (a ≠ b → y)) := by
  cases h : a == b
  · have : a ≠ b := by simpa using h
    simp [WP, this]
  · have : a = b := by simpa using h
    simp [WP, this]
theorem WP_none (x y : Prop) : WP none x y ↔ False := Iff.rfl
theorem getA {α : Type} (H X : List α) : (H ++ X)[H.length]? = X[0]? := by rw [List.getElem?_append_right (Nat.le_refl _), Nat.sub_self]
theorem getN {α : Type} (H X : List α) (n : Nat) : (H ++ X)[H.length + n]? = X[n]? := by rw [List.getElem?_append_right (by omega)]; congr 1; omega
theorem setA {α : Type} (H X : List α) (x : α) : (H ++ X).set H.length x = H ++ X.set 0 x := by rw [List.set_append_right _ _ (Nat.le_refl _), Nat.sub_self]
theorem setN {α : Type} (H X : List α) (n : Nat) (x : α) : (H ++ X).set (H.length + n) x = H ++ X.set n x := by rw [List.set_append_right _ _ (by omega), Nat.add_sub_cancel_left]
attribute [congr] selR.congr
theorem selR_true (x y : Res) : selR (some (.bool true)) x y = x := rfl
theorem selR_false (x y : Res) : selR (some (.bool false)) x y = y := rfl
/-- A choice that is not known: both ways. -/
theorem OP_sel (p : Prop) [Decidable p] (x y : Res) (k : Value → AHeap → List Nat → Prop) : OP (selR (some (.bool (decide p))) x y) k ↔ ((p → OP x k) ∧ (¬ p → OP y k)) := by
  by_cases h : p <;> simp [selR, h]
theorem OP_selN (b : Bool) (x y : Res) (k : Value → AHeap → List Nat → Prop) : OP (selR (some (.bool (!b))) x y) k ↔ OP (selR (some (.bool b)) y x) k := by
  cases b <;> simp [selR]
theorem WP_true (x y : Prop) : WP (some true) x y = x := rfl
theorem WP_false (x y : Prop) : WP (some false) x y = y := rfl
/-- A function of values alone: nothing new is known behind it. -/
theorem Ren.pureE {H0 H1 : AHeap} {u v : Value} (he : u = v) (hu : VT id H0.length v v) (hH : H1 = H0 ∨ ∃ X, H1 = H0 ++ X := by first | exact .inl rfl | exact .inr ⟨_, rfl⟩) : Ren H0 H1 u H0 v := by
  subst he
  rcases hH with rfl | ⟨X, rfl⟩
  · have := Ren.pure (X := []) hu
    rwa [List.append_nil] at this
  · exact .pure hu
end Go.Proofs.Ytpgkbdkkcladcaa.Eng
/- The engine, part 16: functions that turn blocks and make new ones, told under names in order. A lemma file: it claims nothing of the program. -/
namespace Go.Proofs.Ytpgkbdkkcladcaa.Eng
open Go Go.Lib

/-- Old names stay; the new ones are counted anew. -/
def renL (L : Nat) (ns : List Nat) : Nat → Nat := fun j => if j < L then j else L + ns.getD (j - L) 0
theorem renL_old {L : Nat} {ns : List Nat} {j : Nat} (h : j < L) : renL L ns j = j := by simp [renL, h]
theorem renL_new (L : Nat) (ns : List Nat) (q : Nat) : renL L ns (L + q) = L + ns.getD q 0 := by unfold renL; rw [if_neg (by omega), Nat.add_sub_cancel_left]
theorem renL_new0 (L : Nat) (ns : List Nat) : renL L ns L = L + ns.getD 0 0 := by simp [renL]
/-- A block told by another: no more than it is. -/
def Gd (π : Nat → Nat) (n : Nat) (b b' : ABlk) : Prop := b' = .dead ∨ ((b'.own = true → b.own = true) ∧ (b'.live = true → b.live = true) ∧ BT π n b b')
theorem Gd.dead {π : Nat → Nat} {n : Nat} {b : ABlk} : Gd π n b .dead := .inl rfl
theorem Gd.cells {π : Nat → Nat} {n : Nat} {vs vs' : List Value} (h : LT π n vs vs') : Gd π n (.cells vs) (.cells vs') := .inr ⟨id, id, .cells h⟩
theorem Gd.rowS {π : Nat → Nat} {n : Nat} {s : Bool} {z : Nat} {els : List (List Value)} (h : ∀ c ∈ els, ∀ v ∈ c, scal v = true) : Gd π n (.row s z els) (.row s z els) := .inr ⟨id, id, .rowS h⟩
/-- Blocks that were turned: as they are, and as they are told. -/
abbrev Chs := List (Nat × ABlk × ABlk)
def setsA : Chs → AHeap → AHeap
  | [], H => H
  | (id, b, _) :: r, H => setsA r (H.set id b)
def setsB : Chs → AHeap → AHeap
  | [], H => H
  | (id, _, b) :: r, H => setsB r (H.set id b)
def ChOk (π : Nat → Nat) (n : Nat) : Chs → Prop
  | [] => True
  | (_, b, b') :: r => Gd π n b b' ∧ ChOk π n r
def NewOk (π : Nat → Nat) (n : Nat) (X : AHeap) : List Nat → AHeap → Prop
  | [], [] => True
  | k :: ks, b' :: bs => (∃ b, X[k]? = some b ∧ Gd π n b b') ∧ NewOk π n X ks bs
  | _, _ => False
theorem setsA_len : ∀ (ch : Chs) (H : AHeap), (setsA ch H).length = H.length
  | [], _ => rfl
  | (id, b, b') :: r, H => by simp [setsA, setsA_len r]
theorem setsB_len : ∀ (ch : Chs) (H : AHeap), (setsB ch H).length = H.length
  | [], _ => rfl
  | (id, b, b') :: r, H => by simp [setsB, setsB_len r]
theorem sets_ok {π : Nat → Nat} {n : Nat} {H0 : AHeap} : ∀ {ch : Chs} {HA HB : AHeap}, ChOk π n ch → HA.length = HB.length → (∀ (j : Nat) (b' : ABlk), HB[j]? = some b' → (H0[j]? = some b' ∧ HA[j]? = some b') ∨ ∃ b, HA[j]? = some b ∧ Gd π n b b') →
    ∀ (j : Nat) (b' : ABlk), (setsB ch HB)[j]? = some b' → (H0[j]? = some b' ∧ (setsA ch HA)[j]? = some b') ∨ ∃ b, (setsA ch HA)[j]? = some b ∧ Gd π n b b'
  | [], _, _, _, _, h => h
  | (id, b, b1) :: r, HA, HB, hc, hl, h => by
    refine sets_ok (ch := r) (HA := HA.set id b) (HB := HB.set id b1) hc.2 (by simpa using hl) fun j b' hj => ?_
    have hjl : j < HB.length := by have := (List.getElem?_eq_some_iff.1 hj).1; simpa using this
    by_cases e : id = j
    · subst e
      rw [List.getElem?_set_self hjl] at hj
      cases hj
      exact .inr ⟨b, List.getElem?_set_self (by omega), hc.1⟩
    · rw [List.getElem?_set_ne e] at hj
      rw [List.getElem?_set_ne e]
      exact h j b' hj
theorem NewOk.len {π : Nat → Nat} {n : Nat} {X : AHeap} : ∀ {ns : List Nat} {Y : AHeap}, NewOk π n X ns Y → ns.length = Y.length
  | [], [], _ => rfl
  | k :: ks, b :: bs, h => by simp [NewOk.len h.2]
  | [], _ :: _, h => h.elim
  | _ :: _, [], h => h.elim
theorem NewOk.get {π : Nat → Nat} {n : Nat} {X : AHeap} : ∀ {ns : List Nat} {Y : AHeap}, NewOk π n X ns Y → ∀ (q : Nat) (b' : ABlk), Y[q]? = some b' → ∃ b, X[ns.getD q 0]? = some b ∧ Gd π n b b'
  | [], [], _, q, b', h => by simp at h
  | k :: ks, b :: bs, h, 0, b', hq => by simp at hq; subst hq; simpa using h.1
  | k :: ks, b :: bs, h, q + 1, b', hq => by simpa using NewOk.get h.2 q b' (by simpa using hq)
  | [], _ :: _, h, _, _, _ => h.elim
  | _ :: _, [], h, _, _, _ => h.elim
/-- A function that turned blocks and made new ones. -/
theorem Ren.gen {H0 X Y : AHeap} {u v : Value} (ch : Chs) (ns : List Nat) (hnd : ns.Nodup) (hch : ChOk (renL H0.length ns) (H0.length + Y.length) ch) (hnew : NewOk (renL H0.length ns) (H0.length + Y.length) X ns Y)
    (hv : VT (renL H0.length ns) (H0.length + Y.length) u v) : Ren H0 (setsA ch H0 ++ X) u (setsB ch H0 ++ Y) v := by
  have hlen : (setsB ch H0 ++ Y).length = H0.length + Y.length := by simp [setsB_len]
  have hnl := hnew.len
  refine ⟨renL H0.length ns, by omega, fun j hj => renL_old hj, fun i j hi hj he => ?_, fun j b' hj => ?_, by rw [hlen]; exact hv⟩
  · rw [hlen, ← hnl] at hi hj
    rcases Nat.lt_or_ge i H0.length with h1 | h1 <;> rcases Nat.lt_or_ge j H0.length with h2 | h2
    · rwa [renL_old h1, renL_old h2] at he
    · rw [renL_old h1] at he
      unfold renL at he
      rw [if_neg (by omega)] at he
      omega
    · rw [renL_old h2] at he
      unfold renL at he
      rw [if_neg (by omega)] at he
      omega
    · unfold renL at he
      rw [if_neg (by omega), if_neg (by omega)] at he
      have l1 : i - H0.length < ns.length := by omega
      have l2 : j - H0.length < ns.length := by omega
      have he : ns[i - H0.length] = ns[j - H0.length] := by
        have := Nat.add_left_cancel he
        simpa [List.getD_eq_getElem?_getD, l1, l2] using this
      have hp := List.pairwise_iff_getElem.1 hnd
      rcases Nat.lt_trichotomy (i - H0.length) (j - H0.length) with g | g | g
      · exact absurd he (hp _ _ l1 l2 g)
      · omega
      · exact absurd he.symm (hp _ _ l2 l1 g)
  · rw [hlen]
    rcases Nat.lt_or_ge j H0.length with h1 | h1
    · rw [List.getElem?_append_left (by rw [setsB_len]; exact h1)] at hj
      have := sets_ok (H0 := H0) hch rfl (fun j b' h => .inl ⟨h, h⟩) j b' hj
      rw [renL_old h1, List.getElem?_append_left (by rw [setsA_len]; exact h1)]
      rcases this with ⟨g1, g2⟩ | ⟨b, g1, g2⟩
      · exact .inr (.inl ⟨h1, g1, g2⟩)
      · rcases g2 with g2 | ⟨g2, g3, g4⟩
        · exact .inl g2
        · exact .inr (.inr ⟨b, g1, g2, g3, g4⟩)
    · rw [List.getElem?_append_right (by rw [setsB_len]; exact h1), setsB_len] at hj
      obtain ⟨b, g1, g2⟩ := hnew.get _ _ hj
      rcases g2 with g2 | ⟨g2, g3, g4⟩
      · exact .inl g2
      · refine .inr (.inr ⟨b, ?_, g2, g3, g4⟩)
        unfold renL
        rw [if_neg (by omega), List.getElem?_append_right (by rw [setsA_len]; omega), setsA_len, Nat.add_sub_cancel_left]
        exact g1
theorem Ren.gen0 {H0 : AHeap} {u v : Value} (ch : Chs) (hch : ChOk (renL H0.length []) H0.length ch) (hv : VT (renL H0.length []) H0.length u v) : Ren H0 (setsA ch H0) u (setsB ch H0) v := by
  have := Ren.gen (X := []) (Y := []) ch [] List.nodup_nil (by simpa using hch) trivial (by simpa using hv)
  simpa using this
theorem setsB_ne : ∀ {ch : Chs} {H : AHeap} {id : Nat}, (∀ c ∈ ch, c.1 ≠ id) → (setsB ch H)[id]? = H[id]?
  | [], _, _, _ => rfl
  | (k, b, b') :: r, H, id, h => by
    have := setsB_ne (ch := r) (H := H.set k b') (id := id) fun c hc => h c (by simp [hc])
    rw [setsB, this, List.getElem?_set_ne (h (k, b, b') (by simp))]
theorem setsB_same : ∀ {ch : Chs} {HA HB : AHeap} {id : Nat}, HA.length = HB.length → HA[id]? = HB[id]? → (setsB ch HA)[id]? = (setsB ch HB)[id]?
  | [], _, _, _, _, h => h
  | (k, b, b') :: r, HA, HB, id, hl, h => by
    refine setsB_same (ch := r) (by simpa using hl) ?_
    by_cases e : k = id
    · subst e
      rcases Nat.lt_or_ge k HA.length with g | g
      · rw [List.getElem?_set_self g, List.getElem?_set_self (by omega)]
      · rw [List.getElem?_eq_none (by simpa using g), List.getElem?_eq_none (by simp; omega)]
    · rw [List.getElem?_set_ne e, List.getElem?_set_ne e, h]
/-- What was put aside stays where it was: blocks turned of those that the call was handed. -/
theorem join_sets {R : List Nat} {H Hr Y : AHeap} (hl : Hr.length = H.length) (hR : ∀ id, R.contains id = true → Hr[id]? = H[id]?) (ch : Chs) (hc : ∀ c ∈ ch, R.contains c.1 = true) : join R 0 H (setsB ch Hr ++ Y) = setsB ch H ++ Y := by
  apply List.ext_getElem?
  intro id
  rw [join_get R 0 H _ (by simp [setsB_len, hl])]
  rw [Nat.zero_add]
  by_cases h : id < H.length ∧ R.contains id = false
  · rw [if_pos h, List.getElem?_append_left (by rw [setsB_len]; exact h.1), setsB_ne]
    intro c hcm e
    have := hc c hcm
    rw [e, h.2] at this
    cases this
  · rw [if_neg h]
    rcases Nat.lt_or_ge id H.length with g | g
    · have hr : R.contains id = true := by
        cases e : R.contains id with
        | true => rfl
        | false => exact absurd ⟨g, e⟩ h
      rw [List.getElem?_append_left (by rw [setsB_len]; omega), List.getElem?_append_left (by rw [setsB_len]; exact g)]
      exact setsB_same hl (hR id hr)
    · rw [List.getElem?_append_right (by rw [setsB_len]; omega), List.getElem?_append_right (by rw [setsB_len]; exact g), setsB_len, setsB_len, hl]
theorem join_same {R : List Nat} {H Hr : AHeap} (hl : Hr.length = H.length) (hR : ∀ id, R.contains id = true → Hr[id]? = H[id]?) : join R 0 H Hr = H := by
  have := join_sets (Y := []) hl hR [] (by simp)
  simpa [setsB] using this
end Go.Proofs.Ytpgkbdkkcladcaa.Eng
