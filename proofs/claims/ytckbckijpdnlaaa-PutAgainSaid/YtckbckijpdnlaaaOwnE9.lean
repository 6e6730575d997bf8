/- The engine, part 9: a statement's operations, in whatever order they may be done; code. A lemma file: it claims nothing of the program. -/
import Derived.Test.YtckbckijpdnlaaaOwnE8
import Derived.OrdersHeld
set_option linter.unusedVariables false
set_option linter.unusedSimpArgs false
namespace Go.Proofs.Ytckbckijpdnlaaa.Eng
open Go Go.Lib

section
variable {P : Program} {I : Tab} {G : Sums} {m0 : Mp} {H0 : AHeap} {w0 : World} {H : AHeap} {m : Mp} {w : World} {a : Act} {o : Oper} {T : TM}

/-- One operation, whatever it is. -/
theorem aop_step (hI : TOk P I) (hG : SOk P G) (h : Run m0 H0 w0 H m w) (hT : TRel m T a) {v : Value} {H' : AHeap} {tc : List Nat} (hr : aop I G o.op T H = some (v, H', tc)) {next : Act → World → Prop} {Q : Exit → Act → World → Prop}
    (hk : ∀ m' w' v', Run m0 H0 w0 H' m' w' → Mp.le m m' → VRel m' v v' → Frame m tc w w' → next (a.put o.dst v') w') : o.wp P a w next Q := by
  by_cases hc : isCall o.op = true
  · cases hop : o.op <;> rw [hop] at hc <;> first | (cases hc; done) | skip
    rename_i c
    cases c with
    | mk callee args ats =>
      cases callee <;> first | (cases hc; done) | skip
      rename_i x
      rw [hop] at hr
      unfold aop at hr
      simp only at hr
      split at hr
      · rename_i vs hvs
        split at hr
        all_goals first | (cases ‹Callee.value _ = Callee.builtin _›; done) | skip
        · rename_i f hcal
          cases hcal
          obtain ⟨fn, h1, h2, h3⟩ := hG.fn _ _ _ _ _ _ hr
          have hL := evs_ok hT hvs
          have := hG.ok _ _ _ _ _ _ hr m0 H0 w0 m w _ h hL
          have hargs : args.map a.eval = (args.toList.map a.eval).toArray := by apply Array.ext'; simp
          have hex : (execOp a.eval o).run P w = .ok (.enter f (args.toList.map a.eval).toArray) w := by
            have hb : ¬ fn.body = none := by intro hq; rw [hq] at h3; cases h3
            simp [execOp, hop, resolve, Act.eval, Deferred.ofValue, invoke, callFunc, h1, h2, hb, hargs]
          unfold Oper.wp
          rw [hex]
          show Calls P f _ w _
          refine this.mono ?_
          rintro e w' ⟨m', v', rfl, r1, r2, r3, r4⟩
          exact hk m' w' v' r1 r2 r3 r4
        · cases hr
      · cases hr
  · obtain ⟨m', w', v', h1, h2, h3, h4, h5⟩ := aop_good hI h hT (by simpa using hc) hr
    unfold Oper.wp
    rcases h1 with h1 | ⟨h1, rfl⟩
    · rw [h1]; exact hk m' w' v' h2 h3 h4 h5
    · rw [h1]; exact hk m' w' undef h2 h3 h4 h5

/-! ### guards -/
def yieldedA (ops : Array Oper) (T : TM) (j : Nat) : Option (Option Bool) := match (ops[j]?).bind (·.dst) with
  | none => some none
  | some d => match T.lookup d with
    | some (.bool b) => some (some b)
    | some (.tuple _) => some none
    | _ => none
def wantedA (ops : Array Oper) (o : Oper) (T : TM) : Option Bool := match o.guard with
  | none => some true
  | some (j, want) => match yieldedA ops T j with
    | some y => some (y == some want)
    | none => none
theorem wanted_ok {ops : Array Oper} (hT : TRel m T a) {b : Bool} (h : wantedA ops o T = some b) : Region.wanted o (yielded ops a.tmps) = b := by
  unfold wantedA at h
  unfold Region.wanted
  split at h
  · rename_i hg; rw [hg]; cases h; rfl
  · rename_i j want hg
    rw [hg]
    simp only
    split at h
    · rename_i y hy
      cases h
      congr 1
      unfold yieldedA at hy
      unfold yielded
      split at hy
      · rename_i hd
        cases hy
        rw [hd]; rfl
      · rename_i d hd
        rw [hd]
        simp only [Option.bind_some]
        split at hy
        · rename_i c hc
          cases hy
          obtain ⟨h1, h2⟩ := hT d _ hc
          rw [Array.getD_eq_getD_getElem?, Array.getElem?_eq_getElem h1] at h2
          rw [Array.getElem?_eq_getElem h1]
          generalize a.tmps[d] = q at h2
          simp only [Option.getD_some] at h2
          cases h2
          rfl
        · rename_i c hc
          cases hy
          obtain ⟨h1, h2⟩ := hT d _ hc
          rw [Array.getD_eq_getD_getElem?, Array.getElem?_eq_getElem h1] at h2
          rw [Array.getElem?_eq_getElem h1]
          generalize a.tmps[d] = q at h2
          simp only [Option.getD_some] at h2
          cases h2
          rfl
        · cases hy
    · cases h

/-- A state of a call, in memory. -/
def ASat (N : Nat) (m0 : Mp) (H0 : AHeap) (w0 : World) (T : TM) (H : AHeap) (a : Act) (w : World) : Prop :=
  ∃ m, Run m0 H0 w0 H m w ∧ TRel m T a ∧ a.tmps.size = N ∧ a.defers = []
def dstOk (N : Nat) : Option Tmp → Bool
  | some d => decide (d < N)
  | none => true
theorem size_put (a : Act) (d : Option Tmp) (v : Value) : (a.put d v).tmps.size = a.tmps.size := by cases d <;> simp [Act.put]
theorem defers_put (a : Act) (d : Option Tmp) (v : Value) : (a.put d v).defers = a.defers := by cases d <;> rfl
theorem dst_ok {N : Nat} (hN : a.tmps.size = N) {d : Option Tmp} (h : dstOk N d = true) : ∀ k, d = some k → k < a.tmps.size := by
  intro k hk
  subst hk
  rw [hN]
  simpa [dstOk] using h

/-! ### in the text's order -/
def areg (I : Tab) (G : Sums) (N : Nat) (ops : Array Oper) : List Oper → TM → AHeap → Option (TM × AHeap)
  | [], T, H => some (T, H)
  | o :: rest, T, H => match wantedA ops o T with
    | some true => match aop I G o.op T H with
      | some (v, H', _) => if dstOk N o.dst = true then areg I G N ops rest (put T o.dst v) H' else none
      | none => none
    | some false => if dstOk N o.dst = true then areg I G N ops rest (put T o.dst undef) H else none
    | none => none
theorem areg_ok (hI : TOk P I) (hG : SOk P G) {N : Nat} {ops : Array Oper} {Q : Exit → Act → World → Prop} {T' : TM} {H' : AHeap} (hQ : ∀ a' w', ASat N m0 H0 w0 T' H' a' w' → Q .normal a' w') :
    ∀ (l : List Oper) (T : TM) (H : AHeap) (a : Act) (w : World), areg I G N ops l T H = some (T', H') → ASat N m0 H0 w0 T H a w → wpList P ops Q l a w
  | [], T, H, a, w, hr, hs => by cases hr; exact hQ a w hs
  | o :: rest, T, H, a, w, hr, ⟨m, h1, h2, h3, h4⟩ => by
    simp only [areg] at hr
    unfold wpList
    split at hr
    · rename_i hw
      rw [wanted_ok h2 hw, if_pos rfl]
      split at hr
      · rename_i v H1 tc ho
        split at hr
        · rename_i hd
          refine .inl (aop_step hI hG h1 h2 ho fun m' w' v' r1 r2 r3 _ => ?_)
          exact areg_ok hI hG hQ rest _ _ _ _ hr ⟨m', r1, put_ok (h2.mono r2) r3 (dst_ok h3 hd), by rw [size_put]; exact h3, by rw [defers_put]; exact h4⟩
        · cases hr
      · cases hr
    · rename_i hw
      rw [wanted_ok h2 hw, if_neg (by simp)]
      split at hr
      · rename_i hd
        exact areg_ok hI hG hQ rest _ _ _ _ hr ⟨m, h1, put_ok h2 (undef_ok m) (dst_ok h3 hd), by rw [size_put]; exact h3, by rw [defers_put]; exact h4⟩
      · cases hr
    · cases hr

/-! ### in whatever order -/
def waits (o : Oper) (i : Nat) : Bool := o.after.any fun e => Region.binds .any e && e.on == i
def ownB : Option ABlk → Bool
  | some b => b.own
  | none => false
def liveB : Option ABlk → Bool
  | some b => b.live
  | none => false
/-- An order that serves: what turns nothing goes first; else there is one that may come. -/
def ordOk (ops : Array Oper) : Array Bool → List Nat → Bool
  | listed, [] => (Region.ready .any ops listed).isEmpty
  | listed, i :: r => (((match ops[i]? with
      | some o => freeOp o.op
      | none => false) && Region.free .any ops listed i && (Region.ready .any ops listed).contains i) || (Region.ready .any ops listed == [i])) && ordOk ops (listed.setIfInBounds i true) r
def dreg (I : Tab) (G : Sums) (N : Nat) (ops : Array Oper) : List Nat → TM → AHeap → List (Nat × Nat) → Option (TM × AHeap)
  | [], T, H, _ => some (T, H)
  | i :: r, T, H, L => match ops[i]? with
    | none => none
    | some o => if dstOk N o.dst = true then match wantedA ops o T with
      | some true => match aop I G o.op T H with
        | some (v, H', tc) => if freeOp o.op = true then dreg I G N ops r (put T o.dst v) H' (match loadId o.op T with
            | some id => (i, id) :: L
            | none => L)
          else if (tc.all (fun q => ownB (H[q]?)) && L.all (fun p => waits o p.1 || (!tc.contains p.2 && liveB (H[p.2]?)))) = true then dreg I G N ops r (put T o.dst v) H' L else none
        | none => none
      | some false => dreg I G N ops r (put T o.dst undef) H L
      | none => none
      else none

def Keeps (ops : Array Oper) (LB : List (Nat × Nat)) (j : Nat) (w w' : World) : Prop :=
  ∀ p ∈ LB, p.2 < w.heap.size → (∀ o, ops[j]? = some o → waits o p.1 = false) → w'.heap[p.2]? = w.heap[p.2]?
theorem Keeps.refl (ops : Array Oper) (LB : List (Nat × Nat)) (j : Nat) (w : World) : Keeps ops LB j w w := fun _ _ _ _ => rfl
def wpAnyR (P : Program) (ops : Array Oper) (Q : Exit → Act → World → Prop) (R : Nat → World → World → Prop) : Nat → Array Bool → Act → World → Prop
  | 0, listed, a, w => Region.ready .any ops listed = [] ∧ Q .normal a w
  | fuel + 1, listed, a, w =>
    (Region.ready .any ops listed = [] → Q .normal a w) ∧
    ∀ i ∈ Region.ready .any ops listed, wpOp P ops Q i (fun a' w' => R i w w' ∧ wpAnyR P ops Q R fuel (listed.setIfInBounds i true) a' w') a w
theorem wpAny_of_R {ops : Array Oper} {Q : Exit → Act → World → Prop} {R : Nat → World → World → Prop} : ∀ (fuel : Nat) (listed : Array Bool) (a : Act) (w : World), wpAnyR P ops Q R fuel listed a w → wpAny P .any ops Q fuel listed a w
  | 0, _, _, _, h => h
  | fuel + 1, _, _, _, h => ⟨h.1, fun i hi => wpOp_mono (fun a' w' h' => wpAny_of_R fuel _ a' w' h'.2) (h.2 i hi)⟩
theorem wpAnyR.mono {ops : Array Oper} {Q : Exit → Act → World → Prop} {R R' : Nat → World → World → Prop} (hR : ∀ i w w', R' i w w' → R i w w') : ∀ (fuel : Nat) (listed : Array Bool) (a : Act) (w : World), wpAnyR P ops Q R' fuel listed a w → wpAnyR P ops Q R fuel listed a w
  | 0, _, _, _, h => h
  | fuel + 1, _, _, _, h => ⟨h.1, fun i hi => wpOp_mono (fun a' w' h' => ⟨hR _ _ _ h'.1, wpAnyR.mono hR fuel _ a' w' h'.2⟩) (h.2 i hi)⟩
theorem wpAnyR_first {ops : Array Oper} {Q : Exit → Act → World → Prop} {R R' : Nat → World → World → Prop} {C : World → Prop} {i : Nat} {oi : Oper} {v : Value} (hi : ops[i]? = some oi) (hsel : ∀ (j : Nat) (o : Oper) cs b, ops[j]? = some o → o.op ≠ .select cs b)
    (hQ : ∀ c a w, Q (.panic c) (a.put oi.dst v) w → Q (.panic c) a w) (hRR : ∀ j w w', R' j w w' → R j w w') (hRi : ∀ w, R i w w)
    (hC : ∀ j w w', (∀ oj, ops[j]? = some oj → ∀ e ∈ oj.after, Region.binds .any e = true → e.on ≠ i) → R' j w w' → C w → C w') :
    ∀ (fuel : Nat) (listed : Array Bool) (a : Act) (w : World),
      (∀ j oj, ops[j]? = some oj → j ≠ i → listed.getD j true = false → (∀ e ∈ oj.after, Region.binds .any e = true → e.on ≠ i) → oi.apart ops oj = true) →
      i ∈ Region.ready .any ops listed → YieldsIf P ops C oi v a → C w →
      wpAnyR P ops Q R' fuel (listed.setIfInBounds i true) (a.put oi.dst v) w → wpAnyR P ops Q R (fuel + 1) listed a w := by
  intro fuel
  induction fuel with
  | zero =>
    intro listed a w _ hr hy hS H
    refine ⟨fun h => (by rw [h] at hr; cases hr), fun j hj => ?_⟩
    by_cases hji : j = i
    · subst hji; exact hy.wpOp hi hS ⟨hRi w, H⟩
    · have := ready_mono hj hji
      rw [H.1] at this
      cases this
  | succ fuel ih =>
    intro listed a w hfree hr hy hS H
    refine ⟨fun h => (by rw [h] at hr; cases hr), fun j hj => ?_⟩
    by_cases hji : j = i
    · subst hji; exact hy.wpOp hi hS ⟨hRi w, wpAnyR.mono hRR _ _ _ _ H⟩
    · have h1 := H.2 j (ready_mono hj hji)
      obtain ⟨hjun, oj, hoj, hall⟩ := mem_ready.1 hj
      have hnot : ∀ e ∈ oj.after, Region.binds .any e = true → e.on ≠ i := fun e he hb heq => by
        have h1 := hall e he hb
        have h0 := (mem_ready.1 hr).1
        rw [heq] at h1
        rcases Nat.lt_or_ge i listed.size with h' | h'
        · simp [h'] at h0 h1; rw [h0] at h1; cases h1
        · simp [Array.getElem?_eq_none h'] at h1
      have h2 := wpOp_putIf hoj (hfree j oj hoj hji hjun hnot) (fun cs b => hsel i oi cs b hi) (fun cs b => hsel j oj cs b hoj) hQ hy h1
      have hfree' : ∀ k ok, ops[k]? = some ok → k ≠ i → (listed.setIfInBounds j true).getD k true = false →
          (∀ e ∈ ok.after, Region.binds .any e = true → e.on ≠ i) → oi.apart ops ok = true := fun k ok hk hki hun hno => by
        refine hfree k ok hk hki ?_ hno
        by_cases hjk : j = k
        · subst hjk; exact hjun
        · rw [getD_set_ne true hjk] at hun; exact hun
      refine wpOp_mono (fun a' w' h3 => ⟨hRR _ _ _ h3.2.1, ih (listed.setIfInBounds j true) a' w' hfree' (ready_mono hr (Ne.symm hji)) h3.1
        (hC j w w' (fun oj' hoj' => by rw [hoj] at hoj'; cases hoj'; exact hnot) h3.2.1 hS) ?_⟩) h2
      rw [Array.setIfInBounds_comm _ _ hji]
      exact h3.2.2

theorem waits_no {o : Oper} {i : Nat} (h : ∀ e ∈ o.after, Region.binds .any e = true → e.on ≠ i) : waits o i = false := by
  unfold waits
  rw [Array.any_eq_false']
  intro e he
  simp only [Bool.and_eq_true, beq_iff_eq, not_and]
  exact h e he

theorem dreg_ok (hI : TOk P I) (hG : SOk P G) {N : Nat} {ops : Array Oper} {Q : Exit → Act → World → Prop} {T' : TM} {H' : AHeap} (hsel : Region.noSelect ops = true) (hQp : ∀ c a w, ¬ Q (.panic c) a w)
    (hQ : ∀ a' w', ASat N m0 H0 w0 T' H' a' w' → Q .normal a' w') :
    ∀ (ord : List Nat) (listed : Array Bool) (T : TM) (H : AHeap) (L LB : List (Nat × Nat)) (m : Mp) (a : Act) (w : World), ordOk ops listed ord = true → dreg I G N ops ord T H L = some (T', H') →
      Run m0 H0 w0 H m w → TRel m T a → a.tmps.size = N → a.defers = [] → (∀ p ∈ LB, ∃ id i, (p.1, id) ∈ L ∧ m id = some i ∧ i.void = false ∧ i.blk = p.2) →
      wpAnyR P ops Q (Keeps ops LB) ord.length listed a w
  | [], listed, T, H, L, LB, m, a, w, ho, hr, h1, h2, h3, h4, hLB => by
    cases hr
    exact ⟨by simpa [ordOk] using ho, hQ a w ⟨m, h1, h2, h3, h4⟩⟩
  | i :: ord, listed, T, H, L, LB, m, a, w, ho, hr, h1, h2, h3, h4, hLB => by
    simp only [ordOk, Bool.and_eq_true, Bool.or_eq_true, beq_iff_eq] at ho
    obtain ⟨ho, hord⟩ := ho
    simp only [dreg] at hr
    split at hr
    · cases hr
    · rename_i o hoi
      split at hr
      · rename_i hd
        have hdst := dst_ok h3 hd
        rcases ho with ⟨⟨hf, hfree⟩, hcon⟩ | hone
        · rw [hoi] at hf
          simp only at hf
          have hready : i ∈ Region.ready .any ops listed := by simpa using hcon
          split at hr
          · rename_i hw
            split at hr
            · rename_i v H1 tc hop
              rw [if_pos hf] at hr
              obtain ⟨rfl, rfl, v', hv, hrun⟩ := aop_free hI h1 h2 hf hop
              have hT' : TRel m (put T o.dst v) (a.put o.dst v') := put_ok h2 hv hdst
              cases hl : loadId o.op T with
              | none =>
                rw [hl] at hr
                have ih := dreg_ok hI hG hsel hQp hQ ord (listed.setIfInBounds i true) _ _ L LB m (a.put o.dst v') w hord hr h1 hT' (by rw [size_put]; exact h3) (by rw [defers_put]; exact h4) hLB
                exact wpAnyR_first (C := fun _ => True) hoi (Region.noSelect_spec hsel) (fun c a w hq => (hQp _ _ _ hq).elim) (fun _ _ _ h => h) (fun w => Keeps.refl _ _ _ w) (fun _ _ _ _ _ _ => trivial) _ listed a w
                  (Region.free_spec hoi hfree) hready (.inl ⟨wanted_ok h2 hw, fun w' _ => hrun w' (fun id hid => by rw [hl] at hid; cases hid)⟩) trivial ih
              | some id =>
                rw [hl] at hr
                have hmi : ∃ i', m id = some i' ∧ i'.void = false ∧ i'.blk < w.heap.size := by
                  cases hopc : o.op <;> rw [hopc] at hl <;> simp only [loadId] at hl <;> first | (cases hl; done) | skip
                  rename_i t x
                  split at hl
                  · rename_i id' k s hev
                    cases hl
                    have hvr := ev_ok h2 hev
                    rw [hopc] at hop
                    unfold aop at hop
                    simp only [hev] at hop
                    unfold aLoad at hop
                    generalize a.eval x = q at hvr
                    cases hvr with
                    | ptr hm hv0 =>
                      rename_i i'
                      refine ⟨i', hm, hv0, ?_⟩
                      split at hop
                      · rename_i heq
                        cases heq
                        split at hop
                        · rename_i b hb
                          split at hop
                          · rename_i cs hcs
                            obtain ⟨b', hb', hB⟩ := h1.mt.has _ _ hm
                            rw [hb] at hb'
                            cases hb'
                            exact hB.live_lt (by cases b <;> first | rfl | (cases s <;> simp [rd] at hcs)) hv0
                          · cases hop
                        · cases hop
                      · cases hop
                  · cases hl
                obtain ⟨i', hm, hv0, hlt⟩ := hmi
                have ih := dreg_ok hI hG hsel hQp hQ ord (listed.setIfInBounds i true) _ _ ((i, id) :: L) ((i, i'.blk) :: LB) m (a.put o.dst v') w hord hr h1 hT' (by rw [size_put]; exact h3) (by rw [defers_put]; exact h4) (fun p hp => by
                  rcases List.mem_cons.1 hp with rfl | hp
                  · exact ⟨id, i', by simp, hm, hv0, rfl⟩
                  · obtain ⟨q, iq, q1, q2⟩ := hLB p hp
                    exact ⟨q, iq, by simp [q1], q2⟩)
                refine wpAnyR_first (C := fun w' => w'.heap[i'.blk]? = w.heap[i'.blk]?) hoi (Region.noSelect_spec hsel) (fun c a w hq => (hQp _ _ _ hq).elim) (fun j w1 w2 hk p hp => hk p (by simp [hp])) (fun w => Keeps.refl _ _ _ w)
                  (fun j w1 w2 hno hk hc => ?_) _ listed a w (Region.free_spec hoi hfree) hready (.inl ⟨wanted_ok h2 hw, fun w' hc => hrun w' (fun id' hid j hj => ?_)⟩) rfl ih
                · have hlt1 : i'.blk < w1.heap.size := by
                    rw [Array.getElem?_eq_getElem hlt] at hc
                    exact heap_lt hc
                  rw [hk (i, i'.blk) (by simp) hlt1 (fun oj hoj => waits_no (hno oj hoj))]
                  exact hc
                · rw [hl] at hid
                  cases hid
                  rw [hm] at hj
                  cases hj
                  exact hc
            · cases hr
          · rename_i hw
            have ih := dreg_ok hI hG hsel hQp hQ ord (listed.setIfInBounds i true) _ _ L LB m (a.put o.dst undef) w hord hr h1 (put_ok h2 (undef_ok m) hdst) (by rw [size_put]; exact h3) (by rw [defers_put]; exact h4) hLB
            exact wpAnyR_first (C := fun _ => True) hoi (Region.noSelect_spec hsel) (fun c a w hq => (hQp _ _ _ hq).elim) (fun _ _ _ h => h) (fun w => Keeps.refl _ _ _ w) (fun _ _ _ _ _ _ => trivial) _ listed a w
              (Region.free_spec hoi hfree) hready (.inr ⟨wanted_ok h2 hw, rfl⟩) trivial ih
          · cases hr
        · refine ⟨fun h => (by rw [hone] at h; cases h), fun j hj => ?_⟩
          rw [hone] at hj
          obtain rfl : j = i := by simpa using hj
          unfold wpOp
          rw [hoi]
          simp only
          split at hr
          · rename_i hw
            rw [wanted_ok h2 hw, if_pos rfl]
            split at hr
            · rename_i v H1 tc hop
              refine .inl (aop_step hI hG h1 h2 hop fun m' w' v' r1 r2 r3 r4 => ?_)
              have hT' : TRel m' (put T o.dst v) (a.put o.dst v') := put_ok (h2.mono r2) r3 hdst
              have go : ∀ L', (∀ p, p ∈ L → p ∈ L') → dreg I G N ops ord (put T o.dst v) H1 L' = some (T', H') → Keeps ops LB j w w' → Keeps ops LB j w w' ∧ wpAnyR P ops Q (Keeps ops LB) ord.length (listed.setIfInBounds j true) (a.put o.dst v') w' := by
                intro L' hLL hr' hk
                exact ⟨hk, dreg_ok hI hG hsel hQp hQ ord _ _ _ L' LB m' (a.put o.dst v') w' hord hr' r1 hT' (by rw [size_put]; exact h3) (by rw [defers_put]; exact h4) (fun p hp => by
                  obtain ⟨q, iq, q1, q2, q3⟩ := hLB p hp
                  exact ⟨q, iq, hLL _ q1, r2 _ _ q2, q3⟩)⟩
              split at hr
              · rename_i hf
                obtain ⟨rfl, rfl, _⟩ := aop_free hI h1 h2 hf hop
                refine go _ ?_ hr (fun p hp hlt _ => r4.keep p.2 hlt (fun q hq => by simp at hq))
                intro p hp
                split
                · simp [hp]
                · exact hp
              · split at hr
                · rename_i hchk
                  simp only [Bool.and_eq_true, List.all_eq_true, Bool.or_eq_true, Bool.not_eq_true'] at hchk
                  obtain ⟨hown, hL⟩ := hchk
                  refine go L (fun p hp => hp) hr (fun p hp hlt hno => ?_)
                  obtain ⟨id, ip, q1, q2, q3, q4⟩ := hLB p hp
                  rcases hL _ q1 with hw' | ⟨hc1, hc2⟩
                  · rw [hno o hoi] at hw'; cases hw'
                  · refine r4.keep p.2 hlt (fun q hq iq hiq hvq e => ?_)
                    have hqo := hown q hq
                    obtain ⟨bq, hbq, _⟩ := h1.mt.has _ _ hiq
                    obtain ⟨bp, hbp, _⟩ := h1.mt.has _ _ q2
                    rw [hbq] at hqo
                    simp only at hc2
                    rw [hbp] at hc2
                    have := h1.mt.inj q id iq ip bq bp hiq q2 hbq hbp hqo hc2 hvq q3 (by rw [e, q4])
                    subst this
                    have : tc.contains q = true := by simpa using hq
                    simp only at hc1
                    rw [this] at hc1
                    cases hc1
                · cases hr
            · cases hr
          · rename_i hw
            rw [wanted_ok h2 hw, if_neg (by simp)]
            exact ⟨Keeps.refl _ _ _ w, dreg_ok hI hG hsel hQp hQ ord _ _ _ L LB m (a.put o.dst undef) w hord hr h1 (put_ok h2 (undef_ok m) hdst) (by rw [size_put]; exact h3) (by rw [defers_put]; exact h4) hLB⟩
          · cases hr
      · cases hr
end
end Go.Proofs.Ytckbckijpdnlaaa.Eng
