/- The engine, part 13: regions by what must hold behind them, and functions by what is claimed of them. A lemma file: it claims nothing of the program. -/
import Derived.Test.YtckbckijpdnlaaaOwnE12
set_option linter.unusedVariables false
set_option linter.unusedSimpArgs false
namespace Go.Proofs.Ytckbckijpdnlaaa.Eng
open Go Go.Lib

/-- What must hold behind what an operation gives. -/
def OP (r : Res) (k : Value → AHeap → List Nat → Prop) : Prop := match r with
  | some (v, H', tc) => k v H' tc
  | none => False
theorem OP_some (v : Value) (H : AHeap) (tc : List Nat) (k : Value → AHeap → List Nat → Prop) : OP (some (v, H, tc)) k = k v H tc := rfl
theorem OP_none (k : Value → AHeap → List Nat → Prop) : OP none k = False := rfl
theorem OP.congr {r r' : Res} {k : Value → AHeap → List Nat → Prop} (h : r = r') : OP r k = OP r' k := by rw [h]
theorem OP.inv {r : Res} {k : Value → AHeap → List Nat → Prop} (h : OP r k) : ∃ v H' tc, r = some (v, H', tc) ∧ k v H' tc := by
  unfold OP at h
  split at h
  · exact ⟨_, _, _, rfl, h⟩
  · exact h.elim
/-- Whether a guarded operation is done. -/
def WP (b : Option Bool) (x y : Prop) : Prop := match b with
  | some true => x
  | some false => y
  | none => False
theorem WP.congr {b b' : Option Bool} {x y : Prop} (h : b = b') : WP b x y = WP b' x y := by rw [h]
/-- A number's operation. -/
def OI (r : Option Oper) (k : Oper → Prop) : Prop := match r with
  | some o => k o
  | none => False
theorem OI_some (o : Oper) (k : Oper → Prop) : OI (some o) k = k o := rfl
theorem OI.congr {r r' : Option Oper} {k : Oper → Prop} (h : r = r') : OI r k = OI r' k := by rw [h]
attribute [congr] OP.congr WP.congr OI.congr
def RP (I : Tab) (G : Sums) (N : Nat) (ops : Array Oper) : List Oper → TM → AHeap → (TM → AHeap → Prop) → Prop
  | [], T, H, K => K T H
  | o :: rest, T, H, K => dstOk N o.dst = true ∧ WP (wantedA ops o T)
      (OP (aop I G o.op T H) fun v H' _ => RP I G N ops rest (put T o.dst v) H' K)
      (RP I G N ops rest (put T o.dst undef) H K)
theorem RP.inv {I : Tab} {G : Sums} {N : Nat} {ops : Array Oper} {K : TM → AHeap → Prop} : ∀ {l : List Oper} {T : TM} {H : AHeap}, RP I G N ops l T H K → ∃ T' H', areg I G N ops l T H = some (T', H') ∧ K T' H'
  | [], T, H, h => ⟨T, H, rfl, h⟩
  | o :: rest, T, H, h => by
    obtain ⟨hd, h⟩ := h
    unfold WP at h
    split at h
    · rename_i hw
      obtain ⟨v, H', tc, he, h⟩ := h.inv
      obtain ⟨T', H'', h1, h2⟩ := RP.inv h
      exact ⟨T', H'', by simp only [areg, hw, he, hd, if_true]; exact h1, h2⟩
    · rename_i hw
      obtain ⟨T', H'', h1, h2⟩ := RP.inv h
      exact ⟨T', H'', by simp only [areg, hw, hd, if_true]; exact h1, h2⟩
    · exact h.elim
/-- Drawn regions: a step's own condition. -/
def dok (H : AHeap) (o : Oper) (tc : List Nat) (L : List (Nat × Nat)) : Bool := tc.all (fun q => ownB (H[q]?)) && L.all (fun p => waits o p.1 || (!tc.contains p.2 && liveB (H[p.2]?)))
def lnext (o : Oper) (i : Nat) (T : TM) (L : List (Nat × Nat)) : List (Nat × Nat) := match loadId o.op T with
  | some id => (i, id) :: L
  | none => L
def DP (I : Tab) (G : Sums) (N : Nat) (ops : Array Oper) : List Nat → TM → AHeap → List (Nat × Nat) → (TM → AHeap → Prop) → Prop
  | [], T, H, _, K => K T H
  | i :: r, T, H, L, K => OI (ops.toList[i]?) fun o => dstOk N o.dst = true ∧ WP (wantedA ops o T)
      (OP (aop I G o.op T H) fun v H' tc => WP (some (freeOp o.op)) (DP I G N ops r (put T o.dst v) H' (lnext o i T L) K) (dok H o tc L = true ∧ DP I G N ops r (put T o.dst v) H' L K))
      (DP I G N ops r (put T o.dst undef) H L K)
theorem DP.inv {I : Tab} {G : Sums} {N : Nat} {ops : Array Oper} {K : TM → AHeap → Prop} : ∀ {l : List Nat} {T : TM} {H : AHeap} {L : List (Nat × Nat)}, DP I G N ops l T H L K → ∃ T' H', dreg I G N ops l T H L = some (T', H') ∧ K T' H'
  | [], T, H, L, h => ⟨T, H, rfl, h⟩
  | i :: r, T, H, L, h => by
    unfold DP at h
    cases ho : ops.toList[i]? with
    | none => rw [ho] at h; exact h.elim
    | some o =>
      rw [ho] at h
      have ho' : ops[i]? = some o := by simpa using ho
      obtain ⟨hd, h⟩ := h
      unfold WP at h
      split at h
      · rename_i hw
        obtain ⟨v, H', tc, he, h⟩ := h.inv
        split at h
        · rename_i hf
          have hf : freeOp o.op = true := by simpa using hf
          obtain ⟨T', H'', h1, h2⟩ := DP.inv h
          exact ⟨T', H'', by simp only [dreg, ho', hw, he, hd, hf, if_true]; exact h1, h2⟩
        · rename_i hf
          have hf : freeOp o.op = false := by simpa using hf
          obtain ⟨hk, h⟩ := h
          obtain ⟨T', H'', h1, h2⟩ := DP.inv h
          refine ⟨T', H'', ?_, h2⟩
          unfold dok at hk
          simp only [dreg, ho', hw, he, hd, if_true, hf]
          rw [if_neg (by simp), if_pos hk]
          exact h1
        · exact h.elim
      · rename_i hw
        obtain ⟨T', H'', h1, h2⟩ := DP.inv h
        exact ⟨T', H'', by simp only [dreg, ho', hw, hd, if_true]; exact h1, h2⟩
      · exact h.elim

section
variable {P : Program} {I : Tab} {G : Sums} {N : Nat} {H0 : AHeap} {T : TM} {H : AHeap} {Q : Exit → TM → AHeap → Prop} {c x y : Code}
/-- What is behind a region, shut away from the walk. -/
structure Kx (K : TM → AHeap → Prop) (Q : Exit → TM → AHeap → Prop) : Prop where
  k : ∀ T' H', Q .normal T' H' → K T' H'
theorem AW.regionK (hI : TOk P I) (hG : SOk P G) {id : Nat} {ops : Array Oper} (h : ∀ K : TM → AHeap → Prop, Kx K Q → RP I G N ops ops.toList T H K) : AW P N H0 (.region id ops false) T H Q := by
  obtain ⟨T', H', h1, h2⟩ := (h (Q .normal) ⟨fun _ _ h => h⟩).inv
  exact .region hI hG h1 h2
theorem AW.drawK (hI : TOk P I) (hG : SOk P G) (hm : P.follows .mixedOrders = true) {id : Nat} {ops : Array Oper} (ord : List Nat) (ho : planOk ops ord = true)
    (h : ∀ K : TM → AHeap → Prop, Kx K Q → DP I G N ops ord T H [] K) : AW P N H0 (.region id ops true) T H Q := by
  obtain ⟨T', H', h1, h2⟩ := (h (Q .normal) ⟨fun _ _ h => h⟩).inv
  simp only [planOk, Bool.and_eq_true, beq_iff_eq] at ho
  exact .draw hI hG hm ho.1.1 ho.1.2 ho.2 h1 h2
theorem thenQ.norm {K : TM → AHeap → Prop} (h : K T H) : thenQ K Q .normal T H := h
theorem AW.seqS (h : AW P N H0 x T H (thenQ (fun T H => AW P N H0 y T H Q) Q)) : AW P N H0 (.seq x y) T H Q := .seq h
theorem AW.condS {o : Operand} (b : Bool) (hb : ev T o = some (.bool b)) (h1 : b = true → AW P N H0 x T H Q) (h2 : b = false → AW P N H0 y T H Q) : AW P N H0 (.cond o x y) T H Q := by
  refine .cond hb ?_
  cases b with
  | true => exact h1 rfl
  | false => exact h2 rfl

/-! ### functions by what is claimed of them -/
abbrev Sum := List Value → AHeap → Res
/-- What is claimed of a function is true. -/
structure SumOk (P : Program) (f : FuncId) (S : Sum) : Prop where
  fn : ∃ fn, P.funcs[f]? = some fn ∧ fn.name ≠ "runtime.NumGoroutine" ∧ fn.body.isSome = true
  ok : ∀ args H v H' tc, S args H = some (v, H', tc) → ∀ m0 H0 w0 m w args', Run m0 H0 w0 H m w → LRel m args args' → CallGood P m0 H0 w0 m f args'.toArray w v H' tc
def noSums : Sums := fun _ _ _ => none
theorem noSums_ok : SOk P noSums := ⟨fun _ _ _ _ _ _ h => (by cases h), fun _ _ _ _ _ _ h => (by cases h)⟩
def addS (f : FuncId) (S : Sum) (G : Sums) : Sums := fun g => if g = f then S else G g
theorem SOk.add (hG : SOk P G) {f : FuncId} {S : Sum} (hS : SumOk P f S) : SOk P (addS f S G) :=
  ⟨fun g args H v H' tc h => by
    unfold addS at h
    split at h
    · rename_i e; subst e; exact hS.fn
    · exact hG.fn g args H v H' tc h,
  fun g args H v H' tc h => by
    unfold addS at h
    split at h
    · rename_i e; subst e; exact hS.ok args H v H' tc h
    · exact hG.ok g args H v H' tc h⟩
/-- How a function ends. -/
def Ends (I : Tab) (fn : Func) (Z : Value → AHeap → Prop) : Exit → TM → AHeap → Prop := fun e T H1 => retE e = true ∧ ∃ vs, ares I T H1 fn.results.toList = some vs ∧ Z (aresult vs) H1
theorem SumOk.mk' (hI : TOk P I) {f : FuncId} {S : Sum} {fn : Func} {c : Code} (hf : P.funcs[f]? = some fn) (hc : fn.body = some c) (hn : (fn.name != "runtime.NumGoroutine") = true)
    (h : ∀ args H v H' tc, S args H = some (v, H', tc) → args.length ≤ fn.ntmps ∧ ∃ R : List Nat, tc = (R.filter fun id => ownB (H[id]?)) ∧ ∀ Hr : AHeap, Hr.length = H.length → (∀ id, R.contains id = true → Hr[id]? = H[id]?) →
      AW P fn.ntmps Hr c (args0 0 args) Hr (Ends I fn fun u H1 => u = v ∧ join R 0 H H1 = H')) : SumOk P f S := by
  refine ⟨⟨fn, hf, by simpa using hn, by rw [hc]; rfl⟩, fun args H v H' tc hS m0 H0 w0 m w args' hR hL => ?_⟩
  obtain ⟨hlen, R, rfl, hA⟩ := h args H v H' tc hS
  refine calls_of_wp hf hc ?_
  have hl := hL.1
  have hst := ASat.start (n := fn.ntmps) (hR.mt.restr R) hL (by rw [← hl]; exact hlen)
  have hA := hA (restr R 0 H) (restr_len R 0 H) (fun id hid => by
    rw [restr_get]
    simp only [Nat.zero_add, hid, if_true]
    cases H[id]? <;> rfl)
  refine Code.wp_mono (fun e' a' w' hp => ?_) (hA.run _ _ _ _ (hR.mt.restr R) hst)
  obtain ⟨hnp, T, H1, ⟨he, vs, hvs, rfl, rfl⟩, m', h1, h2, h3, h4⟩ := hp
  obtain ⟨u, h5, h6⟩ := aresult_ok hI h1 h2 hvs
  obtain ⟨j1, j2⟩ := hR.join h1
  have key : a'.defers = [] ∧ ∃ v, (results fn a'.tmps).run P w' = .ok v w' ∧ ∃ (m'' : Mp) (v' : Value), Ending.returned v = .returned v' ∧ Run m0 H0 w0 (Eng.join R 0 H H1) m'' w' ∧ Mp.le m m'' ∧ VRel m'' (aresult vs) v' ∧ Frame m (R.filter fun id => ownB (H[id]?)) w w' :=
    ⟨h4, u, h6, m', u, rfl, j1, h1.ext, h5, j2⟩
  cases e' with
  | normal => exact key
  | ret => exact key
  | exit id => cases he
  | goto l => cases hnp
  | panic ch => cases hnp
  | outgrown => cases hnp
end
end Go.Proofs.Ytckbckijpdnlaaa.Eng
