/- The second engine, part 5: statements, in the text's order and in any. A lemma file: it claims nothing of the program. -/
import Derived.Test.YtckbckijpdnlaaaOwnS4
set_option linter.unusedVariables false
set_option linter.unusedSimpArgs false
namespace Go.Proofs.Ytckbckijpdnlaaa.Sy
open Go Go.Lib Go.Proofs.Ytckbckijpdnlaaa.Eng

/-- What is known of callees. -/
abbrev SSums := FuncId → List SV → SH → SRes
/-- What comes of a call is among what is said. -/
def CallOuts (P : Program) (v : Val) (t : Tree (SV × SH × List Nat)) (m0 : Mp) (H0 : AHeap) (w0 : World) (m : Mp) (f : FuncId) (args : Array Value) (w : World) : Prop :=
  Calls P f args w fun e w' => ∃ (kn : Kn) (x : SV) (H' : SH) (tc : List Nat) (m' : Mp) (u : Value), Out v t kn (x, H', tc) ∧ KV v kn ∧ e = .returned u ∧ Run m0 H0 w0 (dH v H') m' w' ∧ Mp.le m m' ∧ VRel m' (dv v x) u ∧ Eng.Frame m tc w w'
structure GOk (P : Program) (v : Val) (G : SSums) : Prop where
  ok : ∀ f args H kn, KV v kn → TOK v (fun _ _ => True) (G f args H kn) → (∃ fn, P.funcs[f]? = some fn ∧ fn.name ≠ "runtime.NumGoroutine" ∧ fn.body.isSome = true) ∧
    ∀ m0 H0 w0 m w args', Run m0 H0 w0 (dH v H) m w → LRel m (args.map (dv v)) args' → CallOuts P v (G f args H kn) m0 H0 w0 m f args'.toArray w
def sop (I : Tab) (G : SSums) (op : Op) (T : ST) (H : SH) : SRes := match op with
  | .call c => match c.callee with
    | .value x => match x with
      | .func f => SM.bind (opt 240 (sevs T c.args.toList)) fun vs => G f vs H
      | _ => .fail 241
    | _ => saop I (.call c) T H
  | op => saop I op T H
section
variable {P : Program} {I : Tab} {v : Val} {G : SSums} {m0 : Mp} {H0 : AHeap} {w0 : World} {H : SH} {m : Mp} {w : World} {a : Act} {o : Oper} {T : ST} {kn : Kn}
theorem TOK.top {α : Type} {ψ : Kn → α → Prop} {t : Tree α} (h : TOK v ψ t) : TOK v (fun _ _ => True) t := h.mono fun _ _ _ => trivial
theorem saop_step (hI : TOk P I) (h : Run m0 H0 w0 (dH v H) m w) (hT : TRel m (dT v T) a) (hk : KV v kn) (hc : isCall o.op = false) (ht : TOK v (fun _ _ => True) (saop I o.op T H kn)) {next : Act → World → Prop} {Q : Exit → Act → World → Prop}
    (hn : ∀ kn' x H' tc m' w' u, Out v (saop I o.op T H kn) kn' (x, H', tc) → KV v kn' → Run m0 H0 w0 (dH v H') m' w' → Mp.le m m' → VRel m' (dv v x) u → Eng.Frame m tc w w' → next (a.put o.dst u) w') : o.wp P a w next Q := by
  obtain ⟨kn', ⟨x, H', tc⟩, ho, _⟩ := ht.ex
  obtain ⟨hk', hr⟩ := saop_ok _ _ _ hk ho
  simp only [dres] at hr
  obtain ⟨m', w', u, h1, h2, h3, h4, h5⟩ := aop_good hI h hT hc hr
  have hn := hn kn' x H' tc m' w' u ho hk' h2 h3 h4 h5
  unfold Oper.wp
  rcases h1 with h1 | ⟨h1, rfl⟩
  · rw [h1]; exact hn
  · rw [h1]; exact hn
theorem sop_step (hI : TOk P I) (hG : GOk P v G) (h : Run m0 H0 w0 (dH v H) m w) (hT : TRel m (dT v T) a) (hk : KV v kn) (ht : TOK v (fun _ _ => True) (sop I G o.op T H kn)) {next : Act → World → Prop} {Q : Exit → Act → World → Prop}
    (hn : ∀ kn' x H' tc m' w' u, Out v (sop I G o.op T H kn) kn' (x, H', tc) → KV v kn' → Run m0 H0 w0 (dH v H') m' w' → Mp.le m m' → VRel m' (dv v x) u → Eng.Frame m tc w w' → next (a.put o.dst u) w') : o.wp P a w next Q := by
  by_cases hc : isCall o.op = true
  · cases hop : o.op <;> rw [hop] at hc <;> first | (cases hc; done) | skip
    rename_i c
    cases c with
    | mk callee args ats =>
      cases callee <;> first | (cases hc; done) | skip
      rename_i x
      rw [hop] at ht hn
      cases x <;> first | (exact ht.elim) | skip
      rename_i f
      simp only [sop] at ht hn
      cases hvs : sevs T args.toList with
      | none => rw [hvs] at ht; exact ht.elim
      | some vs =>
        rw [hvs] at ht hn
        have ht : TOK v (fun _ _ => True) (G f vs H kn) := ht
        obtain ⟨⟨fn, h1, h2, h3⟩, hcall⟩ := hG.ok f vs H kn hk ht
        have hL := evs_ok hT (sevs_ok (v := v) hvs)
        have := hcall m0 H0 w0 m w _ h hL
        have hargs : args.map a.eval = (args.toList.map a.eval).toArray := by apply Array.ext'; simp
        have hex : (execOp a.eval o).run P w = .ok (.enter f (args.toList.map a.eval).toArray) w := by
          have hb : ¬ fn.body = none := by intro hq; rw [hq] at h3; cases h3
          simp [execOp, hop, resolve, Act.eval, Deferred.ofValue, invoke, callFunc, h1, h2, hb, hargs]
        unfold Oper.wp
        rw [hex]
        show Calls P f _ w _
        refine this.mono ?_
        rintro e w' ⟨kn', x, H', tc, m', u, r0, rk, rfl, r1, r2, r3, r4⟩
        exact hn kn' x H' tc m' w' u r0 rk r1 r2 r3 r4
  · have hc : isCall o.op = false := by simpa using hc
    have he : sop I G o.op T H = saop I o.op T H := by
      cases hop : o.op <;> first | rfl | skip
      rename_i c
      cases c with
      | mk callee args ats =>
        cases callee <;> first | rfl | (rw [hop] at hc; cases hc)
    rw [he] at ht hn
    exact saop_step hI h hT hk hc ht hn
end

/-! ### guards -/
def swanted (ops : Array Oper) (o : Oper) (T : ST) : SM Bool := match o.guard with
  | none => .pure true
  | some (j, want) => match (ops[j]?).bind (·.dst) with
    | none => .pure false
    | some d => match T.lookup d with
      | some (.one (.bool b)) => SM.bind (ask b) fun q => .pure (q == want)
      | some (.tup _) => .pure false
      | _ => .fail 242
theorem swanted_ok {v : Val} {ops : Array Oper} {o : Oper} {T : ST} : Sat v (swanted ops o T) fun q => wantedA ops o (dT v T) = some q := by
  unfold swanted
  split
  · rename_i h; exact .pure (by simp [wantedA, h])
  · rename_i j want h
    split
    · rename_i hd; exact .pure (by simp [wantedA, h, yieldedA, hd])
    · rename_i d hd
      split
      · rename_i b hb
        refine Sat.askB fun q hq => .pure ?_
        simp only [wantedA, h, yieldedA, hd, dT_lookup, hb, Option.map_some, dv_one, dl_bool, hq]
        cases q <;> cases want <;> rfl
      · rename_i vs hb
        refine .pure ?_
        simp only [wantedA, h, yieldedA, hd, dT_lookup, hb, Option.map_some, dv_tup]
        rfl
      · exact .fail
def sput (T : ST) (dst : Option Tmp) (x : SV) : ST := match dst with
  | some d => (d, x) :: T
  | none => T
theorem sput_ok (v : Val) (T : ST) (dst : Option Tmp) (x : SV) : dT v (sput T dst x) = put (dT v T) dst (dv v x) := by cases dst <;> rfl

/-! ### in the text's order -/
def sreg (I : Tab) (G : SSums) (N : Nat) (ops : Array Oper) : List Oper → ST → SH → SM (ST × SH)
  | [], T, H => .pure (T, H)
  | o :: rest, T, H => if dstOk N o.dst = true then SM.bind (swanted ops o T) fun q => match q with
      | true => SM.bind (sop I G o.op T H) fun r => sreg I G N ops rest (sput T o.dst r.1) r.2.1
      | false => sreg I G N ops rest (sput T o.dst sundef) H
    else .fail 243
section
variable {P : Program} {I : Tab} {v : Val} {G : SSums} {m0 : Mp} {H0 : AHeap} {w0 : World} {N : Nat} {ops : Array Oper} {Q : Exit → Act → World → Prop}
theorem tok_sat {α β : Type} {m : SM α} {f : α → SM β} {φ : α → Prop} {ψ : Kn → β → Prop} {kn : Kn} (h : TOK v ψ ((SM.bind m f) kn)) (hs : Sat v m φ) (hk : KV v kn) : ∃ kn' a, KV v kn' ∧ φ a ∧ TOK v ψ (f a kn') := by
  have h := (tok_bind f (m kn)).1 h
  obtain ⟨kn', a, h1, h2⟩ := h.ex
  obtain ⟨h3, h4⟩ := hs _ _ _ hk h1
  exact ⟨kn', a, h3, h4, h2⟩
theorem ASat.put {T : ST} {H : SH} {a : Act} {w' : World} {m m' : Mp} {dst : Option Tmp} {x : SV} {u : Value} (h2 : TRel m (dT v T) a) (h3 : a.tmps.size = N) (h4 : a.defers = []) (hd : dstOk N dst = true)
    (r1 : Run m0 H0 w0 (dH v H) m' w') (r2 : Mp.le m m') (r3 : VRel m' (dv v x) u) : ASat N m0 H0 w0 (dT v (sput T dst x)) (dH v H) (a.put dst u) w' :=
  ⟨m', r1, by rw [sput_ok]; exact put_ok (h2.mono r2) r3 (dst_ok h3 hd), by rw [size_put]; exact h3, by rw [defers_put]; exact h4⟩
theorem sreg_ok (hI : TOk P I) (hG : GOk P v G) {ψ : Kn → ST × SH → Prop} (hQ : ∀ kn T' H' a w, ψ kn (T', H') → KV v kn → ASat N m0 H0 w0 (dT v T') (dH v H') a w → Q .normal a w) :
    ∀ (l : List Oper) (T : ST) (H : SH) (kn : Kn) (a : Act) (w : World), KV v kn → TOK v ψ (sreg I G N ops l T H kn) → ASat N m0 H0 w0 (dT v T) (dH v H) a w → wpList P ops Q l a w
  | [], T, H, kn, a, w, hk, ht, hs => hQ kn T H a w ht hk hs
  | o :: rest, T, H, kn, a, w, hk, ht, ⟨m, h1, h2, h3, h4⟩ => by
    simp only [sreg] at ht
    split at ht
    · rename_i hd
      obtain ⟨kn1, q, hk1, hw, ht⟩ := tok_sat ht swanted_ok hk
      unfold wpList
      rw [wanted_ok h2 hw]
      cases q with
      | true =>
        rw [if_pos rfl]
        have ht := (tok_bind _ _).1 ht
        refine .inl (sop_step hI hG h1 h2 hk1 ht.top fun kn' x H' tc m' w' u r0 rk r1 r2 r3 r4 => ?_)
        exact sreg_ok hI hG hQ rest _ _ _ _ _ rk (ht.out r0) (ASat.put h2 h3 h4 hd r1 r2 r3)
      | false =>
        rw [if_neg (by simp)]
        exact sreg_ok hI hG hQ rest _ _ _ _ _ hk1 ht (ASat.put h2 h3 h4 hd h1 (Mp.le_refl _) (undef_ok m))
    · exact ht.elim
end

/-! ### in any order -/
/-- What an operation waits for, by however many steps. -/
def waitsT (ops : Array Oper) : Nat → Nat → Nat → Bool
  | 0, _, _ => false
  | n + 1, j, i => match ops[j]? with
    | none => false
    | some o => o.after.any fun e => Region.binds .any e && (e.on == i || waitsT ops n e.on i)
/-- What is done has all done that it waits for. -/
def Clo (ops : Array Oper) (listed : Array Bool) : Prop := ∀ k ok, ops[k]? = some ok → listed.getD k false = true → ∀ e ∈ ok.after, Region.binds .any e = true → listed.getD e.on false = true
theorem no_wait {ops : Array Oper} {listed : Array Bool} {i : Nat} (hc : Clo ops listed) (hi : listed.getD i false = false) : ∀ (n j : Nat), (∀ oj, ops[j]? = some oj → ∀ e ∈ oj.after, Region.binds .any e = true → listed.getD e.on false = true) → waitsT ops n j i = false
  | 0, j, h => rfl
  | n + 1, j, h => by
    simp only [waitsT]
    cases ho : ops[j]? with
    | none => rfl
    | some o =>
      simp only
      rw [Array.any_eq_false']
      intro e he
      simp only [Bool.and_eq_true, Bool.or_eq_true, beq_iff_eq, not_and, not_or]
      intro hb
      have h1 := h o ho e he hb
      refine ⟨fun hq => ?_, ?_⟩
      · rw [hq, hi] at h1; cases h1
      · rw [no_wait hc hi n e.on fun ok hok e' he' hb' => hc e.on ok hok h1 e' he' hb']; simp
theorem Clo.step {ops : Array Oper} {listed : Array Bool} {j : Nat} (hc : Clo ops listed) (hj : j ∈ Region.ready .any ops listed) : Clo ops (listed.setIfInBounds j true) := by
  intro k ok hk hl e he hb
  obtain ⟨_, oj, hoj, hall⟩ := mem_ready.1 hj
  refine getD_set_true ?_
  by_cases hkj : j = k
  · subst hkj; rw [hoj] at hk; cases hk; exact hall e he hb
  · rw [getD_set_ne false hkj] at hl; exact hc k ok hk hl e he hb
theorem Clo.start (ops : Array Oper) (n : Nat) : Clo ops (Array.replicate n false) := by
  intro k ok hk hl
  simp [Array.getD_eq_getD_getElem?, Array.getElem?_replicate] at hl
  split at hl <;> simp at hl
def KeepsT (ops : Array Oper) (LB : List (Nat × Nat)) (j : Nat) (w w' : World) : Prop :=
  ∀ p ∈ LB, p.2 < w.heap.size → waitsT ops ops.size j p.1 = false → w'.heap[p.2]? = w.heap[p.2]?
theorem KeepsT.refl (ops : Array Oper) (LB : List (Nat × Nat)) (j : Nat) (w : World) : KeepsT ops LB j w w := fun _ _ _ _ => rfl
theorem wpAnyR_firstT {P : Program} {ops : Array Oper} {Q : Exit → Act → World → Prop} {R R' : Nat → World → World → Prop} {C : World → Prop} {i : Nat} {oi : Oper} {u : Value} (hi : ops[i]? = some oi) (hsel : ∀ (j : Nat) (o : Oper) cs b, ops[j]? = some o → o.op ≠ .select cs b)
    (hQ : ∀ c a w, Q (.panic c) (a.put oi.dst u) w → Q (.panic c) a w) (hRR : ∀ j w w', R' j w w' → R j w w') (hRi : ∀ w, R i w w)
    (hC : ∀ j w w', waitsT ops ops.size j i = false → R' j w w' → C w → C w') :
    ∀ (fuel : Nat) (listed : Array Bool) (a : Act) (w : World), Clo ops listed →
      (∀ j oj, ops[j]? = some oj → j ≠ i → listed.getD j true = false → (∀ e ∈ oj.after, Region.binds .any e = true → e.on ≠ i) → oi.apart ops oj = true) →
      i ∈ Region.ready .any ops listed → YieldsIf P ops C oi u a → C w →
      wpAnyR P ops Q R' fuel (listed.setIfInBounds i true) (a.put oi.dst u) w → wpAnyR P ops Q R (fuel + 1) listed a w := by
  intro fuel
  induction fuel with
  | zero =>
    intro listed a w _ _ hr hy hS H
    refine ⟨fun h => (by rw [h] at hr; cases hr), fun j hj => ?_⟩
    by_cases hji : j = i
    · subst hji; exact hy.wpOp hi hS ⟨hRi w, H⟩
    · have := ready_mono hj hji
      rw [H.1] at this
      cases this
  | succ fuel ih =>
    intro listed a w hclo hfree hr hy hS H
    refine ⟨fun h => (by rw [h] at hr; cases hr), fun j hj => ?_⟩
    by_cases hji : j = i
    · subst hji; exact hy.wpOp hi hS ⟨hRi w, wpAnyR.mono hRR _ _ _ _ H⟩
    · have h1 := H.2 j (ready_mono hj hji)
      obtain ⟨hjun, oj, hoj, hall⟩ := mem_ready.1 hj
      have hi0 : listed.getD i false = false := by
        have h0 := (mem_ready.1 hr).1
        rcases Nat.lt_or_ge i listed.size with h' | h'
        · simp [h'] at h0 ⊢; exact h0
        · simp [Array.getD_eq_getD_getElem?, Array.getElem?_eq_none h']
      have hnot : ∀ e ∈ oj.after, Region.binds .any e = true → e.on ≠ i := fun e he hb heq => by
        have h1 := hall e he hb
        rw [heq, hi0] at h1
        cases h1
      have hnw : waitsT ops ops.size j i = false := no_wait hclo hi0 _ j fun oj' hoj' => by rw [hoj] at hoj'; cases hoj'; exact hall
      have h2 := wpOp_putIf hoj (hfree j oj hoj hji hjun hnot) (fun cs b => hsel i oi cs b hi) (fun cs b => hsel j oj cs b hoj) hQ hy h1
      have hfree' : ∀ k ok, ops[k]? = some ok → k ≠ i → (listed.setIfInBounds j true).getD k true = false →
          (∀ e ∈ ok.after, Region.binds .any e = true → e.on ≠ i) → oi.apart ops ok = true := fun k ok hk hki hun hno => by
        refine hfree k ok hk hki ?_ hno
        by_cases hjk : j = k
        · subst hjk; exact hjun
        · rw [getD_set_ne true hjk] at hun; exact hun
      refine wpOp_mono (fun a' w' h3 => ⟨hRR _ _ _ h3.2.1, ih (listed.setIfInBounds j true) a' w' (hclo.step hj) hfree' (ready_mono hr (Ne.symm hji)) h3.1
        (hC j w w' hnw h3.2.1 hS) ?_⟩) h2
      rw [Array.setIfInBounds_comm _ _ hji]
      exact h3.2.2

/-- In which order operations are taken: one that turns nothing ahead of all; the one that may come; one of those that may come. -/
inductive Sch where
  | done | free (i : Nat) (s : Sch) | one (i : Nat) (s : Sch) | alt (i : Nat) (s r : Sch)
def altIds : Sch → List Nat
  | .one i _ => [i]
  | .alt i _ r => i :: altIds r
  | _ => []
def schOk (ops : Array Oper) : Sch → Bool → Nat → Array Bool → Bool
  | .done, _, _, listed => (Region.ready .any ops listed).isEmpty
  | .free _ _, _, 0, _ => false
  | .free i s, _, n + 1, listed => (match ops[i]? with
      | some o => freeOp o.op
      | none => false) && Region.free .any ops listed i && (Region.ready .any ops listed).contains i && schOk ops s true n (listed.setIfInBounds i true)
  | .one _ _, _, 0, _ => false
  | .one i s, top, n + 1, listed => (!top || Region.ready .any ops listed == [i]) && schOk ops s true n (listed.setIfInBounds i true)
  | .alt _ _ _, _, 0, _ => false
  | .alt i s r, top, n + 1, listed => (!top || Region.ready .any ops listed == i :: altIds r) && schOk ops s true n (listed.setIfInBounds i true) && schOk ops r false (n + 1) listed
def sOwn : Option SB → Bool
  | some (.cells _) => true
  | some (.row _ _ _) => true
  | some (.iter _ _) => true
  | _ => false
def sLive : Option SB → Bool
  | some .dead => false
  | some _ => true
  | none => false
theorem sOwn_ok (v : Val) (H : SH) (id : Nat) : ownB ((dH v H)[id]?) = sOwn (H[id]?) := by
  rw [dH_get]
  cases H[id]? with
  | none => rfl
  | some b => cases b <;> rfl
theorem sLive_ok (v : Val) (H : SH) (id : Nat) : liveB ((dH v H)[id]?) = sLive (H[id]?) := by
  rw [dH_get]
  cases H[id]? with
  | none => rfl
  | some b => cases b <;> rfl
def sLoadId (op : Op) (T : ST) : Option Nat := match op with
  | .load _ x => match sev T x with
    | some (.one (.ptr id _ _)) => some id
    | _ => none
  | _ => none
def stepF (I : Tab) (N : Nat) (ops : Array Oper) (i : Nat) (T : ST) (H : SH) (L : List (Nat × Nat)) (k : ST → SH → List (Nat × Nat) → SM (ST × SH)) : SM (ST × SH) := match ops[i]? with
  | none => .fail 244
  | some o => if dstOk N o.dst = true then SM.bind (swanted ops o T) fun q => match q with
      | true => SM.bind (saop I o.op T H) fun r => k (sput T o.dst r.1) r.2.1 (match sLoadId o.op T with
        | some id => (i, id) :: L
        | none => L)
      | false => k (sput T o.dst sundef) H L
    else .fail 245
def okN (ops : Array Oper) (i : Nat) (H : SH) (tc : List Nat) (L : List (Nat × Nat)) : Bool := tc.all (fun q => sOwn (H[q]?)) && L.all (fun p => waitsT ops ops.size i p.1 || (!tc.contains p.2 && sLive (H[p.2]?)))
def stepN (I : Tab) (G : SSums) (N : Nat) (ops : Array Oper) (i : Nat) (T : ST) (H : SH) (L : List (Nat × Nat)) (k : ST → SH → List (Nat × Nat) → SM (ST × SH)) : SM (ST × SH) := match ops[i]? with
  | none => .fail 246
  | some o => if dstOk N o.dst = true then SM.bind (swanted ops o T) fun q => match q with
      | true => SM.bind (sop I G o.op T H) fun r => if okN ops i H r.2.2 L = true then k (sput T o.dst r.1) r.2.1 L else .fail 247
      | false => k (sput T o.dst sundef) H L
    else .fail 248
def sdreg (I : Tab) (G : SSums) (N : Nat) (ops : Array Oper) : Sch → ST → SH → List (Nat × Nat) → SM (ST × SH)
  | .done, T, H, _ => .pure (T, H)
  | .free i s, T, H, L => stepF I N ops i T H L (sdreg I G N ops s)
  | .one i s, T, H, L => stepN I G N ops i T H L (sdreg I G N ops s)
  | .alt i s r, T, H, L => fun kn => .both (stepN I G N ops i T H L (sdreg I G N ops s) kn) (sdreg I G N ops r T H L kn)
section
variable {P : Program} {I : Tab} {v : Val} {G : SSums} {m0 : Mp} {H0 : AHeap} {w0 : World} {N : Nat} {ops : Array Oper} {Q : Exit → Act → World → Prop}
/-- What is remembered of loads lies in memory. -/
def LB_ok (L LB : List (Nat × Nat)) (m : Mp) : Prop := ∀ p ∈ LB, ∃ id i, (p.1, id) ∈ L ∧ m id = some i ∧ i.void = false ∧ i.blk = p.2
/-- What one step of a drawn order needs of what comes behind. -/
def Next (P : Program) (v : Val) (N : Nat) (ops : Array Oper) (Q : Exit → Act → World → Prop) (m0 : Mp) (H0 : AHeap) (w0 : World) (ψ : Kn → ST × SH → Prop) (n : Nat) (listed : Array Bool) (k : ST → SH → List (Nat × Nat) → SM (ST × SH)) : Prop :=
  ∀ (T : ST) (H : SH) (L LB : List (Nat × Nat)) (m : Mp) (kn : Kn) (a : Act) (w : World), KV v kn → TOK v ψ (k T H L kn) → Run m0 H0 w0 (dH v H) m w → TRel m (dT v T) a → a.tmps.size = N → a.defers = [] → LB_ok L LB m →
    wpAnyR P ops Q (KeepsT ops LB) n listed a w
theorem stepN_ok (hI : TOk P I) (hG : GOk P v G) {ψ : Kn → ST × SH → Prop} {n i : Nat} {listed : Array Bool} {k : ST → SH → List (Nat × Nat) → SM (ST × SH)} (hn : Next P v N ops Q m0 H0 w0 ψ n (listed.setIfInBounds i true) k)
    {T : ST} {H : SH} {L LB : List (Nat × Nat)} {m : Mp} {kn : Kn} {a : Act} {w : World} (hk : KV v kn) (ht : TOK v ψ (stepN I G N ops i T H L k kn)) (h1 : Run m0 H0 w0 (dH v H) m w) (h2 : TRel m (dT v T) a) (h3 : a.tmps.size = N) (h4 : a.defers = []) (hLB : LB_ok L LB m) :
    wpOp P ops Q i (fun a' w' => KeepsT ops LB i w w' ∧ wpAnyR P ops Q (KeepsT ops LB) n (listed.setIfInBounds i true) a' w') a w := by
  unfold stepN at ht
  unfold wpOp
  cases hoi : ops[i]? with
  | none => rw [hoi] at ht; exact ht.elim
  | some o =>
    rw [hoi] at ht
    simp only at ht ⊢
    split at ht
    · rename_i hd
      obtain ⟨kn1, q, hk1, hw, ht⟩ := tok_sat ht swanted_ok hk
      rw [wanted_ok h2 hw]
      cases q with
      | true =>
        rw [if_pos rfl]
        have ht := (tok_bind _ _).1 ht
        refine .inl (sop_step hI hG h1 h2 hk1 ht.top fun kn' x H' tc m' w' u r0 rk r1 r2 r3 r4 => ?_)
        have ht := ht.out r0
        simp only at ht
        split at ht
        · rename_i hchk
          simp only [okN, Bool.and_eq_true, List.all_eq_true, Bool.or_eq_true, Bool.not_eq_true'] at hchk
          obtain ⟨hown, hL⟩ := hchk
          refine ⟨fun p hp hlt hno => ?_, ?_⟩
          · obtain ⟨id, ip, q1, q2, q3, q4⟩ := hLB p hp
            rcases hL _ q1 with hw' | ⟨hc1, hc2⟩
            · rw [hno] at hw'; cases hw'
            · refine r4.keep p.2 hlt (fun q hq iq hiq hvq e => ?_)
              have hqo := hown q hq
              rw [← sOwn_ok v] at hqo
              simp only at hc2
              rw [← sLive_ok v] at hc2
              obtain ⟨bq, hbq, _⟩ := h1.mt.has _ _ hiq
              obtain ⟨bp, hbp, _⟩ := h1.mt.has _ _ q2
              rw [hbq] at hqo
              rw [hbp] at hc2
              have := h1.mt.inj q id iq ip bq bp hiq q2 hbq hbp hqo hc2 hvq q3 (by rw [e, q4])
              subst this
              have : tc.contains q = true := by simpa using hq
              simp only at hc1
              rw [this] at hc1
              cases hc1
          · refine hn _ _ L LB m' kn' _ w' rk ht r1 (by rw [sput_ok]; exact put_ok (h2.mono r2) r3 (dst_ok h3 hd)) (by rw [size_put]; exact h3) (by rw [defers_put]; exact h4) fun p hp => ?_
            obtain ⟨q, iq, q1, q2, q3⟩ := hLB p hp
            exact ⟨q, iq, q1, r2 _ _ q2, q3⟩
        · exact ht.elim
      | false =>
        rw [if_neg (by simp)]
        refine ⟨KeepsT.refl _ _ _ w, hn _ _ L LB m kn1 _ w hk1 ht h1 (by rw [sput_ok]; exact put_ok h2 (undef_ok m) (dst_ok h3 hd)) (by rw [size_put]; exact h3) (by rw [defers_put]; exact h4) hLB⟩
    · exact ht.elim
theorem sLoadId_ok {op : Op} {T : ST} {kn kn' : Kn} {x : SV} {H H' : SH} {tc : List Nat} (ho : Out v (saop I op T H kn) kn' (x, H', tc)) : loadId op (dT v T) = sLoadId op T := by
  cases op <;> first | rfl | skip
  rename_i t y
  simp only [saop] at ho
  cases hy : sev T y with
  | none => rw [hy] at ho; exact ho.elim
  | some p =>
    rw [hy] at ho
    have ho : Out v (sLoad I t p H kn) kn' (x, H', tc) := ho
    simp only [loadId, sLoadId, sev_ok (v := v) hy, hy]
    cases p with
    | one l =>
      cases l with
      | ite c x y =>
        exfalso
        have : sLoad I t (.one (.ite c x y)) H = .fail 18 := by unfold sLoad; split <;> first | (rename_i h; cases h; done) | rfl | (rename_i h _; cases h; done) | (rename_i h; simp at h)
        rw [this] at ho
        exact ho
      | _ => rfl
    | agg ls => rfl
    | tup vs => rfl
theorem stepF_ok (hI : TOk P I) {ψ : Kn → ST × SH → Prop} (hsel : Region.noSelect ops = true) (hQp : ∀ c a w, ¬ Q (.panic c) a w) {n i : Nat} {listed : Array Bool} {k : ST → SH → List (Nat × Nat) → SM (ST × SH)} (hn : Next P v N ops Q m0 H0 w0 ψ n (listed.setIfInBounds i true) k)
    (hclo : Clo ops listed) (hf : (match ops[i]? with | some o => freeOp o.op | none => false) = true) (hfree : Region.free .any ops listed i = true) (hready : i ∈ Region.ready .any ops listed)
    {T : ST} {H : SH} {L LB : List (Nat × Nat)} {m : Mp} {kn : Kn} {a : Act} {w : World} (hk : KV v kn) (ht : TOK v ψ (stepF I N ops i T H L k kn)) (h1 : Run m0 H0 w0 (dH v H) m w) (h2 : TRel m (dT v T) a) (h3 : a.tmps.size = N) (h4 : a.defers = []) (hLB : LB_ok L LB m) :
    wpAnyR P ops Q (KeepsT ops LB) (n + 1) listed a w := by
  unfold stepF at ht
  cases hoi : ops[i]? with
  | none => rw [hoi] at ht; exact ht.elim
  | some o =>
    rw [hoi] at ht hf
    simp only at ht hf
    split at ht
    · rename_i hd
      have hdst := dst_ok h3 hd
      obtain ⟨kn1, q, hk1, hw, ht⟩ := tok_sat ht swanted_ok hk
      cases q with
      | true =>
        have ht := (tok_bind _ _).1 ht
        obtain ⟨kn', ⟨x, H', tc⟩, ho, ht⟩ := ht.ex
        obtain ⟨hk', hr⟩ := saop_ok _ _ _ hk1 ho
        simp only [dres] at hr
        obtain ⟨e1, e2, u, hv, hrun⟩ := aop_free hI h1 h2 hf hr
        rw [← e1] at h1
        have hT' : TRel m (dT v (sput T o.dst x)) (a.put o.dst u) := by rw [sput_ok]; exact put_ok h2 hv hdst
        rw [sLoadId_ok ho] at hrun
        cases hl : sLoadId o.op T with
        | none =>
          rw [hl] at ht hrun
          have ih := hn _ _ L LB m kn' _ w hk' ht h1 hT' (by rw [size_put]; exact h3) (by rw [defers_put]; exact h4) hLB
          exact wpAnyR_firstT (C := fun _ => True) hoi (Region.noSelect_spec hsel) (fun c a w hq => (hQp _ _ _ hq).elim) (fun _ _ _ h => h) (fun w => KeepsT.refl _ _ _ w) (fun _ _ _ _ _ _ => trivial) _ listed a w hclo
            (Region.free_spec hoi hfree) hready (.inl ⟨wanted_ok h2 hw, fun w' _ => hrun w' (fun id hid => by cases hid)⟩) trivial ih
        | some id =>
          rw [hl] at ht hrun
          have hmi : ∃ i', m id = some i' ∧ i'.void = false ∧ i'.blk < w.heap.size := by
            have hl : loadId o.op (dT v T) = some id := by rw [sLoadId_ok ho]; exact hl
            rw [← e1] at hr
            cases hopc : o.op <;> rw [hopc] at hl <;> simp only [loadId] at hl <;> first | (cases hl; done) | skip
            rename_i t y
            split at hl
            · rename_i id' k s hev
              cases hl
              have hvr := ev_ok h2 hev
              rw [hopc] at hr
              unfold aop at hr
              simp only [hev] at hr
              unfold aLoad at hr
              generalize a.eval y = q at hvr
              cases hvr with
              | ptr hm hv0 =>
                rename_i i'
                refine ⟨i', hm, hv0, ?_⟩
                split at hr
                · rename_i heq
                  cases heq
                  split at hr
                  · rename_i b hb
                    split at hr
                    · rename_i cs hcs
                      obtain ⟨b', hb', hB⟩ := h1.mt.has _ _ hm
                      rw [hb] at hb'
                      cases hb'
                      exact hB.live_lt (by cases b <;> first | rfl | (cases s <;> simp [rd] at hcs)) hv0
                    · cases hr
                  · cases hr
                · cases hr
            · cases hl
          obtain ⟨i', hm, hv0, hlt⟩ := hmi
          have ih := hn _ _ ((i, id) :: L) ((i, i'.blk) :: LB) m kn' _ w hk' ht h1 hT' (by rw [size_put]; exact h3) (by rw [defers_put]; exact h4) (fun p hp => by
            rcases List.mem_cons.1 hp with rfl | hp
            · exact ⟨id, i', by simp, hm, hv0, rfl⟩
            · obtain ⟨q, iq, q1, q2⟩ := hLB p hp
              exact ⟨q, iq, by simp [q1], q2⟩)
          refine wpAnyR_firstT (C := fun w' => w'.heap[i'.blk]? = w.heap[i'.blk]?) hoi (Region.noSelect_spec hsel) (fun c a w hq => (hQp _ _ _ hq).elim) (fun j w1 w2 hk p hp => hk p (by simp [hp])) (fun w => KeepsT.refl _ _ _ w)
            (fun j w1 w2 hno hk hc => ?_) _ listed a w hclo (Region.free_spec hoi hfree) hready (.inl ⟨wanted_ok h2 hw, fun w' hc => hrun w' (fun id' hid j hj => ?_)⟩) rfl ih
          · have hlt1 : i'.blk < w1.heap.size := by
              rw [Array.getElem?_eq_getElem hlt] at hc
              exact heap_lt hc
            rw [hk (i, i'.blk) (by simp) hlt1 hno]
            exact hc
          · cases hid
            rw [hm] at hj
            cases hj
            exact hc
      | false =>
        have ih := hn _ _ L LB m kn1 _ w hk1 ht h1 (by rw [sput_ok]; exact put_ok h2 (undef_ok m) hdst) (by rw [size_put]; exact h3) (by rw [defers_put]; exact h4) hLB
        exact wpAnyR_firstT (C := fun _ => True) hoi (Region.noSelect_spec hsel) (fun c a w hq => (hQp _ _ _ hq).elim) (fun _ _ _ h => h) (fun w => KeepsT.refl _ _ _ w) (fun _ _ _ _ _ _ => trivial) _ listed a w hclo
          (Region.free_spec hoi hfree) hready (.inr ⟨wanted_ok h2 hw, rfl⟩) trivial ih
    · exact ht.elim
/-- All of a chain's ways. -/
theorem sdreg_ok (hI : TOk P I) (hG : GOk P v G) {ψ : Kn → ST × SH → Prop} (hsel : Region.noSelect ops = true) (hQp : ∀ c a w, ¬ Q (.panic c) a w) (hQ : ∀ kn T' H' a w, ψ kn (T', H') → KV v kn → ASat N m0 H0 w0 (dT v T') (dH v H') a w → Q .normal a w) :
    ∀ (s : Sch) (n : Nat) (listed : Array Bool), Clo ops listed →
      (schOk ops s true n listed = true → Next P v N ops Q m0 H0 w0 ψ n listed (sdreg I G N ops s)) ∧
      (∀ n', n = n' + 1 → schOk ops s false n listed = true → (∀ j ∈ altIds s, j ∈ Region.ready .any ops listed) → ∀ j ∈ altIds s, ∀ (T : ST) (H : SH) (L LB : List (Nat × Nat)) (m : Mp) (kn : Kn) (a : Act) (w : World), KV v kn → TOK v ψ (sdreg I G N ops s T H L kn) → Run m0 H0 w0 (dH v H) m w → TRel m (dT v T) a → a.tmps.size = N → a.defers = [] → LB_ok L LB m →
        wpOp P ops Q j (fun a' w' => KeepsT ops LB j w w' ∧ wpAnyR P ops Q (KeepsT ops LB) n' (listed.setIfInBounds j true) a' w') a w)
  | .done, n, listed, hclo => by
    refine ⟨fun hs T H L LB m kn a w hk ht h1 h2 h3 h4 hLB => ?_, fun n' _ _ _ j hj => by cases hj⟩
    have hr : Region.ready .any ops listed = [] := by simpa [schOk] using hs
    have hq : Q .normal a w := hQ kn T H a w ht hk ⟨m, h1, h2, h3, h4⟩
    cases n with
    | zero => exact ⟨hr, hq⟩
    | succ n => exact ⟨fun _ => hq, fun i hi => by rw [hr] at hi; cases hi⟩
  | .free i s, n, listed, hclo => by
    refine ⟨fun hs => ?_, fun n' _ _ _ j hj => by cases hj⟩
    cases n with
    | zero => cases hs
    | succ n =>
      simp only [schOk, Bool.and_eq_true] at hs
      obtain ⟨⟨⟨hf, hfree⟩, hcon⟩, hs⟩ := hs
      have hready : i ∈ Region.ready .any ops listed := by simpa using hcon
      have hn := (sdreg_ok hI hG hsel hQp hQ s n _ (hclo.step hready)).1 hs
      intro T H L LB m kn a w hk ht h1 h2 h3 h4 hLB
      exact stepF_ok hI hsel hQp hn hclo hf hfree hready hk ht h1 h2 h3 h4 hLB
  | .one i s, n, listed, hclo => by
    cases n with
    | zero => exact ⟨fun hs => (by cases hs), fun n' hn' => (by cases hn')⟩
    | succ n =>
      refine ⟨fun hs => ?_, fun n' hn' hs hrd j hj T H L LB m kn a w hk ht h1 h2 h3 h4 hLB => ?_⟩
      · simp only [schOk, Bool.and_eq_true, Bool.not_true, Bool.false_or, beq_iff_eq] at hs
        obtain ⟨hone, hs⟩ := hs
        have hready : i ∈ Region.ready .any ops listed := by rw [hone]; simp
        have hn := (sdreg_ok hI hG hsel hQp hQ s n _ (hclo.step hready)).1 hs
        intro T H L LB m kn a w hk ht h1 h2 h3 h4 hLB
        refine ⟨fun h => (by rw [hone] at h; cases h), fun j hj => ?_⟩
        rw [hone] at hj
        obtain rfl : j = i := by simpa using hj
        exact stepN_ok hI hG hn hk ht h1 h2 h3 h4 hLB
      · cases hn'
        simp only [schOk, Bool.not_false, Bool.true_or, Bool.true_and] at hs
        have hready := hrd i (by simp [altIds])
        obtain rfl : j = i := by simpa [altIds] using hj
        have hn := (sdreg_ok hI hG hsel hQp hQ s n _ (hclo.step hready)).1 hs
        exact stepN_ok hI hG hn hk ht h1 h2 h3 h4 hLB
  | .alt i s r, n, listed, hclo => by
    cases n with
    | zero => exact ⟨fun hs => (by cases hs), fun n' hn' => (by cases hn')⟩
    | succ n =>
      have key : ∀ (top : Bool), schOk ops (.alt i s r) top (n + 1) listed = true → (∀ j ∈ altIds (.alt i s r), j ∈ Region.ready .any ops listed) → ∀ j ∈ altIds (.alt i s r), ∀ (T : ST) (H : SH) (L LB : List (Nat × Nat)) (m : Mp) (kn : Kn) (a : Act) (w : World), KV v kn → TOK v ψ (sdreg I G N ops (.alt i s r) T H L kn) → Run m0 H0 w0 (dH v H) m w → TRel m (dT v T) a → a.tmps.size = N → a.defers = [] → LB_ok L LB m →
        wpOp P ops Q j (fun a' w' => KeepsT ops LB j w w' ∧ wpAnyR P ops Q (KeepsT ops LB) n (listed.setIfInBounds j true) a' w') a w := by
        intro top hs hrd j hj T H L LB m kn a w hk ht h1 h2 h3 h4 hLB
        simp only [schOk, Bool.and_eq_true] at hs
        obtain ⟨⟨_, hs⟩, hr⟩ := hs
        have ht1 : TOK v ψ (stepN I G N ops i T H L (sdreg I G N ops s) kn) := ht.1
        have ht2 : TOK v ψ (sdreg I G N ops r T H L kn) := ht.2
        rcases List.mem_cons.1 hj with rfl | hj
        · have hready := hrd j (by simp [altIds])
          exact stepN_ok hI hG ((sdreg_ok hI hG hsel hQp hQ s n _ (hclo.step hready)).1 hs) hk ht1 h1 h2 h3 h4 hLB
        · exact (sdreg_ok hI hG hsel hQp hQ r (n + 1) listed hclo).2 n rfl hr (fun q hq => hrd q (by simp [altIds, hq])) j hj T H L LB m kn a w hk ht2 h1 h2 h3 h4 hLB
      refine ⟨fun hs => ?_, fun n' hn' hs hrd => ?_⟩
      · have hone : Region.ready .any ops listed = altIds (.alt i s r) := by
          simp only [schOk, Bool.and_eq_true, Bool.not_true, Bool.false_or, beq_iff_eq] at hs
          exact hs.1.1
        intro T H L LB m kn a w hk ht h1 h2 h3 h4 hLB
        refine ⟨fun h => (by rw [hone] at h; cases h), fun j hj => ?_⟩
        exact key true hs (fun q hq => by rw [hone]; exact hq) j (by rw [← hone]; exact hj) T H L LB m kn a w hk ht h1 h2 h3 h4 hLB
      · cases hn'
        exact key false hs hrd

/-! ### code's statements -/
/-- An order, found. -/
def mkSch (ops : Array Oper) : Nat → Array Bool → Sch
  | 0, _ => .done
  | n + 1, listed =>
    let rs := Region.ready .any ops listed
    match rs.find? (fun i => (match ops[i]? with
      | some o => freeOp o.op
      | none => false) && Region.free .any ops listed i) with
    | some i => .free i (mkSch ops n (listed.setIfInBounds i true))
    | none => chain (fun i => mkSch ops n (listed.setIfInBounds i true)) rs
where chain (f : Nat → Sch) : List Nat → Sch
  | [] => .done
  | [i] => .one i (f i)
  | i :: r => .alt i (f i) (chain f r)
theorem AW.regionS (hI : TOk P I) (hG : GOk P v G) {H0 : AHeap} {Q : Exit → TM → AHeap → Prop} {id : Nat} {T : ST} {H : SH} {kn : Kn} (hk : KV v kn)
    (ht : TOK v (fun kn r => KV v kn → Q .normal (dT v r.1) (dH v r.2)) (sreg I G N ops ops.toList T H kn)) : AW P N H0 (.region id ops false) (dT v T) (dH v H) Q :=
  ⟨fun m0 w0 a w hM hs => wp_region_list (sreg_ok hI hG (fun kn T' H' a' w' hq hk hs' => ⟨rfl, dT v T', dH v H', hq hk, hs'⟩) _ _ _ _ _ _ hk ht hs)⟩
theorem AW.drawS (hI : TOk P I) (hG : GOk P v G) (hm : P.follows .mixedOrders = true) {H0 : AHeap} {Q : Exit → TM → AHeap → Prop} {id : Nat} {T : ST} {H : SH} {kn : Kn} (hk : KV v kn) {s : Sch} (hsel : Region.noSelect ops = true) (hs : schOk ops s true ops.size (Array.replicate ops.size false) = true)
    (ht : TOK v (fun kn r => KV v kn → Q .normal (dT v r.1) (dH v r.2)) (sdreg I G N ops s T H [] kn)) : AW P N H0 (.region id ops true) (dT v T) (dH v H) Q :=
  ⟨fun m0 w0 a w hM ⟨m, h1, h2, h3, h4⟩ => wp_region_any hm (wpAny_of_R _ _ _ _
    ((sdreg_ok (m0 := m0) (H0 := H0) (w0 := w0) hI hG hsel (fun c a w hq => by cases hq.1) (fun kn T' H' a' w' hq hk hs' => ⟨rfl, dT v T', dH v H', hq hk, hs'⟩) s _ _ (Clo.start ops _)).1 hs T H [] [] m kn a _ hk ht h1.drew h2 h3 h4 (by intro p hp; cases hp)))⟩
end
end Go.Proofs.Ytckbckijpdnlaaa.Sy
