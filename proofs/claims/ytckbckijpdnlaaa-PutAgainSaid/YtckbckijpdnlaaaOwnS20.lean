/- The second engine, part 20: how a function's contract is proved: pieces from loop to loop and to its ends, what holds at loops. A lemma file: it claims nothing of the program. -/
import Derived.Test.YtckbckijpdnlaaaOwnS19
set_option linter.unusedVariables false
set_option linter.unusedSimpArgs false
namespace Go.Proofs.Ytckbckijpdnlaaa.Sy
open Go Go.Lib Go.Proofs.Ytckbckijpdnlaaa.Eng

/-- What a function may give. -/
structure RP where
  x : SV
  H : SH
  ni : Nat
  nb : Nat
  nr : Nat
  ns : Nat
def RP.tm (r : RP) : Tmpl := { T := [(0, r.x)], H := r.H, ni := r.ni, nb := r.nb, nr := r.nr, ns := r.ns }
inductive LgF where
  | loop (k : Nat) (σ : Sb) | ret (k : Nat) (σ : Sb)
def rpTms (rps : List RP) : Tms := rps.map fun r => ([], r.tm)
def retF (I : Tab) (T : ST) (H : SH) (rs : List ResultVar) (n0 : Nat) (rps : List RP) : SM LgF := SM.bind (sares I T H rs) fun xs => SM.bind (opt 410 (sresult xs)) fun x => match findTm n0 [] [(0, x)] H 0 (rpTms rps) with
  | some (k, σ) => .pure (.ret k σ)
  | none => .fail 403
def toLgF (I : Tab) (rs : List ResultVar) (n0 : Nat) (tms : Tms) (rps : List RP) (l : Lf) : SM LgF := match l with
  | .norm T H => retF I T H rs n0 rps
  | .ret T H => retF I T H rs n0 rps
  | .ext _ _ _ => .fail 401
  | .loop p _ _ T H => match findTm n0 p T H 0 tms with
    | some (k, σ) => .pure (.loop k σ)
    | none => .fail 402
def LgFOK (v : Val) (J R : Nat → Val → Prop) : LgF → Prop
  | .loop k σ => J k (σ.val v)
  | .ret k σ => R k (σ.val v)
def seg0F (I : Tab) (G : SSums) (N : Nat) (c : Code) (rs : List ResultVar) (n0 : Nat) (tms : Tms) (rps : List RP) (ul : Pos → Bool) (nb : Nat) (T : ST) (H : SH) (kn : Kn) : Tree LgF :=
  strip ((srun I G N ul nb (.code [] c) [] T H kn).bind (toLgF I rs n0 tms rps))
def segLpF (I : Tab) (G : SSums) (N : Nat) (c : Code) (rs : List ResultVar) (n0 : Nat) (tms : Tms) (rps : List RP) (ul : Pos → Bool) (nb : Nat) (p : Pos) (tm : Tmpl) : Tree LgF := match loc c p with
  | some (.loop x, K) => strip ((srun I G N ul nb (.code (0 :: p) x) (.loop p x :: K) tm.T tm.H tm.kn).bind (toLgF I rs n0 tms rps))
  | _ => .bad 404
/-- What holds at a function's end. -/
def RetQ (I : Tab) (fn : Func) (H0 : AHeap) (rps : List RP) (R : Nat → Val → Prop) : Exit → TM → AHeap → Prop := fun e T H => retE e = true ∧ ∃ vs, ares I T H fn.results.toList = some vs ∧ ∃ k r u, rps[k]? = some r ∧ R k u ∧
  ∀ m0 w0 m w, Match m0 H0 w0 → Run m0 H0 w0 H m w → ∃ m', Run m0 H0 w0 (dH u r.H) m' w ∧ ∀ y, VRel m (aresult vs) y → VRel m' (dv u r.x) y
theorem chk_run {H0 : AHeap} {n0 : Nat} {π : Nm} {σ : Sb} {tm : Tmpl} {T : ST} {H : SH} {v : Val} {m0 m : Mp} {w0 w : World} (hn : n0 = H0.length) (h : chk n0 π σ tm T H = true) (hM : Match m0 H0 w0) (h1 : Run m0 H0 w0 (dH v H) m w) :
    ∃ m', Run m0 H0 w0 (dH (σ.val v) tm.H) m' w ∧ ∀ t x, tm.T.lookup t = some x → ∃ z, T.lookup t = some z ∧ ∀ y, VRel m (dv v z) y → VRel m' (dv (σ.val v) x) y := by
  obtain ⟨hinj, hlt, hvoid, hB⟩ := chk_facts h
  have hvn : ∀ j, π.void.contains j = true → π.at j = none := fun j hj => (hvoid j hj).2
  simp only [chk, Bool.and_eq_true, decide_eq_true_eq] at h
  obtain ⟨⟨⟨⟨⟨hlen, _⟩, _⟩, _⟩, hT⟩, _⟩ := h
  have hH' : ∀ (j : Nat) (b' : ABlk), (dH (σ.val v) tm.H)[j]? = some b' → ∃ b : SB, tm.H[j]? = some b ∧ b' = db (σ.val v) b := by
    intro j b' hb
    rw [dH_get] at hb
    cases hq : tm.H[j]? with
    | none => rw [hq] at hb; cases hb
    | some b => rw [hq] at hb; cases hb; exact ⟨b, rfl, rfl⟩
  have hid : ∀ j, j < H0.length → π.at j = some j := by
    intro j hj
    have hl : j < tm.H.length := by omega
    have := hB j _ (List.getElem?_eq_getElem hl)
    cases hp : π.at j with
    | none => have := chkB_none (v := v) this hp; omega
    | some id => rcases (chkB_some this hp).1 with g | g
                 · omega
                 · rw [g]
  refine ⟨mapN π (dH (σ.val v) tm.H) m, Run.norm h1 hM (by rw [dH_len]; omega) hid hinj (fun j k hj => by rw [dH_len]; exact hlt j k hj) (fun j hj => by rw [dH_len]; exact (hvoid j hj).1) ?_ ?_, ?_⟩
  · intro j b' id hb hid'
    obtain ⟨b, hb2, rfl⟩ := hH' j b' hb
    obtain ⟨_, c, hc, hcmp⟩ := chkB_some (hB j b hb2) hid'
    rcases cmpSB_ok (v := v) (m := m) (H' := dH (σ.val v) tm.H) hvn hcmp with g | ⟨g1, g2, g3⟩
    · exact .inl g
    · exact .inr ⟨db v c, dH_get' (H := H) hc, g1, g2, g3⟩
  · intro j b' hb hn' hc
    obtain ⟨b, hb2, rfl⟩ := hH' j b' hb
    exact chkB_void (v := v) (hB j b hb2) hn' hc
  · intro t x hx
    obtain ⟨z, hz, hcmp⟩ := chkT_ok hT t x hx
    exact ⟨z, hz, fun y hy => cmpSV_ok hvn hcmp hy⟩
section
variable {P : Program} {I : Tab} {G : SSums}
theorem retF_ok {v : Val} {T : ST} {H : SH} {H0 : AHeap} {n0 : Nat} {fn : Func} {rps : List RP} {kn kn' : Kn} {g : LgF} {J R : Nat → Val → Prop} (hn : n0 = H0.length) (hk : KV v kn) (ho : Out v (retF I T H fn.results.toList n0 rps kn) kn' g) (hg : LgFOK v J R g) {e : Exit} (he : retE e = true) : RetQ I fn H0 rps R e (dT v T) (dH v H) := by
  obtain ⟨k1, xs, h1, h2⟩ := out_bind _ _ ho
  obtain ⟨hk1, hx⟩ := sares_ok _ _ _ hk h1
  obtain ⟨k2, x, h3, h4⟩ := out_bind _ _ h2
  have hxs : sresult xs = some x := by
    cases hs : sresult xs with
    | none => rw [hs] at h3; exact h3.elim
    | some y => rw [hs] at h3; obtain ⟨_, rfl⟩ := h3; rfl
  refine ⟨he, _, hx, ?_⟩
  cases hf : findTm n0 [] [(0, x)] H 0 (rpTms rps) with
  | none => rw [hf] at h4; exact h4.elim
  | some q =>
    obtain ⟨k, σ⟩ := q
    rw [hf] at h4
    obtain ⟨_, rfl⟩ := h4
    obtain ⟨i, tm, π, e1, e2, e3⟩ := findTm_ok hf
    rw [Nat.zero_add] at e1
    subst e1
    unfold rpTms at e2
    rw [List.getElem?_map] at e2
    cases hr : rps[k]? with
    | none => rw [hr] at e2; cases e2
    | some r =>
      rw [hr] at e2
      simp only [Option.map_some, Option.some.injEq, Prod.mk.injEq, true_and] at e2
      subst e2
      refine ⟨k, r, σ.val v, hr, hg, fun m0 w0 m w hM h => ?_⟩
      obtain ⟨m', r1, r2⟩ := chk_run hn e3 hM h
      obtain ⟨z, hz, r3⟩ := r2 0 r.x rfl
      refine ⟨m', r1, fun y hy => r3 y ?_⟩
      have : z = x := by simpa using hz.symm
      rw [this]
      rw [sresult_ok hxs] at hy
      exact hy
/-- From what holds at each loop, what holds at the ends. -/
theorem floydF (hI : TOk P I) {v0 : Val} {Inv R : Nat → Val → Prop} (hG0 : GOk P v0 G) (hG : ∀ k v, Inv k v → GOk P v G) (hm : P.follows .mixedOrders = true) {fn : Func} {c : Code} {n0 nb : Nat} {tms : Tms} {rps : List RP} {ul : Pos → Bool} {T0 : ST} {H0 : SH} {kn0 : Kn} (hn : n0 = H0.length)
    (lt : Nat × Val → Nat × Val → Prop) (hwf : WellFounded lt)
    (hkn : ∀ k p tm, tms[k]? = some (p, tm) → ∀ v, Inv k v → KV v tm.kn)
    (hk0 : KV v0 kn0)
    (hstart : TOK v0 (fun _ g => LgFOK v0 Inv R g) (seg0F I G fn.ntmps c fn.results.toList n0 tms rps ul nb T0 H0 kn0))
    (hstep : ∀ k p tm, tms[k]? = some (p, tm) → ∀ v, Inv k v → TOK v (fun _ g => LgFOK v (fun q u => Inv q u ∧ lt (q, u) (k, v)) R g) (segLpF I G fn.ntmps c fn.results.toList n0 tms rps ul nb p tm)) :
    AW P fn.ntmps (dH v0 H0) c (dT v0 T0) (dH v0 H0) (RetQ I fn (dH v0 H0) rps R) := by
  let Q : Exit → TM → AHeap → Prop := RetQ I fn (dH v0 H0) rps R
  have hn' : n0 = (dH v0 H0).length := by rw [dH_len]; exact hn
  let Goal : Nat → Val → Prop := fun k u => ∀ p tm x K, tms[k]? = some (p, tm) → loc c p = some (.loop x, K) → ∃ n, AR P fn.ntmps (dH v0 H0) x n (dT u tm.T) (dH u tm.H) (KQ P fn.ntmps (dH v0 H0) n K Q)
  have leaf : ∀ (v : Val) (J : Nat → Val → Prop) (l : Lf) (kn : Kn), KV v kn → WLf c l → (∀ k u, J k u → Goal k u) →
      TOK v (fun _ g => LgFOK v J R g) (toLgF I fn.results.toList n0 tms rps l kn) → ∃ B, LfOK P fn.ntmps (dH v0 H0) v B Q l := by
    intro v J l kn hk hw hJ ht
    cases l with
    | norm T H =>
      obtain ⟨k, g, ho, hg⟩ := ht.ex
      exact ⟨0, retF_ok hn' hk ho hg rfl⟩
    | ret T H =>
      obtain ⟨k, g, ho, hg⟩ := ht.ex
      exact ⟨0, retF_ok hn' hk ho hg rfl⟩
    | ext id T H => exact ht.elim
    | loop p x K T H =>
      simp only [toLgF] at ht
      cases hf : findTm n0 p T H 0 tms with
      | none => rw [hf] at ht; exact ht.elim
      | some r =>
        obtain ⟨k, σ⟩ := r
        rw [hf] at ht
        obtain ⟨i, tm, π, h1, h2, h3⟩ := findTm_ok hf
        rw [Nat.zero_add] at h1
        subst h1
        obtain ⟨n, hr⟩ := hJ k _ ht p tm x K h2 hw
        exact ⟨n, hr.weak (chk_ok hn' h3)⟩
  have run : ∀ (v : Val) (hGv : GOk P v G) (J : Nat → Val → Prop) (q : Pt) (K : List Fr) (T : ST) (H : SH) (kn : Kn), KV v kn → WPt c K q → (∀ k u, J k u → Goal k u) →
      TOK v (fun _ g => LgFOK v J R g) (strip ((srun I G fn.ntmps ul nb q K T H kn).bind (toLgF I fn.results.toList n0 tms rps))) → ∃ B, PtOK P fn.ntmps (dH v0 H0) (nb + B) K Q (dT v T) (dH v H) q := by
    intro v hGv J q K T H kn0 hkv hq hJ ht
    have ht := tok_out ((tok_bind _ _).1 (tok_strip ht))
    have h2 : TOK v (fun kn l => ∃ B, KV v kn → LfOK P fn.ntmps (dH v0 H0) v B Q l) (srun I G fn.ntmps ul nb q K T H kn0) := ht.mono fun kn l h => by
      by_cases hk : KV v kn
      · obtain ⟨B, hB⟩ := leaf v J l kn hk (srun_at nb q K T H kn0 kn l hq h.2) hJ h.1
        exact ⟨B, fun _ => hB⟩
      · exact ⟨0, fun hk' => absurd hk' hk⟩
    obtain ⟨B, h3⟩ := tok_max (fun m n k l hmn h hk => by
      have h := h hk
      cases l with
      | norm T H => exact h
      | ret T H => exact h
      | ext id T H => exact h
      | loop p x K T H => exact AR.mono hmn (fun _ _ _ => KQ.mono hmn K fun _ _ _ h => h) h) h2
    exact ⟨B, srun_ok hI hGv hm nb q K T H kn0 hkv h3⟩
  have loops : ∀ pv : Nat × Val, Inv pv.1 pv.2 → Goal pv.1 pv.2 := by
    intro pv
    induction pv using hwf.induction with
    | _ pv ih =>
      obtain ⟨k, v⟩ := pv
      intro hinv p tm x K htm hloc
      have hs := hstep k p tm htm v hinv
      unfold segLpF at hs
      rw [hloc] at hs
      simp only at hs
      obtain ⟨B, hB⟩ := run v (hG k v hinv) _ (.code (0 :: p) x) (.loop p x :: K) tm.T tm.H tm.kn (hkn k p tm htm v hinv) (by show loc c (0 :: p) = _; simp only [loc, hloc]; simp) (fun q u h2 => ih (q, u) h2.2 h2.1) hs
      exact ⟨nb + B + 1, AR.mono (Nat.le_refl _) (fun _ _ _ => KQ.mono (by omega) K fun _ _ _ h => h) (AR.succ hB)⟩
  obtain ⟨B, hB⟩ := run v0 hG0 Inv (.code [] c) [] T0 H0 kn0 hk0 rfl (fun q u h2 => loops (q, u) h2) hstart
  exact hB
theorem FC.mkOk (hI : TOk P I) {c : FC} {u : Val} {fn : Func} {code : Code} (hf : P.funcs[c.f]? = some fn) (hcode : fn.body = some code) (hname : fn.name ≠ "runtime.NumGoroutine") (hl : c.args.length ≤ fn.ntmps) {rps : List RP} (hrets : c.rets = rps.map fun r => (r.x, r.H))
    (hpost : KV u c.kn → ∀ k σ po, Sel u c.out (k, σ, po) → KV u po)
    (hA : KV u c.kn → AW P fn.ntmps (dH u c.H) code (dT u (sargs0 0 c.args)) (dH u c.H) (RetQ I fn (dH u c.H) rps fun k u' => ∃ σ po, Sel u c.out (k, σ, po) ∧ u' = σ.val u)) : FC.Ok P u c := by
  refine ⟨⟨fn, hf, hname, by rw [hcode]; rfl⟩, hpost, fun hkn m w args' hM hL => ?_⟩
  refine calls_of_wp hf hcode ?_
  have hl' := hL.1
  have hA := hA hkn
  rw [sargs0_ok] at hA
  have hst := ASat.start (n := fn.ntmps) hM hL (by rw [← hl']; simpa using hl)
  refine Code.wp_mono (fun e' a' w' hp => ?_) (hA.run _ _ _ _ hM hst)
  obtain ⟨hnp, T', H', ⟨he, vs, hvs, k, r, u', hr, ⟨σ, po, hsel, rfl⟩, hren⟩, m', h1, h2, h3, h4⟩ := hp
  obtain ⟨y, h5, h6⟩ := aresult_ok hI h1 h2 hvs
  obtain ⟨m2, r1, r2⟩ := hren m w m' w' hM h1
  have key : a'.defers = [] ∧ ∃ q, (results fn a'.tmps).run P w' = .ok q w' ∧ ∃ k σ po rx rH x' m', Sel u c.out (k, σ, po) ∧ c.rets[k]? = some (rx, rH) ∧ Ending.returned q = .returned x' ∧ Run m (dH u c.H) w (dH (σ.val u) rH) m' w' ∧ VRel m' (dv (σ.val u) rx) x' :=
    ⟨h4, y, h6, k, σ, po, r.x, r.H, y, m2, hsel, by rw [hrets, List.getElem?_map, hr]; rfl, rfl, r1, r2 y h5⟩
  cases e' with
  | normal => exact key
  | ret => exact key
  | exit id => cases he
  | goto l => cases hnp
  | panic ch => cases hnp
  | outgrown => cases hnp
end
end Go.Proofs.Ytckbckijpdnlaaa.Sy
