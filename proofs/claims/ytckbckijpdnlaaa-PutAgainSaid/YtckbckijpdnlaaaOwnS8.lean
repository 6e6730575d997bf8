/- The second engine, part 8: a function's pieces from loop to loop, and what follows of them all. A lemma file: it claims nothing of the program. -/
import Derived.Test.YtckbckijpdnlaaaOwnS7
set_option linter.unusedVariables false
set_option linter.unusedSimpArgs false
namespace Go.Proofs.Ytckbckijpdnlaaa.Sy
open Go Go.Lib Go.Proofs.Ytckbckijpdnlaaa.Eng

/-! ### how a pattern is met: found, then looked at (S7) -/
structure Mt where
  i : List (Nat × E) := []
  b : List (Nat × E) := []
  r : List (Nat × E) := []
  s : List (Nat × E) := []
  old : List (Nat × Nat) := []
  void : List Nat := []
  todo : List (Nat × Nat) := []
def Mt.ptr (M : Mt) (a b : Nat) : Mt := match M.old.lookup a with
  | some _ => M
  | none => { M with old := (a, b) :: M.old, todo := (a, b) :: M.todo }
def mtE (t e : E) (M : Mt) : Mt := match t with
  | .vi n => match M.i.lookup n with
    | some _ => M
    | none => { M with i := (n, e) :: M.i }
  | .vb n => match M.b.lookup n with
    | some _ => M
    | none => { M with b := (n, e) :: M.b }
  | .vr n => match M.r.lookup n with
    | some _ => M
    | none => { M with r := (n, e) :: M.r }
  | .vs n => match M.s.lookup n with
    | some _ => M
    | none => { M with s := (n, e) :: M.s }
  | _ => M
def fits : SL → SL → Bool
  | .ptr _ _ _, .ptr _ _ _ => true
  | .slc _ _ _, .slc _ _ _ => true
  | .nilp, .nilp => true
  | .nili, .nili => true
  | .nils, .nils => true
  | .ifc t x, .ifc t' x' => decide (t = t') && fits x x'
  | _, _ => false
def mtSL : SL → SL → Mt → Mt
  | .bool a, .bool b, M => mtE a b M
  | .int _ a, .int _ b, M => mtE a b M
  | .str a, .str b, M => mtE a b M
  | .ptr i _ s, .ptr j _ s', M => (match s, s' with
    | some a, some b => mtE a b (M.ptr i j)
    | _, _ => M.ptr i j)
  | .slc i e n, .slc j e' n', M => mtE n n' (mtE e e' (M.ptr i j))
  | .slc i _ _, .nils, M => if M.void.contains i = true then M else { M with void := i :: M.void }
  | .ifc _ x, .ifc _ y, M => mtSL x y M
  | .ite t x y, b, M => (match b with
    | .ite e x' y' => mtSL y y' (mtSL x x' (mtE t e M))
    | b => match fits x b with
      | true => mtSL x b (mtE t (.cb true) M)
      | false => mtSL y b (mtE t (.cb false) M))
  | _, _, M => M
def mtSLs : List SL → List SL → Mt → Mt
  | a :: as, b :: bs, M => mtSLs as bs (mtSL a b M)
  | _, _, M => M
def mtSWs : List SW → List SW → Mt → Mt
  | .one a :: as, .one b :: bs, M => mtSWs as bs (mtSL a b M)
  | .agg a :: as, .agg b :: bs, M => mtSWs as bs (mtSLs a b M)
  | _, _, M => M
def mtSV : SV → SV → Mt → Mt
  | .one a, .one b, M => mtSL a b M
  | .agg a, .agg b, M => mtSLs a b M
  | .tup a, .tup b, M => mtSWs a b M
  | _, _, M => M
def mtSR : SR → SR → Mt → Mt
  | .sym r _, .sym r' _, M => mtE r r' M
  | .sym r _, .lits _, M => mtE r .nr M
  | .lits a, .lits b, M => mtLL a b M
  | _, _, M => M
where mtLL : List (List SL) → List (List SL) → Mt → Mt
  | a :: as, b :: bs, M => mtLL as bs (mtSLs a b M)
  | _, _, M => M
def mtSB : SB → SB → Mt → Mt
  | .cells a, .cells b, M => mtSLs a b M
  | .ro a, .ro b, M => mtSLs a b M
  | .ro a, .cells b, M => mtSLs a b M
  | .row _ _ r, .row _ _ r', M => mtSR r r' M
  | .old _ _ r, .old _ _ r', M => mtSR r r' M
  | .old _ _ r, .row _ _ r', M => mtSR r r' M
  | .iter s p, .iter s' p', M => mtE p p' (mtE s s' M)
  | _, _, M => M
def mtRun (tm : Tmpl) (H : SH) : Nat → Mt → Mt
  | 0, M => M
  | n + 1, M => match M.todo with
    | [] => M
    | (a, b) :: rest => mtRun tm H n (match tm.H[a]?, H[b]? with
      | some x, some y => mtSB x y { M with todo := rest }
      | _, _ => { M with todo := rest })
def mtT (T : ST) : ST → Mt → Mt
  | [], M => M
  | (t, x) :: ts, M => mtT T ts (match T.lookup t with
    | some y => mtSV x y M
    | none => M)
def mtVoid (tm : Tmpl) : List Nat → Mt → Mt
  | [], M => M
  | j :: js, M => mtVoid tm js (match tm.H[j]? with
    | some (.row _ _ (.sym r _)) => mtE r .nr M
    | some (.old _ _ (.sym r _)) => mtE r .nr M
    | _ => M)
def amatch (n0 : Nat) (tm : Tmpl) (T : ST) (H : SH) : Sb × Nm :=
  let M0 : Mt := { old := (List.range n0).map fun j => (j, j), todo := (List.range n0).map fun j => (j, j) }
  let M1 := mtRun tm H 1000 (mtT T tm.T M0)
  let M := mtVoid tm M1.void M1
  ({ i := (List.range tm.ni).map fun n => (M.i.lookup n).getD (.ci 0), b := (List.range tm.nb).map fun n => (M.b.lookup n).getD (.cb false), r := (List.range tm.nr).map fun n => (M.r.lookup n).getD .nr, s := (List.range tm.ns).map fun n => (M.s.lookup n).getD (.cs []) },
   { old := M.old, void := M.void })

/-! ### pieces -/
inductive Lg where
  | loop (k : Nat) (σ : Sb) | ret (b : E)
abbrev Tms := List (Pos × Tmpl)
def resB (I : Tab) (T : ST) (H : SH) (rs : List ResultVar) : SM Lg := SM.bind (sares I T H rs) fun xs => match xs with
  | [.one (.bool b)] => .pure (.ret b)
  | _ => .fail 400
/-- The first pattern of that place that is met. -/
def findTm (n0 : Nat) (p : Pos) (T : ST) (H : SH) : Nat → Tms → Option (Nat × Sb)
  | _, [] => none
  | k, (q, tm) :: r => if p = q then
      let M := amatch n0 tm T H
      if chk n0 M.2 M.1 tm T H = true then some (k, M.1) else findTm n0 p T H (k + 1) r
    else findTm n0 p T H (k + 1) r
theorem findTm_ok {n0 : Nat} {p : Pos} {T : ST} {H : SH} : ∀ {k : Nat} {l : Tms} {j : Nat} {σ : Sb}, findTm n0 p T H k l = some (j, σ) → ∃ i tm π, j = k + i ∧ l[i]? = some (p, tm) ∧ chk n0 π σ tm T H = true
  | _, [], _, _, h => by cases h
  | k, (q, tm) :: r, j, σ, h => by
    have rec' : findTm n0 p T H (k + 1) r = some (j, σ) → ∃ i tm' π, j = k + i ∧ ((q, tm) :: r)[i]? = some (p, tm') ∧ chk n0 π σ tm' T H = true := by
      intro h
      obtain ⟨i, tm', π, h1, h2, h3⟩ := findTm_ok h
      exact ⟨i + 1, tm', π, by omega, by simpa using h2, h3⟩
    simp only [findTm] at h
    split at h
    · rename_i hpq
      subst hpq
      split at h
      · rename_i hc; cases h; exact ⟨0, tm, _, rfl, rfl, hc⟩
      · exact rec' h
    · exact rec' h
def toLg (I : Tab) (rs : List ResultVar) (n0 : Nat) (tms : Tms) (l : Lf) : SM Lg := match l with
  | .norm T H => resB I T H rs
  | .ret T H => resB I T H rs
  | .ext _ _ _ => .fail 401
  | .loop p _ _ T H => match findTm n0 p T H 0 tms with
    | some (k, σ) => .pure (.loop k σ)
    | none => .fail 402
def LgOK (v : Val) (J : Nat → Val → Prop) : Lg → Prop
  | .loop k σ => J k (σ.val v)
  | .ret b => (den v b).b = true
/-- What is noted on the way is left out. -/
def strip {α : Type} : Tree α → Tree α
  | .leaf _ a => .leaf [] a
  | .br c t e => .br c (strip t) (strip e)
  | .both t e => .both (strip t) (strip e)
  | .bad n => .bad n
theorem tok_strip {v : Val} {α : Type} {φ : α → Prop} : ∀ {t : Tree α}, TOK v (fun _ a => φ a) (strip t) → TOK v (fun _ a => φ a) t
  | .leaf _ _, h => h
  | .br c t e, h => ⟨fun hc => tok_strip (h.1 hc), fun hc => tok_strip (h.2 hc)⟩
  | .both t e, h => ⟨tok_strip h.1, tok_strip h.2⟩
  | .bad _, h => h
/-- From the begin. -/
def seg0 (I : Tab) (G : SSums) (N : Nat) (c : Code) (rs : List ResultVar) (n0 : Nat) (tms : Tms) (ul : Pos → Bool) (nb : Nat) (T : ST) (H : SH) (kn : Kn) : Tree Lg :=
  strip ((srun I G N ul nb (.code [] c) [] T H kn).bind (toLg I rs n0 tms))
/-- From a loop. -/
def segLp (I : Tab) (G : SSums) (N : Nat) (c : Code) (rs : List ResultVar) (n0 : Nat) (tms : Tms) (ul : Pos → Bool) (nb : Nat) (p : Pos) (tm : Tmpl) : Tree Lg := match loc c p with
  | some (.loop x, K) => strip ((srun I G N ul nb (.code (0 :: p) x) (.loop p x :: K) tm.T tm.H tm.kn).bind (toLg I rs n0 tms))
  | _ => .bad 404
theorem tok_max {v : Val} {α : Type} {P : Nat → Kn → α → Prop} (hm : ∀ m n k a, m ≤ n → P m k a → P n k a) : ∀ {t : Tree α}, TOK v (fun k a => ∃ n, P n k a) t → ∃ n, TOK v (P n) t
  | .leaf _ _, ⟨n, h⟩ => ⟨n, h⟩
  | .br c t e, h => by
    cases hc : (den v c).b with
    | true =>
      obtain ⟨n, g⟩ := tok_max hm (h.1 hc)
      exact ⟨n, fun _ => g, fun h' => by rw [hc] at h'; cases h'⟩
    | false =>
      obtain ⟨n, g⟩ := tok_max hm (h.2 hc)
      exact ⟨n, fun h' => (by rw [hc] at h'; cases h'), fun _ => g⟩
  | .both t e, h => by
    obtain ⟨n, g⟩ := tok_max hm h.1
    obtain ⟨m, k⟩ := tok_max hm h.2
    exact ⟨max n m, g.mono fun _ _ => hm _ _ _ _ (Nat.le_max_left _ _), k.mono fun _ _ => hm _ _ _ _ (Nat.le_max_right _ _)⟩
  | .bad _, h => h.elim
section
variable {P : Program} {I : Tab} {G : SSums}
theorem AR.weak {N : Nat} {H0 : AHeap} {x : Code} {n : Nat} {T T' : TM} {H H' : AHeap} {Q : Exit → TM → AHeap → Prop} (hl : Le N H0 T' H' T H) (h : AR P N H0 x n T H Q) : AR P N H0 x n T' H' Q :=
  ⟨fun m0 w0 a w hM hs => h.run m0 w0 a w hM (hl m0 w0 a w hM hs)⟩
theorem resB_ok {v : Val} {T : ST} {H : SH} {rs : List ResultVar} {kn kn' : Kn} {g : Lg} {J : Nat → Val → Prop} (hk : KV v kn) (ho : Out v (resB I T H rs kn) kn' g) (hg : LgOK v J g) : ∃ vs, ares I (dT v T) (dH v H) rs = some vs ∧ aresult vs = .bool true := by
  obtain ⟨k1, xs, h1, h2⟩ := out_bind _ _ ho
  obtain ⟨hk1, hx⟩ := sares_ok _ _ _ hk h1
  refine ⟨_, hx, ?_⟩
  split at h2
  · rename_i b
    obtain ⟨rfl, rfl⟩ := h2
    have hg : (den v b).b = true := hg
    simp only [List.map_cons, List.map_nil, aresult, dv_one, dl_bool, hg]
  · exact h2.elim
/-- From what holds at each loop, that the function answers true. -/
theorem floyd (hI : TOk P I) {v0 : Val} {Inv : Nat → Val → Prop} (hG0 : GOk P v0 G) (hG : ∀ k v, Inv k v → GOk P v G) (hm : P.follows .mixedOrders = true) {fn : Func} {c : Code} {n0 nb : Nat} {tms : Tms} {ul : Pos → Bool} {T0 : ST} {H0 : SH} {kn0 : Kn} (hn : n0 = H0.length)
    (lt : Nat × Val → Nat × Val → Prop) (hwf : WellFounded lt)
    (hkn : ∀ k p tm, tms[k]? = some (p, tm) → ∀ v, Inv k v → KV v tm.kn)
    (hk0 : KV v0 kn0)
    (hstart : TOK v0 (fun _ g => LgOK v0 Inv g) (seg0 I G fn.ntmps c fn.results.toList n0 tms ul nb T0 H0 kn0))
    (hstep : ∀ k p tm, tms[k]? = some (p, tm) → ∀ v, Inv k v → TOK v (fun _ g => LgOK v (fun q u => Inv q u ∧ lt (q, u) (k, v)) g) (segLp I G fn.ntmps c fn.results.toList n0 tms ul nb p tm)) :
    AW P fn.ntmps (dH v0 H0) c (dT v0 T0) (dH v0 H0) (Eng.Ends I fn fun u _ => u = .bool true) := by
  let Q : Exit → TM → AHeap → Prop := Eng.Ends I fn fun u _ => u = .bool true
  have hn' : n0 = (dH v0 H0).length := by rw [dH_len]; exact hn
  let Goal : Nat → Val → Prop := fun k u => ∀ p tm x K, tms[k]? = some (p, tm) → loc c p = some (.loop x, K) → ∃ n, AR P fn.ntmps (dH v0 H0) x n (dT u tm.T) (dH u tm.H) (KQ P fn.ntmps (dH v0 H0) n K Q)
  -- what a leaf owes
  have leaf : ∀ (v : Val) (J : Nat → Val → Prop) (l : Lf) (kn : Kn), KV v kn → WLf c l → (∀ k u, J k u → Goal k u) →
      TOK v (fun _ g => LgOK v J g) (toLg I fn.results.toList n0 tms l kn) → ∃ B, LfOK P fn.ntmps (dH v0 H0) v B Q l := by
    intro v J l kn hk hw hJ ht
    cases l with
    | norm T H =>
      obtain ⟨k, g, ho, hg⟩ := ht.ex
      obtain ⟨vs, h1, h2⟩ := resB_ok hk ho hg
      exact ⟨0, rfl, vs, h1, h2⟩
    | ret T H =>
      obtain ⟨k, g, ho, hg⟩ := ht.ex
      obtain ⟨vs, h1, h2⟩ := resB_ok hk ho hg
      exact ⟨0, rfl, vs, h1, h2⟩
    | ext id T H => exact ht.elim
    | loop p x K T H =>
      simp only [toLg] at ht
      cases hf : findTm n0 p T H 0 tms with
      | none => rw [hf] at ht; exact ht.elim
      | some r =>
        obtain ⟨k, σ⟩ := r
        rw [hf] at ht
        obtain ⟨i, tm, π, h1, h2, h3⟩ := findTm_ok hf
        rw [Nat.zero_add] at h1
        subst h1
        obtain ⟨n, hr⟩ := hJ k _ ht p tm x K h2 hw
        exact ⟨n, hr.weak (chk_ok hn' h3)⟩
  have run : ∀ (v : Val) (hGv : GOk P v G) (J : Nat → Val → Prop) (q : Pt) (K : List Fr) (T : ST) (H : SH) (kn : Kn), KV v kn → WPt c K q → (∀ k u, J k u → Goal k u) →
      TOK v (fun _ g => LgOK v J g) (strip ((srun I G fn.ntmps ul nb q K T H kn).bind (toLg I fn.results.toList n0 tms))) → ∃ B, PtOK P fn.ntmps (dH v0 H0) (nb + B) K Q (dT v T) (dH v H) q := by
    intro v hGv J q K T H kn0 hkv hq hJ ht
    have ht := tok_out ((tok_bind _ _).1 (tok_strip ht))
    have h2 : TOK v (fun kn l => ∃ B, KV v kn → LfOK P fn.ntmps (dH v0 H0) v B Q l) (srun I G fn.ntmps ul nb q K T H kn0) := ht.mono fun kn l h => by
      by_cases hk : KV v kn
      · obtain ⟨B, hB⟩ := leaf v J l kn hk (srun_at nb q K T H kn0 kn l hq h.2) hJ h.1
        exact ⟨B, fun _ => hB⟩
      · exact ⟨0, fun hk' => absurd hk' hk⟩
    obtain ⟨B, h3⟩ := tok_max (fun m n k l hmn h hk => by
      have h := h hk
      cases l with
      | norm T H => exact h
      | ret T H => exact h
      | ext id T H => exact h
      | loop p x K T H => exact AR.mono hmn (fun _ _ _ => KQ.mono hmn K fun _ _ _ h => h) h) h2
    exact ⟨B, srun_ok hI hGv hm nb q K T H kn0 hkv h3⟩
  have loops : ∀ pv : Nat × Val, Inv pv.1 pv.2 → Goal pv.1 pv.2 := by
    intro pv
    induction pv using hwf.induction with
    | _ pv ih =>
      obtain ⟨k, v⟩ := pv
      intro hinv p tm x K htm hloc
      have hs := hstep k p tm htm v hinv
      unfold segLp at hs
      rw [hloc] at hs
      simp only at hs
      obtain ⟨B, hB⟩ := run v (hG k v hinv) _ (.code (0 :: p) x) (.loop p x :: K) tm.T tm.H tm.kn (hkn k p tm htm v hinv) (by show loc c (0 :: p) = _; simp only [loc, hloc]; simp) (fun q u h2 => ih (q, u) h2.2 h2.1) hs
      exact ⟨nb + B + 1, AR.mono (Nat.le_refl _) (fun _ _ _ => KQ.mono (by omega) K fun _ _ _ h => h) (AR.succ hB)⟩
  obtain ⟨B, hB⟩ := run v0 hG0 Inv (.code [] c) [] T0 H0 kn0 hk0 rfl (fun q u h2 => loops (q, u) h2) hstart
  exact hB
end
/-! ### how a law's proof is put together -/
theorem tms_nil {J : Nat → Pos → Tmpl → Prop} {n : Nat} : ∀ k p tm, ([] : Tms)[k]? = some (p, tm) → J (n + k) p tm := fun k p tm h => by simp at h
theorem tms_cons {J : Nat → Pos → Tmpl → Prop} {n : Nat} {q : Pos} {t : Tmpl} {r : Tms} (h : J n q t) (hr : ∀ k p tm, r[k]? = some (p, tm) → J (n + 1 + k) p tm) : ∀ k p tm, ((q, t) :: r : Tms)[k]? = some (p, tm) → J (n + k) p tm := fun k p tm hl => by
  cases k with
  | zero => simp at hl; obtain ⟨rfl, rfl⟩ := hl; exact h
  | succ k => have := hr k p tm (by simpa using hl); rwa [show n + (k + 1) = n + 1 + k by omega]
theorem tms_all {J : Nat → Pos → Tmpl → Prop} {l : Tms} (h : ∀ k p tm, l[k]? = some (p, tm) → J (0 + k) p tm) : ∀ k p tm, l[k]? = some (p, tm) → J k p tm := fun k p tm hl => by have := h k p tm hl; rwa [Nat.zero_add] at this
theorem KV.nil {v : Val} : KV v [] := fun p hp => by cases hp
/-- Pairs of numbers, the first one first. -/
def lt2 (μ : Nat × Val → Nat × Nat) (a b : Nat × Val) : Prop := (μ a).1 < (μ b).1 ∨ ((μ a).1 = (μ b).1 ∧ (μ a).2 < (μ b).2)
theorem lt2_wf (μ : Nat × Val → Nat × Nat) : WellFounded (lt2 μ) := by
  have h : WellFounded (fun a b : Nat × Nat => a.1 < b.1 ∨ (a.1 = b.1 ∧ a.2 < b.2)) := by
    refine ⟨fun a => ?_⟩
    obtain ⟨x, y⟩ := a
    induction x using Nat.strongRecOn generalizing y with
    | _ x ihx =>
      induction y using Nat.strongRecOn with
      | _ y ihy =>
        refine ⟨_, fun b hb => ?_⟩
        obtain ⟨p, q⟩ := b
        rcases hb with hb | ⟨hb1, hb2⟩
        · exact ihx p hb q
        · cases hb1; exact ihy q hb2
  exact InvImage.wf μ h
/-- Where all loops are unrolled: the tree is 'true'. -/
def isT : Tree Lg → Bool
  | .leaf _ (.ret (.cb true)) => true
  | .br _ a b => isT a && isT b
  | .both a b => isT a && isT b
  | _ => false
theorem isT_ok {v : Val} {J : Nat → Val → Prop} : ∀ {t : Tree Lg}, isT t = true → TOK v (fun _ g => LgOK v J g) t
  | .leaf _ (.ret (.cb true)), _ => rfl
  | .leaf _ (.ret (.cb false)), h => by cases h
  | .leaf _ (.ret (.vi _)), h => by cases h
  | .leaf _ (.ret (.vb _)), h => by cases h
  | .leaf _ (.ret (.vr _)), h => by cases h
  | .leaf _ (.ret (.vs _)), h => by cases h
  | .leaf _ (.ret (.ci _)), h => by cases h
  | .leaf _ (.ret (.cs _)), h => by cases h
  | .leaf _ (.ret .nl), h => by cases h
  | .leaf _ (.ret .nr), h => by cases h
  | .leaf _ (.ret (.o1 _ _)), h => by cases h
  | .leaf _ (.ret (.o2 _ _ _)), h => by cases h
  | .leaf _ (.ret (.o3 _ _ _ _)), h => by cases h
  | .leaf _ (.loop _ _), h => by cases h
  | .br c a b, h => by
    simp only [isT, Bool.and_eq_true] at h
    exact ⟨fun _ => isT_ok h.1, fun _ => isT_ok h.2⟩
  | .both a b, h => by
    simp only [isT, Bool.and_eq_true] at h
    exact ⟨isT_ok h.1, isT_ok h.2⟩
  | .bad _, h => by cases h
/-- A law whose run is told whole. -/
theorem whole {P : Program} {I : Tab} {G : SSums} (hI : TOk P I) {v0 : Val} (hG : GOk P v0 G) (hm : P.follows .mixedOrders = true) {fn : Func} {c : Code} {nb : Nat} {T0 : ST} {H0 : SH} {kn0 : Kn} (hk0 : KV v0 kn0)
    (h : isT (seg0 I G fn.ntmps c fn.results.toList H0.length [] (fun _ => true) nb T0 H0 kn0) = true) :
    AW P fn.ntmps (dH v0 H0) c (dT v0 T0) (dH v0 H0) (Eng.Ends I fn fun u _ => u = .bool true) :=
  floyd hI (Inv := fun _ _ => False) hG (fun _ _ h => h.elim) hm (tms := []) rfl (lt2 fun _ => (0, 0)) (lt2_wf _) (fun k p tm h => by simp at h) hk0 (isT_ok h) (fun k p tm h => by simp at h)
end Go.Proofs.Ytckbckijpdnlaaa.Sy
