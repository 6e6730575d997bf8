/- The second engine, part 19: contracts of functions: what they say, how they are used at calls, how they are proved. A lemma file: it claims nothing of the program. -/
import Derived.Test.YtckbckijpdnlaaaOwnS18
set_option linter.unusedVariables false
set_option linter.unusedSimpArgs false
namespace Go.Proofs.Ytckbckijpdnlaaa.Sy
open Go Go.Lib Go.Proofs.Ytckbckijpdnlaaa.Eng

/-- A function's contract: what it is handed (letters), what is taken for granted, what it may give, and which of it, by the letters. -/
structure FC where
  f : FuncId
  args : List SV
  H : SH
  ni : Nat
  nb : Nat
  nr : Nat
  ns : Nat
  kn : Kn
  rets : List (SV × SH)
  out : Tree (Nat × Sb × Kn)
def FC.tm (c : FC) : Tmpl := { T := sargs0 0 c.args, H := c.H, ni := c.ni, nb := c.nb, nr := c.nr, ns := c.ns }
def FC.tm0 (c : FC) : Tmpl := { T := [], H := c.H, ni := c.ni, nb := c.nb, nr := c.nr, ns := c.ns }
/-- Which way it is. -/
def Sel (v : Val) {α : Type} : Tree α → α → Prop
  | .leaf _ a, b => a = b
  | .br c t e, b => ((den v c).b = true ∧ Sel v t b) ∨ ((den v c).b = false ∧ Sel v e b)
  | .both _ _, _ => False
  | .bad _, _ => False
theorem Sel.uniq {v : Val} {α : Type} : ∀ {t : Tree α} {a b : α}, Sel v t a → Sel v t b → a = b
  | .leaf _ _, _, _, h, k => h.symm.trans k
  | .br c t e, a, b, h, k => by
    rcases h with ⟨h1, h2⟩ | ⟨h1, h2⟩ <;> rcases k with ⟨k1, k2⟩ | ⟨k1, k2⟩
    · exact Sel.uniq h2 k2
    · rw [h1] at k1; cases k1
    · rw [h1] at k1; cases k1
    · exact Sel.uniq h2 k2
  | .both _ _, _, _, h, _ => h.elim
  | .bad _, _, _, h, _ => h.elim
theorem Sel.t {v : Val} {α : Type} {c : E} {t e : Tree α} {a : α} (h : (den v c).b = true) (k : Sel v t a) : Sel v (.br c t e) a := .inl ⟨h, k⟩
theorem Sel.e {v : Val} {α : Type} {c : E} {t e : Tree α} {a : α} (h : (den v c).b = false) (k : Sel v e a) : Sel v (.br c t e) a := .inr ⟨h, k⟩
structure FC.Ok (P : Program) (u : Val) (c : FC) : Prop where
  fn : ∃ fn, P.funcs[c.f]? = some fn ∧ fn.name ≠ "runtime.NumGoroutine" ∧ fn.body.isSome = true
  post : KV u c.kn → ∀ k σ po, Sel u c.out (k, σ, po) → KV u po
  run : KV u c.kn → ∀ m w args', Match m (dH u c.H) w → LRel m (c.args.map (dv u)) args' → Calls P c.f args'.toArray w fun e w' =>
    ∃ k σ po rx rH x' m', Sel u c.out (k, σ, po) ∧ c.rets[k]? = some (rx, rH) ∧ e = .returned x' ∧ Run m (dH u c.H) w (dH (σ.val u) rH) m' w' ∧ VRel m' (dv (σ.val u) rx) x'

/-! ### use -/
def cmpSVs (π : Nm) (σ : Sb) : List SV → List SV → Bool
  | [], [] => true
  | a :: as, b :: bs => cmpSV π σ a b && cmpSVs π σ as bs
  | _, _ => false
def needs (σ : Sb) : Kn → SM Unit
  | [] => .pure ()
  | (c, b) :: l => SM.bind (ask (sb σ c)) fun q => match q == b with
    | true => needs σ l
    | false => .fail 341
def know (σ : Sb) (po : Kn) : SM Unit := fun kn => .leaf (po.map (fun p => (sb σ p.1, p.2)) ++ kn) ()
def useT (σ : Sb) : Tree (Nat × Sb × Kn) → SM (Nat × Sb)
  | .leaf _ r => SM.bind (know σ r.2.2) fun _ => .pure (r.1, r.2.1.comp σ)
  | .br c t e => SM.bind (ask (sb σ c)) fun b => match b with
    | true => useT σ t
    | false => useT σ e
  | .both _ _ => .fail 342
  | .bad n => .fail n
def forceV : SV → SM SV
  | .one l => SM.bind (forceL l) fun l => .pure (.one l)
  | .agg ls => SM.bind (forceLs ls) fun ls => .pure (.agg ls)
  | x => .pure x
def wIds (c : FC) (π : Nm) : List Nat := (π.old.filter fun p => sOwn (c.H[p.1]?)).map (·.2)
def sfc (c : FC) (args : List SV) (H : SH) : SRes := fun kn =>
  let M := amatch 0 c.tm (sargs0 0 args) H
  let W := wIds c M.2
  let Hr := srestr (M.2.old.map (·.2)) W 0 H
  if (chk 0 M.2 M.1 c.tm0 [] Hr && cmpSVs M.2 M.1 c.args args) = true then
    (SM.bind (needs M.1 c.kn) fun _ => SM.bind (useT M.1 c.out) fun r => match c.rets[r.1]? with
      | some q => SM.bind (forceV (sbV r.2 (rhoF M.2 Hr.length) q.1)) fun x => .pure (x, sjoin W 0 H (place r.2 M.2 c.H q.2 Hr), W.filter fun id => sOwn (H[id]?))
      | none => .fail 343) kn
  else .bad 344
section
variable {v : Val} {σ : Sb} {π : Nm} {m : Mp} {H' : AHeap}
theorem cmpSVs_ok (hvn : ∀ j, π.void.contains j = true → π.at j = none) : ∀ {as bs : List SV}, cmpSVs π σ as bs = true → ∀ {us : List Value}, LRel m (bs.map (dv v)) us → LRel (mapN π H' m) (as.map (dv (σ.val v))) us
  | [], [], _, us, hu => by obtain rfl := hu.nil_inv; exact .nil _
  | a :: as, b :: bs, h, us, hu => by
    simp only [cmpSVs, Bool.and_eq_true] at h
    obtain ⟨u, us', rfl, k1, k2⟩ := LRel.cons_inv (show LRel m (dv v b :: bs.map (dv v)) us from hu)
    exact .cons (cmpSV_ok hvn h.1 k1) (cmpSVs_ok hvn h.2 k2)
  | [], _ :: _, h, _, _ => by cases h
  | _ :: _, [], h, _, _ => by cases h
theorem Sat.needs : ∀ {l : Kn}, Sat v (Sy.needs σ l) fun _ => KV (σ.val v) l
  | [] => .pure fun p hp => by cases hp
  | (c, b) :: l => Sat.askB fun q hq => by
    split
    · rename_i hb
      refine Sat.needs.mono fun _ hk => ?_
      refine KV.cons ?_ hk
      rw [← sb_ok, hq]; exact eq_of_beq hb
    · exact .fail
theorem Sat.know {po : Kn} (h : KV (σ.val v) po) : Sat v (Sy.know σ po) fun _ => True := fun kn kn' a hk ho => by
  obtain ⟨rfl, rfl⟩ := ho
  refine ⟨fun p hp => ?_, trivial⟩
  rcases List.mem_append.1 hp with hp | hp
  · obtain ⟨q, hq, rfl⟩ := List.mem_map.1 hp
    simp only [sb_ok]; exact h q hq
  · exact hk p hp
theorem Sat.useT : ∀ {t : Tree (Nat × Sb × Kn)}, (∀ k τ po, Sel (σ.val v) t (k, τ, po) → KV (σ.val v) po) → Sat v (Sy.useT σ t) fun r => ∃ k τ po, Sel (σ.val v) t (k, τ, po) ∧ r = (k, τ.comp σ)
  | .leaf kn (k, τ, po), h => Sat.bind (Sat.know (h k τ po rfl)) fun _ _ => .pure ⟨k, τ, po, rfl, rfl⟩
  | .br c t e, h => Sat.askB fun b hb => by
    rw [sb_ok] at hb
    cases b with
    | true => exact (Sat.useT (t := t) fun k τ po hs => h k τ po (.t hb hs)).mono fun r ⟨k, τ, po, h1, h2⟩ => ⟨k, τ, po, .t hb h1, h2⟩
    | false => exact (Sat.useT (t := e) fun k τ po hs => h k τ po (.e hb hs)).mono fun r ⟨k, τ, po, h1, h2⟩ => ⟨k, τ, po, .e hb h1, h2⟩
  | .both _ _, _ => .fail
  | .bad _, _ => .fail
theorem Sat.forceV {x : SV} : Sat v (Sy.forceV x) fun x' => dv v x' = dv v x := by
  cases x with
  | one l => exact Sat.bind .forceL fun l' h => .pure h
  | agg ls => exact Sat.bind .forceLs fun l' h => .pure (by simp only [dv_agg, h])
  | tup ls => exact .pure rfl
/-- What a pattern that was met tells. -/
theorem chk_facts {n0 : Nat} {tm : Tmpl} {T : ST} {H : SH} (h : chk n0 π σ tm T H = true) : (∀ i j k, π.at i = some k → π.at j = some k → i = j) ∧ (∀ j k, π.at j = some k → j < tm.H.length) ∧ (∀ j, π.void.contains j = true → j < tm.H.length ∧ π.at j = none) ∧ (∀ (j : Nat) (b : SB), tm.H[j]? = some b → chkB n0 π σ H j b = true) := by
  simp only [chk, Bool.and_eq_true, decide_eq_true_eq, List.all_eq_true] at h
  obtain ⟨⟨⟨⟨⟨hlen, hnd⟩, hold⟩, hvoid⟩, hT⟩, hH⟩ := h
  exact ⟨fun i j k hi hj => nodup_inj hnd hi hj, fun j k hj => hold _ (lookup_mem hj), fun j hj => hvoid j (by simpa using hj), fun j b hb => by have := chkH_ok hH j b hb; simpa using this⟩
theorem Run.of_match {H : AHeap} {w : World} (h : Match m H w) : Run (fun _ => none) [] { w with heap := #[] } H m w where
  mt := h
  ext := fun id i hi => by cases hi
  dom := fun id hid => absurd hid (by simp)
  len := by simp
  old := fun id b hid => absurd hid (by simp)
  new := fun id i b _ hi hb hl hv => .inl (by simp)
  os := rfl
  tape := rfl
  output := rfl
  size := by simp
  keep := fun k hk => absurd hk (by simp)
theorem chk_match {tm : Tmpl} {T : ST} {H : SH} {w : World} (h : chk 0 π σ tm T H = true) (hM : Match m (dH v H) w) : Match (mapN π (dH (σ.val v) tm.H) m) (dH (σ.val v) tm.H) w := by
  obtain ⟨hinj, hlt, hvoid, hB⟩ := chk_facts h
  have hvn : ∀ j, π.void.contains j = true → π.at j = none := fun j hj => (hvoid j hj).2
  have hH' : ∀ (j : Nat) (b' : ABlk), (dH (σ.val v) tm.H)[j]? = some b' → ∃ b : SB, tm.H[j]? = some b ∧ b' = db (σ.val v) b := by
    intro j b' hb
    rw [dH_get] at hb
    cases hq : tm.H[j]? with
    | none => rw [hq] at hb; cases hb
    | some b => rw [hq] at hb; cases hb; exact ⟨b, rfl, rfl⟩
  have M0 : Match (fun _ => none) ([] : AHeap) { w with heap := #[] } := ⟨fun id i hi => (by cases hi), fun id id' i i' b b' hi => (by cases hi)⟩
  refine (Run.norm (Run.of_match hM) M0 (by simp) (fun j hj => absurd hj (by simp)) hinj (fun j k hj => by rw [dH_len]; exact hlt j k hj) (fun j hj => by rw [dH_len]; exact (hvoid j hj).1) ?_ ?_).mt
  · intro j b' id hb hid'
    obtain ⟨b, hb2, rfl⟩ := hH' j b' hb
    obtain ⟨_, c, hc, hcmp⟩ := chkB_some (hB j b hb2) hid'
    rcases cmpSB_ok (v := v) (m := m) (H' := dH (σ.val v) tm.H) hvn hcmp with g | ⟨g1, g2, g3⟩
    · exact .inl g
    · exact .inr ⟨db v c, dH_get' (H := H) hc, g1, g2, g3⟩
  · intro j b' hb hn' hc
    obtain ⟨b, hb2, rfl⟩ := hH' j b' hb
    exact chkB_void (v := v) (hB j b hb2) hn' hc
end
theorem tok_sat' {v : Val} {α β : Type} {m : SM α} {f : α → SM β} {φ : α → Prop} {ψ : Kn → β → Prop} {kn : Kn} (h : TOK v ψ ((SM.bind m f) kn)) (hs : Sat v m φ) (hk : KV v kn) : ∃ kn' a, KV v kn' ∧ φ a ∧ Out v (m kn) kn' a ∧ TOK v ψ (f a kn') := by
  have h := (tok_bind f (m kn)).1 h
  obtain ⟨kn', a, h1, h2⟩ := h.ex
  obtain ⟨h3, h4⟩ := hs _ _ _ hk h1
  exact ⟨kn', a, h3, h4, h1, h2⟩
/-- A contract that holds serves at calls. -/
theorem sfc_ok {P : Program} {v : Val} {c : FC} (hc : ∀ σ : Sb, FC.Ok P (σ.val v) c) : GOk P v fun g args H => if g = c.f then sfc c args H else .fail 330 := by
  refine ⟨fun g args H kn hk ht => ?_⟩
  by_cases hg : g = c.f
  · subst hg
    simp only [if_true] at ht ⊢
    refine ⟨(hc {}).fn, fun m0 H0 w0 m w args' hR hL => ?_⟩
    unfold sfc at ht ⊢
    dsimp only at ht ⊢
    generalize amatch 0 c.tm (sargs0 0 args) H = M at ht ⊢
    obtain ⟨σ, π⟩ := M
    dsimp only at ht ⊢
    split at ht
    · rename_i hchk
      rw [if_pos hchk]
      rw [Bool.and_eq_true] at hchk
      obtain ⟨h1, h2⟩ := hchk
      obtain ⟨hinj, hlt, hvoid, hB⟩ := chk_facts h1
      have hvn : ∀ j, π.void.contains j = true → π.at j = none := fun j hj => (hvoid j hj).2
      have ho := hc σ
      have hM := Match.restr2 hR.mt (π.old.map (·.2)) (wIds c π)
      rw [← srestr_ok] at hM
      have hMp := chk_match (v := v) h1 hM
      obtain ⟨k1, _, hk1, hkn, o1, ht⟩ := tok_sat' ht .needs hk
      obtain ⟨k2, r, hk2, ⟨kr, τ, po, hsel, rfl⟩, o2, ht⟩ := tok_sat' ht (.useT (ho.post hkn)) hk1
      dsimp only at ht
      have hLp : LRel (mapN π (dH (σ.val v) c.H) m) (c.args.map (dv (σ.val v))) args' := cmpSVs_ok hvn h2 hL
      refine (ho.run hkn _ w args' hMp hLp).mono ?_
      rintro e w' ⟨kr', τ', po', rx, rH, x', m1, hsel', hrets, rfl, hRun, hV⟩
      cases hsel.uniq hsel'
      rw [hrets] at ht
      obtain ⟨k3, x, hk3, hx, o3, ht⟩ := tok_sat' ht .forceV hk2
      rw [← comp_ok] at hRun hV
      obtain ⟨m2, hρ, hR2⟩ := relabel (pH := c.H) (rH := rH) (π := π) (σ := σ) hM hlt (fun j id b hj hb ho' => by
        obtain ⟨_, b', g1, g2⟩ := chkB_some (hB j b hb) hj
        refine ⟨b', g1, ?_⟩
        rcases cmpSB_ok (v := v) (m := m) (H' := dH (σ.val v) c.H) hvn g2 with g | g
        · rw [g] at ho'; cases ho'
        · exact g.1 ho') hvn hRun
      rw [srestr_ok] at hR2
      obtain ⟨j1, j2⟩ := Run.join2 hR hR2
      rw [← sjoin_ok] at j1
      have e : ((wIds c π).filter fun id => ownB ((dH v H)[id]?)) = (wIds c π).filter fun id => sOwn (H[id]?) := (filter_own v _ _).symm
      rw [e] at j2
      refine ⟨k3, x, _, _, m2, x', bind_out o1 (bind_out o2 ?_), hk3, rfl, j1, hR2.ext, ?_, j2⟩
      · dsimp only
        rw [hrets]
        exact bind_out o3 ⟨rfl, rfl⟩
      · rw [hx]; exact sbV_ok hρ hV
    · exact ht.elim
  · simp only [if_neg hg] at ht; exact ht.elim
end Go.Proofs.Ytckbckijpdnlaaa.Sy
