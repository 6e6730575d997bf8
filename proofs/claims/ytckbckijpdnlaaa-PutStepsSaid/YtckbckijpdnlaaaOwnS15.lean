/- The second engine, part 15: loops by what holds at them, with more taken for granted at each state. A lemma file: it claims nothing of the program. -/
import Derived.Test.YtckbckijpdnlaaaOwnS11
set_option linter.unusedVariables false
set_option linter.unusedSimpArgs false
namespace Go.Proofs.Ytckbckijpdnlaaa.Sy
open Go Go.Lib Go.Proofs.Ytckbckijpdnlaaa.Eng
section
variable {P : Program} {I : Tab} {G : SSums}
/-- From what holds at each loop, that the function answers true. -/
theorem floyd2 (hI : TOk P I) {v0 : Val} {Inv : Nat → Val → Prop} (hG0 : GOk P v0 G) (hG : ∀ k v, Inv k v → GOk P v G) (hm : P.follows .mixedOrders = true) {fn : Func} {c : Code} {n0 nb : Nat} {tms : Tms} {ul : Pos → Bool} {T0 : ST} {H0 : SH} {kn0 : Kn} (hn : n0 = H0.length)
    (lt : Nat × Val → Nat × Val → Prop) (hwf : WellFounded lt)
    (hk0 : KV v0 kn0)
    (hstart : TOK v0 (fun _ g => LgOK v0 Inv g) (seg0 I G fn.ntmps c fn.results.toList n0 tms ul nb T0 H0 kn0))
    (hstep : ∀ k p tm, tms[k]? = some (p, tm) → ∀ v, Inv k v → ∃ kn, KV v kn ∧ TOK v (fun _ g => LgOK v (fun q u => Inv q u ∧ lt (q, u) (k, v)) g) (segLp I G fn.ntmps c fn.results.toList n0 tms ul nb p { tm with kn := kn })) :
    AW P fn.ntmps (dH v0 H0) c (dT v0 T0) (dH v0 H0) (Eng.Ends I fn fun u _ => u = .bool true) := by
  let Q : Exit → TM → AHeap → Prop := Eng.Ends I fn fun u _ => u = .bool true
  have hn' : n0 = (dH v0 H0).length := by rw [dH_len]; exact hn
  let Goal : Nat → Val → Prop := fun k u => ∀ p tm x K, tms[k]? = some (p, tm) → loc c p = some (.loop x, K) → ∃ n, AR P fn.ntmps (dH v0 H0) x n (dT u tm.T) (dH u tm.H) (KQ P fn.ntmps (dH v0 H0) n K Q)
  -- what a leaf owes
  have leaf : ∀ (v : Val) (J : Nat → Val → Prop) (l : Lf) (kn : Kn), KV v kn → WLf c l → (∀ k u, J k u → Goal k u) →
      TOK v (fun _ g => LgOK v J g) (toLg I fn.results.toList n0 tms l kn) → ∃ B, LfOK P fn.ntmps (dH v0 H0) v B Q l := by
    intro v J l kn hk hw hJ ht
    cases l with
    | norm T H =>
      obtain ⟨k, g, ho, hg⟩ := ht.ex
      obtain ⟨vs, h1, h2⟩ := resB_ok hk ho hg
      exact ⟨0, rfl, vs, h1, h2⟩
    | ret T H =>
      obtain ⟨k, g, ho, hg⟩ := ht.ex
      obtain ⟨vs, h1, h2⟩ := resB_ok hk ho hg
      exact ⟨0, rfl, vs, h1, h2⟩
    | ext id T H => exact ht.elim
    | loop p x K T H =>
      simp only [toLg] at ht
      cases hf : findTm n0 p T H 0 tms with
      | none => rw [hf] at ht; exact ht.elim
      | some r =>
        obtain ⟨k, σ⟩ := r
        rw [hf] at ht
        obtain ⟨i, tm, π, h1, h2, h3⟩ := findTm_ok hf
        rw [Nat.zero_add] at h1
        subst h1
        obtain ⟨n, hr⟩ := hJ k _ ht p tm x K h2 hw
        exact ⟨n, hr.weak (chk_ok hn' h3)⟩
  have run : ∀ (v : Val) (hGv : GOk P v G) (J : Nat → Val → Prop) (q : Pt) (K : List Fr) (T : ST) (H : SH) (kn : Kn), KV v kn → WPt c K q → (∀ k u, J k u → Goal k u) →
      TOK v (fun _ g => LgOK v J g) (strip ((srun I G fn.ntmps ul nb q K T H kn).bind (toLg I fn.results.toList n0 tms))) → ∃ B, PtOK P fn.ntmps (dH v0 H0) (nb + B) K Q (dT v T) (dH v H) q := by
    intro v hGv J q K T H kn0 hkv hq hJ ht
    have ht := tok_out ((tok_bind _ _).1 (tok_strip ht))
    have h2 : TOK v (fun kn l => ∃ B, KV v kn → LfOK P fn.ntmps (dH v0 H0) v B Q l) (srun I G fn.ntmps ul nb q K T H kn0) := ht.mono fun kn l h => by
      by_cases hk : KV v kn
      · obtain ⟨B, hB⟩ := leaf v J l kn hk (srun_at nb q K T H kn0 kn l hq h.2) hJ h.1
        exact ⟨B, fun _ => hB⟩
      · exact ⟨0, fun hk' => absurd hk' hk⟩
    obtain ⟨B, h3⟩ := tok_max (fun m n k l hmn h hk => by
      have h := h hk
      cases l with
      | norm T H => exact h
      | ret T H => exact h
      | ext id T H => exact h
      | loop p x K T H => exact AR.mono hmn (fun _ _ _ => KQ.mono hmn K fun _ _ _ h => h) h) h2
    exact ⟨B, srun_ok hI hGv hm nb q K T H kn0 hkv h3⟩
  have loops : ∀ pv : Nat × Val, Inv pv.1 pv.2 → Goal pv.1 pv.2 := by
    intro pv
    induction pv using hwf.induction with
    | _ pv ih =>
      obtain ⟨k, v⟩ := pv
      intro hinv p tm x K htm hloc
      obtain ⟨knv, hkv, hs⟩ := hstep k p tm htm v hinv
      unfold segLp at hs
      rw [hloc] at hs
      simp only at hs
      obtain ⟨B, hB⟩ := run v (hG k v hinv) _ (.code (0 :: p) x) (.loop p x :: K) tm.T tm.H knv hkv (by show loc c (0 :: p) = _; simp only [loc, hloc]; simp) (fun q u h2 => ih (q, u) h2.2 h2.1) hs
      exact ⟨nb + B + 1, AR.mono (Nat.le_refl _) (fun _ _ _ => KQ.mono (by omega) K fun _ _ _ h => h) (AR.succ hB)⟩
  obtain ⟨B, hB⟩ := run v0 hG0 Inv (.code [] c) [] T0 H0 kn0 hk0 rfl (fun q u h2 => loops (q, u) h2) hstart
  exact hB
end
end Go.Proofs.Ytckbckijpdnlaaa.Sy
