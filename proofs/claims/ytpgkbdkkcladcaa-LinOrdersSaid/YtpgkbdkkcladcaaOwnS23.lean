/- The second engine, part 23: contracts of functions that call themselves: each call within has a lesser rank. A lemma file: it claims nothing of the program. -/
import Derived.Test.YtpgkbdkkcladcaaOwnS22
set_option linter.unusedVariables false
set_option linter.unusedSimpArgs false
namespace Go.Proofs.Ytpgkbdkkcladcaa.Sy
open Go Go.Lib Go.Proofs.Ytpgkbdkkcladcaa.Eng
/-- A contract that holds for what was met serves at that call. -/
theorem sfc_ok1 {P : Program} {v : Val} {c : FC} {args : List SV} {H : SH} {kn : Kn} (hc : FC.Ok P ((amatch 0 c.tm (sargs0 0 args) H).1.val v) c) (hk : KV v kn) (ht : TOK v (fun _ _ => True) (sfc c args H kn)) :
    (∃ fn, P.funcs[c.f]? = some fn ∧ fn.name ≠ "runtime.NumGoroutine" ∧ fn.body.isSome = true) ∧
    ∀ m0 H0 w0 m w args', Run m0 H0 w0 (dH v H) m w → LRel m (args.map (dv v)) args' → CallOuts P v (sfc c args H kn) m0 H0 w0 m c.f args'.toArray w := by
    refine ⟨hc.fn, fun m0 H0 w0 m w args' hR hL => ?_⟩
    unfold sfc at ht ⊢
    dsimp only at ht ⊢
    generalize amatch 0 c.tm (sargs0 0 args) H = M at ht hc ⊢
    obtain ⟨σ, π⟩ := M
    dsimp only at ht hc ⊢
    split at ht
    · rename_i hchk
      rw [if_pos hchk]
      rw [Bool.and_eq_true] at hchk
      obtain ⟨h1, h2⟩ := hchk
      obtain ⟨hinj, hlt, hvoid, hB⟩ := chk_facts h1
      have hvn : ∀ j, π.void.contains j = true → π.at j = none := fun j hj => (hvoid j hj).2
      have ho := hc
      have hM := Match.restr2 hR.mt (π.old.map (·.2)) (wIds c π)
      rw [← srestr_ok] at hM
      have hMp := chk_match (v := v) h1 hM
      obtain ⟨k1, _, hk1, hkn, o1, ht⟩ := tok_sat' ht .needs hk
      obtain ⟨k2, r, hk2, ⟨kr, τ, po, hsel, rfl⟩, o2, ht⟩ := tok_sat' ht (.useT (ho.post hkn)) hk1
      dsimp only at ht
      have hLp : LRel (mapN π (dH (σ.val v) c.H) m) (c.args.map (dv (σ.val v))) args' := cmpSVs_ok hvn h2 hL
      refine (ho.run hkn _ w args' hMp hLp).mono ?_
      rintro e w' ⟨kr', τ', po', rx, rH, x', m1, hsel', hrets, rfl, hRun, hV⟩
      cases hsel.uniq hsel'
      rw [hrets] at ht
      obtain ⟨k3, x, hk3, hx, o3, ht⟩ := tok_sat' ht .forceV hk2
      rw [← comp_ok] at hRun hV
      obtain ⟨m2, hρ, hR2⟩ := relabel (pH := c.H) (rH := rH) (π := π) (σ := σ) hM hlt (fun j id b hj hb ho' => by
        obtain ⟨_, b', g1, g2⟩ := chkB_some (hB j b hb) hj
        refine ⟨b', g1, ?_⟩
        rcases cmpSB_ok (v := v) (m := m) (H' := dH (σ.val v) c.H) hvn g2 with g | g
        · rw [g] at ho'; cases ho'
        · exact g.1 ho') hvn hRun
      rw [srestr_ok] at hR2
      obtain ⟨j1, j2⟩ := Run.join2 hR hR2
      rw [← sjoin_ok] at j1
      have e : ((wIds c π).filter fun id => ownB ((dH v H)[id]?)) = (wIds c π).filter fun id => sOwn (H[id]?) := (filter_own v _ _).symm
      rw [e] at j2
      refine ⟨k3, x, _, _, m2, x', bind_out o1 (bind_out o2 ?_), hk3, rfl, j1, hR2.ext, ?_, j2⟩
      · dsimp only
        rw [hrets]
        exact bind_out o3 ⟨rfl, rfl⟩
      · rw [hx]; exact sbV_ok hρ hV
    · exact ht.elim
/-- A contract's use within the function itself: the rank must be lesser there. -/
def sfcR (c : FC) (rk : E) (args : List SV) (H : SH) : SRes := SM.bind (need 345 (mk2 .lt (sb (amatch 0 c.tm (sargs0 0 args) H).1 rk) rk)) fun _ => sfc c args H
theorem sfcR_ok {P : Program} {v : Val} {c : FC} {rk : E} (hc : ∀ σ : Sb, (den (σ.val v) rk).i < (den v rk).i → FC.Ok P (σ.val v) c) : GOk P v fun g args H => if g = c.f then sfcR c rk args H else .fail 330 := by
  refine ⟨fun g args H kn hk ht => ?_⟩
  by_cases hg : g = c.f
  · subst hg
    simp only [if_true] at ht ⊢
    unfold sfcR at ht
    obtain ⟨k1, _, hk1, hlt, o1, ht⟩ := tok_sat' ht Sat.need hk
    have hlt := lt_b hlt
    rw [sb_ok] at hlt
    obtain ⟨h1, h2⟩ := sfc_ok1 (hc _ hlt) hk1 ht
    refine ⟨h1, fun m0 H0 w0 m w args' hR hL => ?_⟩
    refine (h2 m0 H0 w0 m w args' hR hL).mono ?_
    rintro e w' ⟨k3, x, H', tc, m2, x', ho, q1, q2, q3, q4, q5, q6⟩
    exact ⟨k3, x, H', tc, m2, x', bind_out o1 ho, q1, q2, q3, q4, q5, q6⟩
  · simp only [if_neg hg] at ht; exact ht.elim
end Go.Proofs.Ytpgkbdkkcladcaa.Sy
