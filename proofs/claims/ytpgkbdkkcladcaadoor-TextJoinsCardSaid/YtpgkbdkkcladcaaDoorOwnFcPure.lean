/- Contracts of functions that are handed no memory and turn none. A lemma file: it claims nothing of the program. -/
import Derived.Test.YtpgkbdkkcladcaaDoorOwnSC
set_option linter.unusedVariables false
set_option linter.unusedSimpArgs false
namespace Go.Proofs.YtpgkbdkkcladcaaDoor.Sy
open Go Go.Lib Go.Proofs.YtpgkbdkkcladcaaDoor.Eng Go.RowKit
theorem FC.pure {P : Program} {u : Val} {c : FC} {fn : Func} (hf : P.funcs[c.f]? = some fn) (hname : fn.name ≠ "runtime.NumGoroutine") (hb : fn.body.isSome = true) (hH : c.H = []) {rx : SV} {σ : Sb} {po : Kn} (hr : c.rets = [(rx, [])]) (ho : c.out = .leaf [] (0, σ, po))
    (hpost : KV u c.kn → KV u po)
    (hrun : KV u c.kn → ∀ w args', Base w → (∀ m, LRel m (c.args.map (dv u)) args' → Calls P c.f args'.toArray w fun e w' => (∃ x', e = .returned x' ∧ ∀ m', VRel m' (dv (σ.val u) rx) x') ∧ Below w.heap.size w w')) : FC.Ok P u c := by
  refine ⟨⟨fn, hf, hname, hb⟩, fun hk k τ q hs => ?_, fun hk m w args' hM hL => ?_⟩
  · rw [ho] at hs; cases hs; exact hpost hk
  · refine (hrun hk w args' hM.base m hL).mono ?_
    rintro e w' ⟨⟨x', rfl, hx⟩, hb⟩
    refine ⟨0, σ, po, rx, [], x', m, by rw [ho]; rfl, by rw [hr]; rfl, rfl, ?_, hx m⟩
    rw [hH] at hM ⊢
    exact Sy.Run.below (Run.start hM) hb
end Go.Proofs.YtpgkbdkkcladcaaDoor.Sy
