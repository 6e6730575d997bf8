/- The head of layer 20's statements: the document's example. A lemma file: it claims nothing of the program. -/
import Derived.Test.YtpgkbdkkcladcaaDoorOwnHead20S
import Derived.KernelRfl
set_option linter.unusedVariables false
set_option linter.unusedSimpArgs false
set_option maxRecDepth 100000
set_option maxHeartbeats 4000000
namespace Go.Proofs.YtpgkbdkkcladcaaDoor.FHead20
open Go Go.Lib Go.Proofs.YtpgkbdkkcladcaaDoor.Eng Go.Proofs.YtpgkbdkkcladcaaDoor.Sy
theorem br_t {v : Val} {α : Type} {ψ : Kn → α → Prop} {c : E} {t e : Tree α} (hc : (den v c).b = true) (ht : TOK v ψ t) : TOK v ψ (.br c t e) := ⟨fun _ => ht, fun h => (by rw [hc] at h; cases h)⟩
theorem br_f {v : Val} {α : Type} {ψ : Kn → α → Prop} {c : E} {t e : Tree α} (hc : (den v c).b = false) (he : TOK v ψ e) : TOK v ψ (.br c t e) := ⟨fun h => (by rw [hc] at h; cases h), fun _ => he⟩
theorem ok (u : Val) (hu : u.f = Φ) : FC.Ok P0 u fc := by
  obtain ⟨i, b, r, s, f⟩ := u
  cases hu
  refine mk _ rfl (fun hk k σ po hs => ?_) (fun hk => ?_)
  · cases hs; exact KV.nil
  · unfold trS
    refine br_t (by kernel_rfl) ?_
    refine br_t (by kernel_rfl) ?_
    refine br_f (by kernel_rfl) ?_
    refine br_t (by kernel_rfl) ?_
    refine br_f (by kernel_rfl) ?_
    refine br_t (by kernel_rfl) ?_
    refine br_t (by kernel_rfl) ?_
    refine br_t (by kernel_rfl) ?_
    refine br_t (by kernel_rfl) ?_
    refine br_t (by kernel_rfl) ?_
    refine br_t (by kernel_rfl) ?_
    refine br_t (by kernel_rfl) ?_
    refine br_t (by kernel_rfl) ?_
    refine TOK.leaf' (⟨_, _, rfl, ?_⟩ : ∃ σ po, Sel _ fc.out (0, σ, po) ∧ _)
    kernel_rfl
end Go.Proofs.YtpgkbdkkcladcaaDoor.FHead20
