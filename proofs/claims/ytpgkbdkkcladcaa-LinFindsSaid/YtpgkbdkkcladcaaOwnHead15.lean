/- The head of layer 15's statements: the document's example. A lemma file: it claims nothing of the program. -/
import Derived.Test.YtpgkbdkkcladcaaOwnHead15S
set_option linter.unusedVariables false
set_option linter.unusedSimpArgs false
set_option maxRecDepth 100000
set_option maxHeartbeats 4000000
namespace Go.Proofs.Ytpgkbdkkcladcaa.FHead15
open Go Go.Lib Go.Proofs.Ytpgkbdkkcladcaa.Eng Go.Proofs.Ytpgkbdkkcladcaa.Sy
theorem ok (u : Val) (hu : u.f = Φ) : FC.Ok P0 u fc := by
  obtain ⟨i, b, r, s, f⟩ := u
  cases hu
  refine mk _ rfl (fun hk k σ po hs => ?_) (fun hk => ?_)
  · cases hs; exact KV.nil
  · unfold trS
    repeat' (first
      | (refine TOK.br' (fun h => ?_) (fun h => ?_) <;> first
          | exact absurd (show true = false from h) (by decide)
          | exact absurd (show false = true from h) (by decide)
          | skip)
      | (with_reducible refine TOK.leaf' ?_))
    all_goals exact ⟨_, _, rfl, rfl⟩
end Go.Proofs.Ytpgkbdkkcladcaa.FHead15
