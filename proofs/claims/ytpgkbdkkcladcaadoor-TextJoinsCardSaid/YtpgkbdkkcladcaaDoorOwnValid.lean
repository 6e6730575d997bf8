/- The contract of a library's function, or of text.Lines: out of the library's contracts. A lemma file: conditions are those of the contract's 'kn'. -/
import Derived.Test.YtpgkbdkkcladcaaDoorOwnValidS
import Derived.Test.YtpgkbdkkcladcaaDoorOwnFcPure
import Derived.Test.YtpgkbdkkcladcaaDoorOwnShelf
set_option linter.unusedVariables false
set_option linter.unusedSimpArgs false
namespace Go.Proofs.YtpgkbdkkcladcaaDoor.FValid
open Go Go.Lib Go.Proofs.YtpgkbdkkcladcaaDoor.Eng Go.Proofs.YtpgkbdkkcladcaaDoor.Sy Go.Proofs.YtpgkbdkkcladcaaDoor.Tx Go.RowKit
theorem ok (u : Val) (hu : u.f = Φ) : FC.Ok P0 u fc := by
  refine FC.pure hfn (by decide) (by rfl) rfl rfl rfl (fun _ => KV.nil) fun hk w args' hB m hL => ?_
  obtain ⟨x, xs, rfl, h1, h2⟩ := LRel.cons_inv hL
  obtain rfl := h2.nil_inv
  have hx : x = .string (nth ⟨#[]⟩ u.s 0) := by cases h1; rfl
  subst hx
  unfold KV fc at hk
  simp only [List.forall_mem_cons] at hk
  have hs : ((nth ⟨#[]⟩ u.s 0).size : Int) ≤ 1000000 := of_decide_eq_true hk.1
  refine (Tryd.utf8_ValidString (nth ⟨#[]⟩ u.s 0) w (by omega) hB.1).mono ?_
  rintro e w' ⟨rfl, hb⟩
  refine ⟨⟨_, rfl, fun m' => ?_⟩, hb⟩
  have e1 : dv (Sb.val u (.mk [] [(.o3 (.apb 700) (.vs 0) .nr .nr)] [] [])) (.one (.bool (.vb 0))) = .bool (Lib.validD (nth ⟨#[]⟩ u.s 0).data.toList) := by
    show Value.bool (u.f 700 _ _ _).b = _
    rw [hu, Φ700]; rfl
  rw [e1]; exact .bool _
end Go.Proofs.YtpgkbdkkcladcaaDoor.FValid
