/- The contract of a library's function, or of text.Lines: out of the library's contracts. A lemma file: conditions are those of the contract's 'kn'. -/
import Derived.Test.YtpgkbdkkcladcaaDoorOwnDecodeS
import Derived.Test.YtpgkbdkkcladcaaDoorOwnFcPure
import Derived.Test.YtpgkbdkkcladcaaDoorOwnShelf
set_option linter.unusedVariables false
set_option linter.unusedSimpArgs false
namespace Go.Proofs.YtpgkbdkkcladcaaDoor.FDecode
open Go Go.Lib Go.Proofs.YtpgkbdkkcladcaaDoor.Eng Go.Proofs.YtpgkbdkkcladcaaDoor.Sy Go.Proofs.YtpgkbdkkcladcaaDoor.Tx Go.RowKit
theorem ok (u : Val) (hu : u.f = Φ) : FC.Ok P0 u fc := by
  refine FC.pure hfn (by decide) (by rfl) rfl rfl rfl (fun _ => KV.nil) fun hk w args' hB m hL => ?_
  obtain ⟨x, xs, rfl, h1, h2⟩ := LRel.cons_inv hL
  obtain rfl := h2.nil_inv
  have hx : x = .string (nth ⟨#[]⟩ u.s 0) := by cases h1; rfl
  subst hx
  refine (Tryd.utf8_DecodeRuneInString (nth ⟨#[]⟩ u.s 0) w hB.1).mono ?_
  rintro e w' ⟨rfl, hb⟩
  refine ⟨⟨_, rfl, fun m' => ?_⟩, hb⟩
  have e1 : dv (Sb.val u (.mk [(.o3 (.api 701) (.vs 0) .nr .nr), (.o3 (.api 702) (.vs 0) .nr .nr)] [] [] [])) (.tup [.one (.int .i32 (.vi 0)), .one (.int .i64 (.vi 1))]) = .tuple #[.int .i32 (Lib.decodeGo (nth ⟨#[]⟩ u.s 0)).1, .int .i64 (Lib.decodeGo (nth ⟨#[]⟩ u.s 0)).2] := by
    show Value.tuple #[.int .i32 (u.f 701 _ _ _).i, .int .i64 (u.f 702 _ _ _).i] = _
    rw [hu, Φ701, Φ702]; rfl
  rw [e1]
  refine .tuple rfl fun j a b ha hb => ?_
  match j, ha, hb with
  | 0, ha, hb => cases ha; cases hb; exact .int _ _
  | 1, ha, hb => cases ha; cases hb; exact .int _ _
  | j + 2, ha, hb => simp at ha
end Go.Proofs.YtpgkbdkkcladcaaDoor.FDecode
