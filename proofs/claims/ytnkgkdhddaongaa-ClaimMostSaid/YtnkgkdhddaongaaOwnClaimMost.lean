/- The law ClaimMost: reckoned whole by the second engine, in each of 16 cases of some numbers: it answers true. No condition. -/
import Derived.Test.YtnkgkdhddaongaaOwnClaimMostF0
import Derived.Test.YtnkgkdhddaongaaOwnClaimMostF1
import Derived.Test.YtnkgkdhddaongaaOwnClaimMostF2
import Derived.Test.YtnkgkdhddaongaaOwnClaimMostF3
set_option linter.unusedVariables false
set_option maxRecDepth 100000
namespace Go.Proofs.Ytnkgkdhddaongaa.KClaimMost
open Go Go.Lib Go.Proofs.Ytnkgkdhddaongaa.Eng Go.Proofs.Ytnkgkdhddaongaa.Sy Go.RowKit
theorem ncases : cases.length = 16 := by kernel_rfl
theorem all_ok : ∀ c ∈ cases, run c = true := all_getD (d := []) fun i hi => by
  rw [ncases] at hi
  match i, hi with
  | 0, _ => exact case0
  | 1, _ => exact case1
  | 2, _ => exact case2
  | 3, _ => exact case3
  | 4, _ => exact case4
  | 5, _ => exact case5
  | 6, _ => exact case6
  | 7, _ => exact case7
  | 8, _ => exact case8
  | 9, _ => exact case9
  | 10, _ => exact case10
  | 11, _ => exact case11
  | 12, _ => exact case12
  | 13, _ => exact case13
  | 14, _ => exact case14
  | 15, _ => exact case15
  | n + 16, h => exact absurd h (by omega)
theorem ClaimMost_walk (a0 : Int) (a1 : Int) (a2 : Int) (w : World) (wa0 : (Lit.int .i64 a0).wf = true) (wa1 : (Lit.int .i64 a1).wf = true) (wa2 : (Lit.int .i64 a2).wf = true) :
    Calls Go.Proofs.Try.prog 8 #[.int .i64 a0, .int .i64 a1, .int .i64 a2] w fun e w' => e = .returned (.bool true) ∧ Below w.heap.size w w' :=
  law_calls (v := ⟨[a0, a1, a2], [], [], []⟩) (l := []) (args := args) (args' := [.int .i64 a0, .int .i64 a1, .int .i64 a2]) hI0 hfn hbod (by decide) rfl (by simp)
    (.cons (.int _ _) (.cons (.int _ _) (.cons (.int _ _) (.nil _))))
    (wholes hI0 hG hM0 (v0 := ⟨[a0, a1, a2], [], [], []⟩) (kn0 := []) KV.nil terms all_ok)
end Go.Proofs.Ytnkgkdhddaongaa.KClaimMost
