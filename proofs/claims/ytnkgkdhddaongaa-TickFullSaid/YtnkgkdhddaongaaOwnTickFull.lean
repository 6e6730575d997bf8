/- The law TickFull: reckoned whole by the second engine, in each of 72 cases of some numbers: it answers true. No condition. -/
import Derived.Test.YtnkgkdhddaongaaOwnTickFullF0
import Derived.Test.YtnkgkdhddaongaaOwnTickFullF1
import Derived.Test.YtnkgkdhddaongaaOwnTickFullF2
import Derived.Test.YtnkgkdhddaongaaOwnTickFullF3
import Derived.Test.YtnkgkdhddaongaaOwnTickFullF4
import Derived.Test.YtnkgkdhddaongaaOwnTickFullF5
import Derived.Test.YtnkgkdhddaongaaOwnTickFullF6
import Derived.Test.YtnkgkdhddaongaaOwnTickFullF7
import Derived.Test.YtnkgkdhddaongaaOwnTickFullF8
import Derived.Test.YtnkgkdhddaongaaOwnTickFullF9
import Derived.Test.YtnkgkdhddaongaaOwnTickFullF10
import Derived.Test.YtnkgkdhddaongaaOwnTickFullF11
set_option linter.unusedVariables false
set_option maxRecDepth 100000
namespace Go.Proofs.Ytnkgkdhddaongaa.KTickFull
open Go Go.Lib Go.Proofs.Ytnkgkdhddaongaa.Eng Go.Proofs.Ytnkgkdhddaongaa.Sy Go.RowKit
theorem ncases : cases.length = 72 := by kernel_rfl
theorem all_ok : ∀ c ∈ cases, run c = true := all_getD (d := []) fun i hi => by
  rw [ncases] at hi
  match i, hi with
  | 0, _ => exact case0
  | 1, _ => exact case1
  | 2, _ => exact case2
  | 3, _ => exact case3
  | 4, _ => exact case4
  | 5, _ => exact case5
  | 6, _ => exact case6
  | 7, _ => exact case7
  | 8, _ => exact case8
  | 9, _ => exact case9
  | 10, _ => exact case10
  | 11, _ => exact case11
  | 12, _ => exact case12
  | 13, _ => exact case13
  | 14, _ => exact case14
  | 15, _ => exact case15
  | 16, _ => exact case16
  | 17, _ => exact case17
  | 18, _ => exact case18
  | 19, _ => exact case19
  | 20, _ => exact case20
  | 21, _ => exact case21
  | 22, _ => exact case22
  | 23, _ => exact case23
  | 24, _ => exact case24
  | 25, _ => exact case25
  | 26, _ => exact case26
  | 27, _ => exact case27
  | 28, _ => exact case28
  | 29, _ => exact case29
  | 30, _ => exact case30
  | 31, _ => exact case31
  | 32, _ => exact case32
  | 33, _ => exact case33
  | 34, _ => exact case34
  | 35, _ => exact case35
  | 36, _ => exact case36
  | 37, _ => exact case37
  | 38, _ => exact case38
  | 39, _ => exact case39
  | 40, _ => exact case40
  | 41, _ => exact case41
  | 42, _ => exact case42
  | 43, _ => exact case43
  | 44, _ => exact case44
  | 45, _ => exact case45
  | 46, _ => exact case46
  | 47, _ => exact case47
  | 48, _ => exact case48
  | 49, _ => exact case49
  | 50, _ => exact case50
  | 51, _ => exact case51
  | 52, _ => exact case52
  | 53, _ => exact case53
  | 54, _ => exact case54
  | 55, _ => exact case55
  | 56, _ => exact case56
  | 57, _ => exact case57
  | 58, _ => exact case58
  | 59, _ => exact case59
  | 60, _ => exact case60
  | 61, _ => exact case61
  | 62, _ => exact case62
  | 63, _ => exact case63
  | 64, _ => exact case64
  | 65, _ => exact case65
  | 66, _ => exact case66
  | 67, _ => exact case67
  | 68, _ => exact case68
  | 69, _ => exact case69
  | 70, _ => exact case70
  | 71, _ => exact case71
  | n + 72, h => exact absurd h (by omega)
theorem TickFull_walk (a0 : Int) (a1 : Int) (a2 : Int) (a3 : Int) (w : World) (wa0 : (Lit.int .i64 a0).wf = true) (wa1 : (Lit.int .i64 a1).wf = true) (wa2 : (Lit.int .i64 a2).wf = true) (wa3 : (Lit.int .i64 a3).wf = true) :
    Calls Go.Proofs.Try.prog 16 #[.int .i64 a0, .int .i64 a1, .int .i64 a2, .int .i64 a3] w fun e w' => e = .returned (.bool true) ∧ Below w.heap.size w w' :=
  law_calls (v := ⟨[a0, a1, a2, a3], [], [], []⟩) (l := []) (args := args) (args' := [.int .i64 a0, .int .i64 a1, .int .i64 a2, .int .i64 a3]) hI0 hfn hbod (by decide) rfl (by simp)
    (.cons (.int _ _) (.cons (.int _ _) (.cons (.int _ _) (.cons (.int _ _) (.nil _)))))
    (wholes hI0 hG hM0 (v0 := ⟨[a0, a1, a2, a3], [], [], []⟩) (kn0 := []) KV.nil terms all_ok)
end Go.Proofs.Ytnkgkdhddaongaa.KTickFull
