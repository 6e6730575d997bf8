/- The law TickBefore of tick: of two stamps of which the one was done ahead of the other's first step it is before that one: it answers true for all numbers and lists. No condition. -/
import Derived.Test.YtckbckijpdnlaaaOwnTickBefore1
import Derived.Test.YtckbckijpdnlaaaOwnTickBefore2
import Derived.Test.YtckbckijpdnlaaaOwnTickBefore3
import Derived.Test.YtckbckijpdnlaaaOwnTickBefore4
set_option linter.unusedVariables false
set_option maxRecDepth 100000
namespace Go.Proofs.Ytckbckijpdnlaaa.KTickBefore
open Go Go.Lib Go.Proofs.Ytckbckijpdnlaaa.Eng Go.Proofs.Ytckbckijpdnlaaa.Sy Go.RowKit
theorem TickBefore_walk (a0 a1 a2 : Int) (A3 : Option Addr) (n3 c3 : Nat) (l3 : List (List Int)) (a4 : Int) (w : World) (wa0 : (Lit.int .i64 a0).wf = true) (wa1 : (Lit.int .i64 a1).wf = true) (wa2 : (Lit.int .i64 a2).wf = true) (hr3 : ArgRow w [.i .i64] A3 n3 c3 l3) (wa4 : (Lit.int .i64 a4).wf = true) :
    Calls Try.prog 9 #[.int .i64 a0, .int .i64 a1, .int .i64 a2, .slice A3 n3 c3, .int .i64 a4] w fun e w' => e = .returned (.bool true) ∧ Below w.heap.size w w' := by
  have key : AW KTickBefore1.P0 KTickBefore1.fn.ntmps (dH (⟨[a0, a1, a2, a4], [], [l3], [], Φ⟩ : Val) KTickBefore1.h0) KTickBefore1.bod (dT (⟨[a0, a1, a2, a4], [], [l3], [], Φ⟩ : Val) (sargs0 0 KTickBefore1.args)) (dH (⟨[a0, a1, a2, a4], [], [l3], [], Φ⟩ : Val) KTickBefore1.h0) (Eng.Ends KTickBefore1.I0 KTickBefore1.fn fun u _ => u = .bool true) := by
    rcases (by omega : a0 % 4 = 0 ∨ a0 % 4 = 1 ∨ a0 % 4 = 2 ∨ a0 % 4 = 3) with h | h | h | h
    · exact KTickBefore1.all a0 a1 a2 a4 l3 h
    · exact KTickBefore2.all a0 a1 a2 a4 l3 h
    · exact KTickBefore3.all a0 a1 a2 a4 l3 h
    · exact KTickBefore4.all a0 a1 a2 a4 l3 h
  exact law_calls (v := ⟨[a0, a1, a2, a4], [], [l3], [], Φ⟩) (l := [⟨A3, n3, c3, [.i .i64], l3⟩]) (args := KTickBefore1.args) (args' := [.int .i64 a0, .int .i64 a1, .int .i64 a2, .slice A3 n3 c3, .int .i64 a4]) KTickBefore1.hI0 KTickBefore1.hfn KTickBefore1.hbod (by decide) rfl (by simpa using hr3)
    (.cons (.int _ _) (.cons (.int _ _) (.cons (.int _ _) (.cons (arg_slice (id := 0) (s := ⟨A3, n3, c3, [.i .i64], l3⟩) (l := [⟨A3, n3, c3, [.i .i64], l3⟩]) rfl rfl hr3) (.cons (.int _ _) (.nil _)))))) key
end Go.Proofs.Ytckbckijpdnlaaa.KTickBefore
