/- The law PutMany of put: threads that put in side by side: it answers true for all numbers and lists. No condition. -/
import Derived.Test.YtckbckijpdnlaaaOwnPutMany1
import Derived.Test.YtckbckijpdnlaaaOwnPutMany2
import Derived.Test.YtckbckijpdnlaaaOwnPutMany3
import Derived.Test.YtckbckijpdnlaaaOwnPutMany4
set_option linter.unusedVariables false
set_option maxRecDepth 100000
namespace Go.Proofs.Ytckbckijpdnlaaa.KPutMany
open Go Go.Lib Go.Proofs.Ytckbckijpdnlaaa.Eng Go.Proofs.Ytckbckijpdnlaaa.Sy Go.RowKit
theorem PutMany_walk (a0 a1 a2 : Int) (A3 : Option Addr) (n3 c3 : Nat) (l3 : List (List Int)) (w : World) (wa0 : (Lit.int .i64 a0).wf = true) (wa1 : (Lit.int .i64 a1).wf = true) (wa2 : (Lit.int .i64 a2).wf = true) (hr3 : ArgRow w [.i .i64] A3 n3 c3 l3) :
    Calls Try.prog 10 #[.int .i64 a0, .int .i64 a1, .int .i64 a2, .slice A3 n3 c3] w fun e w' => e = .returned (.bool true) ∧ Below w.heap.size w w' := by
  have key : AW KPutMany1.P0 KPutMany1.fn.ntmps (dH (⟨[a0, a1, a2], [], [l3], [], Φ⟩ : Val) KPutMany1.h0) KPutMany1.bod (dT (⟨[a0, a1, a2], [], [l3], [], Φ⟩ : Val) (sargs0 0 KPutMany1.args)) (dH (⟨[a0, a1, a2], [], [l3], [], Φ⟩ : Val) KPutMany1.h0) (Eng.Ends KPutMany1.I0 KPutMany1.fn fun u _ => u = .bool true) := by
    rcases (by omega : a0 % 4 = 0 ∨ a0 % 4 = 1 ∨ a0 % 4 = 2 ∨ a0 % 4 = 3) with h | h | h | h
    · exact KPutMany1.all a0 a1 a2 l3 h
    · exact KPutMany2.all a0 a1 a2 l3 h
    · exact KPutMany3.all a0 a1 a2 l3 h
    · exact KPutMany4.all a0 a1 a2 l3 h
  exact law_calls (v := ⟨[a0, a1, a2], [], [l3], [], Φ⟩) (l := [⟨A3, n3, c3, [.i .i64], l3⟩]) (args := KPutMany1.args) (args' := [.int .i64 a0, .int .i64 a1, .int .i64 a2, .slice A3 n3 c3]) KPutMany1.hI0 KPutMany1.hfn KPutMany1.hbod (by decide) rfl (by simpa using hr3)
    (.cons (.int _ _) (.cons (.int _ _) (.cons (.int _ _) (.cons (arg_slice (id := 0) (s := ⟨A3, n3, c3, [.i .i64], l3⟩) (l := [⟨A3, n3, c3, [.i .i64], l3⟩]) rfl rfl hr3) (.nil _))))) key
end Go.Proofs.Ytckbckijpdnlaaa.KPutMany
