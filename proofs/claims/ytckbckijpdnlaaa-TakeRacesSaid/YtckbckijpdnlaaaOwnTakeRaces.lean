/- The law TakeRaces of take: of any number of threads that take what is in one place just one has it: it answers true for all numbers and lists. No condition. -/
import Derived.Test.YtckbckijpdnlaaaOwnTakeRaces1
import Derived.Test.YtckbckijpdnlaaaOwnTakeRaces2
import Derived.Test.YtckbckijpdnlaaaOwnTakeRaces3
import Derived.Test.YtckbckijpdnlaaaOwnTakeRaces4
set_option linter.unusedVariables false
set_option maxRecDepth 100000
namespace Go.Proofs.Ytckbckijpdnlaaa.KTakeRaces
open Go Go.Lib Go.Proofs.Ytckbckijpdnlaaa.Eng Go.Proofs.Ytckbckijpdnlaaa.Sy Go.RowKit
theorem TakeRaces_walk (a0 : Int) (A1 : Option Addr) (n1 c1 : Nat) (l1 : List (List Int)) (a2 : Int) (w : World) (wa0 : (Lit.int .i64 a0).wf = true) (hr1 : ArgRow w [.i .i64] A1 n1 c1 l1) (wa2 : (Lit.int .u64 a2).wf = true) :
    Calls Try.prog 6 #[.int .i64 a0, .slice A1 n1 c1, .int .u64 a2] w fun e w' => e = .returned (.bool true) ∧ Below w.heap.size w w' := by
  have key : AW KTakeRaces1.P0 KTakeRaces1.fn.ntmps (dH (⟨[a0, a2], [], [l1], [], Φ⟩ : Val) KTakeRaces1.h0) KTakeRaces1.bod (dT (⟨[a0, a2], [], [l1], [], Φ⟩ : Val) (sargs0 0 KTakeRaces1.args)) (dH (⟨[a0, a2], [], [l1], [], Φ⟩ : Val) KTakeRaces1.h0) (Eng.Ends KTakeRaces1.I0 KTakeRaces1.fn fun u _ => u = .bool true) := by
    rcases (by omega : a0 % 4 = 0 ∨ a0 % 4 = 1 ∨ a0 % 4 = 2 ∨ a0 % 4 = 3) with h | h | h | h
    · exact KTakeRaces1.all a0 a2 l1 h
    · exact KTakeRaces2.all a0 a2 l1 h
    · exact KTakeRaces3.all a0 a2 l1 h
    · exact KTakeRaces4.all a0 a2 l1 h
  exact law_calls (v := ⟨[a0, a2], [], [l1], [], Φ⟩) (l := [⟨A1, n1, c1, [.i .i64], l1⟩]) (args := KTakeRaces1.args) (args' := [.int .i64 a0, .slice A1 n1 c1, .int .u64 a2]) KTakeRaces1.hI0 KTakeRaces1.hfn KTakeRaces1.hbod (by decide) rfl (by simpa using hr1)
    (.cons (.int _ _) (.cons (arg_slice (id := 0) (s := ⟨A1, n1, c1, [.i .i64], l1⟩) (l := [⟨A1, n1, c1, [.i .i64], l1⟩]) rfl rfl hr1) (.cons (.int _ _) (.nil _)))) key
end Go.Proofs.Ytckbckijpdnlaaa.KTakeRaces
