/- The law TickFull, its cases, part 1. A lemma file: it claims nothing of the program. -/
import Derived.Test.YtnkgkdhddaongaaOwnTickFullF
import Derived.KernelRfl
set_option linter.unusedVariables false
set_option maxRecDepth 100000
namespace Go.Proofs.Ytnkgkdhddaongaa.KTickFull
open Go Go.Lib Go.Proofs.Ytnkgkdhddaongaa.Eng Go.Proofs.Ytnkgkdhddaongaa.Sy Go.RowKit
theorem case6 : run (cases.getD 6 []) = true := by kernel_rfl
theorem case7 : run (cases.getD 7 []) = true := by kernel_rfl
theorem case8 : run (cases.getD 8 []) = true := by kernel_rfl
theorem case9 : run (cases.getD 9 []) = true := by kernel_rfl
theorem case10 : run (cases.getD 10 []) = true := by kernel_rfl
theorem case11 : run (cases.getD 11 []) = true := by kernel_rfl
end Go.Proofs.Ytnkgkdhddaongaa.KTickFull
