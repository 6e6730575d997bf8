/- The law TickFull, its cases, part 0. A lemma file: it claims nothing of the program. -/
import Derived.Test.YtnkgkdhddaongaaOwnTickFullF
import Derived.KernelRfl
set_option linter.unusedVariables false
set_option maxRecDepth 100000
namespace Go.Proofs.Ytnkgkdhddaongaa.KTickFull
open Go Go.Lib Go.Proofs.Ytnkgkdhddaongaa.Eng Go.Proofs.Ytnkgkdhddaongaa.Sy Go.RowKit
theorem case0 : run (cases.getD 0 []) = true := by kernel_rfl
theorem case1 : run (cases.getD 1 []) = true := by kernel_rfl
theorem case2 : run (cases.getD 2 []) = true := by kernel_rfl
theorem case3 : run (cases.getD 3 []) = true := by kernel_rfl
theorem case4 : run (cases.getD 4 []) = true := by kernel_rfl
theorem case5 : run (cases.getD 5 []) = true := by kernel_rfl
end Go.Proofs.Ytnkgkdhddaongaa.KTickFull
