/- The law TickFull, its cases, part 6. A lemma file: it claims nothing of the program. -/
import Derived.Test.YtnkgkdhddaongaaOwnTickFullF
import Derived.KernelRfl
set_option linter.unusedVariables false
set_option maxRecDepth 100000
namespace Go.Proofs.Ytnkgkdhddaongaa.KTickFull
open Go Go.Lib Go.Proofs.Ytnkgkdhddaongaa.Eng Go.Proofs.Ytnkgkdhddaongaa.Sy Go.RowKit
theorem case36 : run (cases.getD 36 []) = true := by kernel_rfl
theorem case37 : run (cases.getD 37 []) = true := by kernel_rfl
theorem case38 : run (cases.getD 38 []) = true := by kernel_rfl
theorem case39 : run (cases.getD 39 []) = true := by kernel_rfl
theorem case40 : run (cases.getD 40 []) = true := by kernel_rfl
theorem case41 : run (cases.getD 41 []) = true := by kernel_rfl
end Go.Proofs.Ytnkgkdhddaongaa.KTickFull
