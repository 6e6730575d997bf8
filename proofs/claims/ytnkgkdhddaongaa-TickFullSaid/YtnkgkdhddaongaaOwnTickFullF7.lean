/- The law TickFull, its cases, part 7. A lemma file: it claims nothing of the program. -/
import Derived.Test.YtnkgkdhddaongaaOwnTickFullF
import Derived.KernelRfl
set_option linter.unusedVariables false
set_option maxRecDepth 100000
namespace Go.Proofs.Ytnkgkdhddaongaa.KTickFull
open Go Go.Lib Go.Proofs.Ytnkgkdhddaongaa.Eng Go.Proofs.Ytnkgkdhddaongaa.Sy Go.RowKit
theorem case42 : run (cases.getD 42 []) = true := by kernel_rfl
theorem case43 : run (cases.getD 43 []) = true := by kernel_rfl
theorem case44 : run (cases.getD 44 []) = true := by kernel_rfl
theorem case45 : run (cases.getD 45 []) = true := by kernel_rfl
theorem case46 : run (cases.getD 46 []) = true := by kernel_rfl
theorem case47 : run (cases.getD 47 []) = true := by kernel_rfl
end Go.Proofs.Ytnkgkdhddaongaa.KTickFull
