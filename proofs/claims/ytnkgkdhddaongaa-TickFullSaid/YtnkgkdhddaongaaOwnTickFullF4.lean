/- The law TickFull, its cases, part 4. A lemma file: it claims nothing of the program. -/
import Derived.Test.YtnkgkdhddaongaaOwnTickFullF
import Derived.KernelRfl
set_option linter.unusedVariables false
set_option maxRecDepth 100000
namespace Go.Proofs.Ytnkgkdhddaongaa.KTickFull
open Go Go.Lib Go.Proofs.Ytnkgkdhddaongaa.Eng Go.Proofs.Ytnkgkdhddaongaa.Sy Go.RowKit
theorem case24 : run (cases.getD 24 []) = true := by kernel_rfl
theorem case25 : run (cases.getD 25 []) = true := by kernel_rfl
theorem case26 : run (cases.getD 26 []) = true := by kernel_rfl
theorem case27 : run (cases.getD 27 []) = true := by kernel_rfl
theorem case28 : run (cases.getD 28 []) = true := by kernel_rfl
theorem case29 : run (cases.getD 29 []) = true := by kernel_rfl
end Go.Proofs.Ytnkgkdhddaongaa.KTickFull
