/- The law TickFull, its cases, part 5. A lemma file: it claims nothing of the program. -/
import Derived.Test.YtnkgkdhddaongaaOwnTickFullF
import Derived.KernelRfl
set_option linter.unusedVariables false
set_option maxRecDepth 100000
namespace Go.Proofs.Ytnkgkdhddaongaa.KTickFull
open Go Go.Lib Go.Proofs.Ytnkgkdhddaongaa.Eng Go.Proofs.Ytnkgkdhddaongaa.Sy Go.RowKit
theorem case30 : run (cases.getD 30 []) = true := by kernel_rfl
theorem case31 : run (cases.getD 31 []) = true := by kernel_rfl
theorem case32 : run (cases.getD 32 []) = true := by kernel_rfl
theorem case33 : run (cases.getD 33 []) = true := by kernel_rfl
theorem case34 : run (cases.getD 34 []) = true := by kernel_rfl
theorem case35 : run (cases.getD 35 []) = true := by kernel_rfl
end Go.Proofs.Ytnkgkdhddaongaa.KTickFull
