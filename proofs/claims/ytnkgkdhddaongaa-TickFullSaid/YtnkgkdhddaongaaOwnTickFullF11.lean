/- The law TickFull, its cases, part 11. A lemma file: it claims nothing of the program. -/
import Derived.Test.YtnkgkdhddaongaaOwnTickFullF
import Derived.KernelRfl
set_option linter.unusedVariables false
set_option maxRecDepth 100000
namespace Go.Proofs.Ytnkgkdhddaongaa.KTickFull
open Go Go.Lib Go.Proofs.Ytnkgkdhddaongaa.Eng Go.Proofs.Ytnkgkdhddaongaa.Sy Go.RowKit
theorem case66 : run (cases.getD 66 []) = true := by kernel_rfl
theorem case67 : run (cases.getD 67 []) = true := by kernel_rfl
theorem case68 : run (cases.getD 68 []) = true := by kernel_rfl
theorem case69 : run (cases.getD 69 []) = true := by kernel_rfl
theorem case70 : run (cases.getD 70 []) = true := by kernel_rfl
theorem case71 : run (cases.getD 71 []) = true := by kernel_rfl
end Go.Proofs.Ytnkgkdhddaongaa.KTickFull
