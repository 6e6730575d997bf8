/- The law TickFull, its cases, part 9. A lemma file: it claims nothing of the program. -/
import Derived.Test.YtnkgkdhddaongaaOwnTickFullF
import Derived.KernelRfl
set_option linter.unusedVariables false
set_option maxRecDepth 100000
namespace Go.Proofs.Ytnkgkdhddaongaa.KTickFull
open Go Go.Lib Go.Proofs.Ytnkgkdhddaongaa.Eng Go.Proofs.Ytnkgkdhddaongaa.Sy Go.RowKit
theorem case54 : run (cases.getD 54 []) = true := by kernel_rfl
theorem case55 : run (cases.getD 55 []) = true := by kernel_rfl
theorem case56 : run (cases.getD 56 []) = true := by kernel_rfl
theorem case57 : run (cases.getD 57 []) = true := by kernel_rfl
theorem case58 : run (cases.getD 58 []) = true := by kernel_rfl
theorem case59 : run (cases.getD 59 []) = true := by kernel_rfl
end Go.Proofs.Ytnkgkdhddaongaa.KTickFull
