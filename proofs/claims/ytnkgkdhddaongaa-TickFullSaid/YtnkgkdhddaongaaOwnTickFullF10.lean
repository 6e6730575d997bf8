/- The law TickFull, its cases, part 10. A lemma file: it claims nothing of the program. -/
import Derived.Test.YtnkgkdhddaongaaOwnTickFullF
import Derived.KernelRfl
set_option linter.unusedVariables false
set_option maxRecDepth 100000
namespace Go.Proofs.Ytnkgkdhddaongaa.KTickFull
open Go Go.Lib Go.Proofs.Ytnkgkdhddaongaa.Eng Go.Proofs.Ytnkgkdhddaongaa.Sy Go.RowKit
theorem case60 : run (cases.getD 60 []) = true := by kernel_rfl
theorem case61 : run (cases.getD 61 []) = true := by kernel_rfl
theorem case62 : run (cases.getD 62 []) = true := by kernel_rfl
theorem case63 : run (cases.getD 63 []) = true := by kernel_rfl
theorem case64 : run (cases.getD 64 []) = true := by kernel_rfl
theorem case65 : run (cases.getD 65 []) = true := by kernel_rfl
end Go.Proofs.Ytnkgkdhddaongaa.KTickFull
