/- The law TickFull, its cases, part 8. A lemma file: it claims nothing of the program. -/
import Derived.Test.YtnkgkdhddaongaaOwnTickFullF
import Derived.KernelRfl
set_option linter.unusedVariables false
set_option maxRecDepth 100000
namespace Go.Proofs.Ytnkgkdhddaongaa.KTickFull
open Go Go.Lib Go.Proofs.Ytnkgkdhddaongaa.Eng Go.Proofs.Ytnkgkdhddaongaa.Sy Go.RowKit
theorem case48 : run (cases.getD 48 []) = true := by kernel_rfl
theorem case49 : run (cases.getD 49 []) = true := by kernel_rfl
theorem case50 : run (cases.getD 50 []) = true := by kernel_rfl
theorem case51 : run (cases.getD 51 []) = true := by kernel_rfl
theorem case52 : run (cases.getD 52 []) = true := by kernel_rfl
theorem case53 : run (cases.getD 53 []) = true := by kernel_rfl
end Go.Proofs.Ytnkgkdhddaongaa.KTickFull
