/- The law TickFull, its cases, part 3. A lemma file: it claims nothing of the program. -/
import Derived.Test.YtnkgkdhddaongaaOwnTickFullF
import Derived.KernelRfl
set_option linter.unusedVariables false
set_option maxRecDepth 100000
namespace Go.Proofs.Ytnkgkdhddaongaa.KTickFull
open Go Go.Lib Go.Proofs.Ytnkgkdhddaongaa.Eng Go.Proofs.Ytnkgkdhddaongaa.Sy Go.RowKit
theorem case18 : run (cases.getD 18 []) = true := by kernel_rfl
theorem case19 : run (cases.getD 19 []) = true := by kernel_rfl
theorem case20 : run (cases.getD 20 []) = true := by kernel_rfl
theorem case21 : run (cases.getD 21 []) = true := by kernel_rfl
theorem case22 : run (cases.getD 22 []) = true := by kernel_rfl
theorem case23 : run (cases.getD 23 []) = true := by kernel_rfl
end Go.Proofs.Ytnkgkdhddaongaa.KTickFull
