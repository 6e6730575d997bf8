/- The law TickFull, its cases, part 2. A lemma file: it claims nothing of the program. -/
import Derived.Test.YtnkgkdhddaongaaOwnTickFullF
import Derived.KernelRfl
set_option linter.unusedVariables false
set_option maxRecDepth 100000
namespace Go.Proofs.Ytnkgkdhddaongaa.KTickFull
open Go Go.Lib Go.Proofs.Ytnkgkdhddaongaa.Eng Go.Proofs.Ytnkgkdhddaongaa.Sy Go.RowKit
theorem case12 : run (cases.getD 12 []) = true := by kernel_rfl
theorem case13 : run (cases.getD 13 []) = true := by kernel_rfl
theorem case14 : run (cases.getD 14 []) = true := by kernel_rfl
theorem case15 : run (cases.getD 15 []) = true := by kernel_rfl
theorem case16 : run (cases.getD 16 []) = true := by kernel_rfl
theorem case17 : run (cases.getD 17 []) = true := by kernel_rfl
end Go.Proofs.Ytnkgkdhddaongaa.KTickFull
