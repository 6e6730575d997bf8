/- The law ClaimMost, its cases, part 3. A lemma file: it claims nothing of the program. -/
import Derived.Test.YtnkgkdhddaongaaOwnClaimMostF
import Derived.KernelRfl
set_option linter.unusedVariables false
set_option maxRecDepth 100000
namespace Go.Proofs.Ytnkgkdhddaongaa.KClaimMost
open Go Go.Lib Go.Proofs.Ytnkgkdhddaongaa.Eng Go.Proofs.Ytnkgkdhddaongaa.Sy Go.RowKit
theorem case12 : run (cases.getD 12 []) = true := by kernel_rfl
theorem case13 : run (cases.getD 13 []) = true := by kernel_rfl
theorem case14 : run (cases.getD 14 []) = true := by kernel_rfl
theorem case15 : run (cases.getD 15 []) = true := by kernel_rfl
end Go.Proofs.Ytnkgkdhddaongaa.KClaimMost
