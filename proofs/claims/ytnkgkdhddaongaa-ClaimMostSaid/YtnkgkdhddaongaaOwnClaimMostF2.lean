/- The law ClaimMost, its cases, part 2. A lemma file: it claims nothing of the program. -/
import Derived.Test.YtnkgkdhddaongaaOwnClaimMostF
import Derived.KernelRfl
set_option linter.unusedVariables false
set_option maxRecDepth 100000
namespace Go.Proofs.Ytnkgkdhddaongaa.KClaimMost
open Go Go.Lib Go.Proofs.Ytnkgkdhddaongaa.Eng Go.Proofs.Ytnkgkdhddaongaa.Sy Go.RowKit
theorem case8 : run (cases.getD 8 []) = true := by kernel_rfl
theorem case9 : run (cases.getD 9 []) = true := by kernel_rfl
theorem case10 : run (cases.getD 10 []) = true := by kernel_rfl
theorem case11 : run (cases.getD 11 []) = true := by kernel_rfl
end Go.Proofs.Ytnkgkdhddaongaa.KClaimMost
