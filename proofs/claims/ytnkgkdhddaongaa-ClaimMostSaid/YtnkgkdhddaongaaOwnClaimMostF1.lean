/- The law ClaimMost, its cases, part 1. A lemma file: it claims nothing of the program. -/
import Derived.Test.YtnkgkdhddaongaaOwnClaimMostF
import Derived.KernelRfl
set_option linter.unusedVariables false
set_option maxRecDepth 100000
namespace Go.Proofs.Ytnkgkdhddaongaa.KClaimMost
open Go Go.Lib Go.Proofs.Ytnkgkdhddaongaa.Eng Go.Proofs.Ytnkgkdhddaongaa.Sy Go.RowKit
theorem case4 : run (cases.getD 4 []) = true := by kernel_rfl
theorem case5 : run (cases.getD 5 []) = true := by kernel_rfl
theorem case6 : run (cases.getD 6 []) = true := by kernel_rfl
theorem case7 : run (cases.getD 7 []) = true := by kernel_rfl
end Go.Proofs.Ytnkgkdhddaongaa.KClaimMost
