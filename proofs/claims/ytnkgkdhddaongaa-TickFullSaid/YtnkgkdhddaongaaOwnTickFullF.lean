/- The law TickFull, reckoned whole by the second engine: what is run. A lemma file: it claims nothing of the program. -/
import Derived.Test.YtnkgkdhddaongaaOwnS12
import Derived.Test.YtnkgkdhddaongaaProg
import Derived.KernelRfl
set_option linter.unusedVariables false
set_option maxRecDepth 100000
namespace Go.Proofs.Ytnkgkdhddaongaa.KTickFull
open Go Go.Lib Go.Proofs.Ytnkgkdhddaongaa.Eng Go.Proofs.Ytnkgkdhddaongaa.Sy
noncomputable abbrev P0 : Program := Go.Proofs.Try.prog
noncomputable abbrev I0 : Tab := tinfoT P0
theorem hI0 : TOk P0 I0 := tinfoT_ok P0
theorem hM0 : P0.follows .mixedOrders = true := by kernel_rfl
noncomputable def G : SSums := scall I0 (funsT P0) noX (wrOf [(3, []), (5, []), (6, []), (7, []), (10, []), (14, []), (17, []), (18, []), (19, []), (26, []), (30, []), (31, []), (32, []), (33, []), (34, []), (38, []), (40, []), (43, []), (49, []), (50, []), (54, []), (55, []), (56, []), (59, []), (63, []), (65, []), (67, [0]), (70, []), (77, []), (85, [1])]) 20000 40
theorem hG (v : Val) : GOk P0 v G := scall_ok hI0 hM0 (fun f fn h => h) (noX_ok P0 v) 20000 40
noncomputable abbrev fn : Func := Go.Proofs.Try.f16
noncomputable def bod : Code := fn.body.getD .skip
theorem hfn : P0.funcs[(16 : Nat)]? = some fn := by kernel_rfl
theorem hbod : fn.body = some bod := by kernel_rfl
def args : List SV := [.one (.int .i64 (.vi 0)), .one (.int .i64 (.vi 1)), .one (.int .i64 (.vi 2)), .one (.int .i64 (.vi 3))]
def h0 : SH := []
/-- Told one by one. -/
def terms : List (E × List (E × Int)) := [((.o2 (.bit .and .i64) (.vi 0) (.ci 3)), []), ((.o2 .rem (.o1 (.w .u64) (.vi 1)) (.ci 3)), []), ((.o2 (.bit .and .i64) (.vi 3) (.ci 3)), []), ((.o2 .rem (.o2 (.bit .and .i64) (.vi 2) (.ci 65535)) (.ci 1)), [((.o2 (.bit .and .i64) (.vi 0) (.ci 3)), 0), ((.o2 .rem (.o1 (.w .u64) (.vi 1)) (.ci 3)), 1)]), ((.o2 .rem (.o2 (.bit .and .i64) (.vi 2) (.ci 65535)) (.ci 2)), [((.o2 (.bit .and .i64) (.vi 0) (.ci 3)), 1), ((.o2 .rem (.o1 (.w .u64) (.vi 1)) (.ci 3)), 1)]), ((.o2 .rem (.o2 (.bit .and .i64) (.vi 2) (.ci 65535)) (.ci 3)), [((.o2 (.bit .and .i64) (.vi 0) (.ci 3)), 2), ((.o2 .rem (.o1 (.w .u64) (.vi 1)) (.ci 3)), 1)]), ((.o2 .rem (.o2 (.bit .and .i64) (.vi 2) (.ci 65535)) (.ci 4)), [((.o2 (.bit .and .i64) (.vi 0) (.ci 3)), 3), ((.o2 .rem (.o1 (.w .u64) (.vi 1)) (.ci 3)), 1)])]
def cases : List Kn := split terms []
noncomputable def run (k : Kn) : Bool := isT (seg0 I0 G fn.ntmps bod fn.results.toList h0.length [] (fun _ => true) 20000 (sargs0 0 args) h0 k)
end Go.Proofs.Ytnkgkdhddaongaa.KTickFull
