/- A contract's words. A lemma file: it claims nothing of the program. -/
import Derived.Test.YtpgkbdkkcladcaaDoorOwnSC
import Derived.Test.YtpgkbdkkcladcaaDoorOwnPhi20
import Derived.Test.YtpgkbdkkcladcaaDoorProg
import Derived.KernelRfl
namespace Go.Proofs.YtpgkbdkkcladcaaDoor.FDecode
open Go Go.Lib Go.Proofs.YtpgkbdkkcladcaaDoor.Eng Go.Proofs.YtpgkbdkkcladcaaDoor.Sy
noncomputable abbrev P0 : Program := Go.Proofs.Tryd.prog
noncomputable abbrev fn : Func := Go.Proofs.Tryd.f36
theorem hfn : P0.funcs[(36 : Nat)]? = some fn := by kernel_rfl
def fc : FC := { f := (36 : Nat), args := [.one (.str (.vs 0))], H := [], ni := 0, nb := 0, nr := 0, ns := 1, kn := [], rets := [(.tup [.one (.int .i32 (.vi 0)), .one (.int .i64 (.vi 1))], [])], out := (.leaf [] (0, (.mk [(.o3 (.api 701) (.vs 0) .nr .nr), (.o3 (.api 702) (.vs 0) .nr .nr)] [] [] []), [])) }
end Go.Proofs.YtpgkbdkkcladcaaDoor.FDecode
