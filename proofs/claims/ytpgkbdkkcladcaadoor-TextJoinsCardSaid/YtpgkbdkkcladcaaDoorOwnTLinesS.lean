/- A contract's words. A lemma file: it claims nothing of the program. -/
import Derived.Test.YtpgkbdkkcladcaaDoorOwnSC
import Derived.Test.YtpgkbdkkcladcaaDoorOwnPhi20
import Derived.Test.YtpgkbdkkcladcaaDoorProg
import Derived.KernelRfl
namespace Go.Proofs.YtpgkbdkkcladcaaDoor.FTLines
open Go Go.Lib Go.Proofs.YtpgkbdkkcladcaaDoor.Eng Go.Proofs.YtpgkbdkkcladcaaDoor.Sy
noncomputable abbrev P0 : Program := Go.Proofs.Tryd.prog
noncomputable abbrev fn : Func := Go.Proofs.Tryd.f23
theorem hfn : P0.funcs[(23 : Nat)]? = some fn := by kernel_rfl
def fc : FC := { f := (23 : Nat), args := [.one (.str (.vs 0))], H := [], ni := 0, nb := 0, nr := 0, ns := 1, kn := [((.o2 .le (.o1 .slen (.vs 0)) (.ci 1000000)), true)], rets := [(.one (.str (.vs 0)), [])], out := (.leaf [] (0, (.mk [] [] [] [(.o3 (.apt 708) (.vs 0) .nr .nr)]), [])) }
end Go.Proofs.YtpgkbdkkcladcaaDoor.FTLines
