/- The pieces of a function, as the second engine reckons them, and its contract's words. A lemma file: it claims nothing of the program. -/
import Derived.Test.YtpgkbdkkcladcaaDoorOwnSC
import Derived.Test.YtpgkbdkkcladcaaDoorOwnPhi20
import Derived.Test.YtpgkbdkkcladcaaDoorProg
import Derived.Test.YtpgkbdkkcladcaaDoorOwnPlace
import Derived.Test.YtpgkbdkkcladcaaDoorOwnTLen
import Derived.Test.YtpgkbdkkcladcaaDoorOwnDecode
import Derived.Test.YtpgkbdkkcladcaaDoorOwnValid
import Derived.KernelRfl
set_option linter.unusedVariables false
set_option maxRecDepth 100000
namespace Go.Proofs.YtpgkbdkkcladcaaDoor.FInsert
open Go Go.Lib Go.Proofs.YtpgkbdkkcladcaaDoor.Eng Go.Proofs.YtpgkbdkkcladcaaDoor.Sy
noncomputable abbrev P0 : Program := Go.Proofs.Tryd.prog
noncomputable abbrev I0 : Tab := tinfoT P0
theorem hI0 : TOk P0 I0 := tinfoT_ok P0
theorem hM0 : P0.follows .mixedOrders = true := by kernel_rfl
noncomputable def G : SSums := scall I0 (funsT P0) (oneX (Go.Proofs.YtpgkbdkkcladcaaDoor.FValid.fc).f (sfc Go.Proofs.YtpgkbdkkcladcaaDoor.FValid.fc) (oneX (Go.Proofs.YtpgkbdkkcladcaaDoor.FDecode.fc).f (sfc Go.Proofs.YtpgkbdkkcladcaaDoor.FDecode.fc) (oneX (Go.Proofs.YtpgkbdkkcladcaaDoor.FTLen.fc).f (sfc Go.Proofs.YtpgkbdkkcladcaaDoor.FTLen.fc) (oneX (Go.Proofs.YtpgkbdkkcladcaaDoor.FPlace.fc).f (sfc Go.Proofs.YtpgkbdkkcladcaaDoor.FPlace.fc) noX)))) (wrOf [(7, []), (8, []), (11, []), (12, []), (15, []), (22, []), (25, []), (27, [0]), (29, []), (30, []), (33, [1])]) 3000 40
theorem hG (v : Val) (hv : v.f = Φ) : GOk P0 v G := scall_ok hI0 hM0 (fun f fn h => h) (oneX_ok (sfc_ok fun σ => Go.Proofs.YtpgkbdkkcladcaaDoor.FValid.ok (σ.val v) hv) (oneX_ok (sfc_ok fun σ => Go.Proofs.YtpgkbdkkcladcaaDoor.FDecode.ok (σ.val v) hv) (oneX_ok (sfc_ok fun σ => Go.Proofs.YtpgkbdkkcladcaaDoor.FTLen.ok (σ.val v) hv) (oneX_ok (sfc_ok fun σ => Go.Proofs.YtpgkbdkkcladcaaDoor.FPlace.ok (σ.val v) hv) (noX_ok P0 v))))) 3000 40
noncomputable abbrev fn : Func := Go.Proofs.Tryd.f17
noncomputable def bod : Code := fn.body.getD .skip
theorem hfn : P0.funcs[(17 : Nat)]? = some fn := by kernel_rfl
theorem hbod : fn.body = some bod := by kernel_rfl
def fc : FC := { f := (17 : Nat), args := [.one (.str (.vs 0)), .one (.int .i64 (.vi 0)), .one (.str (.vs 1))], H := [], ni := 1, nb := 0, nr := 0, ns := 2, kn := [((.o2 .le (.o1 .slen (.vs 0)) (.ci 100000)), true), ((.o2 .le (.o1 .slen (.vs 1)) (.ci 100000)), true)], rets := [(.tup [.one (.str (.vs 0)), .one (.int .i64 (.vi 0))], [])], out := (.leaf [] (0, (.mk [(.o3 (.api 711) (.vs 0) (.o2 .bus (.o2 .cons (.vi 0) .nl) (.vs 1)) .nr)] [] [] [(.o3 (.apt 710) (.vs 0) (.o2 .bus (.o2 .cons (.vi 0) .nl) (.vs 1)) .nr)]), [((.o2 .le (.o1 .slen (.o3 (.apt 710) (.vs 0) (.o2 .bus (.o2 .cons (.vi 0) .nl) (.vs 1)) .nr)) (.o2 .add (.o1 .slen (.vs 0)) (.o1 .slen (.vs 1)))), true)])) }
def tms : Tms := []
def rps : List RP := [{ x := .tup [.one (.str (.vs 0)), .one (.int .i64 (.vi 0))], H := [], ni := 1, nb := 0, nr := 0, ns := 1 }]
def trS : Tree LgF := (.br (.o3 (.apb 700) (.vs 0) .nr .nr) (.br (.o3 (.apb 700) (.vs 1) .nr .nr) (.br (.o2 .lt (.o3 (.api 704) (.vs 0) (.o2 .cons (.vi 0) .nl) .nr) (.ci 0)) (.leaf [] (.ret 0 (.mk [(.ci 4)] [] [] [(.cs [])]))) (.br (.o2 .lt (.ci 4000) (.o1 (.w .i64) (.o2 .add (.o3 (.api 703) (.vs 0) .nr .nr) (.o3 (.api 703) (.vs 1) .nr .nr)))) (.leaf [] (.ret 0 (.mk [(.ci 6)] [] [] [(.cs [])]))) (.br (.o2 .le (.o2 .add (.o1 .slen (.o3 .sub (.vs 0) (.ci 0) (.o3 (.api 704) (.vs 0) (.o2 .cons (.vi 0) .nl) .nr))) (.o1 .slen (.vs 1))) (.ci 9223372036854775807)) (.br (.o2 .le (.o2 .add (.o1 .slen (.o2 .scat (.o3 .sub (.vs 0) (.ci 0) (.o3 (.api 704) (.vs 0) (.o2 .cons (.vi 0) .nl) .nr)) (.vs 1))) (.o1 .slen (.o3 .sub (.vs 0) (.o3 (.api 704) (.vs 0) (.o2 .cons (.vi 0) .nl) .nr) (.o1 .slen (.vs 0))))) (.ci 9223372036854775807)) (.leaf [] (.ret 0 (.mk [(.ci 0)] [] [] [(.o2 .scat (.o2 .scat (.o3 .sub (.vs 0) (.ci 0) (.o3 (.api 704) (.vs 0) (.o2 .cons (.vi 0) .nl) .nr)) (.vs 1)) (.o3 .sub (.vs 0) (.o3 (.api 704) (.vs 0) (.o2 .cons (.vi 0) .nl) .nr) (.o1 .slen (.vs 0))))]))) (.bad 34)) (.bad 34)))) (.leaf [] (.ret 0 (.mk [(.ci 3)] [] [] [(.cs [])])))) (.leaf [] (.ret 0 (.mk [(.ci 3)] [] [] [(.cs [])]))))
def ul : Pos → Bool := fun _ => false
theorem segS : seg0F I0 G fn.ntmps bod fn.results.toList 0 tms rps ul 3000 (sargs0 0 fc.args) fc.H fc.kn = trS := by kernel_rfl
theorem mk (u : Val) (hu : u.f = Φ) (hpost : KV u fc.kn → ∀ k σ po, Sel u fc.out (k, σ, po) → KV u po)
    (sS : KV u fc.kn → TOK u (fun _ g => LgFOK u (fun _ _ => False) (fun k u' => ∃ σ po, Sel u fc.out (k, σ, po) ∧ u' = σ.val u) g) trS) : FC.Ok P0 u fc :=
  FC.mkOk hI0 hfn hbod (by decide) (by decide) (rps := rps) rfl hpost fun hk =>
    floydF hI0 (Inv := fun _ _ => False) (hG u hu) (fun k v h => h.elim) hM0 (n0 := 0) (nb := 3000) (tms := tms) (ul := ul) (kn0 := fc.kn) rfl (lt2 fun _ => (0, 0)) (lt2_wf _) (fun k p tm h => by simp [tms] at h) hk (by rw [segS]; exact sS hk) (fun k p tm h => by simp [tms] at h)
end Go.Proofs.YtpgkbdkkcladcaaDoor.FInsert
