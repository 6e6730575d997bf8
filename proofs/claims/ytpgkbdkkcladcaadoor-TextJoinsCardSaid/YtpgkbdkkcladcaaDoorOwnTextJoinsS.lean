/- The pieces of the law TextJoins from loop to loop, as the second engine reckons them. A lemma file: it claims nothing of the program. -/
import Derived.Test.YtpgkbdkkcladcaaDoorOwnSC
import Derived.Test.YtpgkbdkkcladcaaDoorProg
import Derived.Test.YtpgkbdkkcladcaaDoorOwnPhi20
import Derived.Test.YtpgkbdkkcladcaaDoorOwnCut
import Derived.Test.YtpgkbdkkcladcaaDoorOwnInsert
import Derived.Test.YtpgkbdkkcladcaaDoorOwnJoin
import Derived.Test.YtpgkbdkkcladcaaDoorOwnSigns
import Derived.Test.YtpgkbdkkcladcaaDoorOwnPlace
import Derived.Test.YtpgkbdkkcladcaaDoorOwnTLen
import Derived.Test.YtpgkbdkkcladcaaDoorOwnTLines
import Derived.Test.YtpgkbdkkcladcaaDoorOwnDecode
import Derived.Test.YtpgkbdkkcladcaaDoorOwnValid
import Derived.Test.YtpgkbdkkcladcaaDoorOwnHead20
import Derived.KernelRfl
set_option linter.unusedVariables false
set_option maxRecDepth 100000
set_option maxHeartbeats 16000000
namespace Go.Proofs.YtpgkbdkkcladcaaDoor.KTextJoins
open Go Go.Lib Go.Proofs.YtpgkbdkkcladcaaDoor.Eng Go.Proofs.YtpgkbdkkcladcaaDoor.Sy
noncomputable abbrev P0 : Program := Go.Proofs.Tryd.prog
noncomputable abbrev I0 : Tab := tinfoT P0
theorem hI0 : TOk P0 I0 := tinfoT_ok P0
theorem hM0 : P0.follows .mixedOrders = true := by kernel_rfl
noncomputable def G : SSums := scall I0 (funsT P0) (oneX (Go.Proofs.YtpgkbdkkcladcaaDoor.FHead20.fc).f (sfc Go.Proofs.YtpgkbdkkcladcaaDoor.FHead20.fc) (oneX (Go.Proofs.YtpgkbdkkcladcaaDoor.FValid.fc).f (sfc Go.Proofs.YtpgkbdkkcladcaaDoor.FValid.fc) (oneX (Go.Proofs.YtpgkbdkkcladcaaDoor.FDecode.fc).f (sfc Go.Proofs.YtpgkbdkkcladcaaDoor.FDecode.fc) (oneX (Go.Proofs.YtpgkbdkkcladcaaDoor.FTLines.fc).f (sfc Go.Proofs.YtpgkbdkkcladcaaDoor.FTLines.fc) (oneX (Go.Proofs.YtpgkbdkkcladcaaDoor.FTLen.fc).f (sfc Go.Proofs.YtpgkbdkkcladcaaDoor.FTLen.fc) (oneX (Go.Proofs.YtpgkbdkkcladcaaDoor.FPlace.fc).f (sfc Go.Proofs.YtpgkbdkkcladcaaDoor.FPlace.fc) (oneX (Go.Proofs.YtpgkbdkkcladcaaDoor.FSigns.fc).f (sfc Go.Proofs.YtpgkbdkkcladcaaDoor.FSigns.fc) (oneX (Go.Proofs.YtpgkbdkkcladcaaDoor.FJoin.fc).f (sfc Go.Proofs.YtpgkbdkkcladcaaDoor.FJoin.fc) (oneX (Go.Proofs.YtpgkbdkkcladcaaDoor.FInsert.fc).f (sfc Go.Proofs.YtpgkbdkkcladcaaDoor.FInsert.fc) (oneX (Go.Proofs.YtpgkbdkkcladcaaDoor.FCut.fc).f (sfc Go.Proofs.YtpgkbdkkcladcaaDoor.FCut.fc) noX)))))))))) (wrOf [(7, []), (8, []), (11, []), (12, []), (15, []), (22, []), (25, []), (27, [0]), (29, []), (30, []), (33, [1])]) 3000 40
theorem hG (v : Val) (hv : v.f = Φ) : GOk P0 v G := scall_ok hI0 hM0 (fun f fn h => h) ((oneX_ok (sfc_ok fun σ => Go.Proofs.YtpgkbdkkcladcaaDoor.FHead20.ok (σ.val v) hv) (oneX_ok (sfc_ok fun σ => Go.Proofs.YtpgkbdkkcladcaaDoor.FValid.ok (σ.val v) hv) (oneX_ok (sfc_ok fun σ => Go.Proofs.YtpgkbdkkcladcaaDoor.FDecode.ok (σ.val v) hv) (oneX_ok (sfc_ok fun σ => Go.Proofs.YtpgkbdkkcladcaaDoor.FTLines.ok (σ.val v) hv) (oneX_ok (sfc_ok fun σ => Go.Proofs.YtpgkbdkkcladcaaDoor.FTLen.ok (σ.val v) hv) (oneX_ok (sfc_ok fun σ => Go.Proofs.YtpgkbdkkcladcaaDoor.FPlace.ok (σ.val v) hv) (oneX_ok (sfc_ok fun σ => Go.Proofs.YtpgkbdkkcladcaaDoor.FSigns.ok (σ.val v) hv) (oneX_ok (sfc_ok fun σ => Go.Proofs.YtpgkbdkkcladcaaDoor.FJoin.ok (σ.val v) hv) (oneX_ok (sfc_ok fun σ => Go.Proofs.YtpgkbdkkcladcaaDoor.FInsert.ok (σ.val v) hv) (oneX_ok (sfc_ok fun σ => Go.Proofs.YtpgkbdkkcladcaaDoor.FCut.ok (σ.val v) hv) (noX_ok P0 v)))))))))))) 3000 40
noncomputable abbrev fn : Func := Go.Proofs.Tryd.f14
noncomputable def bod : Code := fn.body.getD .skip
theorem hfn : P0.funcs[(14 : Nat)]? = some fn := by kernel_rfl
theorem hbod : fn.body = some bod := by kernel_rfl
def args : List SV := [.one (.str (.vs 0)), .one (.str (.vs 1)), .one (.str (.vs 2)), .one (.int .i64 (.vi 0))]
def h0 : SH := []
def tms : Tms := []
abbrev q0 : E := (.o2 .cons (.o1 (.w .i64) (.o2 .rem (.o1 (.w .u64) (.vi 0)) (.o1 (.w .u64) (.o1 (.w .i64) (.o2 .add (.o1 .len (.o3 (.apr 705) (.vs 0) .nr .nr)) (.ci 1)))))) .nl)
def trS : Tree Lg := (.br (.o2 .lt (.ci 100) (.o1 .slen (.vs 0))) (.leaf [] (.ret (.cb true))) (.br (.o2 .lt (.ci 100) (.o1 .slen (.vs 1))) (.leaf [] (.ret (.cb true))) (.br (.o2 .lt (.ci 100) (.o1 .slen (.vs 2))) (.leaf [] (.ret (.cb true))) (.br (.o3 (.apb 700) (.vs 0) .nr .nr) (.br (.o3 (.apb 700) (.vs 1) .nr .nr) (.br (.o3 (.apb 700) (.vs 2) .nr .nr) (.br (.o2 .eqi (.o1 (.w .u64) (.o1 (.w .i64) (.o2 .add (.o1 .len (.o3 (.apr 705) (.vs 0) .nr .nr)) (.ci 1)))) (.ci 0)) (.bad 31) (.br (.o2 .le (.o1 .slen (.o3 (.apt 710) (.vs 0) (.o2 .bus q0 (.vs 1)) .nr)) (.ci 100000)) (.br (.o2 .le (.o1 .slen (.o2 .scat (.vs 2) (.vs 1))) (.ci 100000)) (.br (.o2 .le (.o1 .slen (.o2 .scat (.vs 1) (.vs 2))) (.ci 100000)) (.br (.o2 .eqi (.o3 (.api 711) (.vs 0) (.o2 .bus q0 (.vs 1)) .nr) (.ci 0)) (.br (.o2 .eqi (.o3 (.api 711) (.o3 (.apt 710) (.vs 0) (.o2 .bus q0 (.vs 1)) .nr) (.o2 .bus q0 (.vs 2)) .nr) (.ci 0)) (.br (.o2 .eqi (.o3 (.api 711) (.o3 (.apt 710) (.vs 0) (.o2 .bus q0 (.vs 1)) .nr) (.o2 .bus (.o2 .cons (.o1 (.w .i64) (.o2 .add (.o1 (.w .i64) (.o2 .rem (.o1 (.w .u64) (.vi 0)) (.o1 (.w .u64) (.o1 (.w .i64) (.o2 .add (.o1 .len (.o3 (.apr 705) (.vs 0) .nr .nr)) (.ci 1)))))) (.o3 (.api 703) (.vs 1) .nr .nr))) .nl) (.vs 2)) .nr) (.ci 0)) (.br (.o2 .eqi (.o3 (.api 711) (.vs 0) (.o2 .bus q0 (.o2 .scat (.vs 2) (.vs 1))) .nr) (.ci 0)) (.br (.o2 .eqi (.o3 (.api 711) (.vs 0) (.o2 .bus q0 (.o2 .scat (.vs 1) (.vs 2))) .nr) (.ci 0)) (.br (.o2 .eqs (.o3 (.apt 710) (.o3 (.apt 710) (.vs 0) (.o2 .bus q0 (.vs 1)) .nr) (.o2 .bus q0 (.vs 2)) .nr) (.o3 (.apt 710) (.vs 0) (.o2 .bus q0 (.o2 .scat (.vs 2) (.vs 1))) .nr)) (.leaf [] (.ret (.o2 .eqs (.o3 (.apt 710) (.o3 (.apt 710) (.vs 0) (.o2 .bus q0 (.vs 1)) .nr) (.o2 .bus (.o2 .cons (.o1 (.w .i64) (.o2 .add (.o1 (.w .i64) (.o2 .rem (.o1 (.w .u64) (.vi 0)) (.o1 (.w .u64) (.o1 (.w .i64) (.o2 .add (.o1 .len (.o3 (.apr 705) (.vs 0) .nr .nr)) (.ci 1)))))) (.o3 (.api 703) (.vs 1) .nr .nr))) .nl) (.vs 2)) .nr) (.o3 (.apt 710) (.vs 0) (.o2 .bus q0 (.o2 .scat (.vs 1) (.vs 2))) .nr)))) (.leaf [] (.ret (.cb false)))) (.leaf [] (.ret (.cb false)))) (.leaf [] (.ret (.cb false)))) (.leaf [] (.ret (.cb false)))) (.leaf [] (.ret (.cb false)))) (.leaf [] (.ret (.cb false)))) (.bad 341)) (.bad 341)) (.bad 341))) (.leaf [] (.ret (.cb true)))) (.leaf [] (.ret (.cb true)))) (.leaf [] (.ret (.cb true)))))))
def ul : Pos → Bool := fun _ => false
def kn0 : Kn := []
theorem segS : seg0 I0 G fn.ntmps bod fn.results.toList 0 tms ul 3000 (sargs0 0 args) h0 kn0 = trS := by kernel_rfl
theorem aw (v0 : Val) (Inv : Nat → Val → Prop) (μ : Nat × Val → Nat × Nat)
    (hu0 : v0.f = Φ) (hf : ∀ k v, Inv k v → v.f = Φ)
    (hk0 : KV v0 kn0)
    (sS : TOK v0 (fun _ g => LgOK v0 Inv g) trS) :
    AW P0 fn.ntmps (dH v0 h0) bod (dT v0 (sargs0 0 args)) (dH v0 h0) (Eng.Ends I0 fn fun u _ => u = .bool true) :=
  floyd hI0 (Inv := Inv) (hG v0 hu0) (fun k v h => hG v (hf k v h)) hM0 (n0 := 0) (nb := 3000) (tms := tms) (ul := ul) (kn0 := kn0) rfl (lt2 μ) (lt2_wf μ) (tms_all (J := fun k p tm => ∀ v, Inv k v → KV v tm.kn) (tms_nil (J := fun k p tm => ∀ v, Inv k v → KV v tm.kn) (n := 0))) hk0 (by rw [segS]; exact sS) (tms_all (J := fun k p tm => ∀ v, Inv k v → TOK v (fun _ g => LgOK v (fun q u => Inv q u ∧ lt2 μ (q, u) (k, v)) g) (segLp I0 G fn.ntmps bod fn.results.toList 0 tms ul 3000 p tm)) (tms_nil (J := fun k p tm => ∀ v, Inv k v → TOK v (fun _ g => LgOK v (fun q u => Inv q u ∧ lt2 μ (q, u) (k, v)) g) (segLp I0 G fn.ntmps bod fn.results.toList 0 tms ul 3000 p tm)) (n := 0)))
end Go.Proofs.YtpgkbdkkcladcaaDoor.KTextJoins
