/- The pieces of the law LinFinds from loop to loop, as the second engine reckons them. A lemma file: it claims nothing of the program. -/
import Derived.Test.YtpgkbdkkcladcaaOwnSC
import Derived.Test.YtpgkbdkkcladcaaProg
import Derived.Test.YtpgkbdkkcladcaaOwnPhi15
import Derived.Test.YtpgkbdkkcladcaaOwnHolds
import Derived.Test.YtpgkbdkkcladcaaOwnSome
import Derived.Test.YtpgkbdkkcladcaaOwnAnsw
import Derived.Test.YtpgkbdkkcladcaaOwnLegal15
import Derived.Test.YtpgkbdkkcladcaaOwnRights
import Derived.Test.YtpgkbdkkcladcaaOwnHead15
import Derived.Test.YtpgkbdkkcladcaaOwnLinLegal
import Derived.Test.YtpgkbdkkcladcaaOwnLinDo
import Derived.Test.YtpgkbdkkcladcaaOwnFree
import Derived.Test.YtpgkbdkkcladcaaOwnFind
import Derived.KernelRfl
set_option linter.unusedVariables false
set_option maxRecDepth 100000
set_option maxHeartbeats 16000000
namespace Go.Proofs.Ytpgkbdkkcladcaa.KLinFinds
open Go Go.Lib Go.Proofs.Ytpgkbdkkcladcaa.Eng Go.Proofs.Ytpgkbdkkcladcaa.Sy
noncomputable abbrev P0 : Program := Go.Proofs.Try.prog
noncomputable abbrev I0 : Tab := tinfoT P0
theorem hI0 : TOk P0 I0 := tinfoT_ok P0
theorem hM0 : P0.follows .mixedOrders = true := by kernel_rfl
noncomputable def G : SSums := scall I0 (funsT P0) (oneX (Go.Proofs.Ytpgkbdkkcladcaa.FFind.fc).f (sfc Go.Proofs.Ytpgkbdkkcladcaa.FFind.fc) (oneX (Go.Proofs.Ytpgkbdkkcladcaa.FFree.fc).f (sfc Go.Proofs.Ytpgkbdkkcladcaa.FFree.fc) (oneX (Go.Proofs.Ytpgkbdkkcladcaa.FLinDo.fc).f (sfc Go.Proofs.Ytpgkbdkkcladcaa.FLinDo.fc) (oneX (Go.Proofs.Ytpgkbdkkcladcaa.FLinLegal.fc).f (sfc Go.Proofs.Ytpgkbdkkcladcaa.FLinLegal.fc) (oneX (Go.Proofs.Ytpgkbdkkcladcaa.FHead15.fc).f (sfc Go.Proofs.Ytpgkbdkkcladcaa.FHead15.fc) (oneX (Go.Proofs.Ytpgkbdkkcladcaa.FRights.fc).f (sfc Go.Proofs.Ytpgkbdkkcladcaa.FRights.fc) (oneX (Go.Proofs.Ytpgkbdkkcladcaa.FLegal15.fc).f (sfc Go.Proofs.Ytpgkbdkkcladcaa.FLegal15.fc) (oneX (Go.Proofs.Ytpgkbdkkcladcaa.FAnsw.fc).f (sfc Go.Proofs.Ytpgkbdkkcladcaa.FAnsw.fc) (oneX (Go.Proofs.Ytpgkbdkkcladcaa.FSome.fc).f (sfc Go.Proofs.Ytpgkbdkkcladcaa.FSome.fc) (oneX (Go.Proofs.Ytpgkbdkkcladcaa.FHolds.fc).f (sfc Go.Proofs.Ytpgkbdkkcladcaa.FHolds.fc) noX)))))))))) (wrOf [(4, []), (6, []), (8, []), (9, []), (10, []), (13, []), (17, []), (18, []), (19, [1, 2]), (20, []), (23, []), (25, []), (26, []), (27, [])]) 3000 40
theorem hG (v : Val) (hv : v.f = Φ) : GOk P0 v G := scall_ok hI0 hM0 (fun f fn h => h) ((oneX_ok (sfc_ok fun σ => Go.Proofs.Ytpgkbdkkcladcaa.FFind.ok (σ.val v) hv) (oneX_ok (sfc_ok fun σ => Go.Proofs.Ytpgkbdkkcladcaa.FFree.ok (σ.val v) hv) (oneX_ok (sfc_ok fun σ => Go.Proofs.Ytpgkbdkkcladcaa.FLinDo.ok (σ.val v) hv) (oneX_ok (sfc_ok fun σ => Go.Proofs.Ytpgkbdkkcladcaa.FLinLegal.ok (σ.val v) hv) (oneX_ok (sfc_ok fun σ => Go.Proofs.Ytpgkbdkkcladcaa.FHead15.ok (σ.val v) hv) (oneX_ok (sfc_ok fun σ => Go.Proofs.Ytpgkbdkkcladcaa.FRights.ok (σ.val v) hv) (oneX_ok (sfc_ok fun σ => Go.Proofs.Ytpgkbdkkcladcaa.FLegal15.ok (σ.val v) hv) (oneX_ok (sfc_ok fun σ => Go.Proofs.Ytpgkbdkkcladcaa.FAnsw.ok (σ.val v) hv) (oneX_ok (sfc_ok fun σ => Go.Proofs.Ytpgkbdkkcladcaa.FSome.ok (σ.val v) hv) (oneX_ok (sfc_ok fun σ => Go.Proofs.Ytpgkbdkkcladcaa.FHolds.ok (σ.val v) hv) (noX_ok P0 v)))))))))))) 3000 40
noncomputable abbrev fn : Func := Go.Proofs.Try.f7
noncomputable def bod : Code := fn.body.getD .skip
theorem hfn : P0.funcs[(7 : Nat)]? = some fn := by kernel_rfl
theorem hbod : fn.body = some bod := by kernel_rfl
def args : List SV := [.one (.slc 0 (.ci 0) (.o1 .len (.vr 0)))]
def h0 : SH := [.old false 11 (.sym (.vr 0) [.i .i64, .i .i64, .i .i64, .i .u64, .i .i64, .i .i64, .i .i64, .b, .i .u64, .i .i64, .i .i64])]
def tm0 : Tmpl := (.mk [(0, (.one (.slc 0 (.ci 0) (.o1 .len (.vr 0))))), (17, (.one (.slc 0 (.ci 0) (.o1 .len (.vr 0))))), (18, (.one (.int .i64 (.o1 .len (.vr 0))))), (19, (.one (.int .i64 (.vi 0))))] [(.old false 11 (.sym (.vr 0) [(.i .i64), (.i .i64), (.i .i64), (.i .u64), (.i .i64), (.i .i64), (.i .i64), .b, (.i .u64), (.i .i64), (.i .i64)]))] 1 0 1 0 [((.o2 .le (.ci 0) (.vi 0)), true), ((.o2 .le (.vi 0) (.ci 7)), true), ((.o2 .le (.o1 .len (.vr 0)) (.ci 7)), true), ((.o3 (.apb 603) .nl (.vr 0) .nr), true), ((.o3 (.apb 616) (.o2 .cons (.ci 0) .nl) (.o2 .rep (.o1 .len (.vr 0)) (.o2 .cons (.ci 0) .nl)) (.vr 0)), true)])
def tms : Tms := [([0, 1, 0, 1, 1, 1], tm0)]
def trS : Tree Lg := (.br (.o2 .lt (.ci 7) (.o1 .len (.vr 0))) (.leaf [] (.ret (.cb true))) (.br (.o3 (.apb 603) .nl (.vr 0) .nr) (.leaf [] (.loop 0 (.mk [(.ci 0)] [] [(.vr 0)] []))) (.leaf [] (.ret (.cb true)))))
def tr0 : Tree Lg := (.br (.o2 .lt (.vi 0) (.o1 .len (.vr 0))) (.br (.o2 .le (.ci 0) (.o3 .at (.vr 0) (.vi 0) (.ci 6))) (.br (.o2 .le (.o3 .at (.vr 0) (.vi 0) (.ci 6)) (.o3 .at (.vr 0) (.vi 0) (.ci 5))) (.leaf [] (.ret (.cb true))) (.leaf [] (.loop 0 (.mk [(.o2 .add (.vi 0) (.ci 1))] [] [(.vr 0)] [])))) (.leaf [] (.loop 0 (.mk [(.o2 .add (.vi 0) (.ci 1))] [] [(.vr 0)] [])))) (.br (.o3 (.apb 614) (.o2 .bun (.o2 .cons (.ci 0) (.o2 .cons (.ci 0) .nl)) (.vr 0)) (.o2 .rep (.o1 .len (.vr 0)) (.o2 .cons (.ci 0) .nl)) (.o2 .cat .nr .nr)) (.br (.o3 (.apb 615) (.o2 .bun (.o2 .cons (.ci 0) (.o2 .cons (.ci 0) .nl)) (.vr 0)) (.o2 .rep (.o1 .len (.vr 0)) (.o2 .cons (.ci 0) .nl)) (.o2 .cat .nr .nr)) (.leaf [] (.ret (.o3 (.apb 627) (.o2 .bun (.o2 .cons (.o3 (.api 610) (.o2 .bun (.o2 .cons (.ci 0) (.o2 .cons (.ci 0) .nl)) (.vr 0)) (.o2 .rep (.o1 .len (.vr 0)) (.o2 .cons (.ci 0) .nl)) (.o2 .cat .nr .nr)) .nl) (.vr 0)) (.o3 (.apr 613) (.o2 .bun (.o2 .cons (.ci 0) (.o2 .cons (.ci 0) .nl)) (.vr 0)) (.o2 .rep (.o1 .len (.vr 0)) (.o2 .cons (.ci 0) .nl)) (.o2 .cat .nr .nr)) .nr))) (.br (.o3 (.apb 626) (.o2 .cons (.ci 0) .nl) (.o2 .rep (.o1 .len (.vr 0)) (.o2 .cons (.ci 0) .nl)) (.vr 0)) (.leaf [] (.ret (.o1 .not (.o3 (.apb 620) (.o2 .bun (.o2 .cons (.ci 0) (.o2 .cons (.ci 0) .nl)) (.vr 0)) (.o2 .rep (.o1 .len (.vr 0)) (.o2 .cons (.ci 0) .nl)) .nr)))) (.bad 341))) (.br (.o3 (.apb 615) (.o2 .bun (.o2 .cons (.ci 0) (.o2 .cons (.ci 0) .nl)) (.vr 0)) (.o2 .rep (.o1 .len (.vr 0)) (.o2 .cons (.ci 0) .nl)) (.o2 .cat .nr .nr)) (.leaf [] (.ret (.o3 (.apb 627) (.o2 .bun (.o2 .cons (.o3 (.api 610) (.o2 .bun (.o2 .cons (.ci 0) (.o2 .cons (.ci 0) .nl)) (.vr 0)) (.o2 .rep (.o1 .len (.vr 0)) (.o2 .cons (.ci 0) .nl)) (.o2 .cat .nr .nr)) .nl) (.vr 0)) (.o3 (.apr 613) (.o2 .bun (.o2 .cons (.ci 0) (.o2 .cons (.ci 0) .nl)) (.vr 0)) (.o2 .rep (.o1 .len (.vr 0)) (.o2 .cons (.ci 0) .nl)) (.o2 .cat .nr .nr)) .nr))) (.br (.o3 (.apb 626) (.o2 .cons (.ci 0) .nl) (.o2 .rep (.o1 .len (.vr 0)) (.o2 .cons (.ci 0) .nl)) (.vr 0)) (.leaf [] (.ret (.o1 .not (.o3 (.apb 620) (.o2 .bun (.o2 .cons (.ci 0) (.o2 .cons (.ci 0) .nl)) (.vr 0)) (.o2 .rep (.o1 .len (.vr 0)) (.o2 .cons (.ci 0) .nl)) .nr)))) (.bad 341)))))
def ul : Pos → Bool := fun _ => false
def kn0 : Kn := []
theorem segS : seg0 I0 G fn.ntmps bod fn.results.toList 1 tms ul 3000 (sargs0 0 args) h0 kn0 = trS := by kernel_rfl
theorem seg0 : segLp I0 G fn.ntmps bod fn.results.toList 1 tms ul 3000 [0, 1, 0, 1, 1, 1] tm0 = tr0 := by kernel_rfl
theorem aw (v0 : Val) (Inv : Nat → Val → Prop) (μ : Nat × Val → Nat × Nat)
    (hu0 : v0.f = Φ) (hf : ∀ k v, Inv k v → v.f = Φ)
    (hk0 : KV v0 kn0)
    (k0 : ∀ v, Inv 0 v → KV v tm0.kn)
    (sS : TOK v0 (fun _ g => LgOK v0 Inv g) trS)
    (s0 : ∀ v, Inv 0 v → TOK v (fun _ g => LgOK v (fun q u => Inv q u ∧ lt2 μ (q, u) (0, v)) g) tr0) :
    AW P0 fn.ntmps (dH v0 h0) bod (dT v0 (sargs0 0 args)) (dH v0 h0) (Eng.Ends I0 fn fun u _ => u = .bool true) :=
  floyd hI0 (Inv := Inv) (hG v0 hu0) (fun k v h => hG v (hf k v h)) hM0 (n0 := 1) (nb := 3000) (tms := tms) (ul := ul) (kn0 := kn0) rfl (lt2 μ) (lt2_wf μ) (tms_all (J := fun k p tm => ∀ v, Inv k v → KV v tm.kn) (tms_cons (J := fun k p tm => ∀ v, Inv k v → KV v tm.kn) (n := 0) k0 (tms_nil (J := fun k p tm => ∀ v, Inv k v → KV v tm.kn) (n := 1)))) hk0 (by rw [segS]; exact sS) (tms_all (J := fun k p tm => ∀ v, Inv k v → TOK v (fun _ g => LgOK v (fun q u => Inv q u ∧ lt2 μ (q, u) (k, v)) g) (segLp I0 G fn.ntmps bod fn.results.toList 1 tms ul 3000 p tm)) (tms_cons (J := fun k p tm => ∀ v, Inv k v → TOK v (fun _ g => LgOK v (fun q u => Inv q u ∧ lt2 μ (q, u) (k, v)) g) (segLp I0 G fn.ntmps bod fn.results.toList 1 tms ul 3000 p tm)) (n := 0) (fun v hi => by rw [seg0]; exact s0 v hi) (tms_nil (J := fun k p tm => ∀ v, Inv k v → TOK v (fun _ g => LgOK v (fun q u => Inv q u ∧ lt2 μ (q, u) (k, v)) g) (segLp I0 G fn.ntmps bod fn.results.toList 1 tms ul 3000 p tm)) (n := 1))))
end Go.Proofs.Ytpgkbdkkcladcaa.KLinFinds
