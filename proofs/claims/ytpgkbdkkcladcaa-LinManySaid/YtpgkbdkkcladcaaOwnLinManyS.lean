/- The pieces of the law LinMany from loop to loop, as the second engine reckons them. A lemma file: it claims nothing of the program. -/
import Derived.Test.YtpgkbdkkcladcaaOwnSC
import Derived.Test.YtpgkbdkkcladcaaProg
import Derived.Test.YtpgkbdkkcladcaaOwnPhi15
import Derived.Test.YtpgkbdkkcladcaaOwnHead15
import Derived.Test.YtpgkbdkkcladcaaOwnLinLegal
import Derived.Test.YtpgkbdkkcladcaaOwnLinDo
import Derived.Test.YtpgkbdkkcladcaaOwnFree
import Derived.Test.YtpgkbdkkcladcaaOwnFind
import Derived.KernelRfl
set_option linter.unusedVariables false
set_option maxRecDepth 100000
set_option maxHeartbeats 16000000
namespace Go.Proofs.Ytpgkbdkkcladcaa.KLinMany
open Go Go.Lib Go.Proofs.Ytpgkbdkkcladcaa.Eng Go.Proofs.Ytpgkbdkkcladcaa.Sy
noncomputable abbrev P0 : Program := Go.Proofs.Try.prog
noncomputable abbrev I0 : Tab := tinfoT P0
theorem hI0 : TOk P0 I0 := tinfoT_ok P0
theorem hM0 : P0.follows .mixedOrders = true := by kernel_rfl
noncomputable def G : SSums := scall I0 (funsT P0) (oneX (Go.Proofs.Ytpgkbdkkcladcaa.FFind.fc).f (sfc Go.Proofs.Ytpgkbdkkcladcaa.FFind.fc) (oneX (Go.Proofs.Ytpgkbdkkcladcaa.FFree.fc).f (sfc Go.Proofs.Ytpgkbdkkcladcaa.FFree.fc) (oneX (Go.Proofs.Ytpgkbdkkcladcaa.FLinDo.fc).f (sfc Go.Proofs.Ytpgkbdkkcladcaa.FLinDo.fc) (oneX (Go.Proofs.Ytpgkbdkkcladcaa.FLinLegal.fc).f (sfc Go.Proofs.Ytpgkbdkkcladcaa.FLinLegal.fc) (oneX (Go.Proofs.Ytpgkbdkkcladcaa.FHead15.fc).f (sfc Go.Proofs.Ytpgkbdkkcladcaa.FHead15.fc) noX))))) (wrOf [(4, []), (6, []), (8, []), (9, []), (10, []), (13, []), (17, []), (18, []), (19, [1, 2]), (20, []), (23, []), (25, []), (26, []), (27, [])]) 3000 40
theorem hG (v : Val) (hv : v.f = Φ) : GOk P0 v G := scall_ok hI0 hM0 (fun f fn h => h) ((oneX_ok (sfc_ok fun σ => Go.Proofs.Ytpgkbdkkcladcaa.FFind.ok (σ.val v) hv) (oneX_ok (sfc_ok fun σ => Go.Proofs.Ytpgkbdkkcladcaa.FFree.ok (σ.val v) hv) (oneX_ok (sfc_ok fun σ => Go.Proofs.Ytpgkbdkkcladcaa.FLinDo.ok (σ.val v) hv) (oneX_ok (sfc_ok fun σ => Go.Proofs.Ytpgkbdkkcladcaa.FLinLegal.ok (σ.val v) hv) (oneX_ok (sfc_ok fun σ => Go.Proofs.Ytpgkbdkkcladcaa.FHead15.ok (σ.val v) hv) (noX_ok P0 v))))))) 3000 40
noncomputable abbrev fn : Func := Go.Proofs.Try.f3
noncomputable def bod : Code := fn.body.getD .skip
theorem hfn : P0.funcs[(3 : Nat)]? = some fn := by kernel_rfl
theorem hbod : fn.body = some bod := by kernel_rfl
def args : List SV := [.one (.int .i64 (.vi 0))]
def h0 : SH := []
def tm0 : Tmpl := (.mk [(0, (.one (.int .i64 (.vi 0)))), (3, (.one (.slc 0 (.ci 0) (.o1 .len (.vr 0))))), (4, (.one (.int .i64 (.vi 1))))] [(.row true 11 (.sym (.vr 0) [(.i .i64), (.i .i64), (.i .i64), (.i .u64), (.i .i64), (.i .i64), (.i .i64), .b, (.i .u64), (.i .i64), (.i .i64)]))] 2 0 1 0 [])
def tms : Tms := [([0, 1, 0, 1, 1, 1, 1], tm0)]
def trS : Tree Lg := (.leaf [] (.loop 0 (.mk [(.o2 (.bit .and .i64) (.vi 0) (.ci 15)), (.ci 0)] [] [.nr] [])))
def tr0 : Tree Lg := (.br (.o2 .lt (.vi 1) (.vi 0)) (.br (.o2 .le (.o2 .mul (.o2 .add (.o1 .len (.vr 0)) (.ci 1)) (.ci 88)) (.ci 140737488355328)) (.leaf [] (.loop 0 (.mk [(.vi 0), (.o1 (.w .i64) (.o2 .add (.vi 1) (.ci 1)))] [] [(.o2 .app (.vr 0) (.o2 .cons (.ci 0) (.o2 .cons (.ci 0) (.o2 .cons (.ci 0) (.o2 .cons (.o1 (.w .u64) (.vi 1)) (.o2 .cons (.ci 0) (.o2 .cons (.o1 (.w .i64) (.o2 .mul (.ci 2) (.vi 1))) (.o2 .cons (.o1 (.w .i64) (.o2 .add (.o1 (.w .i64) (.o2 .mul (.ci 2) (.vi 1))) (.ci 1))) (.o2 .cons (.ci 1) (.o2 .cons (.ci 0) (.o2 .cons (.ci 0) (.o2 .cons (.ci 0) .nl))))))))))))] []))) (.bad 126)) (.br (.o2 .lt (.ci 9) (.o1 .len (.vr 0))) (.br (.o2 .eqb (.cb false) (.o2 .le (.vi 0) (.ci 9))) (.br (.o2 .le (.o1 .len (.vr 0)) (.ci 100)) (.leaf [] (.ret (.o3 (.apb 602) .nl (.o2 .take (.o1 .len (.vr 0)) (.vr 0)) .nr))) (.bad 341)) (.leaf [] (.ret (.cb false)))) (.br (.o3 (.apb 616) (.o2 .cons (.ci 0) .nl) (.o2 .rep (.o1 .len (.vr 0)) (.o2 .cons (.ci 0) .nl)) (.vr 0)) (.br (.o3 (.apb 614) (.o2 .bun (.o2 .cons (.ci 0) (.o2 .cons (.ci 0) .nl)) (.vr 0)) (.o2 .rep (.o1 .len (.vr 0)) (.o2 .cons (.ci 0) .nl)) (.o2 .cat .nr .nr)) (.br (.o3 (.apb 615) (.o2 .bun (.o2 .cons (.ci 0) (.o2 .cons (.ci 0) .nl)) (.vr 0)) (.o2 .rep (.o1 .len (.vr 0)) (.o2 .cons (.ci 0) .nl)) (.o2 .cat .nr .nr)) (.br (.o2 .eqb (.cb true) (.o2 .le (.vi 0) (.ci 9))) (.br (.o2 .eqi (.o3 (.api 610) (.o2 .bun (.o2 .cons (.ci 0) (.o2 .cons (.ci 0) .nl)) (.vr 0)) (.o2 .rep (.o1 .len (.vr 0)) (.o2 .cons (.ci 0) .nl)) (.o2 .cat .nr .nr)) (.vi 0)) (.leaf [] (.ret (.o3 (.apb 602) .nl (.o2 .take (.o1 .len (.vr 0)) (.vr 0)) .nr))) (.leaf [] (.ret (.cb false)))) (.leaf [] (.ret (.cb false)))) (.br (.o2 .eqb (.cb false) (.o2 .le (.vi 0) (.ci 9))) (.leaf [] (.ret (.o3 (.apb 602) .nl (.o2 .take (.o1 .len (.vr 0)) (.vr 0)) .nr))) (.leaf [] (.ret (.cb false))))) (.br (.o3 (.apb 615) (.o2 .bun (.o2 .cons (.ci 0) (.o2 .cons (.ci 0) .nl)) (.vr 0)) (.o2 .rep (.o1 .len (.vr 0)) (.o2 .cons (.ci 0) .nl)) (.o2 .cat .nr .nr)) (.br (.o2 .eqb (.cb true) (.o2 .le (.vi 0) (.ci 9))) (.br (.o2 .eqi (.o3 (.api 610) (.o2 .bun (.o2 .cons (.ci 0) (.o2 .cons (.ci 0) .nl)) (.vr 0)) (.o2 .rep (.o1 .len (.vr 0)) (.o2 .cons (.ci 0) .nl)) (.o2 .cat .nr .nr)) (.vi 0)) (.leaf [] (.ret (.o3 (.apb 602) .nl (.o2 .take (.o1 .len (.vr 0)) (.vr 0)) .nr))) (.leaf [] (.ret (.cb false)))) (.leaf [] (.ret (.cb false)))) (.br (.o2 .eqb (.cb false) (.o2 .le (.vi 0) (.ci 9))) (.leaf [] (.ret (.o3 (.apb 602) .nl (.o2 .take (.o1 .len (.vr 0)) (.vr 0)) .nr))) (.leaf [] (.ret (.cb false)))))) (.bad 341))))
def ul : Pos → Bool := fun _ => false
def kn0 : Kn := []
theorem segS : seg0 I0 G fn.ntmps bod fn.results.toList 0 tms ul 3000 (sargs0 0 args) h0 kn0 = trS := by kernel_rfl
theorem seg0 : segLp I0 G fn.ntmps bod fn.results.toList 0 tms ul 3000 [0, 1, 0, 1, 1, 1, 1] tm0 = tr0 := by kernel_rfl
theorem aw (v0 : Val) (Inv : Nat → Val → Prop) (μ : Nat × Val → Nat × Nat)
    (hu0 : v0.f = Φ) (hf : ∀ k v, Inv k v → v.f = Φ)
    (hk0 : KV v0 kn0)
    (k0 : ∀ v, Inv 0 v → KV v tm0.kn)
    (sS : TOK v0 (fun _ g => LgOK v0 Inv g) trS)
    (s0 : ∀ v, Inv 0 v → TOK v (fun _ g => LgOK v (fun q u => Inv q u ∧ lt2 μ (q, u) (0, v)) g) tr0) :
    AW P0 fn.ntmps (dH v0 h0) bod (dT v0 (sargs0 0 args)) (dH v0 h0) (Eng.Ends I0 fn fun u _ => u = .bool true) :=
  floyd hI0 (Inv := Inv) (hG v0 hu0) (fun k v h => hG v (hf k v h)) hM0 (n0 := 0) (nb := 3000) (tms := tms) (ul := ul) (kn0 := kn0) rfl (lt2 μ) (lt2_wf μ) (tms_all (J := fun k p tm => ∀ v, Inv k v → KV v tm.kn) (tms_cons (J := fun k p tm => ∀ v, Inv k v → KV v tm.kn) (n := 0) k0 (tms_nil (J := fun k p tm => ∀ v, Inv k v → KV v tm.kn) (n := 1)))) hk0 (by rw [segS]; exact sS) (tms_all (J := fun k p tm => ∀ v, Inv k v → TOK v (fun _ g => LgOK v (fun q u => Inv q u ∧ lt2 μ (q, u) (k, v)) g) (segLp I0 G fn.ntmps bod fn.results.toList 0 tms ul 3000 p tm)) (tms_cons (J := fun k p tm => ∀ v, Inv k v → TOK v (fun _ g => LgOK v (fun q u => Inv q u ∧ lt2 μ (q, u) (k, v)) g) (segLp I0 G fn.ntmps bod fn.results.toList 0 tms ul 3000 p tm)) (n := 0) (fun v hi => by rw [seg0]; exact s0 v hi) (tms_nil (J := fun k p tm => ∀ v, Inv k v → TOK v (fun _ g => LgOK v (fun q u => Inv q u ∧ lt2 μ (q, u) (k, v)) g) (segLp I0 G fn.ntmps bod fn.results.toList 0 tms ul 3000 p tm)) (n := 1))))
end Go.Proofs.Ytpgkbdkkcladcaa.KLinMany
