/- The pieces of a function, as the second engine reckons them, and its contract's words. A lemma file: it claims nothing of the program. -/
import Derived.Test.YtpgkbdkkcladcaaOwnSC
import Derived.Test.YtpgkbdkkcladcaaOwnPhi15
import Derived.Test.YtpgkbdkkcladcaaProg
import Derived.Test.YtpgkbdkkcladcaaOwnLinDo
import Derived.KernelRfl
set_option linter.unusedVariables false
set_option maxRecDepth 100000
namespace Go.Proofs.Ytpgkbdkkcladcaa.FLinLegal
open Go Go.Lib Go.Proofs.Ytpgkbdkkcladcaa.Eng Go.Proofs.Ytpgkbdkkcladcaa.Sy
noncomputable abbrev P0 : Program := Go.Proofs.Try.prog
noncomputable abbrev I0 : Tab := tinfoT P0
theorem hI0 : TOk P0 I0 := tinfoT_ok P0
theorem hM0 : P0.follows .mixedOrders = true := by kernel_rfl
noncomputable def G : SSums := scall I0 (funsT P0) (oneX (Go.Proofs.Ytpgkbdkkcladcaa.FLinDo.fc).f (sfc Go.Proofs.Ytpgkbdkkcladcaa.FLinDo.fc) noX) (wrOf [(4, []), (6, []), (8, []), (9, []), (10, []), (13, []), (17, []), (18, []), (19, [1, 2]), (20, []), (23, []), (25, []), (26, []), (27, [])]) 3000 40
theorem hG (v : Val) (hv : v.f = Φ) : GOk P0 v G := scall_ok hI0 hM0 (fun f fn h => h) (oneX_ok (sfc_ok fun σ => Go.Proofs.Ytpgkbdkkcladcaa.FLinDo.ok (σ.val v) hv) (noX_ok P0 v)) 3000 40
noncomputable abbrev fn : Func := Go.Proofs.Try.f13
noncomputable def bod : Code := fn.body.getD .skip
theorem hfn : P0.funcs[(13 : Nat)]? = some fn := by kernel_rfl
theorem hbod : fn.body = some bod := by kernel_rfl
def fc : FC := { f := (13 : Nat), args := [.one (.slc 0 (.ci 0) (.vi 0))], H := [.old false 11 (.sym (.vr 0) [.i .i64, .i .i64, .i .i64, .i .u64, .i .i64, .i .i64, .i .i64, .b, .i .u64, .i .i64, .i .i64])], ni := 1, nb := 0, nr := 1, ns := 0, kn := [((.o2 .le (.ci 0) (.vi 0)), true), ((.o2 .le (.vi 0) (.o1 .len (.vr 0))), true), ((.o2 .le (.vi 0) (.ci 100)), true)], rets := [(.one (.bool (.vb 0)), [.dead])], out := (.leaf [] (0, (.mk [] [(.o3 (.apb 602) .nl (.o2 .take (.vi 0) (.vr 0)) .nr)] [] []), [])) }
def tm0 : Tmpl := (.mk [(3, (.one (.slc 1 (.ci 0) (.o1 .len (.vr 1))))), (7, (.one (.slc 0 (.ci 0) (.vi 0)))), (8, (.one (.int .i64 (.vi 1)))), (9, (.one (.int .i64 (.vi 2))))] [(.old false 11 (.sym (.vr 0) [(.i .i64), (.i .i64), (.i .i64), (.i .u64), (.i .i64), (.i .i64), (.i .i64), .b, (.i .u64), (.i .i64), (.i .i64)])), (.row false 1 (.sym (.vr 1) [(.i .u64)]))] 3 0 2 0 [((.o2 .le (.o1 .len (.vr 1)) (.ci 200)), true)])
def tms : Tms := [([0, 1, 0, 1, 1, 1], tm0)]
def rps : List RP := [{ x := .one (.bool (.vb 0)), H := [.dead], ni := 0, nb := 1, nr := 0, ns := 0 }]
def trS : Tree LgF := (.leaf [] (.loop 0 (.mk [(.vi 0), (.vi 0), (.ci 0)] [] [(.vr 0), .nr] [])))
def tr0 : Tree LgF := (.br (.o2 .lt (.vi 2) (.vi 1)) (.br (.o2 .le (.ci 0) (.vi 2)) (.br (.o2 .lt (.vi 2) (.vi 0)) (.br (.o2 .lt (.vi 2) (.o1 .len (.vr 0))) (.br (.o3 (.apb 601) (.o2 .cons (.o3 .at (.vr 0) (.vi 2) (.ci 1)) (.o2 .cons (.o3 .at (.vr 0) (.vi 2) (.ci 2)) (.o2 .cons (.o3 .at (.vr 0) (.vi 2) (.ci 3)) (.o2 .cons (.o3 .at (.vr 0) (.vi 2) (.ci 8)) (.o2 .cons (.o1 .bn (.o1 .nb (.o3 .at (.vr 0) (.vi 2) (.ci 7)))) .nl))))) (.vr 1) .nr) (.leaf [] (.loop 0 (.mk [(.vi 0), (.vi 1), (.o1 (.w .i64) (.o2 .add (.vi 2) (.ci 1)))] [] [(.vr 0), (.o3 (.apr 600) (.o2 .cons (.o3 .at (.vr 0) (.vi 2) (.ci 1)) (.o2 .cons (.o3 .at (.vr 0) (.vi 2) (.ci 2)) (.o2 .cons (.o3 .at (.vr 0) (.vi 2) (.ci 3)) (.o2 .cons (.o3 .at (.vr 0) (.vi 2) (.ci 8)) (.o2 .cons (.o1 .bn (.o1 .nb (.o3 .at (.vr 0) (.vi 2) (.ci 7)))) .nl))))) (.vr 1) .nr)] []))) (.leaf [] (.ret 0 (.mk [] [(.cb false)] [] [])))) (.bad 3)) (.bad 64)) (.bad 63)) (.leaf [] (.ret 0 (.mk [] [(.cb true)] [] []))))
def ul : Pos → Bool := fun _ => false
theorem segS : seg0F I0 G fn.ntmps bod fn.results.toList 1 tms rps ul 3000 (sargs0 0 fc.args) fc.H fc.kn = trS := by kernel_rfl
theorem seg0 : segLpF I0 G fn.ntmps bod fn.results.toList 1 tms rps ul 3000 [0, 1, 0, 1, 1, 1] tm0 = tr0 := by kernel_rfl
theorem mk (u : Val) (Inv : Nat → Val → Prop) (μ : Nat × Val → Nat × Nat)
    (hu : u.f = Φ) (hf : ∀ k v, Inv k v → v.f = Φ) (hpost : KV u fc.kn → ∀ k σ po, Sel u fc.out (k, σ, po) → KV u po)
    (k0 : KV u fc.kn → ∀ v, Inv 0 v → KV v tm0.kn)
    (sS : KV u fc.kn → TOK u (fun _ g => LgFOK u Inv (fun k u' => ∃ σ po, Sel u fc.out (k, σ, po) ∧ u' = σ.val u) g) trS)
    (s0 : KV u fc.kn → ∀ v, Inv 0 v → TOK v (fun _ g => LgFOK v (fun q w => Inv q w ∧ lt2 μ (q, w) (0, v)) (fun k u' => ∃ σ po, Sel u fc.out (k, σ, po) ∧ u' = σ.val u) g) tr0) : FC.Ok P0 u fc :=
  FC.mkOk hI0 hfn hbod (by decide) (by decide) (rps := rps) rfl hpost fun hk =>
    floydF hI0 (Inv := Inv) (hG u hu) (fun k v h => hG v (hf k v h)) hM0 (n0 := 1) (nb := 3000) (tms := tms) (ul := ul) (kn0 := fc.kn) rfl (lt2 μ) (lt2_wf μ) (tms_all (J := fun k p tm => ∀ v, Inv k v → KV v tm.kn) (tms_cons (J := fun k p tm => ∀ v, Inv k v → KV v tm.kn) (n := 0) (k0 hk) (tms_nil (J := fun k p tm => ∀ v, Inv k v → KV v tm.kn) (n := 1)))) hk (by rw [segS]; exact sS hk) (tms_all (J := fun k p tm => ∀ v, Inv k v → TOK v (fun _ g => LgFOK v (fun q w => Inv q w ∧ lt2 μ (q, w) (k, v)) (fun k u' => ∃ σ po, Sel u fc.out (k, σ, po) ∧ u' = σ.val u) g) (segLpF I0 G fn.ntmps bod fn.results.toList 1 tms rps ul 3000 p tm)) (tms_cons (J := fun k p tm => ∀ v, Inv k v → TOK v (fun _ g => LgFOK v (fun q w => Inv q w ∧ lt2 μ (q, w) (k, v)) (fun k u' => ∃ σ po, Sel u fc.out (k, σ, po) ∧ u' = σ.val u) g) (segLpF I0 G fn.ntmps bod fn.results.toList 1 tms rps ul 3000 p tm)) (n := 0) (fun v hi => by rw [seg0]; exact s0 hk v hi) (tms_nil (J := fun k p tm => ∀ v, Inv k v → TOK v (fun _ g => LgFOK v (fun q w => Inv q w ∧ lt2 μ (q, w) (k, v)) (fun k u' => ∃ σ po, Sel u fc.out (k, σ, po) ∧ u' = σ.val u) g) (segLpF I0 G fn.ntmps bod fn.results.toList 1 tms rps ul 3000 p tm)) (n := 1))))
end Go.Proofs.Ytpgkbdkkcladcaa.FLinLegal
