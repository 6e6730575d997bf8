/- The pieces of a function, as the second engine reckons them, and its contract's words. A lemma file: it claims nothing of the program. -/
import Derived.Test.YtpgkbdkkcladcaaDoorOwnSC
import Derived.Test.YtpgkbdkkcladcaaDoorOwnPhi20
import Derived.Test.YtpgkbdkkcladcaaDoorProg
import Derived.Test.YtpgkbdkkcladcaaDoorOwnDecode
import Derived.KernelRfl
set_option linter.unusedVariables false
set_option maxRecDepth 100000
namespace Go.Proofs.YtpgkbdkkcladcaaDoor.FTLen
open Go Go.Lib Go.Proofs.YtpgkbdkkcladcaaDoor.Eng Go.Proofs.YtpgkbdkkcladcaaDoor.Sy
noncomputable abbrev P0 : Program := Go.Proofs.Tryd.prog
noncomputable abbrev I0 : Tab := tinfoT P0
theorem hI0 : TOk P0 I0 := tinfoT_ok P0
theorem hM0 : P0.follows .mixedOrders = true := by kernel_rfl
noncomputable def G : SSums := scall I0 (funsT P0) (oneX (Go.Proofs.YtpgkbdkkcladcaaDoor.FDecode.fc).f (sfc Go.Proofs.YtpgkbdkkcladcaaDoor.FDecode.fc) noX) (wrOf [(7, []), (8, []), (11, []), (12, []), (15, []), (22, []), (25, []), (27, [0]), (29, []), (30, []), (33, [1])]) 3000 40
theorem hG (v : Val) (hv : v.f = Φ) : GOk P0 v G := scall_ok hI0 hM0 (fun f fn h => h) (oneX_ok (sfc_ok fun σ => Go.Proofs.YtpgkbdkkcladcaaDoor.FDecode.ok (σ.val v) hv) (noX_ok P0 v)) 3000 40
noncomputable abbrev fn : Func := Go.Proofs.Tryd.f19
noncomputable def bod : Code := fn.body.getD .skip
theorem hfn : P0.funcs[(19 : Nat)]? = some fn := by kernel_rfl
theorem hbod : fn.body = some bod := by kernel_rfl
def fc : FC := { f := (19 : Nat), args := [.one (.str (.vs 0))], H := [], ni := 0, nb := 0, nr := 0, ns := 1, kn := [((.o2 .le (.o1 .slen (.vs 0)) (.ci 1000000)), true)], rets := [(.one (.int .i64 (.vi 0)), [])], out := (.leaf [] (0, (.mk [(.o3 (.api 703) (.vs 0) .nr .nr)] [] [] []), [((.o2 .le (.ci 0) (.o3 (.api 703) (.vs 0) .nr .nr)), true), ((.o2 .le (.o3 (.api 703) (.vs 0) .nr .nr) (.o1 .slen (.vs 0))), true)])) }
def tm0 : Tmpl := (.mk [(3, (.one (.int .i64 (.vi 0)))), (5, (.one (.ptr 0 0 none)))] [(.iter (.vs 0) (.vi 1))] 2 0 0 1 [((.o2 .le (.ci 0) (.vi 0)), true), ((.o2 .le (.vi 0) (.ci 1000000)), true)])
def tms : Tms := [([0, 1, 0, 1, 1], tm0)]
def rps : List RP := [{ x := .one (.int .i64 (.vi 0)), H := [], ni := 1, nb := 0, nr := 0, ns := 0 }]
def trS : Tree LgF := (.leaf [] (.loop 0 (.mk [(.ci 0), (.ci 0)] [] [] [(.vs 0)])))
def tr0 : Tree LgF := (.br (.o2 .lt (.o1 .nn (.vi 1)) (.o1 .slen (.vs 0))) (.leaf [] (.loop 0 (.mk [(.o2 .add (.vi 0) (.ci 1)), (.o2 .add (.o1 .nn (.vi 1)) (.o2 .rlen (.vs 0) (.o1 .nn (.vi 1))))] [] [] [(.vs 0)]))) (.leaf [] (.ret 0 (.mk [(.vi 0)] [] [] []))))
def ul : Pos → Bool := fun _ => false
theorem segS : seg0F I0 G fn.ntmps bod fn.results.toList 0 tms rps ul 3000 (sargs0 0 fc.args) fc.H fc.kn = trS := by kernel_rfl
theorem seg0 : segLpF I0 G fn.ntmps bod fn.results.toList 0 tms rps ul 3000 [0, 1, 0, 1, 1] tm0 = tr0 := by kernel_rfl
theorem mk (u : Val) (Inv : Nat → Val → Prop) (μ : Nat × Val → Nat × Nat)
    (hu : u.f = Φ) (hf : ∀ k v, Inv k v → v.f = Φ) (hpost : KV u fc.kn → ∀ k σ po, Sel u fc.out (k, σ, po) → KV u po)
    (k0 : KV u fc.kn → ∀ v, Inv 0 v → KV v tm0.kn)
    (sS : KV u fc.kn → TOK u (fun _ g => LgFOK u Inv (fun k u' => ∃ σ po, Sel u fc.out (k, σ, po) ∧ u' = σ.val u) g) trS)
    (s0 : KV u fc.kn → ∀ v, Inv 0 v → TOK v (fun _ g => LgFOK v (fun q w => Inv q w ∧ lt2 μ (q, w) (0, v)) (fun k u' => ∃ σ po, Sel u fc.out (k, σ, po) ∧ u' = σ.val u) g) tr0) : FC.Ok P0 u fc :=
  FC.mkOk hI0 hfn hbod (by decide) (by decide) (rps := rps) rfl hpost fun hk =>
    floydF hI0 (Inv := Inv) (hG u hu) (fun k v h => hG v (hf k v h)) hM0 (n0 := 0) (nb := 3000) (tms := tms) (ul := ul) (kn0 := fc.kn) rfl (lt2 μ) (lt2_wf μ) (tms_all (J := fun k p tm => ∀ v, Inv k v → KV v tm.kn) (tms_cons (J := fun k p tm => ∀ v, Inv k v → KV v tm.kn) (n := 0) (k0 hk) (tms_nil (J := fun k p tm => ∀ v, Inv k v → KV v tm.kn) (n := 1)))) hk (by rw [segS]; exact sS hk) (tms_all (J := fun k p tm => ∀ v, Inv k v → TOK v (fun _ g => LgFOK v (fun q w => Inv q w ∧ lt2 μ (q, w) (k, v)) (fun k u' => ∃ σ po, Sel u fc.out (k, σ, po) ∧ u' = σ.val u) g) (segLpF I0 G fn.ntmps bod fn.results.toList 0 tms rps ul 3000 p tm)) (tms_cons (J := fun k p tm => ∀ v, Inv k v → TOK v (fun _ g => LgFOK v (fun q w => Inv q w ∧ lt2 μ (q, w) (k, v)) (fun k u' => ∃ σ po, Sel u fc.out (k, σ, po) ∧ u' = σ.val u) g) (segLpF I0 G fn.ntmps bod fn.results.toList 0 tms rps ul 3000 p tm)) (n := 0) (fun v hi => by rw [seg0]; exact s0 hk v hi) (tms_nil (J := fun k p tm => ∀ v, Inv k v → TOK v (fun _ g => LgFOK v (fun q w => Inv q w ∧ lt2 μ (q, w) (k, v)) (fun k u' => ∃ σ po, Sel u fc.out (k, σ, po) ∧ u' = σ.val u) g) (segLpF I0 G fn.ntmps bod fn.results.toList 0 tms rps ul 3000 p tm)) (n := 1))))
end Go.Proofs.YtpgkbdkkcladcaaDoor.FTLen
