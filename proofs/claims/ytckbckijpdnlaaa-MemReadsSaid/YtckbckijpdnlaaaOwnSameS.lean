/- The pieces of a function, as the second engine reckons them, and its contract's words. A lemma file: it claims nothing of the program. -/
import Derived.Test.YtckbckijpdnlaaaOwnS20
import Derived.Test.YtckbckijpdnlaaaOwnPhi
import Derived.Test.YtckbckijpdnlaaaProg
import Derived.KernelRfl
set_option linter.unusedVariables false
set_option maxRecDepth 100000
namespace Go.Proofs.Ytckbckijpdnlaaa.FSame
open Go Go.Lib Go.Proofs.Ytckbckijpdnlaaa.Eng Go.Proofs.Ytckbckijpdnlaaa.Sy
noncomputable abbrev P0 : Program := Go.Proofs.Try.prog
noncomputable abbrev I0 : Tab := tinfoT P0
theorem hI0 : TOk P0 I0 := tinfoT_ok P0
theorem hM0 : P0.follows .mixedOrders = true := by kernel_rfl
noncomputable def G : SSums := scall I0 (funsT P0) noX (wrOf [(3, []), (4, []), (6, []), (8, []), (9, []), (10, []), (11, [5]), (13, []), (14, [5, 6]), (19, []), (20, []), (21, []), (22, []), (23, []), (24, []), (27, []), (31, []), (33, []), (42, []), (44, []), (46, []), (47, []), (51, []), (53, []), (60, []), (61, []), (63, []), (66, []), (68, []), (73, []), (74, []), (87, [1])]) 3000 40
theorem hG (v : Val) (hv : v.f = Φ) : GOk P0 v G := scall_ok hI0 hM0 (fun f fn h => h) (noX_ok P0 v) 3000 40
noncomputable abbrev fn : Func := Go.Proofs.Try.f20
noncomputable def bod : Code := fn.body.getD .skip
theorem hfn : P0.funcs[(20 : Nat)]? = some fn := by kernel_rfl
theorem hbod : fn.body = some bod := by kernel_rfl
def fc : FC := { f := (20 : Nat), args := [.one (.slc 0 (.ci 0) (.o1 .len (.vr 0))), .one (.slc 1 (.ci 0) (.o1 .len (.vr 1)))], H := [.old false 6 (.sym (.vr 0) [.i .i64, .i .i64, .i .i64, .i .u64, .i .u64, .b]), .old false 6 (.sym (.vr 1) [.i .i64, .i .i64, .i .i64, .i .u64, .i .u64, .b])], ni := 0, nb := 0, nr := 2, ns := 0, kn := [((.o2 .le (.o1 .len (.vr 0)) (.ci 100000)), true), ((.o2 .le (.o1 .len (.vr 1)) (.ci 100000)), true)], rets := [(.one (.bool (.vb 0)), [.dead, .dead])], out := (.leaf [] (0, (.mk [] [(.o3 (.apb 11) .nl (.vr 0) (.vr 1))] [] []), [])) }
def tm0 : Tmpl := (.mk [(0, (.one (.slc 0 (.ci 0) (.o1 .len (.vr 0))))), (1, (.one (.slc 1 (.ci 0) (.o1 .len (.vr 1))))), (12, (.one (.int .i64 (.o1 .len (.vr 0))))), (13, (.one (.int .i64 (.vi 0))))] [(.old false 6 (.sym (.vr 0) [(.i .i64), (.i .i64), (.i .i64), (.i .u64), (.i .u64), .b])), (.old false 6 (.sym (.vr 1) [(.i .i64), (.i .i64), (.i .i64), (.i .u64), (.i .u64), .b]))] 1 0 2 0 [((.o2 .le (.ci 0) (.vi 0)), true), ((.o2 .le (.vi 0) (.ci 100000)), true)])
def tms : Tms := [([0, 1, 0, 1, 1], tm0)]
def rps : List RP := [{ x := .one (.bool (.vb 0)), H := [.dead, .dead], ni := 0, nb := 1, nr := 0, ns := 0 }]
def trS : Tree LgF := (.br (.o2 .eqi (.o1 .len (.vr 0)) (.o1 .len (.vr 1))) (.leaf [] (.loop 0 (.mk [(.ci 0)] [] [(.vr 0), (.vr 1)] []))) (.leaf [] (.ret 0 (.mk [] [(.cb false)] [] []))))
def tr0 : Tree LgF := (.br (.o2 .lt (.vi 0) (.o1 .len (.vr 0))) (.br (.o2 .lt (.vi 0) (.o1 .len (.vr 1))) (.br (.o2 .eqi (.o3 .at (.vr 0) (.vi 0) (.ci 0)) (.o3 .at (.vr 1) (.vi 0) (.ci 0))) (.br (.o2 .eqi (.o3 .at (.vr 0) (.vi 0) (.ci 1)) (.o3 .at (.vr 1) (.vi 0) (.ci 1))) (.br (.o2 .eqi (.o3 .at (.vr 0) (.vi 0) (.ci 2)) (.o3 .at (.vr 1) (.vi 0) (.ci 2))) (.br (.o2 .eqi (.o3 .at (.vr 0) (.vi 0) (.ci 3)) (.o3 .at (.vr 1) (.vi 0) (.ci 3))) (.br (.o2 .eqi (.o3 .at (.vr 0) (.vi 0) (.ci 4)) (.o3 .at (.vr 1) (.vi 0) (.ci 4))) (.br (.o2 .eqb (.o1 .nb (.o3 .at (.vr 0) (.vi 0) (.ci 5))) (.o1 .nb (.o3 .at (.vr 1) (.vi 0) (.ci 5)))) (.leaf [] (.loop 0 (.mk [(.o2 .add (.vi 0) (.ci 1))] [] [(.vr 0), (.vr 1)] []))) (.leaf [] (.ret 0 (.mk [] [(.cb false)] [] [])))) (.leaf [] (.ret 0 (.mk [] [(.cb false)] [] [])))) (.leaf [] (.ret 0 (.mk [] [(.cb false)] [] [])))) (.leaf [] (.ret 0 (.mk [] [(.cb false)] [] [])))) (.leaf [] (.ret 0 (.mk [] [(.cb false)] [] [])))) (.leaf [] (.ret 0 (.mk [] [(.cb false)] [] [])))) (.bad 64)) (.leaf [] (.ret 0 (.mk [] [(.cb true)] [] []))))
def ul : Pos → Bool := fun _ => false
theorem segS : seg0F I0 G fn.ntmps bod fn.results.toList 2 tms rps ul 3000 (sargs0 0 fc.args) fc.H fc.kn = trS := by kernel_rfl
theorem seg0 : segLpF I0 G fn.ntmps bod fn.results.toList 2 tms rps ul 3000 [0, 1, 0, 1, 1] tm0 = tr0 := by kernel_rfl
theorem mk (u : Val) (Inv : Nat → Val → Prop) (μ : Nat × Val → Nat × Nat)
    (hu : u.f = Φ) (hf : ∀ k v, Inv k v → v.f = Φ) (hpost : KV u fc.kn → ∀ k σ po, Sel u fc.out (k, σ, po) → KV u po)
    (k0 : KV u fc.kn → ∀ v, Inv 0 v → KV v tm0.kn)
    (sS : KV u fc.kn → TOK u (fun _ g => LgFOK u Inv (fun k u' => ∃ σ po, Sel u fc.out (k, σ, po) ∧ u' = σ.val u) g) trS)
    (s0 : KV u fc.kn → ∀ v, Inv 0 v → TOK v (fun _ g => LgFOK v (fun q w => Inv q w ∧ lt2 μ (q, w) (0, v)) (fun k u' => ∃ σ po, Sel u fc.out (k, σ, po) ∧ u' = σ.val u) g) tr0) : FC.Ok P0 u fc :=
  FC.mkOk hI0 hfn hbod (by decide) (by decide) (rps := rps) rfl hpost fun hk =>
    floydF hI0 (Inv := Inv) (hG u hu) (fun k v h => hG v (hf k v h)) hM0 (n0 := 2) (nb := 3000) (tms := tms) (ul := ul) (kn0 := fc.kn) rfl (lt2 μ) (lt2_wf μ) (tms_all (J := fun k p tm => ∀ v, Inv k v → KV v tm.kn) (tms_cons (J := fun k p tm => ∀ v, Inv k v → KV v tm.kn) (n := 0) (k0 hk) (tms_nil (J := fun k p tm => ∀ v, Inv k v → KV v tm.kn) (n := 1)))) hk (by rw [segS]; exact sS hk) (tms_all (J := fun k p tm => ∀ v, Inv k v → TOK v (fun _ g => LgFOK v (fun q w => Inv q w ∧ lt2 μ (q, w) (k, v)) (fun k u' => ∃ σ po, Sel u fc.out (k, σ, po) ∧ u' = σ.val u) g) (segLpF I0 G fn.ntmps bod fn.results.toList 2 tms rps ul 3000 p tm)) (tms_cons (J := fun k p tm => ∀ v, Inv k v → TOK v (fun _ g => LgFOK v (fun q w => Inv q w ∧ lt2 μ (q, w) (k, v)) (fun k u' => ∃ σ po, Sel u fc.out (k, σ, po) ∧ u' = σ.val u) g) (segLpF I0 G fn.ntmps bod fn.results.toList 2 tms rps ul 3000 p tm)) (n := 0) (fun v hi => by rw [seg0]; exact s0 hk v hi) (tms_nil (J := fun k p tm => ∀ v, Inv k v → TOK v (fun _ g => LgFOK v (fun q w => Inv q w ∧ lt2 μ (q, w) (k, v)) (fun k u' => ∃ σ po, Sel u fc.out (k, σ, po) ∧ u' = σ.val u) g) (segLpF I0 G fn.ntmps bod fn.results.toList 2 tms rps ul 3000 p tm)) (n := 1))))
end Go.Proofs.Ytckbckijpdnlaaa.FSame
