/- The pieces of the law TickBefore2 from loop to loop, as the second engine reckons them. A lemma file: it claims nothing of the program. -/
import Derived.Test.YtckbckijpdnlaaaOwnSC
import Derived.Test.YtckbckijpdnlaaaProg
import Derived.Test.YtckbckijpdnlaaaOwnPhi
import Derived.Test.YtckbckijpdnlaaaOwnRun2
import Derived.Test.YtckbckijpdnlaaaOwnHd05
import Derived.KernelRfl
set_option linter.unusedVariables false
set_option maxRecDepth 100000
set_option maxHeartbeats 16000000
namespace Go.Proofs.Ytckbckijpdnlaaa.KTickBefore2
open Go Go.Lib Go.Proofs.Ytckbckijpdnlaaa.Eng Go.Proofs.Ytckbckijpdnlaaa.Sy
noncomputable abbrev P0 : Program := Go.Proofs.Try.prog
noncomputable abbrev I0 : Tab := tinfoT P0
theorem hI0 : TOk P0 I0 := tinfoT_ok P0
theorem hM0 : P0.follows .mixedOrders = true := by kernel_rfl
noncomputable def G : SSums := scall I0 (funsT P0) (oneX (Go.Proofs.Ytckbckijpdnlaaa.FRun2.fc).f (sfc Go.Proofs.Ytckbckijpdnlaaa.FRun2.fc) Go.Proofs.Ytckbckijpdnlaaa.Hd05.X) (wrOf [(3, []), (4, []), (6, []), (8, []), (9, []), (10, []), (11, [5]), (13, []), (14, [5, 6]), (19, []), (20, []), (21, []), (22, []), (23, []), (24, []), (27, []), (31, []), (33, []), (42, []), (44, []), (46, []), (47, []), (51, []), (53, []), (60, []), (61, []), (63, []), (66, []), (68, []), (73, []), (74, []), (87, [1])]) 3000 40
theorem hG (v : Val) (hv : v.f = Φ) : GOk P0 v G := scall_ok hI0 hM0 (fun f fn h => h) ((oneX_ok (sfc_ok fun σ => Go.Proofs.Ytckbckijpdnlaaa.FRun2.ok (σ.val v) hv) (Go.Proofs.Ytckbckijpdnlaaa.Hd05.hX v))) 3000 40
noncomputable abbrev fn : Func := Go.Proofs.Try.f9
noncomputable def bod : Code := fn.body.getD .skip
theorem hfn : P0.funcs[(9 : Nat)]? = some fn := by kernel_rfl
theorem hbod : fn.body = some bod := by kernel_rfl
def args : List SV := [.one (.int .i64 (.vi 0)), .one (.int .i64 (.vi 1)), .one (.int .i64 (.vi 2)), .one (.slc 0 (.ci 0) (.o1 .len (.vr 0))), .one (.int .i64 (.vi 3))]
def h0 : SH := [.old false 1 (.sym (.vr 0) [.i .i64])]
def tm0 : Tmpl := (.mk [(12, (.one (.slc 1 (.ci 0) (.o1 .len (.vr 1))))), (13, (.one (.slc 2 (.ci 0) (.o1 .len (.vr 2))))), (14, (.one (.slc 3 (.ci 0) (.o1 .len (.vr 3))))), (36, (.one (.int .i64 (.vi 0)))), (37, (.one (.int .i64 (.vi 1))))] [(.old false 1 (.sym (.vr 0) [(.i .i64)])), (.row true 2 (.sym (.vr 1) [(.i .i64), (.i .i64)])), (.row true 1 (.sym (.vr 2) [(.i .i64)])), (.row true 1 (.sym (.vr 3) [(.i .i64)]))] 2 0 4 0 [((.o2 .le (.o1 .len (.vr 1)) (.ci 120)), true)])
def tm1 : Tmpl := (.mk [(12, (.one (.slc 1 (.ci 0) (.o1 .len (.vr 1))))), (13, (.one (.slc 2 (.ci 0) (.o1 .len (.vr 2))))), (14, (.one (.slc 3 (.ci 0) (.o1 .len (.vr 3))))), (15, (.one (.int .i64 (.vi 0)))), (36, (.one (.int .i64 (.vi 1)))), (37, (.one (.int .i64 (.vi 0)))), (47, (.one (.int .i64 (.vi 2)))), (48, (.one (.int .i64 (.vi 3))))] [(.old false 1 (.sym (.vr 0) [(.i .i64)])), (.row true 2 (.sym (.vr 1) [(.i .i64), (.i .i64)])), (.row true 1 (.sym (.vr 2) [(.i .i64)])), (.row true 1 (.sym (.vr 3) [(.i .i64)]))] 4 0 4 0 [((.o2 .le (.o1 .len (.vr 1)) (.ci 120)), true)])
def tms : Tms := [([0, 1, 0, 1, 1, 1, 1, 1], tm0), ([0, 1, 1, 1, 0, 0, 1, 1, 0, 0, 1, 0, 1, 1, 1, 1, 1], tm1)]
abbrev q0 : E := (.o2 .cons (.ci 2) (.o2 .cons (.o2 .rem (.o1 (.w .u64) (.vi 1)) (.ci 5)) (.o2 .cons (.o2 (.bit .and .i64) (.vi 2) (.ci 3)) (.o2 .cons (.o2 (.bit .and .i64) (.vi 3) (.ci 65535)) .nl))))
def trS : Tree Lg := (.br (.o2 .lt (.ci 120) (.o1 .len (.vr 0))) (.leaf [] (.ret (.cb true))) (.leaf [] (.loop 0 (.mk [(.o1 .len (.o3 (.apr 500) q0 (.vr 0) .nr)), (.ci 0)] [] [(.vr 0), (.o3 (.apr 500) q0 (.vr 0) .nr), (.o3 (.apr 501) q0 (.vr 0) .nr), (.o3 (.apr 502) q0 (.vr 0) .nr)] []))))
def tr0 : Tree Lg := (.br (.o2 .lt (.vi 1) (.vi 0)) (.br (.o2 .le (.ci 0) (.vi 1)) (.br (.o2 .lt (.vi 1) (.o1 .len (.vr 1))) (.br (.o2 .le (.ci 0) (.o3 .at (.vr 1) (.vi 1) (.ci 0))) (.br (.o2 .le (.o3 .at (.vr 1) (.vi 1) (.ci 0)) (.o3 .at (.vr 1) (.vi 1) (.ci 1))) (.br (.o2 .lt (.o3 .at (.vr 1) (.vi 1) (.ci 1)) (.ci 16777215)) (.leaf [] (.loop 1 (.mk [(.vi 1), (.vi 0), (.o1 .len (.vr 1)), (.ci 0)] [] [(.vr 0), (.vr 1), (.vr 2), (.vr 3)] []))) (.leaf [] (.ret (.cb false)))) (.leaf [] (.ret (.cb false)))) (.leaf [] (.ret (.cb false)))) (.bad 64)) (.bad 63)) (.leaf [] (.ret (.cb true))))
def tr1 : Tree Lg := (.br (.o2 .lt (.vi 3) (.vi 2)) (.br (.o2 .le (.ci 0) (.vi 0)) (.br (.o2 .lt (.vi 0) (.o1 .len (.vr 3))) (.br (.o2 .le (.ci 0) (.vi 3)) (.br (.o2 .lt (.vi 3) (.o1 .len (.vr 2))) (.br (.o2 .lt (.o3 .at (.vr 3) (.vi 0) (.ci 0)) (.o3 .at (.vr 2) (.vi 3) (.ci 0))) (.br (.o2 .lt (.vi 0) (.o1 .len (.vr 1))) (.br (.o2 .lt (.vi 3) (.o1 .len (.vr 1))) (.br (.o2 .lt (.o3 .at (.vr 1) (.vi 0) (.ci 1)) (.o3 .at (.vr 1) (.vi 3) (.ci 0))) (.leaf [] (.loop 1 (.mk [(.vi 0), (.vi 1), (.vi 2), (.o1 (.w .i64) (.o2 .add (.vi 3) (.ci 1)))] [] [(.vr 0), (.vr 1), (.vr 2), (.vr 3)] []))) (.leaf [] (.ret (.cb false)))) (.bad 64)) (.bad 64)) (.leaf [] (.loop 1 (.mk [(.vi 0), (.vi 1), (.vi 2), (.o1 (.w .i64) (.o2 .add (.vi 3) (.ci 1)))] [] [(.vr 0), (.vr 1), (.vr 2), (.vr 3)] [])))) (.bad 64)) (.bad 63)) (.bad 64)) (.bad 63)) (.leaf [] (.loop 0 (.mk [(.vi 1), (.o1 (.w .i64) (.o2 .add (.vi 0) (.ci 1)))] [] [(.vr 0), (.vr 1), (.vr 2), (.vr 3)] []))))
def ul : Pos → Bool := fun _ => false
def kn0 : Kn := [(.o2 .eqi (.o2 (.bit .and .i64) (.vi 0) (.ci 3)) (.ci 1), true)]
theorem segS : seg0 I0 G fn.ntmps bod fn.results.toList 1 tms ul 3000 (sargs0 0 args) h0 kn0 = trS := by kernel_rfl
theorem seg0 : segLp I0 G fn.ntmps bod fn.results.toList 1 tms ul 3000 [0, 1, 0, 1, 1, 1, 1, 1] tm0 = tr0 := by kernel_rfl
theorem seg1 : segLp I0 G fn.ntmps bod fn.results.toList 1 tms ul 3000 [0, 1, 1, 1, 0, 0, 1, 1, 0, 0, 1, 0, 1, 1, 1, 1, 1] tm1 = tr1 := by kernel_rfl
theorem aw (v0 : Val) (Inv : Nat → Val → Prop) (μ : Nat × Val → Nat × Nat)
    (hu0 : v0.f = Φ) (hf : ∀ k v, Inv k v → v.f = Φ)
    (hk0 : KV v0 kn0)
    (k0 : ∀ v, Inv 0 v → KV v tm0.kn)
    (k1 : ∀ v, Inv 1 v → KV v tm1.kn)
    (sS : TOK v0 (fun _ g => LgOK v0 Inv g) trS)
    (s0 : ∀ v, Inv 0 v → TOK v (fun _ g => LgOK v (fun q u => Inv q u ∧ lt2 μ (q, u) (0, v)) g) tr0)
    (s1 : ∀ v, Inv 1 v → TOK v (fun _ g => LgOK v (fun q u => Inv q u ∧ lt2 μ (q, u) (1, v)) g) tr1) :
    AW P0 fn.ntmps (dH v0 h0) bod (dT v0 (sargs0 0 args)) (dH v0 h0) (Eng.Ends I0 fn fun u _ => u = .bool true) :=
  floyd hI0 (Inv := Inv) (hG v0 hu0) (fun k v h => hG v (hf k v h)) hM0 (n0 := 1) (nb := 3000) (tms := tms) (ul := ul) (kn0 := kn0) rfl (lt2 μ) (lt2_wf μ) (tms_all (J := fun k p tm => ∀ v, Inv k v → KV v tm.kn) (tms_cons (J := fun k p tm => ∀ v, Inv k v → KV v tm.kn) (n := 0) k0 (tms_cons (J := fun k p tm => ∀ v, Inv k v → KV v tm.kn) (n := 1) k1 (tms_nil (J := fun k p tm => ∀ v, Inv k v → KV v tm.kn) (n := 2))))) hk0 (by rw [segS]; exact sS) (tms_all (J := fun k p tm => ∀ v, Inv k v → TOK v (fun _ g => LgOK v (fun q u => Inv q u ∧ lt2 μ (q, u) (k, v)) g) (segLp I0 G fn.ntmps bod fn.results.toList 1 tms ul 3000 p tm)) (tms_cons (J := fun k p tm => ∀ v, Inv k v → TOK v (fun _ g => LgOK v (fun q u => Inv q u ∧ lt2 μ (q, u) (k, v)) g) (segLp I0 G fn.ntmps bod fn.results.toList 1 tms ul 3000 p tm)) (n := 0) (fun v hi => by rw [seg0]; exact s0 v hi) (tms_cons (J := fun k p tm => ∀ v, Inv k v → TOK v (fun _ g => LgOK v (fun q u => Inv q u ∧ lt2 μ (q, u) (k, v)) g) (segLp I0 G fn.ntmps bod fn.results.toList 1 tms ul 3000 p tm)) (n := 1) (fun v hi => by rw [seg1]; exact s1 v hi) (tms_nil (J := fun k p tm => ∀ v, Inv k v → TOK v (fun _ g => LgOK v (fun q u => Inv q u ∧ lt2 μ (q, u) (k, v)) g) (segLp I0 G fn.ntmps bod fn.results.toList 1 tms ul 3000 p tm)) (n := 2)))))
end Go.Proofs.Ytckbckijpdnlaaa.KTickBefore2
