/- The pieces of a function, as the second engine reckons them, and its contract's words. A lemma file: it claims nothing of the program. -/
import Derived.Test.YtpgkbdkkcladcaaOwnSC
import Derived.Test.YtpgkbdkkcladcaaOwnPhi15
import Derived.Test.YtpgkbdkkcladcaaProg
import Derived.KernelRfl
set_option linter.unusedVariables false
set_option maxRecDepth 100000
namespace Go.Proofs.Ytpgkbdkkcladcaa.FLinDoB
open Go Go.Lib Go.Proofs.Ytpgkbdkkcladcaa.Eng Go.Proofs.Ytpgkbdkkcladcaa.Sy
noncomputable abbrev P0 : Program := Go.Proofs.Try.prog
noncomputable abbrev I0 : Tab := tinfoT P0
theorem hI0 : TOk P0 I0 := tinfoT_ok P0
theorem hM0 : P0.follows .mixedOrders = true := by kernel_rfl
noncomputable def G : SSums := scall I0 (funsT P0) noX (wrOf [(4, []), (6, []), (8, []), (9, []), (10, []), (13, []), (17, []), (18, []), (19, [1, 2]), (20, []), (23, []), (25, []), (26, []), (27, [])]) 3000 40
theorem hG (v : Val) (hv : v.f = Φ) : GOk P0 v G := scall_ok hI0 hM0 (fun f fn h => h) (noX_ok P0 v) 3000 40
noncomputable abbrev fn : Func := Go.Proofs.Try.f15
noncomputable def bod : Code := fn.body.getD .skip
theorem hfn : P0.funcs[(15 : Nat)]? = some fn := by kernel_rfl
theorem hbod : fn.body = some bod := by kernel_rfl
def fc : FC := { f := (15 : Nat), args := [.one .nils, .agg [.int .i64 (.vi 0), .int .i64 (.vi 1), .int .i64 (.vi 2), .int .u64 (.vi 3), .int .i64 (.vi 4), .int .i64 (.vi 5), .int .i64 (.vi 6), .bool (.vb 0), .int .u64 (.vi 7), .int .i64 (.vi 8), .int .i64 (.vi 9)]], H := [.old false 1 (.sym (.vr 0) [.i .u64])], ni := 10, nb := 1, nr := 1, ns := 0, kn := [((.o2 .le (.o1 .len (.vr 0)) (.ci 1000)), true)], rets := [(.tup [.one (.slc 1 (.ci 0) (.o1 .len (.vr 0))), .one (.bool (.vb 0))], [.dead, .row false 1 (.sym (.vr 0) [.i .u64])])], out := (.leaf [] (0, (.mk [] [(.o3 (.apb 601) (.o2 .cons (.vi 1) (.o2 .cons (.vi 2) (.o2 .cons (.vi 3) (.o2 .cons (.vi 7) (.o2 .cons (.o1 .bn (.vb 0)) .nl))))) (.vr 0) .nr)] [(.o3 (.apr 600) (.o2 .cons (.vi 1) (.o2 .cons (.vi 2) (.o2 .cons (.vi 3) (.o2 .cons (.vi 7) (.o2 .cons (.o1 .bn (.vb 0)) .nl))))) (.vr 0) .nr)] []), [((.o2 .le (.o1 .len (.o3 (.apr 600) (.o2 .cons (.vi 1) (.o2 .cons (.vi 2) (.o2 .cons (.vi 3) (.o2 .cons (.vi 7) (.o2 .cons (.o1 .bn (.vb 0)) .nl))))) (.vr 0) .nr)) (.o2 .add (.o1 .len (.vr 0)) (.ci 1))), true)])) }
def tms : Tms := []
def rps : List RP := [{ x := .tup [.one (.slc 1 (.ci 0) (.o1 .len (.vr 0))), .one (.bool (.vb 0))], H := [.dead, .row false 1 (.sym (.vr 0) [.i .u64])], ni := 0, nb := 1, nr := 1, ns := 0 }]
def trS : Tree LgF := (.both (.br (.o2 .eqi (.vi 1) (.ci 0)) (.br (.vb 0) (.br (.o2 .eqi (.vi 2) (.ci 0)) (.leaf [] (.ret 0 (.mk [] [(.cb true)] [(.o2 .app .nr (.o2 .cons (.vi 3) .nl))] []))) (.leaf [] (.ret 0 (.mk [] [(.cb true)] [(.o2 .app .nr (.o2 .cons (.vi 3) .nl))] [])))) (.leaf [] (.ret 0 (.mk [] [(.cb true)] [.nr] [])))) (.br (.vb 0) (.leaf [] (.ret 0 (.mk [] [(.cb false)] [.nr] []))) (.leaf [] (.ret 0 (.mk [] [(.cb true)] [.nr] []))))) (.br (.o2 .eqi (.vi 1) (.ci 0)) (.br (.vb 0) (.br (.o2 .eqi (.vi 2) (.ci 0)) (.leaf [] (.ret 0 (.mk [] [(.cb true)] [(.o2 .app .nr (.o2 .cons (.vi 3) .nl))] []))) (.leaf [] (.ret 0 (.mk [] [(.cb true)] [(.o2 .app .nr (.o2 .cons (.vi 3) .nl))] [])))) (.leaf [] (.ret 0 (.mk [] [(.cb true)] [.nr] [])))) (.br (.vb 0) (.leaf [] (.ret 0 (.mk [] [(.cb false)] [.nr] []))) (.leaf [] (.ret 0 (.mk [] [(.cb true)] [.nr] []))))))
def ul : Pos → Bool := fun _ => false
theorem segS : seg0F I0 G fn.ntmps bod fn.results.toList 1 tms rps ul 3000 (sargs0 0 fc.args) fc.H fc.kn = trS := by kernel_rfl
theorem mk (u : Val) (hu : u.f = Φ) (hpost : KV u fc.kn → ∀ k σ po, Sel u fc.out (k, σ, po) → KV u po)
    (sS : KV u fc.kn → TOK u (fun _ g => LgFOK u (fun _ _ => False) (fun k u' => ∃ σ po, Sel u fc.out (k, σ, po) ∧ u' = σ.val u) g) trS) : FC.Ok P0 u fc :=
  FC.mkOk hI0 hfn hbod (by decide) (by decide) (rps := rps) rfl hpost fun hk =>
    floydF hI0 (Inv := fun _ _ => False) (hG u hu) (fun k v h => h.elim) hM0 (n0 := 1) (nb := 3000) (tms := tms) (ul := ul) (kn0 := fc.kn) rfl (lt2 fun _ => (0, 0)) (lt2_wf _) (fun k p tm h => by simp [tms] at h) hk (by rw [segS]; exact sS hk) (fun k p tm h => by simp [tms] at h)
end Go.Proofs.Ytpgkbdkkcladcaa.FLinDoB
