/- The pieces of a function, as the second engine reckons them, and its contract's words. A lemma file: it claims nothing of the program. -/
import Derived.Test.YtpgkbdkkcladcaaOwnSC
import Derived.Test.YtpgkbdkkcladcaaOwnPhi15
import Derived.Test.YtpgkbdkkcladcaaProg
import Derived.KernelRfl
set_option linter.unusedVariables false
set_option maxRecDepth 100000
namespace Go.Proofs.Ytpgkbdkkcladcaa.FAnsw
open Go Go.Lib Go.Proofs.Ytpgkbdkkcladcaa.Eng Go.Proofs.Ytpgkbdkkcladcaa.Sy
noncomputable abbrev P0 : Program := Go.Proofs.Try.prog
noncomputable abbrev I0 : Tab := tinfoT P0
theorem hI0 : TOk P0 I0 := tinfoT_ok P0
theorem hM0 : P0.follows .mixedOrders = true := by kernel_rfl
noncomputable def G : SSums := scall I0 (funsT P0) noX (wrOf [(4, []), (6, []), (8, []), (9, []), (10, []), (13, []), (17, []), (18, []), (19, [1, 2]), (20, []), (23, []), (25, []), (26, []), (27, [])]) 3000 40
theorem hG (v : Val) (hv : v.f = Φ) : GOk P0 v G := scall_ok hI0 hM0 (fun f fn h => h) (noX_ok P0 v) 3000 40
noncomputable abbrev fn : Func := Go.Proofs.Try.f25
noncomputable def bod : Code := fn.body.getD .skip
theorem hfn : P0.funcs[(25 : Nat)]? = some fn := by kernel_rfl
theorem hbod : fn.body = some bod := by kernel_rfl
def fc : FC := { f := (25 : Nat), args := [.one (.slc 0 (.vi 0) (.vi 1)), .agg [.int .i64 (.vi 2), .int .i64 (.vi 3), .int .i64 (.vi 4), .int .u64 (.vi 5), .int .i64 (.vi 6), .int .i64 (.vi 7), .int .i64 (.vi 8), .bool (.vb 0), .int .u64 (.vi 9), .int .i64 (.vi 10), .int .i64 (.vi 11)]], H := [.old false 1 (.sym (.vr 0) [.i .u64])], ni := 12, nb := 1, nr := 1, ns := 0, kn := [((.o2 .le (.ci 0) (.vi 0)), true), ((.o2 .le (.ci 0) (.vi 1)), true), ((.o2 .le (.vi 1) (.ci 100)), true), ((.o2 .le (.o2 .add (.vi 0) (.vi 1)) (.o1 .len (.vr 0))), true), ((.o2 .le (.ci 0) (.vi 3)), true), ((.o2 .le (.vi 3) (.ci 1)), true), ((.o2 .le (.ci 0) (.vi 4)), true), ((.o2 .le (.vi 4) (.ci 1)), true)], rets := [(.agg [.int .i64 (.vi 0), .int .i64 (.vi 1), .int .i64 (.vi 2), .int .u64 (.vi 3), .int .i64 (.vi 4), .int .i64 (.vi 5), .int .i64 (.vi 6), .bool (.vb 0), .int .u64 (.vi 7), .int .i64 (.vi 8), .int .i64 (.vi 9)], [.dead])], out := (.leaf [] (0, (.mk [(.vi 2), (.vi 3), (.vi 4), (.vi 5), (.vi 6), (.vi 7), (.vi 8), (.o3 (.api 622) (.o2 .cons (.vi 3) (.o2 .cons (.vi 4) (.o2 .cons (.vi 8) (.o2 .cons (.vi 9) (.o2 .cons (.vi 0) (.o2 .cons (.vi 1) .nl)))))) (.vr 0) .nr), (.o3 (.api 624) (.o2 .cons (.vi 8) (.o2 .cons (.vi 10) .nl)) .nr .nr), (.o3 (.api 624) (.o2 .cons (.vi 8) (.o2 .cons (.vi 11) .nl)) .nr .nr)] [(.o3 (.apb 623) (.o2 .cons (.vi 8) (.o2 .cons (.o1 .bn (.vb 0)) .nl)) .nr .nr)] [] []), [])) }
def tms : Tms := []
def rps : List RP := [{ x := .agg [.int .i64 (.vi 0), .int .i64 (.vi 1), .int .i64 (.vi 2), .int .u64 (.vi 3), .int .i64 (.vi 4), .int .i64 (.vi 5), .int .i64 (.vi 6), .bool (.vb 0), .int .u64 (.vi 7), .int .i64 (.vi 8), .int .i64 (.vi 9)], H := [.dead], ni := 10, nb := 1, nr := 0, ns := 0 }]
def trS : Tree LgF := (.br (.o2 .le (.ci 0) (.vi 8)) (.leaf [] (.ret 0 (.mk [(.vi 2), (.vi 3), (.vi 4), (.vi 5), (.vi 6), (.vi 7), (.vi 8), (.vi 9), (.vi 10), (.vi 11)] [(.vb 0)] [] []))) (.br (.o2 .eqi (.vi 3) (.ci 1)) (.br (.o2 .lt (.ci 0) (.vi 1)) (.br (.o2 .lt (.o1 .nn (.vi 0)) (.o1 .len (.vr 0))) (.br (.o2 .eqi (.vi 4) (.ci 1)) (.br (.o2 .lt (.o2 .add (.o1 .nn (.vi 0)) (.o2 .add (.vi 1) (.ci (-1)))) (.o1 .len (.vr 0))) (.leaf [] (.ret 0 (.mk [(.vi 2), (.vi 3), (.vi 4), (.vi 5), (.vi 6), (.vi 7), (.vi 8), (.o3 .at (.vr 0) (.o2 .add (.o1 .nn (.vi 0)) (.o2 .add (.vi 1) (.ci (-1)))) (.ci 0)), (.ci 0), (.ci 0)] [(.cb true)] [] []))) (.bad 3)) (.leaf [] (.ret 0 (.mk [(.vi 2), (.vi 3), (.vi 4), (.vi 5), (.vi 6), (.vi 7), (.vi 8), (.o3 .at (.vr 0) (.o1 .nn (.vi 0)) (.ci 0)), (.ci 0), (.ci 0)] [(.cb true)] [] [])))) (.bad 3)) (.leaf [] (.ret 0 (.mk [(.vi 2), (.vi 3), (.vi 4), (.vi 5), (.vi 6), (.vi 7), (.vi 8), (.ci 0), (.ci 0), (.ci 0)] [(.cb true)] [] [])))) (.leaf [] (.ret 0 (.mk [(.vi 2), (.vi 3), (.vi 4), (.vi 5), (.vi 6), (.vi 7), (.vi 8), (.ci 0), (.ci 0), (.ci 0)] [(.cb true)] [] [])))))
def ul : Pos → Bool := fun _ => false
theorem segS : seg0F I0 G fn.ntmps bod fn.results.toList 1 tms rps ul 3000 (sargs0 0 fc.args) fc.H fc.kn = trS := by kernel_rfl
theorem mk (u : Val) (hu : u.f = Φ) (hpost : KV u fc.kn → ∀ k σ po, Sel u fc.out (k, σ, po) → KV u po)
    (sS : KV u fc.kn → TOK u (fun _ g => LgFOK u (fun _ _ => False) (fun k u' => ∃ σ po, Sel u fc.out (k, σ, po) ∧ u' = σ.val u) g) trS) : FC.Ok P0 u fc :=
  FC.mkOk hI0 hfn hbod (by decide) (by decide) (rps := rps) rfl hpost fun hk =>
    floydF hI0 (Inv := fun _ _ => False) (hG u hu) (fun k v h => h.elim) hM0 (n0 := 1) (nb := 3000) (tms := tms) (ul := ul) (kn0 := fc.kn) rfl (lt2 fun _ => (0, 0)) (lt2_wf _) (fun k p tm h => by simp [tms] at h) hk (by rw [segS]; exact sS hk) (fun k p tm h => by simp [tms] at h)
end Go.Proofs.Ytpgkbdkkcladcaa.FAnsw
