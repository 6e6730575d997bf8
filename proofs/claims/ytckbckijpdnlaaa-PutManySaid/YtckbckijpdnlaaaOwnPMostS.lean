/- The pieces of a function, as the second engine reckons them, and its contract's words. A lemma file: it claims nothing of the program. -/
import Derived.Test.YtckbckijpdnlaaaOwnSC
import Derived.Test.YtckbckijpdnlaaaOwnPhi
import Derived.Test.YtckbckijpdnlaaaProg
import Derived.KernelRfl
set_option linter.unusedVariables false
set_option maxRecDepth 100000
namespace Go.Proofs.Ytckbckijpdnlaaa.FPMost
open Go Go.Lib Go.Proofs.Ytckbckijpdnlaaa.Eng Go.Proofs.Ytckbckijpdnlaaa.Sy
noncomputable abbrev P0 : Program := Go.Proofs.Try.prog
noncomputable abbrev I0 : Tab := tinfoT P0
theorem hI0 : TOk P0 I0 := tinfoT_ok P0
theorem hM0 : P0.follows .mixedOrders = true := by kernel_rfl
noncomputable def G : SSums := scall I0 (funsT P0) noX (wrOf [(3, []), (4, []), (6, []), (8, []), (9, []), (10, []), (11, [5]), (13, []), (14, [5, 6]), (19, []), (20, []), (21, []), (22, []), (23, []), (24, []), (27, []), (31, []), (33, []), (42, []), (44, []), (46, []), (47, []), (51, []), (53, []), (60, []), (61, []), (63, []), (66, []), (68, []), (73, []), (74, []), (87, [1])]) 3000 40
theorem hG (v : Val) (hv : v.f = Φ) : GOk P0 v G := scall_ok hI0 hM0 (fun f fn h => h) (noX_ok P0 v) 3000 40
noncomputable abbrev fn : Func := Go.Proofs.Try.f59
noncomputable def bod : Code := fn.body.getD .skip
theorem hfn : P0.funcs[(59 : Nat)]? = some fn := by kernel_rfl
theorem hbod : fn.body = some bod := by kernel_rfl
def fc : FC := { f := (59 : Nat), args := [.agg [.int .i64 (.vi 0), .int .i64 (.vi 1), .int .i64 (.vi 2), .int .i64 (.vi 3)]], H := [], ni := 4, nb := 0, nr := 0, ns := 0, kn := [((.o2 .le (.ci 1) (.vi 0)), true), ((.o2 .le (.vi 0) (.ci 4)), true), ((.o2 .le (.ci 1) (.vi 1)), true), ((.o2 .le (.vi 1) (.ci 4)), true), ((.o2 .le (.ci 0) (.vi 2)), true), ((.o2 .le (.vi 2) (.ci 4)), true), ((.o2 .le (.ci 0) (.vi 3)), true), ((.o2 .le (.vi 3) (.ci 100)), true)], rets := [(.one (.int .i64 (.vi 0)), [])], out := (.leaf [] (0, (.mk [(.o3 (.api 20) (.o2 .cons (.vi 0) (.o2 .cons (.vi 1) (.o2 .cons (.vi 2) (.o2 .cons (.vi 3) .nl)))) .nr .nr)] [] [] []), [((.o2 .le (.ci 0) (.o3 (.api 20) (.o2 .cons (.vi 0) (.o2 .cons (.vi 1) (.o2 .cons (.vi 2) (.o2 .cons (.vi 3) .nl)))) .nr .nr)), true), ((.o2 .le (.o3 (.api 20) (.o2 .cons (.vi 0) (.o2 .cons (.vi 1) (.o2 .cons (.vi 2) (.o2 .cons (.vi 3) .nl)))) .nr .nr) (.ci 200)), true)])) }
def tms : Tms := []
def rps : List RP := [{ x := .one (.int .i64 (.vi 0)), H := [], ni := 1, nb := 0, nr := 0, ns := 0 }]
def trS : Tree LgF := (.br (.o2 .eqi (.vi 2) (.ci 1)) (.leaf [] (.ret 0 (.mk [(.o2 .add (.o2 .add (.o2 .mul (.vi 1) (.o2 .add (.vi 0) (.ci 1))) (.o2 .add (.vi 0) (.ci 1))) (.ci 2))] [] [] []))) (.br (.o2 .eqi (.vi 2) (.ci 2)) (.leaf [] (.ret 0 (.mk [(.o2 .add (.o2 .mul (.vi 1) (.o2 .add (.vi 0) (.ci 1))) (.ci 6))] [] [] []))) (.br (.o2 .eqi (.vi 2) (.ci 4)) (.leaf [] (.ret 0 (.mk [(.o2 .add (.o2 .add (.o2 .mul (.vi 1) (.o2 .add (.vi 0) (.ci 1))) (.o2 .add (.vi 3) (.ci 2))) (.ci 2))] [] [] []))) (.leaf [] (.ret 0 (.mk [(.o2 .add (.o2 .mul (.vi 1) (.o2 .add (.vi 0) (.ci 1))) (.ci 3))] [] [] []))))))
def ul : Pos → Bool := fun _ => false
theorem segS : seg0F I0 G fn.ntmps bod fn.results.toList 0 tms rps ul 3000 (sargs0 0 fc.args) fc.H fc.kn = trS := by kernel_rfl
theorem mk (u : Val) (hu : u.f = Φ) (hpost : KV u fc.kn → ∀ k σ po, Sel u fc.out (k, σ, po) → KV u po)
    (sS : KV u fc.kn → TOK u (fun _ g => LgFOK u (fun _ _ => False) (fun k u' => ∃ σ po, Sel u fc.out (k, σ, po) ∧ u' = σ.val u) g) trS) : FC.Ok P0 u fc :=
  FC.mkOk hI0 hfn hbod (by decide) (by decide) (rps := rps) rfl hpost fun hk =>
    floydF hI0 (Inv := fun _ _ => False) (hG u hu) (fun k v h => h.elim) hM0 (n0 := 0) (nb := 3000) (tms := tms) (ul := ul) (kn0 := fc.kn) rfl (lt2 fun _ => (0, 0)) (lt2_wf _) (fun k p tm h => by simp [tms] at h) hk (by rw [segS]; exact sS hk) (fun k p tm h => by simp [tms] at h)
end Go.Proofs.Ytckbckijpdnlaaa.FPMost
