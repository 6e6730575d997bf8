/- The document's example of stackyardlaw05 holds. A lemma file: it claims nothing of the program but that. -/
import Derived.Test.YtckbckijpdnlaaaOwnSB
import Derived.Test.YtckbckijpdnlaaaProg
import Derived.KernelRfl
set_option linter.unusedVariables false
set_option maxRecDepth 100000
namespace Go.Proofs.Ytckbckijpdnlaaa.Hd05
open Go Go.Lib Go.Proofs.Ytckbckijpdnlaaa.Eng Go.Proofs.Ytckbckijpdnlaaa.Sy Go.RowKit
noncomputable abbrev P0 : Program := Go.Proofs.Try.prog
noncomputable abbrev I0 : Tab := tinfoT P0
theorem hI0 : TOk P0 I0 := tinfoT_ok P0
theorem hM0 : P0.follows .mixedOrders = true := by kernel_rfl
noncomputable def G : SSums := scall I0 (funsT P0) noX (wrOf [(3, []), (4, []), (6, []), (8, []), (9, []), (10, []), (11, [5]), (13, []), (14, [5, 6]), (19, []), (20, []), (21, []), (22, []), (23, []), (24, []), (27, []), (31, []), (33, []), (42, []), (44, []), (46, []), (47, []), (51, []), (53, []), (60, []), (61, []), (63, []), (66, []), (68, []), (73, []), (74, []), (87, [1])]) 3000 40
theorem hG (v : Val) : GOk P0 v G := scall_ok hI0 hM0 (fun f fn h => h) (noX_ok P0 v) 3000 40
noncomputable abbrev fn : Func := Go.Proofs.Try.f52
noncomputable def bod : Code := fn.body.getD .skip
theorem hfn : P0.funcs[(52 : Nat)]? = some fn := by kernel_rfl
theorem hbod : fn.body = some bod := by kernel_rfl
theorem run : isT (seg0 I0 G fn.ntmps bod fn.results.toList ([] : SH).length [] (fun _ => true) 3000 (sargs0 0 []) [] []) = true := by kernel_rfl
theorem holds (w : World) : Calls P0 (52 : Nat) #[] w fun e w' => e = .returned (.bool true) ∧ Below w.heap.size w w' :=
  law_calls (v := V0 [] [] [] []) (l := []) (args := []) (args' := []) hI0 hfn hbod (Nat.zero_le _) rfl (by simp) (.nil _) (whole (H0 := []) hI0 (hG _) hM0 KV.nil run)
def X : FuncId → Option (List SV → SH → SRes) := oneX (52 : Nat) sTrue noX
theorem hX (v : Val) : XOk P0 v X := oneX_ok (sTrue_ok hfn (by decide) (by rw [hbod]; rfl) holds) (noX_ok P0 v)
end Go.Proofs.Ytckbckijpdnlaaa.Hd05
