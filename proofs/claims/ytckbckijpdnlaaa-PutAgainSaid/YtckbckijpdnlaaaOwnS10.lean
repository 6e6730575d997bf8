/- The second engine, part 10: calls that are known to answer true. A lemma file: it claims nothing of the program. -/
import Derived.Test.YtckbckijpdnlaaaOwnS9
set_option linter.unusedVariables false
set_option linter.unusedSimpArgs false
namespace Go.Proofs.Ytckbckijpdnlaaa.Sy
open Go Go.Lib Go.Proofs.Ytckbckijpdnlaaa.Eng Go.RowKit

section
variable {P : Program} {v : Val} {m0 : Mp} {H0 : AHeap} {w0 : World} {H : AHeap} {m : Mp} {w w' : World}
theorem Run.below (h : Run m0 H0 w0 H m w) (hb : Below w.heap.size w w') : Run m0 H0 w0 H m w' where
  mt := ⟨fun id i hi => by obtain ⟨b, hb', hr⟩ := h.mt.has id i hi; exact ⟨b, hb', hr.frame (fun _ hl => hb.block _ hl)⟩, h.mt.inj⟩
  ext := h.ext
  dom := h.dom
  len := h.len
  old := h.old
  new := h.new
  os := hb.os.trans h.os
  tape := hb.tape.trans h.tape
  output := hb.output.trans h.output
  size := Nat.le_trans h.size hb.size
  keep := fun k hk hn => by rw [hb.block k (Nat.lt_of_lt_of_le hk h.size)]; exact h.keep k hk hn
/-- A call that is handed nothing, and answers true. -/
def sTrue : List SV → SH → SRes := fun args H => match args with
  | [] => .pure (.one (.bool (.cb true)), H, [])
  | _ => .fail 500
def oneX (f : FuncId) (s : List SV → SH → SRes) (X : FuncId → Option (List SV → SH → SRes)) : FuncId → Option (List SV → SH → SRes) := fun g => if g = f then some s else X g
theorem oneX_ok {f : FuncId} {s : List SV → SH → SRes} {X : FuncId → Option (List SV → SH → SRes)} (h : GOk P v fun g args H => if g = f then s args H else .fail 330) (hX : XOk P v X) : XOk P v (oneX f s X) := by
  intro g t hg
  unfold oneX at hg
  split at hg
  · rename_i e; subst e; cases hg; exact h
  · exact hX g t hg
theorem sTrue_ok {f : FuncId} {fn : Func} (hf : P.funcs[f]? = some fn) (hn : fn.name ≠ "runtime.NumGoroutine") (hb : fn.body.isSome = true) (hc : ∀ w, Calls P f #[] w fun e w' => e = .returned (.bool true) ∧ Below w.heap.size w w') :
    GOk P v fun g args H => if g = f then sTrue args H else .fail 330 := by
  refine ⟨fun g args H kn hk ht => ?_⟩
  by_cases hg : g = f
  · subst hg
    simp only [if_true] at ht ⊢
    cases args with
    | cons a as => exact ht.elim
    | nil =>
      refine ⟨⟨fn, hf, hn, hb⟩, fun m0 H0 w0 m w args' hR hL => ?_⟩
      obtain rfl := LRel.nil_inv hL
      refine (hc w).mono ?_
      rintro e w' ⟨rfl, hbw⟩
      exact ⟨kn, _, H, [], m, .bool true, ⟨rfl, rfl⟩, hk, rfl, Run.below hR hbw, Mp.le_refl _, .bool _, ⟨hbw.size, fun k hk _ => hbw.block k hk⟩⟩
  · simp only [if_neg hg] at ht; exact ht.elim
end
end Go.Proofs.Ytckbckijpdnlaaa.Sy
