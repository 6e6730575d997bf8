/- Objects apart: a call's own objects beside those of the caller; lower bounds let down. A lemma file. -/
import Derived.Test.YtlimmmnpcomfjaaOwnSep
set_option linter.unusedVariables false
namespace Go.Proofs.Ytlimmmnpcomfjaa.Sep
open Go.RowKit Go.Proofs.YtlimmmnpcomfjaaW.PrintWords Go.Proofs.YtlimmmnpcomfjaaW.PrintLast Go.Proofs.YtlimmmnpcomfjaaW.PrintMore
section
variable {w0 w w' : World} {F G : List HObj} {a b : HObj}
/-- What a call made of its own, beside what was there. -/
theorem Holds.merge (h : Holds w0 w F) (hg : Holds w w' G) : Holds w0 w' (G ++ F) := by
  obtain ⟨S, hS, hl⟩ := h.sep
  obtain ⟨S', hS', hl'⟩ := hg.sep
  have hz := h.below.size
  refine ⟨below_then h.below h.below.size hg.below, fun k => S' k ∨ S k, fun k hk => ?_, SepL.app (fun k => Iff.rfl) (fun k ha hb => ?_) hl' (hl.loc fun k hk => hg.below.block k (hl.low k hk))⟩
  · rcases hk with hk | hk
    · have := hS' k hk; omega
    · exact hS k hk
  · have := hS' k ha
    have := hl.low k hb
    omega
theorem Holds.imp (hab : ∀ w S, a.at_ w S → b.at_ w S) (h : Holds w0 w (a :: F)) : Holds w0 w (b :: F) := by
  obtain ⟨S, hS, S1, S2, hU, hd, h1, h2⟩ := h.sep
  exact ⟨h.below, S, hS, S1, S2, hU, hd, hab _ _ h1, h2⟩
theorem row_lower {α : Type} {d : Kd α} {e : TypeId} {b b' : Nat} {v : Value} {xs : List α} (hb : b' ≤ b) (w : World) (S : Nat → Prop) (h : (Row d e b v xs).at_ w S) : (Row d e b' v xs).at_ w S := ⟨Kd.R_lower h.1 hb, h.2⟩
theorem SepL.imp1 {os : List HObj} {w : World} {S : Nat → Prop} (hab : ∀ w S, a.at_ w S → b.at_ w S) (h : SepL (a :: os) w S) : SepL (b :: os) w S := by
  obtain ⟨S1, S2, hS, hd, h1, h2⟩ := h
  exact ⟨S1, S2, hS, hd, hab _ _ h1, h2⟩
/-- A call's end: what it made, and what was there. -/
theorem Calls.framed {P : Program} {f : FuncId} {args : Array Value} {Q : Ending → World → Prop} {R : Ending → World → Prop} (h : Holds w0 w F) (hc : Calls P f args w Q) (hq : ∀ e w', Q e w' → R e w') : Calls P f args w R := hc.mono hq
theorem Holds.row_C {α : Type} {d : Kd α} {e : TypeId} {b n c : Nat} {A : Option Addr} {xs : List α} (h : Holds w0 w (Row d e b (.slice A n c) xs :: F)) : d.C w A xs.length xs := by
  obtain ⟨A', c', hv, _, hC⟩ := h.row_slice
  injection hv with h1 h2 h3
  rw [h1]
  exact hC
end
end Go.Proofs.Ytlimmmnpcomfjaa.Sep
