/- The second engine, part 12: a law whose run is told whole, case by case: some numbers are told one by one, as their bounds allow. A lemma file: it claims nothing of the program. -/
import Derived.Test.YtnkgkdhddaongaaOwnS11
set_option linter.unusedVariables false
set_option linter.unusedSimpArgs false
namespace Go.Proofs.Ytnkgkdhddaongaa.Sy
open Go Go.Lib Go.Proofs.Ytnkgkdhddaongaa.Eng Go.RowKit

def upTo (f : Int → List Kn) : Nat → Int → List Kn
  | 0, lo => f lo
  | n + 1, lo => f lo ++ upTo f n (lo + 1)
theorem upTo_mem {f : Int → List Kn} {k : Kn} {z : Int} : ∀ (n : Nat) (lo : Int), lo ≤ z → z ≤ lo + n → k ∈ f z → k ∈ upTo f n lo
  | 0, lo, h1, h2, h => by
    have : z = lo := by omega
    subst this; exact h
  | n + 1, lo, h1, h2, h => by
    by_cases he : z = lo
    · subst he; exact List.mem_append_left _ h
    · exact List.mem_append_right _ (upTo_mem n (lo + 1) (by omega) (by omega) h)
/-- Is it to be told here? -/
def wantS (kn : Kn) : List (E × Int) → Bool
  | [] => true
  | (g, z) :: gs => match knVal kn g with
    | some x => ieq x z && wantS kn gs
    | none => false
/-- All cases of numbers whose bounds are told (some only where another one is so). -/
def split : List (E × List (E × Int)) → Kn → List Kn
  | [], kn => [kn]
  | (e, g) :: es, kn => match wantS kn g, (iv kn e).1, (iv kn e).2 with
    | true, some l, some h => upTo (fun z => split es ((.o2 .eqi e (.ci z), true) :: kn)) (h - l).toNat l
    | _, _, _ => split es kn
theorem split_ok {v : Val} : ∀ (es : List (E × List (E × Int))) {kn : Kn}, KV v kn → ∃ k ∈ split es kn, KV v k
  | [], kn, hk => ⟨kn, List.mem_singleton.2 rfl, hk⟩
  | (e, g) :: es, kn, hk => by
    have hi := iv_ok hk e
    unfold split
    split
    · rename_i l h eg el eh
      obtain ⟨k, hm, hv⟩ := split_ok es (kn := (.o2 .eqi e (.ci (den v e).i), true) :: kn) (.cons (by simp [den, den2, mkB, mkI]) hk)
      exact ⟨k, upTo_mem _ _ (hi.lo el) (by have := hi.lo el; have := hi.hi eh; omega) hm, hv⟩
    · exact split_ok es hk
theorem all_getD {α : Type} {p : α → Prop} {l : List α} {d : α} (h : ∀ i, i < l.length → p (l.getD i d)) : ∀ c ∈ l, p c := by
  intro c hc
  obtain ⟨i, hi, rfl⟩ := List.getElem_of_mem hc
  have := h i hi
  rwa [List.getD_eq_getElem?_getD, List.getElem?_eq_getElem hi, Option.getD_some] at this
/-- A law whose run is told whole in each case. -/
theorem wholes {P : Program} {I : Tab} {G : SSums} (hI : TOk P I) (hG : ∀ v, GOk P v G) (hm : P.follows .mixedOrders = true) {fn : Func} {c : Code} {nb : Nat} {v0 : Val} {T0 : ST} {H0 : SH} {kn0 : Kn} (hk0 : KV v0 kn0) (es : List (E × List (E × Int)))
    (h : ∀ k ∈ split es kn0, isT (seg0 I G fn.ntmps c fn.results.toList H0.length [] (fun _ => true) nb T0 H0 k) = true) :
    AW P fn.ntmps (dH v0 H0) c (dT v0 T0) (dH v0 H0) (Eng.Ends I fn fun u _ => u = .bool true) := by
  obtain ⟨k, hm', hv⟩ := split_ok es hk0
  exact whole hI hG hm hv (h k hm')
end Go.Proofs.Ytnkgkdhddaongaa.Sy
