/- The second engine, part 13: cells of a row of numbers; a slice of numbers handed in. A lemma file: it claims nothing of the program. -/
import Derived.Test.YtckbckijpdnlaaaOwnS11
set_option linter.unusedVariables false
set_option linter.unusedSimpArgs false
namespace Go.Proofs.Ytckbckijpdnlaaa.Sy
open Go Go.Lib Go.Proofs.Ytckbckijpdnlaaa.Eng Go.RowKit

/-- The number that stands in a row of one column. -/
def cl (r : List (List Int)) (j : Int) : Int := nth 0 (r.getD j.toNat []) 0
theorem d_cl {v : Val} {a b : E} : (den v (.o3 .at a b (.ci 0))).i = cl (den v a).r (den v b).i := rfl
theorem cl_rep (n : Nat) (j : Int) : cl (List.replicate n [0]) j = 0 := by
  unfold cl
  rw [List.getD_eq_getElem?_getD, List.getElem?_replicate]
  split <;> rfl
theorem cl_set (r : List (List Int)) (i j x : Int) : cl (r.set i.toNat [x]) j = if i.toNat = j.toNat ∧ i.toNat < r.length then x else cl r j := by
  unfold cl
  rw [List.getD_eq_getElem?_getD, List.getD_eq_getElem?_getD, List.getElem?_set]
  by_cases h : i.toNat = j.toNat
  · rw [if_pos h]
    by_cases h2 : i.toNat < r.length
    · rw [if_pos h2, if_pos ⟨h, h2⟩]; rfl
    · rw [if_neg h2, if_neg (fun hh => h2 hh.2)]
      rw [List.getElem?_eq_none (by omega)]
  · rw [if_neg h, if_neg (fun hh => h hh.1)]
theorem cl_load (r : List (List Int)) (i j : Int) : cl (r.set i.toNat [cl r i]) j = cl r j := by
  rw [cl_set]
  split
  · rename_i h; unfold cl; rw [h.1]
  · rfl
theorem cl_self {r : List (List Int)} {i x : Int} (h0 : 0 ≤ i) (h1 : i < r.length) : cl (r.set i.toNat [x]) i = x := by
  rw [cl_set, if_pos ⟨rfl, by omega⟩]
theorem cl_other {r : List (List Int)} {i j x : Int} (h0 : 0 ≤ i) (h1 : 0 ≤ j) (h : i ≠ j) : cl (r.set i.toNat [x]) j = cl r j := by
  rw [cl_set, if_neg (fun hh => h (by omega))]
theorem cl_or (r : List (List Int)) (i j x : Int) : cl (r.set i.toNat [x]) j = x ∨ cl (r.set i.toNat [x]) j = cl r j := by
  rw [cl_set]
  split
  · exact .inl rfl
  · exact .inr rfl
end Go.Proofs.Ytckbckijpdnlaaa.Sy
