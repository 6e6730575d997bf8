/- The second engine, part 14: going round. A lemma file: it claims nothing of the program. -/
import Derived.Test.YtckbckijpdnlaaaOwnS13
set_option linter.unusedVariables false
set_option linter.unusedSimpArgs false
namespace Go.Proofs.Ytckbckijpdnlaaa.Sy
open Go Go.Lib Go.Proofs.Ytckbckijpdnlaaa.Eng Go.RowKit

theorem mod_lt {a N : Int} (h0 : 0 ≤ a) (h : a < N) : a % N = a := Int.emod_eq_of_lt h0 h
theorem mod_ge {a N : Int} (h0 : N ≤ a) (h : a < N + N) : a % N = a - N := ((Int.ediv_emod_unique (a := a) (b := N) (q := 1) (r := a - N) (by omega)).2 ⟨by omega, by omega, by omega⟩).2
theorem mod_in {a N : Int} (h : 0 < N) : 0 ≤ a % N ∧ a % N < N := ⟨Int.emod_nonneg _ (by omega), Int.emod_lt_of_pos _ h⟩
/-- Two places of one round are not the same. -/
theorem mod_inj {st i j N : Int} (h1 : 0 ≤ st) (h2 : st < N) (h3 : 0 ≤ i) (h4 : i < N) (h5 : 0 ≤ j) (h6 : j < N) (h : (st + i) % N = (st + j) % N) : i = j := by
  rcases (by omega : st + i < N ∨ N ≤ st + i) with a | a <;> rcases (by omega : st + j < N ∨ N ≤ st + j) with b | b
  · rw [mod_lt (by omega) a, mod_lt (by omega) b] at h; omega
  · rw [mod_lt (by omega) a, mod_ge b (by omega)] at h; omega
  · rw [mod_ge a (by omega), mod_lt (by omega) b] at h; omega
  · rw [mod_ge a (by omega), mod_ge b (by omega)] at h; omega
/-- Each place is met in a round. -/
theorem mod_sur {st s N : Int} (h1 : 0 ≤ st) (h2 : st < N) (h3 : 0 ≤ s) (h4 : s < N) : ∃ q, 0 ≤ q ∧ q < N ∧ (st + q) % N = s := by
  rcases (by omega : st ≤ s ∨ s < st) with a | a
  · exact ⟨s - st, by omega, by omega, by rw [mod_lt (by omega) (by omega)]; omega⟩
  · exact ⟨s - st + N, by omega, by omega, by rw [mod_ge (by omega) (by omega)]; omega⟩
theorem cl_copy {r r' : List (List Int)} {i j : Int} (h0 : 0 ≤ i) (h1 : 0 ≤ j) (h : cl r j = cl r' j) : cl (r.set i.toNat [cl r' i]) j = cl r' j := by
  rw [cl_set]
  split
  · rename_i hh; have : i = j := by omega
    rw [this]
  · exact h
theorem prod4 {T S : Int} (h1 : 1 ≤ T) (h2 : T ≤ 4) (h3 : 1 ≤ S) (h4 : S ≤ 4) : 1 ≤ T * S ∧ T * S ≤ 16 := by
  rcases (by omega : T = 1 ∨ T = 2 ∨ T = 3 ∨ T = 4) with rfl | rfl | rfl | rfl <;> omega
end Go.Proofs.Ytckbckijpdnlaaa.Sy
