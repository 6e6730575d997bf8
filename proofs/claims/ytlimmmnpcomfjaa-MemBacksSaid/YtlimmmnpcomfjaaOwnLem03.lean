/- Facts on cells and what was noted: plain lists. A lemma file. -/
import Derived.Test.YtlimmmnpcomfjaaOwnMem
import Derived.WalkKit
import Derived.KernelRfl
import Derived.BigQuiet
import Derived.WideLaws
import Derived.Deep.LoopGhost
import Derived.Deep.DeepCutAuto
import Derived.Laws.BitsLemmas
import Derived.Deep.DeepMust
set_option linter.unusedVariables false
set_option linter.unusedSimpArgs false
namespace Go.Proofs.Ytlimmmnpcomfjaa.Law03
open Go.RowKit Go.Proofs.YtlimmmnpcomfjaaW.PrintWords Go.Proofs.YtlimmmnpcomfjaaW.PrintLast Go.Proofs.YtlimmmnpcomfjaaW.PrintMore Go.Proofs.Ytlimmmnpcomfjaa.Sep Go.Proofs.Ytlimmmnpcomfjaa.Mem
attribute [local go_sem] max2_int min2_int max_two min_two max_three min_three max_four min_four

theorem rd_set_ne {cs : List Int} {c j v : Int} (h : j ≠ c) (hj : 0 ≤ j) (hc : 0 ≤ c) : rd (cs.set c.toNat v) j = rd cs j := by
  unfold rd
  rw [List.getD_eq_getElem?_getD, List.getD_eq_getElem?_getD, List.getElem?_set_ne (by omega)]
theorem rd_set_eq {cs : List Int} {c v : Int} (h0 : 0 ≤ c) (h1 : c < (cs.length : Int)) : rd (cs.set c.toNat v) c = v := by
  unfold rd
  rw [List.getD_eq_getElem?_getD, List.getElem?_set_self (by omega)]
  rfl
theorem len_cells (cs : List Int) (op c old x : Int) : (cellsT cs op c old x).length = cs.length := by
  unfold cellsT
  split
  · rw [List.length_set]
  · rfl
theorem rd_cells_ne {cs : List Int} {op c old x j : Int} (h : j ≠ c) (hj : 0 ≤ j) : rd (cellsT cs op c old x) j = rd cs j := by
  unfold cellsT
  split
  · rename_i hr
    exact rd_set_ne h hj (inR_lt hr).1
  · rfl
theorem rd_cells_eq {cs : List Int} {op c old x : Int} (h0 : 0 ≤ c) (h1 : c < (cs.length : Int)) : rd (cellsT cs op c old x) c = nxt op (rd cs c) old x := by
  unfold cellsT
  rw [if_pos (show inR cs c = true from decide_eq_true ⟨h0, h1⟩)]
  exact rd_set_eq h0 h1
theorem len_log_in {cs : List Int} (lg : List Ev) {who op c old x : Int} (h0 : 0 ≤ c) (h1 : c < (cs.length : Int)) : (logT cs lg who op c old x).length = lg.length + 1 := by
  unfold logT
  rw [if_pos (show inR cs c = true from decide_eq_true ⟨h0, h1⟩), List.length_append]
  rfl
theorem len_log_le (cs : List Int) (lg : List Ev) (who op c old x : Int) : (logT cs lg who op c old x).length ≤ lg.length + 1 ∧ lg.length ≤ (logT cs lg who op c old x).length := by
  unfold logT
  split
  · rw [List.length_append]
    simp
  · omega
theorem peek_in {cs : List Int} {c : Int} (h0 : 0 ≤ c) (h1 : c < (cs.length : Int)) : peek cs c = rd cs c := by
  unfold peek
  rw [if_pos (show inR cs c = true from decide_eq_true ⟨h0, h1⟩)]

end Go.Proofs.Ytlimmmnpcomfjaa.Law03
