/- stackyardlaw03.same of two rows of the same events: true. A lemma file. -/
import Derived.Test.YtlimmmnpcomfjaaOwnMemLog
import Derived.WalkKit
import Derived.KernelRfl
import Derived.BigQuiet
import Derived.WideLaws
import Derived.Deep.LoopGhost
import Derived.Deep.DeepCutAuto
import Derived.Deep.QuietTactic
import Derived.Laws.BitsLemmas
import Derived.Deep.DeepMust
set_option linter.unusedVariables false
set_option linter.unusedSimpArgs false
namespace Go.Proofs.Ytlimmmnpcomfjaa.Law03
open Go.RowKit Go.Proofs.YtlimmmnpcomfjaaW.PrintWords Go.Proofs.YtlimmmnpcomfjaaW.PrintLast Go.Proofs.YtlimmmnpcomfjaaW.PrintMore Go.Proofs.Ytlimmmnpcomfjaa.Sep Go.Proofs.Ytlimmmnpcomfjaa.Mem
attribute [local go_sem] max2_int min2_int max_two min_two max_three min_three max_four min_four

theorem wu (a : Int) : IntKind.u64.wrap a = a % 18446744073709551616 := by
  simp [IntKind.wrap, IntKind.bits, IntKind.signed]
theorem w64 {a : Int} (h0 : -9223372036854775808 ≤ a) (h1 : a ≤ 9223372036854775807) : wrap64 a = a := by
  unfold wrap64
  omega
theorem getWf {l : List Int} {k : IntKind} (g : ∀ x ∈ l, (Lit.int k x).wf = true) {i : Int} (h0 : 0 ≤ i) (h1 : i < (l.length : Int)) : (Lit.int k (rd l i)).wf = true := by
  unfold rd
  rw [List.getD_eq_getElem?_getD, List.getElem?_eq_getElem (by omega : i.toNat < l.length)]
  exact g _ (List.getElem_mem _)
theorem succ_toNat {i : Int} (h : 0 ≤ i) : (i + 1).toNat = i.toNat + 1 := by omega

attribute [local go_sem high] eqEv
theorem ev_self (e : Ev) : (e.who == e.who && (e.op == e.op && (e.cell == e.cell && (e.old == e.old && (e.new == e.new && (e.ok == e.ok)))))) = true := by simp
set_option maxHeartbeats 4000000 in
set_option maxRecDepth 100000 in
theorem same_calls {w0 w : World} {F : List HObj} {A B : Option Addr} {c d : Nat} {xs : List Ev} (hr0 : Kd.C kEv w A xs.length xs) (hr1 : Kd.C kEv w B xs.length xs) (hlen : Aside0 (xs.length ≤ 1000000)) (h : Holds w0 w F) :
    Calls Try.prog 35 #[.slice A xs.length c, .slice B xs.length d] w fun e w' => e = .returned (.bool true) ∧ Holds w0 w' F := by
  have HR0 := Aside0.mk hr0
  have HR1 := Aside0.mk hr1
  clear hr0 hr1
  have HS := Aside0.mk (Holds.start w)
  have HQ := Aside0.mk h
  clear h
  go_enter Try.func35, Try.ntmps35
  go_wp2
  go_loopg [13] xs.length (fun kq v13 w' => ∃ (i : Int), v13 = .int .i64 i ∧ Aside0 (0 ≤ i ∧ i ≤ (xs.length : Int) ∧ (xs.length : Int) - i = kq) ∧ Aside0 (Holds w w' []))
  case atStart => exact ⟨0, rfl, ⟨by simp⟩, ⟨by (with_reducible repeat (first | apply Holds.alloc | apply Holds.drewN | apply Holds.drew)); exact HS.out⟩⟩
  case round =>
    clear HS
    obtain ⟨i, rfl, HI, HS⟩ := hrel
    by_cases hi : i < (xs.length : Int)
    · have hb : decide (i < (xs.length : Int)) = true := decide_eq_true hi
      have p0 : 0 ≤ i := HI.out.1
      obtain ⟨ad, e, hx0, hx1, hx2, hx3, hx4, hx5⟩ := at_Ev (HS.out.old HR0.out) i p0 hi
      cases e
      obtain ⟨ae, e, hy0, hy1, hy2, hy3, hy4, hy5⟩ := at_Ev (HS.out.old HR1.out) i p0 hi
      cases e
      generalize rdEv xs i = a at hx0 hx1 hx2 hx3 hx4 hx5 hy0 hy1 hy2 hy3 hy4 hy5
      have hq := ev_self a
      replace p0 := eq_true p0
      replace hi := eq_true hi
      go_wp2
      repeat (go_quiet (fail); try go_wp2)
      go_roundg (gk - 1)
      case measure => have := HI.out; have := of_eq_true hi; omega
      case rel =>
        have hi' := of_eq_true hi
        have HI' := HI.out
        have hl' := hlen.out
        exact ⟨i + 1, by rw [w64 (by omega) (by omega)], ⟨by omega⟩, ⟨by (with_reducible repeat (first | apply Holds.alloc | apply Holds.drewN | apply Holds.drew)); exact HS.out⟩⟩
    · have hb : decide (i < (xs.length : Int)) = false := decide_eq_false hi
      clear hi
      go_wp2
      go_ret
      exact ⟨rfl, HQ.out.move (Holds.below (by (with_reducible repeat (first | apply Holds.alloc | apply Holds.drewN | apply Holds.drew)); exact HS.out))⟩

end Go.Proofs.Ytlimmmnpcomfjaa.Law03
