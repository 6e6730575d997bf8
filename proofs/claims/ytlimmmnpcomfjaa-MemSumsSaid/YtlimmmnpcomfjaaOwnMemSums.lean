/- The law MemSums of mem: numbers put to one cell are their sum: it answers true for every list. No condition. -/
import Derived.Test.YtlimmmnpcomfjaaOwnHead03
import Derived.WalkKit
import Derived.KernelRfl
import Derived.BigQuiet
import Derived.WideLaws
import Derived.Deep.LoopGhost
import Derived.Deep.DeepCutAuto
import Derived.Laws.BitsLemmas
set_option linter.unusedVariables false
set_option linter.unusedSimpArgs false
namespace Go.Proofs.Ytlimmmnpcomfjaa.Law03
open Go.RowKit Go.Proofs.YtlimmmnpcomfjaaW.PrintWords Go.Proofs.YtlimmmnpcomfjaaW.PrintLast Go.Proofs.YtlimmmnpcomfjaaW.PrintMore Go.Proofs.Ytlimmmnpcomfjaa.Sep Go.Proofs.Ytlimmmnpcomfjaa.Mem
attribute [local go_sem] max2_int min2_int max_two min_two max_three min_three max_four min_four

theorem wu (a : Int) : IntKind.u64.wrap a = a % 18446744073709551616 := by
  simp [IntKind.wrap, IntKind.bits, IntKind.signed]
theorem w64 {a : Int} (h0 : -9223372036854775808 ≤ a) (h1 : a ≤ 9223372036854775807) : wrap64 a = a := by
  unfold wrap64
  omega
theorem getWf {l : List Int} {k : IntKind} (g : ∀ x ∈ l, (Lit.int k x).wf = true) {i : Int} (h0 : 0 ≤ i) (h1 : i < (l.length : Int)) : (Lit.int k (rd l i)).wf = true := by
  unfold rd
  rw [List.getD_eq_getElem?_getD, List.getElem?_eq_getElem (by omega : i.toNat < l.length)]
  exact g _ (List.getElem_mem _)
theorem succ_toNat {i : Int} (h : 0 ≤ i) : (i + 1).toNat = i.toNat + 1 := by omega

def psum (l : List Int) : Nat → Int
  | 0 => 0
  | n + 1 => IntKind.u64.wrap (psum l n + rd l (n : Int))
set_option maxHeartbeats 4000000 in
set_option maxRecDepth 100000 in
theorem MemSums_walk (A0 : Option Addr) (c0 : Nat) (l0 : List Int) (w : World) (hr0 : Kd.C (Kd.int .u64) w A0 l0.length l0) (hc0 : l0.length ≤ c0) (g0 : ∀ x ∈ l0, (Lit.int .u64 x).wf = true) :
    Calls Try.prog 3 #[.slice A0 l0.length c0] w fun e w' => e = .returned (.bool true) ∧ Below w.heap.size w w' := by
  clear g0
  have HR0 := Aside0.mk hr0
  clear hr0
  have HS := Aside0.mk (Holds.start w)
  by_cases hl : (l0.length : Int) > 100
  · have hl0 : decide (100 < (l0.length : Int)) = true := decide_eq_true hl
    clear hl
    go_enter Try.func3, Try.ntmps3
    go_wp2_with (first | ((with_reducible refine gate_callee (f := 18) rfl ?_); (try (refine gate_guard (by rfl) ?_; dsimp only)); refine goesL_ (some 7) rfl rfl Try.func18 (by kernel_rfl) rfl #[] rfl (by (try simp only [List.map_toArray, List.map_cons, List.map_nil]); first | done | rfl) ?_; (with_reducible refine (head_calls (w0 := w) (F := []) ?s0).mono ?_); (case s0 => (with_reducible repeat (first | apply Holds.alloc | apply Holds.drewN | apply Holds.drew)); exact HS.out); rintro e w1 ⟨rfl, hX⟩; refine ⟨_, rfl, ?_⟩; clear HS; have HS := Aside0.mk hX; clear hX))
    go_ret
    exact ⟨rfl, (Holds.below (by (with_reducible repeat (first | apply Holds.alloc | apply Holds.drewN | apply Holds.drew)); exact HS.out))⟩
  · have hl0 : decide (100 < (l0.length : Int)) = false := decide_eq_false hl
    have HL := Aside0.mk hl
    clear hl
    go_enter Try.func3, Try.ntmps3
    go_wp2_with (first | ((with_reducible refine gate_callee (f := 18) rfl ?_); (try (refine gate_guard (by rfl) ?_; dsimp only)); refine goesL_ (some 7) rfl rfl Try.func18 (by kernel_rfl) rfl #[] rfl (by (try simp only [List.map_toArray, List.map_cons, List.map_nil]); first | done | rfl) ?_; (with_reducible refine (head_calls (w0 := w) (F := []) ?s0).mono ?_); (case s0 => (with_reducible repeat (first | apply Holds.alloc | apply Holds.drewN | apply Holds.drew)); exact HS.out); rintro e w1 ⟨rfl, hX⟩; refine ⟨_, rfl, ?_⟩; clear HS; have HS := Aside0.mk hX; clear hX) | ((with_reducible refine gate_callee (f := 19) rfl ?_); (try (refine gate_guard (by rfl) ?_; dsimp only)); refine goesL_ (some 12) rfl rfl Try.func19 (by kernel_rfl) rfl #[.int .i64 1] rfl (by (try simp only [List.map_toArray, List.map_cons, List.map_nil]); first | done | rfl) ?_; (with_reducible refine (New_to (w0 := w) (F := []) 1 1 (by decide) ?s0).mono ?_); (case s0 => (with_reducible repeat (first | apply Holds.alloc | apply Holds.drewN | apply Holds.drew)); exact HS.out); rintro e w2 ⟨g, rfl, hX⟩; refine ⟨_, rfl, ?_⟩; clear HS; have HS := Aside0.mk hX; clear hX))
    go_loopg [4, 15] l0.length (fun kq v4 v15 w' => ∃ (i : Int) (lg : List Ev), v15 = .int .i64 i ∧ v4 = .int .u64 (psum l0 i.toNat) ∧ Aside0 (0 ≤ i ∧ i ≤ (l0.length : Int) ∧ (l0.length : Int) - i = kq ∧ (lg.length : Int) = i) ∧ Aside0 (Holds w w' [MemO w.heap.size g [psum l0 i.toNat] lg]))
    case atStart => exact ⟨0, [], rfl, rfl, ⟨by simp⟩, HS⟩
    case round =>
      clear HS
      obtain ⟨i, lg, rfl, rfl, HI, HS⟩ := hrel
      by_cases hi : i < (l0.length : Int)
      · have hb : decide (i < (l0.length : Int)) = true := decide_eq_true hi
        have p0 : 0 ≤ i := HI.out.1
        obtain ⟨ad, e, hx⟩ := Kd.at_int (HS.out.old HR0.out) i p0 hi
        cases e
        replace p0 := eq_true p0
        replace hi := eq_true hi
        go_wp2_with (first | ((with_reducible refine gate_callee (f := 20) rfl ?_); (try (refine gate_guard (by rfl) ?_; dsimp only)); refine goesL_ (some 23) rfl rfl Try.func20 (by kernel_rfl) rfl #[.pointer (some ⟨g, 0, none⟩), .int .i64 i, .int .i64 0, .int .u64 (rd l0 i)] rfl (by (try simp only [List.map_toArray, List.map_cons, List.map_nil]); first | done | rfl) ?_; (with_reducible refine (Add_to (w0 := w) (F := []) (cs := [psum l0 i.toNat]) (lg := lg) i 0 (rd l0 i) ([IntKind.u64.wrap (psum l0 i.toNat + rd l0 i)]) (lg ++ [⟨i, 3, 0, psum l0 i.toNat, IntKind.u64.wrap (psum l0 i.toNat + rd l0 i), true⟩]) (psum l0 i.toNat) ?ln ?p0 ?p1 ?p2 ?s0).mono ?_); (case s0 => (with_reducible repeat (first | apply Holds.alloc | apply Holds.drewN | apply Holds.drew)); exact HS.out); (case ln => exact ⟨by have := HI.out; have := HL.out; omega⟩); (case p0 => rfl); (case p1 => rfl); (case p2 => rfl); rintro e w3 ⟨rfl, hX⟩; refine ⟨_, rfl, ?_⟩; clear HS; have HS := Aside0.mk hX; clear hX))
        go_roundg (gk - 1)
        case measure => have := HI.out; have := of_eq_true hi; omega
        case rel =>
          have hi' := of_eq_true hi
          have HI' := HI.out
          have HL' := HL.out
          exact ⟨i + 1, lg ++ [⟨i, 3, 0, psum l0 i.toNat, IntKind.u64.wrap (psum l0 i.toNat + rd l0 i), true⟩], by rw [w64 (by omega) (by omega)], by rw [succ_toNat HI'.1]; simp only [psum]; rw [Int.toNat_of_nonneg HI'.1], ⟨by rw [List.length_append]; simp; omega⟩, ⟨by rw [succ_toNat HI'.1]; simp only [psum]; rw [Int.toNat_of_nonneg HI'.1]; exact by (with_reducible repeat (first | apply Holds.alloc | apply Holds.drewN | apply Holds.drew)); exact HS.out⟩⟩
      · have hb : decide (i < (l0.length : Int)) = false := decide_eq_false hi
        have hn : i = (l0.length : Int) := by have := HI.out; omega
        have HN := Aside0.mk (show (lg.length : Int) = (l0.length : Int) by have := HI.out; omega)
        clear hn hi
        have hq : ((lg.length : Int) == (l0.length : Int)) = true := beq_iff_eq.2 HN.out
        go_wp2_with (first | ((with_reducible refine gate_callee (f := 21) rfl ?_); (try (refine gate_guard (by rfl) ?_; dsimp only)); refine goesL_ (some 31) rfl rfl Try.func21 (by kernel_rfl) rfl #[.pointer (some ⟨g, 0, none⟩), .int .i64 0] rfl (by (try simp only [List.map_toArray, List.map_cons, List.map_nil]); first | done | rfl) ?_; (with_reducible refine (Peek_to (w0 := w) (F := []) (cs := [psum l0 i.toNat]) (lg := lg) 0 (psum l0 i.toNat) ?p0 ?s0).mono ?_); (case s0 => (with_reducible repeat (first | apply Holds.alloc | apply Holds.drewN | apply Holds.drew)); exact HS.out); (case p0 => rfl); rintro e w4 ⟨rfl, hX⟩; refine ⟨_, rfl, ?_⟩; clear HS; have HS := Aside0.mk hX; clear hX) | ((with_reducible refine gate_callee (f := 22) rfl ?_); (try (refine gate_guard (by rfl) ?_; dsimp only)); refine goesL_ (some 36) rfl rfl Try.func22 (by kernel_rfl) rfl #[.pointer (some ⟨g, 0, none⟩)] rfl (by (try simp only [List.map_toArray, List.map_cons, List.map_nil]); first | done | rfl) ?_; (with_reducible refine (Count_calls (w0 := w) (F := []) (cs := [psum l0 i.toNat]) (lg := lg) ?s0).mono ?_); (case s0 => (with_reducible repeat (first | apply Holds.alloc | apply Holds.drewN | apply Holds.drew)); exact HS.out); rintro e w5 ⟨rfl, hX⟩; refine ⟨_, rfl, ?_⟩; clear HS; have HS := Aside0.mk hX; clear hX))
        go_ret
        exact ⟨rfl, (Holds.below (by (with_reducible repeat (first | apply Holds.alloc | apply Holds.drewN | apply Holds.drew)); exact HS.out))⟩

end Go.Proofs.Ytlimmmnpcomfjaa.Law03
