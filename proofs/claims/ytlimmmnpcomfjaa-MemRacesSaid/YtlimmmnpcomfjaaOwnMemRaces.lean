/- The law MemRaces of mem: of many who swap one number for others the first alone has it: it answers true for every list and number. No condition. -/
import Derived.Test.YtlimmmnpcomfjaaOwnHead03
import Derived.WalkKit
import Derived.KernelRfl
import Derived.BigQuiet
import Derived.WideLaws
import Derived.Deep.LoopGhost
import Derived.Deep.DeepCutAuto
import Derived.Laws.BitsLemmas
set_option linter.unusedVariables false
set_option linter.unusedSimpArgs false
namespace Go.Proofs.Ytlimmmnpcomfjaa.Law03
open Go.RowKit Go.Proofs.YtlimmmnpcomfjaaW.PrintWords Go.Proofs.YtlimmmnpcomfjaaW.PrintLast Go.Proofs.YtlimmmnpcomfjaaW.PrintMore Go.Proofs.Ytlimmmnpcomfjaa.Sep Go.Proofs.Ytlimmmnpcomfjaa.Mem
attribute [local go_sem] max2_int min2_int max_two min_two max_three min_three max_four min_four

theorem wu (a : Int) : IntKind.u64.wrap a = a % 18446744073709551616 := by
  simp [IntKind.wrap, IntKind.bits, IntKind.signed]
theorem w64 {a : Int} (h0 : -9223372036854775808 ≤ a) (h1 : a ≤ 9223372036854775807) : wrap64 a = a := by
  unfold wrap64
  omega
theorem getWf {l : List Int} {k : IntKind} (g : ∀ x ∈ l, (Lit.int k x).wf = true) {i : Int} (h0 : 0 ≤ i) (h1 : i < (l.length : Int)) : (Lit.int k (rd l i)).wf = true := by
  unfold rd
  rw [List.getD_eq_getElem?_getD, List.getElem?_eq_getElem (by omega : i.toNat < l.length)]
  exact g _ (List.getElem_mem _)
theorem succ_toNat {i : Int} (h : 0 ≤ i) : (i + 1).toNat = i.toNat + 1 := by omega

set_option maxHeartbeats 4000000 in
set_option maxRecDepth 100000 in
theorem MemRaces_walk (A0 : Option Addr) (c0 : Nat) (l0 : List Int) (a1 : Int) (w : World) (hr0 : Kd.C (Kd.int .u64) w A0 l0.length l0) (hc0 : l0.length ≤ c0) (g0 : ∀ x ∈ l0, (Lit.int .u64 x).wf = true) (wa1 : (Lit.int .u64 a1).wf = true) :
    Calls Try.prog 5 #[.slice A0 l0.length c0, .int .u64 a1] w fun e w' => e = .returned (.bool true) ∧ Below w.heap.size w w' := by
  clear g0 wa1
  have HR0 := Aside0.mk hr0
  clear hr0
  have HS := Aside0.mk (Holds.start w)
  by_cases hl : (l0.length : Int) > 60
  · have hl0 : decide (60 < (l0.length : Int)) = true := decide_eq_true hl
    clear hl
    go_enter Try.func5, Try.ntmps5
    go_wp2_with (first | ((with_reducible refine gate_callee (f := 18) rfl ?_); (try (refine gate_guard (by rfl) ?_; dsimp only)); refine goesL_ (some 11) rfl rfl Try.func18 (by kernel_rfl) rfl #[] rfl (by (try simp only [List.map_toArray, List.map_cons, List.map_nil]); first | done | rfl) ?_; (with_reducible refine (head_calls (w0 := w) (F := []) ?s0).mono ?_); (case s0 => (with_reducible repeat (first | apply Holds.alloc | apply Holds.drewN | apply Holds.drew)); exact HS.out); rintro e w1 ⟨rfl, hX⟩; refine ⟨_, rfl, ?_⟩; clear HS; have HS := Aside0.mk hX; clear hX))
    go_ret
    exact ⟨rfl, (Holds.below (by (with_reducible repeat (first | apply Holds.alloc | apply Holds.drewN | apply Holds.drew)); exact HS.out))⟩
  · have hl0 : decide (60 < (l0.length : Int)) = false := decide_eq_false hl
    have HL := Aside0.mk hl
    clear hl
    go_enter Try.func5, Try.ntmps5
    go_wp2_with (first | ((with_reducible refine gate_callee (f := 18) rfl ?_); (try (refine gate_guard (by rfl) ?_; dsimp only)); refine goesL_ (some 11) rfl rfl Try.func18 (by kernel_rfl) rfl #[] rfl (by (try simp only [List.map_toArray, List.map_cons, List.map_nil]); first | done | rfl) ?_; (with_reducible refine (head_calls (w0 := w) (F := []) ?s0).mono ?_); (case s0 => (with_reducible repeat (first | apply Holds.alloc | apply Holds.drewN | apply Holds.drew)); exact HS.out); rintro e w1 ⟨rfl, hX⟩; refine ⟨_, rfl, ?_⟩; clear HS; have HS := Aside0.mk hX; clear hX) | ((with_reducible refine gate_callee (f := 19) rfl ?_); (try (refine gate_guard (by rfl) ?_; dsimp only)); refine goesL_ (some 16) rfl rfl Try.func19 (by kernel_rfl) rfl #[.int .i64 1] rfl (by (try simp only [List.map_toArray, List.map_cons, List.map_nil]); first | done | rfl) ?_; (with_reducible refine (New_to (w0 := w) (F := []) 1 1 (by decide) ?s0).mono ?_); (case s0 => (with_reducible repeat (first | apply Holds.alloc | apply Holds.drewN | apply Holds.drew)); exact HS.out); rintro e w2 ⟨g, rfl, hX⟩; refine ⟨_, rfl, ?_⟩; clear HS; have HS := Aside0.mk hX; clear hX) | ((with_reducible refine gate_callee (f := 23) rfl ?_); (try (refine gate_guard (by rfl) ?_; dsimp only)); refine goesL_ (some 19) rfl rfl Try.func23 (by kernel_rfl) rfl #[.pointer (some ⟨g, 0, none⟩), .int .i64 (-1), .int .i64 0, .int .u64 a1] rfl (by (try simp only [List.map_toArray, List.map_cons, List.map_nil]); first | done | rfl) ?_; (with_reducible refine (Store_to (w0 := w) (F := []) (cs := [0]) (lg := []) (-1) 0 a1 ([a1]) ([⟨-1, 1, 0, 0, a1, true⟩]) ?ln ?p0 ?p1 ?s0).mono ?_); (case s0 => (with_reducible repeat (first | apply Holds.alloc | apply Holds.drewN | apply Holds.drew)); exact HS.out); (case ln => exact ⟨by simp⟩); (case p0 => rfl); (case p1 => rfl); rintro e w2a ⟨rfl, hX⟩; refine ⟨_, rfl, ?_⟩; clear HS; have HS := Aside0.mk hX; clear hX))
    go_loopg [6, 7, 22] l0.length (fun kq v6 v7 v22 w' => ∃ (i won v : Int) (first : Bool) (lg : List Ev), v22 = .int .i64 i ∧ v6 = .int .i64 won ∧ v7 = .bool first ∧ Aside0 (0 ≤ i ∧ i ≤ (l0.length : Int) ∧ (l0.length : Int) - i = kq ∧ (lg.length : Int) ≤ i + 1 ∧ (first = true → won = 0 ∧ v = a1) ∧ (first = false → won = 1 ∧ v ≠ a1)) ∧ Aside0 (Holds w w' [MemO w.heap.size g [v] lg]))
    case atStart => exact ⟨0, 0, a1, true, _, rfl, rfl, rfl, ⟨by simp⟩, HS⟩
    case round =>
      clear HS
      obtain ⟨i, won, v, first, lg, rfl, rfl, rfl, HI, HS⟩ := hrel
      by_cases hi : i < (l0.length : Int)
      · have hb : decide (i < (l0.length : Int)) = true := decide_eq_true hi
        have p0 : 0 ≤ i := HI.out.1
        obtain ⟨ad, e, hx⟩ := Kd.at_int (HS.out.old HR0.out) i p0 hi
        cases e
        replace p0 := eq_true p0
        replace hi := eq_true hi
        by_cases hxo : rd l0 i = a1
        · have t0 : (rd l0 i == a1) = true := beq_iff_eq.2 hxo
          clear hxo
          go_wp2
          go_roundg (gk - 1)
          case measure => have := HI.out; have := of_eq_true hi; omega
          case rel =>
            have hi' := of_eq_true hi
            have HI' := HI.out
            have HL' := HL.out
            exact ⟨i + 1, won, v, first, lg, by rw [w64 (by omega) (by omega)], rfl, rfl, ⟨by omega, by omega, by omega, by omega, HI'.2.2.2.2⟩, ⟨by (with_reducible repeat (first | apply Holds.alloc | apply Holds.drewN | apply Holds.drew)); exact HS.out⟩⟩
        · have t0 : (rd l0 i == a1) = false := beq_eq_false_iff_ne.2 hxo
          have X0 := Aside0.mk hxo
          clear hxo
          cases first with
          | true =>
            obtain ⟨rfl, rfl⟩ := HI.out.2.2.2.2.1 rfl
            have Z1 : Aside0 (cellsT [v] 2 0 v (rd l0 i) = [rd l0 i]) := ⟨by show [nxt 2 v v (rd l0 i)] = _; unfold nxt; simp⟩
            have Z2 : Aside0 (logT [v] lg i 2 0 v (rd l0 i) = lg ++ [⟨i, 2, 0, v, rd l0 i, true⟩]) := ⟨by show lg ++ [(⟨i, 2, 0, v, nxt 2 v v (rd l0 i), okk 2 v v⟩ : Ev)] = _; unfold nxt okk; simp⟩
            have Z3 : Aside0 (okT [v] 2 0 v = true) := ⟨by show okk 2 v v = true; unfold okk; simp⟩
            go_wp2_with (first | ((with_reducible refine gate_callee (f := 25) rfl ?_); (try (refine gate_guard (by rfl) ?_; dsimp only)); refine goesL_ (some 34) rfl rfl Try.func25 (by kernel_rfl) rfl #[.pointer (some ⟨g, 0, none⟩), .int .i64 i, .int .i64 0, .int .u64 v, .int .u64 (rd l0 i)] rfl (by (try simp only [List.map_toArray, List.map_cons, List.map_nil]); first | done | rfl) ?_; (with_reducible refine (Swap_to (w0 := w) (F := []) (cs := [v]) (lg := lg) i 0 v (rd l0 i) ([rd l0 i]) (lg ++ [⟨i, 2, 0, v, rd l0 i, true⟩]) (true) ?ln ?p0 ?p1 ?p2 ?s0).mono ?_); (case s0 => (with_reducible repeat (first | apply Holds.alloc | apply Holds.drewN | apply Holds.drew)); exact HS.out); (case ln => exact ⟨by have := HI.out; have := HL.out; omega⟩); (case p0 => exact Z1.out); (case p1 => exact Z2.out); (case p2 => exact Z3.out); rintro e w3 ⟨rfl, hX⟩; refine ⟨_, rfl, ?_⟩; clear HS; have HS := Aside0.mk hX; clear hX))
            go_roundg (gk - 1)
            case measure => have := HI.out; have := of_eq_true hi; omega
            case rel =>
              have hi' := of_eq_true hi
              have HI' := HI.out
              have HL' := HL.out
              exact ⟨i + 1, 1, rd l0 i, false, lg ++ [⟨i, 2, 0, v, rd l0 i, true⟩], by rw [w64 (by omega) (by omega)], rfl, rfl, ⟨by omega, by omega, by omega, by rw [List.length_append]; simp; omega, fun h => (by cases h), fun _ => ⟨rfl, X0.out⟩⟩, ⟨by (with_reducible repeat (first | apply Holds.alloc | apply Holds.drewN | apply Holds.drew)); exact HS.out⟩⟩
          | false =>
            obtain ⟨rfl, hne⟩ := HI.out.2.2.2.2.2 rfl
            have N0 := Aside0.mk hne
            have Z1 : Aside0 (cellsT [v] 2 0 a1 (rd l0 i) = [v]) := ⟨by show [nxt 2 v a1 (rd l0 i)] = _; unfold nxt; simp [hne]⟩
            have Z2 : Aside0 (logT [v] lg i 2 0 a1 (rd l0 i) = lg ++ [⟨i, 2, 0, v, v, false⟩]) := ⟨by show lg ++ [(⟨i, 2, 0, v, nxt 2 v a1 (rd l0 i), okk 2 v a1⟩ : Ev)] = _; unfold nxt okk; simp [hne]⟩
            have Z3 : Aside0 (okT [v] 2 0 a1 = false) := ⟨by show okk 2 v a1 = false; unfold okk; simp [hne]⟩
            clear hne
            go_wp2_with (first | ((with_reducible refine gate_callee (f := 25) rfl ?_); (try (refine gate_guard (by rfl) ?_; dsimp only)); refine goesL_ (some 34) rfl rfl Try.func25 (by kernel_rfl) rfl #[.pointer (some ⟨g, 0, none⟩), .int .i64 i, .int .i64 0, .int .u64 a1, .int .u64 (rd l0 i)] rfl (by (try simp only [List.map_toArray, List.map_cons, List.map_nil]); first | done | rfl) ?_; (with_reducible refine (Swap_to (w0 := w) (F := []) (cs := [v]) (lg := lg) i 0 a1 (rd l0 i) ([v]) (lg ++ [⟨i, 2, 0, v, v, false⟩]) (false) ?ln ?p0 ?p1 ?p2 ?s0).mono ?_); (case s0 => (with_reducible repeat (first | apply Holds.alloc | apply Holds.drewN | apply Holds.drew)); exact HS.out); (case ln => exact ⟨by have := HI.out; have := HL.out; omega⟩); (case p0 => exact Z1.out); (case p1 => exact Z2.out); (case p2 => exact Z3.out); rintro e w3 ⟨rfl, hX⟩; refine ⟨_, rfl, ?_⟩; clear HS; have HS := Aside0.mk hX; clear hX))
            go_roundg (gk - 1)
            case measure => have := HI.out; have := of_eq_true hi; omega
            case rel =>
              have hi' := of_eq_true hi
              have HI' := HI.out
              have HL' := HL.out
              exact ⟨i + 1, 1, v, false, lg ++ [⟨i, 2, 0, v, v, false⟩], by rw [w64 (by omega) (by omega)], rfl, rfl, ⟨by omega, by omega, by omega, by rw [List.length_append]; simp; omega, fun h => (by cases h), fun _ => ⟨rfl, N0.out⟩⟩, ⟨by (with_reducible repeat (first | apply Holds.alloc | apply Holds.drewN | apply Holds.drew)); exact HS.out⟩⟩
      · have hb : decide (i < (l0.length : Int)) = false := decide_eq_false hi
        clear hi
        cases first with
        | true =>
          obtain ⟨rfl, rfl⟩ := HI.out.2.2.2.2.1 rfl
          go_wp2_with (first | ((with_reducible refine gate_callee (f := 21) rfl ?_); (try (refine gate_guard (by rfl) ?_; dsimp only)); refine goesL_ (some 49) rfl rfl Try.func21 (by kernel_rfl) rfl #[.pointer (some ⟨g, 0, none⟩), .int .i64 0] rfl (by (try simp only [List.map_toArray, List.map_cons, List.map_nil]); first | done | rfl) ?_; (with_reducible refine (Peek_to (w0 := w) (F := []) (cs := [v]) (lg := lg) 0 (v) ?p0 ?s0).mono ?_); (case s0 => (with_reducible repeat (first | apply Holds.alloc | apply Holds.drewN | apply Holds.drew)); exact HS.out); (case p0 => rfl); rintro e w4 ⟨rfl, hX⟩; refine ⟨_, rfl, ?_⟩; clear HS; have HS := Aside0.mk hX; clear hX))
          go_ret
          exact ⟨rfl, (Holds.below (by (with_reducible repeat (first | apply Holds.alloc | apply Holds.drewN | apply Holds.drew)); exact HS.out))⟩
        | false =>
          obtain ⟨rfl, hne⟩ := HI.out.2.2.2.2.2 rfl
          clear hne
          go_wp2
          go_ret
          exact ⟨rfl, (Holds.below (by (with_reducible repeat (first | apply Holds.alloc | apply Holds.drewN | apply Holds.drew)); exact HS.out))⟩

end Go.Proofs.Ytlimmmnpcomfjaa.Law03
