/- The law MemBacks of mem: what was noted, done again: it answers true for every n, acts. No condition. -/
import Derived.Test.YtlimmmnpcomfjaaOwnHead03
import Derived.Test.YtlimmmnpcomfjaaOwnAct03
import Derived.Test.YtlimmmnpcomfjaaOwnLem03
import Derived.Test.YtlimmmnpcomfjaaOwnSame03
import Derived.Test.YtlimmmnpcomfjaaOwnMemBack
import Derived.Test.YtlimmmnpcomfjaaOwnSep2
import Derived.WalkKit
import Derived.KernelRfl
import Derived.BigQuiet
import Derived.WideLaws
import Derived.Deep.LoopGhost
import Derived.Deep.DeepCutAuto
import Derived.Deep.QuietTactic
import Derived.Laws.BitsLemmas
set_option linter.unusedVariables false
set_option linter.unusedSimpArgs false
namespace Go.Proofs.Ytlimmmnpcomfjaa.Law03
open Go.RowKit Go.Proofs.YtlimmmnpcomfjaaW.PrintWords Go.Proofs.YtlimmmnpcomfjaaW.PrintLast Go.Proofs.YtlimmmnpcomfjaaW.PrintMore Go.Proofs.Ytlimmmnpcomfjaa.Sep Go.Proofs.Ytlimmmnpcomfjaa.Mem
attribute [local go_sem] max2_int min2_int max_two min_two max_three min_three max_four min_four

set_option maxHeartbeats 4000000 in
set_option maxRecDepth 100000 in
theorem MemBacks_walk (a0 : Int) (A1 : Option Addr) (c1 : Nat) (l1 : List ActR) (w : World) (wa0 : (Lit.int .i64 a0).wf = true) (hr1 : Kd.C kAct w A1 l1.length l1) (hc1 : l1.length ≤ c1) (g1 : ∀ x ∈ l1, (Lit.int .i64 x.who).wf = true ∧ (Lit.int .i64 x.op).wf = true ∧ (Lit.int .i64 x.cell).wf = true ∧ (Lit.int .u64 x.old).wf = true ∧ (Lit.int .u64 x.x).wf = true) :
    Calls Try.prog 17 #[.int .i64 a0, .slice A1 l1.length c1] w fun e w' => e = .returned (.bool true) ∧ Below w.heap.size w w' := by
  clear g1 wa0
  have HR1 := Aside0.mk hr1
  clear hr1
  have HS := Aside0.mk (Holds.start w)
  by_cases hl : (l1.length : Int) > 60
  · have hl0 : decide (60 < (l1.length : Int)) = true := decide_eq_true hl
    clear hl
    go_enter Try.func17, Try.ntmps17
    go_wp2_with (first | ((with_reducible refine gate_callee (f := 18) rfl ?_); (try (refine gate_guard (by rfl) ?_; dsimp only)); (refine goesL_ (some 11) rfl rfl Try.func18 (by kernel_rfl) rfl #[] rfl (by (try simp only [List.map_toArray, List.map_cons, List.map_nil]); first | done | rfl) ?_); (with_reducible refine (head_calls (w0 := w) (F := []) ?s0).mono ?_); (case s0 => (with_reducible repeat (first | apply Holds.alloc | apply Holds.drewN | apply Holds.drew)); exact HS.out); rintro e w1 ⟨rfl, hX⟩; refine ⟨_, rfl, ?_⟩; clear HS; have HS := Aside0.mk hX; clear hX))
    go_ret
    exact ⟨rfl, (Holds.below (by (with_reducible repeat (first | apply Holds.alloc | apply Holds.drewN | apply Holds.drew)); exact HS.out))⟩
  · have hl0 : decide (60 < (l1.length : Int)) = false := decide_eq_false hl
    have HL := Aside0.mk hl
    clear hl
    have hb : Go.bits .and .i64 a0 15 = a0 % 16 := and_i64 4 (by decide) a0
    obtain ⟨N, eN⟩ : ∃ N, Go.bits .and .i64 a0 15 = N := ⟨_, rfl⟩
    have hN : 0 ≤ N ∧ N ≤ 15 := by rw [← eN, hb]; omega
    obtain ⟨C0, hC0⟩ : ∃ C0, List.replicate (mx 0 (mn N 65536)).toNat (0 : Int) = C0 := ⟨_, rfl⟩
    have hCl : (C0.length : Int) = N := by rw [← hC0, List.length_replicate]; unfold mx mn; split <;> split <;> omega
    have HN := Aside0.mk hN
    have NC := Aside0.mk hC0
    have HCL := Aside0.mk hCl
    clear hN hb hC0 hCl
    go_enter Try.func17, Try.ntmps17
    go_wp2_with (first | ((with_reducible refine gate_callee (f := 18) rfl ?_); (try (refine gate_guard (by rfl) ?_; dsimp only)); (refine goesL_ (some 11) rfl rfl Try.func18 (by kernel_rfl) rfl #[] rfl (by (try simp only [List.map_toArray, List.map_cons, List.map_nil]); first | done | rfl) ?_); (with_reducible refine (head_calls (w0 := w) (F := []) ?s0).mono ?_); (case s0 => (with_reducible repeat (first | apply Holds.alloc | apply Holds.drewN | apply Holds.drew)); exact HS.out); rintro e w1 ⟨rfl, hX⟩; refine ⟨_, rfl, ?_⟩; clear HS; have HS := Aside0.mk hX; clear hX) | ((with_reducible refine gate_callee (f := 19) rfl ?_); (try (refine gate_guard (by rfl) ?_; dsimp only)); (refine goesL_ (some 19) rfl rfl Try.func19 (by kernel_rfl) rfl #[.int .i64 N] rfl (by (try simp only [List.map_toArray, List.map_cons, List.map_nil, eN]); first | done | rfl) ?_); (with_reducible refine (New_as (w0 := w) (F := []) N C0 ?p0 ?s0).mono ?_); (case s0 => (with_reducible repeat (first | apply Holds.alloc | apply Holds.drewN | apply Holds.drew)); exact HS.out); (case p0 => exact NC.out); rintro e w2 ⟨gm, rfl, hX⟩; refine ⟨_, rfl, ?_⟩; clear HS; have HS := Aside0.mk hX; clear hX))
    go_loopg [22] l1.length (fun kq v22 w' => ∃ (i : Int) (M : List Int) (lg : List Ev), v22 = .int .i64 i ∧ Aside0 (0 ≤ i ∧ i ≤ (l1.length : Int) ∧ (l1.length : Int) - i = kq ∧ (lg.length : Int) ≤ i ∧ runE C0 lg = some M ∧ (∀ e ∈ lg, e.op = 3 → IntKind.u64.wrap e.new = e.new) ∧ (M.length : Int) = N) ∧ Aside0 (Holds w w' [MemO w.heap.size gm M lg]))
    case atStart => exact ⟨0, C0, [], rfl, ⟨⟨Int.le_refl _, by omega, by omega, by simp, rfl, by simp, HCL.out⟩⟩, HS⟩
    case round =>
      clear HS
      obtain ⟨i, M, lg, rfl, HI, HS⟩ := hrel
      by_cases hi : i < (l1.length : Int)
      · have hb : decide (i < (l1.length : Int)) = true := decide_eq_true hi
        have p0 : 0 ≤ i := HI.out.1
        obtain ⟨ad, e, hx0, hx1, hx2, hx3, hx4⟩ := at_Act (HS.out.old HR1.out) i p0 hi
        cases e
        generalize rdA l1 i = a at hx0 hx1 hx2 hx3 hx4
        obtain ⟨who, op, c, old, x⟩ := a
        dsimp only at hx0 hx1 hx2 hx3 hx4
        replace p0 := eq_true p0
        replace hi := eq_true hi
        go_wp2_with (first | ((with_reducible refine gate_dst (N := 7) rfl ?_); refine box_event ?hg (N := 7) ?hd (cs := #[.int .i64 0, .int .i64 0, .int .i64 0, .int .u64 0, .int .u64 0]) (t := 39) ?hr ?_; (case hd => rfl); (case hg => rfl); (case hr => first | (go_simp; done) | (go_simp; rfl)); intro gb hg w3 hbox hb; have n0_ := Aside0.mk (Holds.box (T := 39) HS.out hb hbox hg); clear hbox hb hg; clear HS; have HS := n0_; clear n0_; have hcb0 : w3.cell? ⟨gb, 0, none⟩ = some (.int .i64 0) := (HS.out.cell 0).trans rfl; have hfb0 := HS.out.frozen 0; have hcb1 : w3.cell? ⟨gb, 1, none⟩ = some (.int .i64 0) := (HS.out.cell 1).trans rfl; have hfb1 := HS.out.frozen 1; have hcb2 : w3.cell? ⟨gb, 2, none⟩ = some (.int .i64 0) := (HS.out.cell 2).trans rfl; have hfb2 := HS.out.frozen 2; have hcb3 : w3.cell? ⟨gb, 3, none⟩ = some (.int .u64 0) := (HS.out.cell 3).trans rfl; have hfb3 := HS.out.frozen 3; have hcb4 : w3.cell? ⟨gb, 4, none⟩ = some (.int .u64 0) := (HS.out.cell 4).trans rfl; have hfb4 := HS.out.frozen 4) | ((with_reducible refine gate_callee (f := 26) rfl ?_); (try (refine gate_guard (by rfl) ?_; dsimp only)); (refine goesL_ (some 28) rfl rfl Try.func26 (by kernel_rfl) rfl #[.agg #[.int .i64 who, .int .i64 op, .int .i64 c, .int .u64 old, .int .u64 x], .pointer (some ⟨gm, 0, none⟩)] rfl (by (try simp only [List.map_toArray, List.map_cons, List.map_nil]); first | done | rfl) ?_); (with_reducible refine (Do_calls (w0 := w) (F := [Pt gb 39 #[.int .i64 who, .int .i64 op, .int .i64 c, .int .u64 old, .int .u64 x]]) (cs := M) (lg := lg) who op c old x ?ln ?s0).mono ?_); (case s0 => (with_reducible repeat (first | apply Holds.alloc | apply Holds.drewN | apply Holds.drew)); exact (((((HS.out.set 0 (.int .i64 who) rfl).set 1 (.int .i64 op) rfl).set 2 (.int .i64 c) rfl).set 3 (.int .u64 old) rfl).set 4 (.int .u64 x) rfl).mv1); (case ln => exact ⟨by have := HI.out; have := HL.out; omega⟩); rintro e w5 ⟨rfl, hX⟩; refine ⟨_, rfl, ?_⟩; clear HS; have HS := Aside0.mk hX; clear hX))
        go_roundg (gk - 1)
        case measure => have := HI.out; have := of_eq_true hi; omega
        case rel =>
          have hi' := of_eq_true hi
          have HI' := HI.out
          have HL' := HL.out
          have l2 := len_log_le M lg who (op % 4) c old x
          have hrun := run_touch HI'.2.2.2.2.1 HI'.2.2.2.2.2.1 who (op % 4) c old x (by omega) (by omega)
          exact ⟨i + 1, _, _, by rw [w64 (by omega) (by omega)], ⟨⟨by omega, by omega, by omega, by omega, hrun.1, hrun.2, by rw [len_cells]; exact HI'.2.2.2.2.2.2⟩⟩, ⟨HS.out.mv1.drop⟩⟩
      · have hb : decide (i < (l1.length : Int)) = false := decide_eq_false hi
        have HV := Aside0.mk HI.out.2.2.2.2
        have HLG : Aside0 (lg.length ≤ 1000000) := ⟨by have := HI.out; have := HL.out; omega⟩
        have HLH : Aside0 (lg.length ≤ 1000) := ⟨by have := HI.out; have := HL.out; omega⟩
        have LN : Aside0 ((M.length : Int) = N) := ⟨HI.out.2.2.2.2.2.2⟩
        clear hi HI
        go_wp2_with (first | ((with_reducible refine gate_callee (f := 36) rfl ?_); (try (refine gate_guard (by rfl) ?_; dsimp only)); (refine goesL_ (some 33) rfl rfl Try.func36 (by kernel_rfl) rfl #[.pointer (some ⟨gm, 0, none⟩)] rfl (by (try simp only [List.map_toArray, List.map_cons, List.map_nil]); first | done | rfl) ?_); (with_reducible refine (Log_calls (w0 := w) (F := []) (cs := M) (lg := lg) ?ln ?s0).mono ?_); (case s0 => exact HS.out); (case ln => exact HLG); rintro e w6 ⟨v1, rfl, hX⟩; refine ⟨_, rfl, ?_⟩; clear HS; have HS := Aside0.mk hX; clear hX; obtain ⟨B1, d1, hv1_, hd1_, hC1_⟩ := HS.out.row_slice; subst hv1_; have HC1 := Aside0.mk hC1_; clear hC1_ hd1_) | ((with_reducible refine gate_callee (f := 37) rfl ?_); (try (refine gate_guard (by rfl) ?_; dsimp only)); (refine goesL_ (some 34) rfl rfl Try.func37 (by kernel_rfl) rfl #[.int .i64 N, .slice B1 lg.length d1] rfl (by (try simp only [List.map_toArray, List.map_cons, List.map_nil, eN]); first | done | rfl) ?_); (with_reducible refine (Back_ok (w0 := w) (F := [Row kEv 58 w.heap.size (.slice B1 lg.length d1) lg, MemO w.heap.size gm M lg]) N C0 M ?p0 ?p1 ?p2 ?p3 ?p4 ?s0).mono ?_); (case s0 => exact HS.out); (case p0 => exact NC.out); (case p1 => exact HV.out.1); (case p2 => exact HC1.out); (case p3 => exact HLH); (case p4 => exact HV.out.2.1); rintro e w7 ⟨gq, rfl, hX⟩; refine ⟨_, rfl, ?_⟩; clear HS; have HS := Aside0.mk hX; clear hX) | ((with_reducible refine gate_callee (f := 24) rfl ?_); (try (refine gate_guard (by rfl) ?_; dsimp only)); (refine goesL_ (some 41) rfl rfl Try.func24 (by kernel_rfl) rfl #[.pointer (some ⟨gq, 0, none⟩)] rfl (by (try simp only [List.map_toArray, List.map_cons, List.map_nil]); first | done | rfl) ?_); (with_reducible refine (Len_to (w0 := w) (F := [Row kEv 58 w.heap.size (.slice B1 lg.length d1) lg, MemO w.heap.size gm M lg]) (cs := M) (lg := lg) N ?p0 ?s0).mono ?_); (case s0 => (with_reducible repeat (first | apply Holds.alloc | apply Holds.drewN | apply Holds.drew)); exact HS.out); (case p0 => exact LN.out); rintro e w8 ⟨rfl, hX⟩; refine ⟨_, rfl, ?_⟩; clear HS; have HS := Aside0.mk hX; clear hX) | ((with_reducible refine gate_callee (f := 36) rfl ?_); (try (refine gate_guard (by rfl) ?_; dsimp only)); (refine goesL_ (some 47) rfl rfl Try.func36 (by kernel_rfl) rfl #[.pointer (some ⟨gq, 0, none⟩)] rfl (by (try simp only [List.map_toArray, List.map_cons, List.map_nil]); first | done | rfl) ?_); (with_reducible refine (Log_calls (w0 := w) (F := [Row kEv 58 w.heap.size (.slice B1 lg.length d1) lg, MemO w.heap.size gm M lg]) (cs := M) (lg := lg) ?ln ?s0).mono ?_); (case s0 => exact HS.out); (case ln => exact HLG); rintro e w9 ⟨v2, rfl, hX⟩; refine ⟨_, rfl, ?_⟩; clear HS; have HS := Aside0.mk hX; clear hX; obtain ⟨B2, d2, hv1_, hd1_, hC1_⟩ := HS.out.row_slice; subst hv1_; have HC2 := Aside0.mk hC1_; clear hC1_ hd1_) | ((with_reducible refine gate_callee (f := 36) rfl ?_); (try (refine gate_guard (by rfl) ?_; dsimp only)); (refine goesL_ (some 49) rfl rfl Try.func36 (by kernel_rfl) rfl #[.pointer (some ⟨gm, 0, none⟩)] rfl (by (try simp only [List.map_toArray, List.map_cons, List.map_nil]); first | done | rfl) ?_); (with_reducible refine (Log_calls (w0 := w) (F := [Row kEv 58 w.heap.size (.slice B2 lg.length d2) lg, MemO w.heap.size gq M lg, Row kEv 58 w.heap.size (.slice B1 lg.length d1) lg]) (cs := M) (lg := lg) ?ln ?s0).mono ?_); (case s0 => exact HS.out.mv3); (case ln => exact HLG); rintro e w10 ⟨v3, rfl, hX⟩; refine ⟨_, rfl, ?_⟩; clear HS; have HS := Aside0.mk hX; clear hX; obtain ⟨B3, d3, hv1_, hd1_, hC1_⟩ := HS.out.row_slice; subst hv1_; have HC3 := Aside0.mk hC1_; clear hC1_ hd1_) | ((with_reducible refine gate_callee (f := 35) rfl ?_); (try (refine gate_guard (by rfl) ?_; dsimp only)); (refine goesL_ (some 50) rfl rfl Try.func35 (by kernel_rfl) rfl #[.slice B2 lg.length d2, .slice B3 lg.length d3] rfl (by (try simp only [List.map_toArray, List.map_cons, List.map_nil]); first | done | rfl) ?_); (with_reducible refine (same_calls (w0 := w) (F := [Row kEv 58 w.heap.size (.slice B3 lg.length d3) lg, MemO w.heap.size gm M lg, Row kEv 58 w.heap.size (.slice B2 lg.length d2) lg, MemO w.heap.size gq M lg, Row kEv 58 w.heap.size (.slice B1 lg.length d1) lg]) (xs := lg) ?h0 ?h1 ?ln ?s0).mono ?_); (case s0 => exact HS.out); (case h0 => exact HS.out.mv2.row_C); (case h1 => exact HC3.out); (case ln => exact HLG); rintro e w11 ⟨rfl, hX⟩; refine ⟨_, rfl, ?_⟩; clear HS; have HS := Aside0.mk hX; clear hX))
        clear hb
        go_loopg [10] N.toNat (fun kq v10 w' => ∃ (j : Int), v10 = .int .i64 j ∧ Aside0 (0 ≤ j ∧ j ≤ N ∧ N - j = kq) ∧ Aside0 (Holds w w' [MemO w.heap.size gm M lg, MemO w.heap.size gq M lg]))
        case atStart => exact ⟨0, rfl, ⟨by have := HN.out; omega⟩, ⟨HS.out.drop.mv1.drop.mv2.drop⟩⟩
        case round =>
          clear HS
          obtain ⟨j, rfl, HJ, HS⟩ := hrel
          by_cases hj : j < N
          · have hb : decide (j < N) = true := decide_eq_true hj
            have HJ2 := Aside0.mk hj
            clear hj
            go_wp2_with (first | ((with_reducible refine gate_callee (f := 21) rfl ?_); (try (refine gate_guard (by rfl) ?_; dsimp only)); (refine goesL_ (some 60) rfl rfl Try.func21 (by kernel_rfl) rfl #[.pointer (some ⟨gq, 0, none⟩), .int .i64 j] rfl (by (try simp only [List.map_toArray, List.map_cons, List.map_nil]); first | done | rfl) ?_); (with_reducible refine (Peek_calls (w0 := w) (F := [MemO w.heap.size gm M lg]) (cs := M) (lg := lg) j ?s0).mono ?_); (case s0 => (with_reducible repeat (first | apply Holds.alloc | apply Holds.drewN | apply Holds.drew)); exact HS.out.mv1); rintro e w12 ⟨rfl, hX⟩; refine ⟨_, rfl, ?_⟩; clear HS; have HS := Aside0.mk hX; clear hX) | ((with_reducible refine gate_callee (f := 21) rfl ?_); (try (refine gate_guard (by rfl) ?_; dsimp only)); (refine goesL_ (some 63) rfl rfl Try.func21 (by kernel_rfl) rfl #[.pointer (some ⟨gm, 0, none⟩), .int .i64 j] rfl (by (try simp only [List.map_toArray, List.map_cons, List.map_nil]); first | done | rfl) ?_); (with_reducible refine (Peek_calls (w0 := w) (F := [MemO w.heap.size gq M lg]) (cs := M) (lg := lg) j ?s0).mono ?_); (case s0 => (with_reducible repeat (first | apply Holds.alloc | apply Holds.drewN | apply Holds.drew)); exact HS.out.mv1); rintro e w13 ⟨rfl, hX⟩; refine ⟨_, rfl, ?_⟩; clear HS; have HS := Aside0.mk hX; clear hX))
            go_roundg (gk - 1)
            case measure => have := HJ.out; have := HJ2.out; omega
            case rel => have := HJ.out; have := HJ2.out; have := HN.out; exact ⟨j + 1, by rw [w64 (by omega) (by omega)], ⟨by omega⟩, ⟨by (with_reducible repeat (first | apply Holds.alloc | apply Holds.drewN | apply Holds.drew)); exact HS.out⟩⟩
          · have hb : decide (j < N) = false := decide_eq_false hj
            clear hj
            go_wp2
            go_ret
            exact ⟨rfl, (Holds.below (by (with_reducible repeat (first | apply Holds.alloc | apply Holds.drewN | apply Holds.drew)); exact HS.out))⟩

end Go.Proofs.Ytlimmmnpcomfjaa.Law03
