/- The law MemApart of mem: what is done to one cell turns no other one: it answers true for every n, acts, cell. No condition. -/
import Derived.Test.YtlimmmnpcomfjaaOwnHead03
import Derived.Test.YtlimmmnpcomfjaaOwnAct03
import Derived.Test.YtlimmmnpcomfjaaOwnLem03
import Derived.WalkKit
import Derived.KernelRfl
import Derived.BigQuiet
import Derived.WideLaws
import Derived.Deep.LoopGhost
import Derived.Deep.DeepCutAuto
import Derived.Laws.BitsLemmas
set_option linter.unusedVariables false
set_option linter.unusedSimpArgs false
namespace Go.Proofs.Ytlimmmnpcomfjaa.Law03
open Go.RowKit Go.Proofs.YtlimmmnpcomfjaaW.PrintWords Go.Proofs.YtlimmmnpcomfjaaW.PrintLast Go.Proofs.YtlimmmnpcomfjaaW.PrintMore Go.Proofs.Ytlimmmnpcomfjaa.Sep Go.Proofs.Ytlimmmnpcomfjaa.Mem
attribute [local go_sem] max2_int min2_int max_two min_two max_three min_three max_four min_four

theorem wu (a : Int) : IntKind.u64.wrap a = a % 18446744073709551616 := by
  simp [IntKind.wrap, IntKind.bits, IntKind.signed]
theorem w64 {a : Int} (h0 : -9223372036854775808 ≤ a) (h1 : a ≤ 9223372036854775807) : wrap64 a = a := by
  unfold wrap64
  omega
theorem getWf {l : List Int} {k : IntKind} (g : ∀ x ∈ l, (Lit.int k x).wf = true) {i : Int} (h0 : 0 ≤ i) (h1 : i < (l.length : Int)) : (Lit.int k (rd l i)).wf = true := by
  unfold rd
  rw [List.getD_eq_getElem?_getD, List.getElem?_eq_getElem (by omega : i.toNat < l.length)]
  exact g _ (List.getElem_mem _)
theorem succ_toNat {i : Int} (h : 0 ≤ i) : (i + 1).toNat = i.toNat + 1 := by omega

def Inv (N C : Int) (M K : List Int) (lm lk : List Ev) : Prop :=
  (M.length : Int) = N ∧ (K.length : Int) = N ∧ rd M C = rd K C ∧ (∀ j : Int, 0 ≤ j → j ≠ C → rd K j = 0) ∧ lk.length ≤ lm.length
theorem inv_both {N C : Int} {M K : List Int} {lm lk : List Ev} (h : Inv N C M K lm lk) (h0 : 0 ≤ C) (h1 : C < N) (who op old x : Int) : Inv N C (cellsT M op C old x) (cellsT K op C old x) (logT M lm who op C old x) (logT K lk who op C old x) := by
  obtain ⟨a, b, d, e, f⟩ := h
  refine ⟨by rw [len_cells]; exact a, by rw [len_cells]; exact b, by rw [rd_cells_eq h0 (by omega), rd_cells_eq h0 (by omega), d], fun j j0 j1 => by rw [rd_cells_ne j1 j0]; exact e j j0 j1, by rw [len_log_in lm h0 (by omega), len_log_in lk h0 (by omega)]; omega⟩
theorem inv_one {N C : Int} {M K : List Int} {lm lk : List Ev} (h : Inv N C M K lm lk) (h0 : 0 ≤ C) {c : Int} (hc : c ≠ C) (who op old x : Int) : Inv N C (cellsT M op c old x) K (logT M lm who op c old x) lk := by
  obtain ⟨a, b, d, e, f⟩ := h
  exact ⟨by rw [len_cells]; exact a, b, by rw [rd_cells_ne (Ne.symm hc) h0]; exact d, e, by have := (len_log_le M lm who op c old x).2; omega⟩
set_option maxHeartbeats 4000000 in
set_option maxRecDepth 100000 in
theorem MemApart_walk (a0 : Int) (A1 : Option Addr) (c1 : Nat) (l1 : List ActR) (a2 : Int) (w : World) (wa0 : (Lit.int .i64 a0).wf = true) (hr1 : Kd.C kAct w A1 l1.length l1) (hc1 : l1.length ≤ c1) (g1 : ∀ x ∈ l1, (Lit.int .i64 x.who).wf = true ∧ (Lit.int .i64 x.op).wf = true ∧ (Lit.int .i64 x.cell).wf = true ∧ (Lit.int .u64 x.old).wf = true ∧ (Lit.int .u64 x.x).wf = true) (wa2 : (Lit.int .i64 a2).wf = true) :
    Calls Try.prog 7 #[.int .i64 a0, .slice A1 l1.length c1, .int .i64 a2] w fun e w' => e = .returned (.bool true) ∧ Below w.heap.size w w' := by
  clear g1 wa0 wa2
  have HR1 := Aside0.mk hr1
  clear hr1
  have HS := Aside0.mk (Holds.start w)
  by_cases hl : (l1.length : Int) > 60
  · have hl0 : decide (60 < (l1.length : Int)) = true := decide_eq_true hl
    clear hl
    go_enter Try.func7, Try.ntmps7
    go_wp2_with (first | ((with_reducible refine gate_callee (f := 18) rfl ?_); (try (refine gate_guard (by rfl) ?_; dsimp only)); (refine goesL_ (some 12) rfl rfl Try.func18 (by kernel_rfl) rfl #[] rfl (by (try simp only [List.map_toArray, List.map_cons, List.map_nil]); first | done | rfl) ?_); (with_reducible refine (head_calls (w0 := w) (F := []) ?s0).mono ?_); (case s0 => (with_reducible repeat (first | apply Holds.alloc | apply Holds.drewN | apply Holds.drew)); exact HS.out); rintro e w1 ⟨rfl, hX⟩; refine ⟨_, rfl, ?_⟩; clear HS; have HS := Aside0.mk hX; clear hX))
    go_ret
    exact ⟨rfl, (Holds.below (by (with_reducible repeat (first | apply Holds.alloc | apply Holds.drewN | apply Holds.drew)); exact HS.out))⟩
  · have hl0 : decide (60 < (l1.length : Int)) = false := decide_eq_false hl
    have HL := Aside0.mk hl
    clear hl
    have hb : Go.bits .and .i64 a0 15 = a0 % 16 := and_i64 4 (by decide) a0
    obtain ⟨N, eN⟩ : ∃ N, wrap64 (1 + Go.bits .and .i64 a0 15) = N := ⟨_, rfl⟩
    have hN : 1 ≤ N ∧ N ≤ 16 := by rw [← eN, hb, w64 (by omega) (by omega)]; omega
    have eU : IntKind.u64.wrap N = N := by rw [wu]; omega
    obtain ⟨C, eC⟩ : ∃ C, wrap64 ((IntKind.u64.wrap a2).tmod N) = C := ⟨_, rfl⟩
    have hC : 0 ≤ C ∧ C < N := by
      have h1 : 0 ≤ IntKind.u64.wrap a2 := by rw [wu]; omega
      have h2 : (IntKind.u64.wrap a2).tmod N = IntKind.u64.wrap a2 % N := Int.tmod_eq_emod_of_nonneg h1
      have h3 := Int.emod_nonneg (IntKind.u64.wrap a2) (show N ≠ 0 by omega)
      have h4 := Int.emod_lt_of_pos (IntKind.u64.wrap a2) (show 0 < N by omega)
      rw [← eC, h2, w64 (by omega) (by omega)]
      omega
    have NC : Aside0 (List.replicate (mx 0 (mn N 65536)).toNat (0 : Int) = List.replicate N.toNat 0) := ⟨by rw [show (mx 0 (mn N 65536)).toNat = N.toNat by unfold mx mn; split <;> split <;> omega]⟩
    have hnz : ¬ N = 0 := by omega
    have HN := Aside0.mk hN
    have HC := Aside0.mk hC
    have I0 : Aside0 (Inv N C (List.replicate N.toNat 0) (List.replicate N.toNat 0) [] []) := ⟨by
      refine ⟨by rw [List.length_replicate]; omega, by rw [List.length_replicate]; omega, rfl, fun j _ _ => ?_, Nat.le_refl _⟩
      unfold rd
      rw [List.getD_eq_getElem?_getD, List.getElem?_replicate]
      split <;> rfl⟩
    clear hN hC hb
    go_enter Try.func7, Try.ntmps7
    go_wp2_with (first | ((with_reducible refine gate_callee (f := 18) rfl ?_); (try (refine gate_guard (by rfl) ?_; dsimp only)); (refine goesL_ (some 12) rfl rfl Try.func18 (by kernel_rfl) rfl #[] rfl (by (try simp only [List.map_toArray, List.map_cons, List.map_nil]); first | done | rfl) ?_); (with_reducible refine (head_calls (w0 := w) (F := []) ?s0).mono ?_); (case s0 => (with_reducible repeat (first | apply Holds.alloc | apply Holds.drewN | apply Holds.drew)); exact HS.out); rintro e w1 ⟨rfl, hX⟩; refine ⟨_, rfl, ?_⟩; clear HS; have HS := Aside0.mk hX; clear hX) | ((with_reducible refine gate_callee (f := 19) rfl ?_); (try (refine gate_guard (by rfl) ?_; dsimp only)); (refine goesL_ (some 27) rfl rfl Try.func19 (by kernel_rfl) rfl #[.int .i64 N] rfl (by (try simp only [List.map_toArray, List.map_cons, List.map_nil, eN, eC]); first | done | rfl) ?_); (with_reducible refine (New_as (w0 := w) (F := []) N (List.replicate N.toNat 0) ?p0 ?s0).mono ?_); (case s0 => (with_reducible repeat (first | apply Holds.alloc | apply Holds.drewN | apply Holds.drew)); exact HS.out); (case p0 => exact NC.out); rintro e w2 ⟨gm, rfl, hX⟩; refine ⟨_, rfl, ?_⟩; clear HS; have HS := Aside0.mk hX; clear hX) | ((with_reducible refine gate_callee (f := 19) rfl ?_); (try (refine gate_guard (by rfl) ?_; dsimp only)); (refine goesL_ (some 29) rfl rfl Try.func19 (by kernel_rfl) rfl #[.int .i64 N] rfl (by (try simp only [List.map_toArray, List.map_cons, List.map_nil, eN, eC]); first | done | rfl) ?_); (with_reducible refine (New_as (w0 := w) (F := [MemO w.heap.size gm (List.replicate N.toNat 0) []]) N (List.replicate N.toNat 0) ?p0 ?s0).mono ?_); (case s0 => (with_reducible repeat (first | apply Holds.alloc | apply Holds.drewN | apply Holds.drew)); exact HS.out); (case p0 => exact NC.out); rintro e w2b ⟨gq, rfl, hX⟩; refine ⟨_, rfl, ?_⟩; clear HS; have HS := Aside0.mk hX; clear hX))
    go_loopg [32] l1.length (fun kq v32 w' => ∃ (i : Int) (M K : List Int) (lm lk : List Ev), v32 = .int .i64 i ∧ Aside0 (0 ≤ i ∧ i ≤ (l1.length : Int) ∧ (l1.length : Int) - i = kq ∧ (lm.length : Int) ≤ i ∧ Inv N C M K lm lk ∧ (lk.length : Int) ≤ i) ∧ Aside0 (Holds w w' [MemO w.heap.size gm M lm, MemO w.heap.size gq K lk]))
    case atStart => exact ⟨0, _, _, [], [], rfl, ⟨⟨Int.le_refl _, by omega, by omega, by simp, I0.out, by simp⟩⟩, ⟨HS.out.mv1⟩⟩
    case round =>
      clear HS
      obtain ⟨i, M, K, lm, lk, rfl, HI, HS⟩ := hrel
      by_cases hi : i < (l1.length : Int)
      · have hb : decide (i < (l1.length : Int)) = true := decide_eq_true hi
        have p0 : 0 ≤ i := HI.out.1
        obtain ⟨ad, e, hx0, hx1, hx2, hx3, hx4⟩ := at_Act (HS.out.old HR1.out) i p0 hi
        cases e
        generalize rdA l1 i = a at hx0 hx1 hx2 hx3 hx4
        obtain ⟨who, op, c, old, x⟩ := a
        dsimp only at hx0 hx1 hx2 hx3 hx4
        replace p0 := eq_true p0
        replace hi := eq_true hi
        by_cases hcC : c = C
        · have t0 : (c == C) = true := beq_iff_eq.2 hcC
          have T0 := Aside0.mk hcC
          clear hcC
          go_wp2_with (first | ((with_reducible refine gate_dst (N := 10) rfl ?_); refine box_event ?hg (N := 10) ?hd (cs := #[.int .i64 0, .int .i64 0, .int .i64 0, .int .u64 0, .int .u64 0]) (t := 39) ?hr ?_; (case hd => rfl); (case hg => rfl); (case hr => first | (go_simp; done) | (go_simp; rfl)); intro gb hg w3 hbox hb; have n0_ := Aside0.mk (Holds.box (T := 39) HS.out hb hbox hg); clear hbox hb hg; clear HS; have HS := n0_; clear n0_; have hcb0 : w3.cell? ⟨gb, 0, none⟩ = some (.int .i64 0) := (HS.out.cell 0).trans rfl; have hfb0 := HS.out.frozen 0; have hcb1 : w3.cell? ⟨gb, 1, none⟩ = some (.int .i64 0) := (HS.out.cell 1).trans rfl; have hfb1 := HS.out.frozen 1; have hcb2 : w3.cell? ⟨gb, 2, none⟩ = some (.int .i64 0) := (HS.out.cell 2).trans rfl; have hfb2 := HS.out.frozen 2; have hcb3 : w3.cell? ⟨gb, 3, none⟩ = some (.int .u64 0) := (HS.out.cell 3).trans rfl; have hfb3 := HS.out.frozen 3; have hcb4 : w3.cell? ⟨gb, 4, none⟩ = some (.int .u64 0) := (HS.out.cell 4).trans rfl; have hfb4 := HS.out.frozen 4) | ((with_reducible refine gate_callee (f := 26) rfl ?_); (try (refine gate_guard (by rfl) ?_; dsimp only)); (refine goesL_ (some 38) rfl rfl Try.func26 (by kernel_rfl) rfl #[.agg #[.int .i64 who, .int .i64 op, .int .i64 c, .int .u64 old, .int .u64 x], .pointer (some ⟨gm, 0, none⟩)] rfl (by (try simp only [List.map_toArray, List.map_cons, List.map_nil]); first | done | rfl) ?_); (with_reducible refine (Do_calls (w0 := w) (F := [Pt gb 39 #[.int .i64 who, .int .i64 op, .int .i64 c, .int .u64 old, .int .u64 x], MemO w.heap.size gq K lk]) (cs := M) (lg := lm) who op c old x ?ln ?s0).mono ?_); (case s0 => (with_reducible repeat (first | apply Holds.alloc | apply Holds.drewN | apply Holds.drew)); exact (((((HS.out.set 0 (.int .i64 who) rfl).set 1 (.int .i64 op) rfl).set 2 (.int .i64 c) rfl).set 3 (.int .u64 old) rfl).set 4 (.int .u64 x) rfl).mv1); (case ln => exact ⟨by have := HI.out; have := HL.out; omega⟩); rintro e w5 ⟨rfl, hX⟩; refine ⟨_, rfl, ?_⟩; clear HS; have HS := Aside0.mk hX; clear hX; have hcq0 : w5.cell? ⟨gb, 0, none⟩ = some (.int .i64 who) := (HS.out.mv1.cell 0).trans rfl; have hcq1 : w5.cell? ⟨gb, 1, none⟩ = some (.int .i64 op) := (HS.out.mv1.cell 1).trans rfl; have hcq2 : w5.cell? ⟨gb, 2, none⟩ = some (.int .i64 c) := (HS.out.mv1.cell 2).trans rfl; have hcq3 : w5.cell? ⟨gb, 3, none⟩ = some (.int .u64 old) := (HS.out.mv1.cell 3).trans rfl; have hcq4 : w5.cell? ⟨gb, 4, none⟩ = some (.int .u64 x) := (HS.out.mv1.cell 4).trans rfl) | ((with_reducible refine gate_callee (f := 26) rfl ?_); (try (refine gate_guard (by rfl) ?_; dsimp only)); (refine goesL_ (some 45) rfl rfl Try.func26 (by kernel_rfl) rfl #[.agg #[.int .i64 who, .int .i64 op, .int .i64 c, .int .u64 old, .int .u64 x], .pointer (some ⟨gq, 0, none⟩)] rfl (by (try simp only [List.map_toArray, List.map_cons, List.map_nil]); first | done | rfl) ?_); (with_reducible refine (Do_calls (w0 := w) (F := [MemO w.heap.size gm (cellsT M (op % 4) c old x) (logT M lm who (op % 4) c old x), Pt gb 39 #[.int .i64 who, .int .i64 op, .int .i64 c, .int .u64 old, .int .u64 x]]) (cs := K) (lg := lk) who op c old x ?ln ?s0).mono ?_); (case s0 => (with_reducible repeat (first | apply Holds.alloc | apply Holds.drewN | apply Holds.drew)); exact HS.out.mv2); (case ln => exact ⟨by have := HI.out; have := HL.out; omega⟩); rintro e w6 ⟨rfl, hX⟩; refine ⟨_, rfl, ?_⟩; clear HS; have HS := Aside0.mk hX; clear hX))
          go_roundg (gk - 1)
          case measure => have := HI.out; have := of_eq_true hi; omega
          case rel =>
            have hi' := of_eq_true hi
            have HI' := HI.out
            have HL' := HL.out
            have hv := inv_both HI'.2.2.2.2.1 HC.out.1 HC.out.2 who (op % 4) old x
            rw [← T0.out] at hv
            have l2 := len_log_le M lm who (op % 4) c old x
            have l3 := len_log_le K lk who (op % 4) c old x
            exact ⟨i + 1, _, _, _, _, by rw [w64 (by omega) (by omega)], ⟨⟨by omega, by omega, by omega, by omega, T0.out ▸ hv, by omega⟩⟩, ⟨HS.out.mv2.drop.mv1⟩⟩
        · have t0 : (c == C) = false := beq_eq_false_iff_ne.2 hcC
          have T0 := Aside0.mk hcC
          clear hcC
          go_wp2_with (first | ((with_reducible refine gate_dst (N := 10) rfl ?_); refine box_event ?hg (N := 10) ?hd (cs := #[.int .i64 0, .int .i64 0, .int .i64 0, .int .u64 0, .int .u64 0]) (t := 39) ?hr ?_; (case hd => rfl); (case hg => rfl); (case hr => first | (go_simp; done) | (go_simp; rfl)); intro gb hg w3 hbox hb; have n0_ := Aside0.mk (Holds.box (T := 39) HS.out hb hbox hg); clear hbox hb hg; clear HS; have HS := n0_; clear n0_; have hcb0 : w3.cell? ⟨gb, 0, none⟩ = some (.int .i64 0) := (HS.out.cell 0).trans rfl; have hfb0 := HS.out.frozen 0; have hcb1 : w3.cell? ⟨gb, 1, none⟩ = some (.int .i64 0) := (HS.out.cell 1).trans rfl; have hfb1 := HS.out.frozen 1; have hcb2 : w3.cell? ⟨gb, 2, none⟩ = some (.int .i64 0) := (HS.out.cell 2).trans rfl; have hfb2 := HS.out.frozen 2; have hcb3 : w3.cell? ⟨gb, 3, none⟩ = some (.int .u64 0) := (HS.out.cell 3).trans rfl; have hfb3 := HS.out.frozen 3; have hcb4 : w3.cell? ⟨gb, 4, none⟩ = some (.int .u64 0) := (HS.out.cell 4).trans rfl; have hfb4 := HS.out.frozen 4) | ((with_reducible refine gate_callee (f := 26) rfl ?_); (try (refine gate_guard (by rfl) ?_; dsimp only)); (refine goesL_ (some 38) rfl rfl Try.func26 (by kernel_rfl) rfl #[.agg #[.int .i64 who, .int .i64 op, .int .i64 c, .int .u64 old, .int .u64 x], .pointer (some ⟨gm, 0, none⟩)] rfl (by (try simp only [List.map_toArray, List.map_cons, List.map_nil]); first | done | rfl) ?_); (with_reducible refine (Do_calls (w0 := w) (F := [Pt gb 39 #[.int .i64 who, .int .i64 op, .int .i64 c, .int .u64 old, .int .u64 x], MemO w.heap.size gq K lk]) (cs := M) (lg := lm) who op c old x ?ln ?s0).mono ?_); (case s0 => (with_reducible repeat (first | apply Holds.alloc | apply Holds.drewN | apply Holds.drew)); exact (((((HS.out.set 0 (.int .i64 who) rfl).set 1 (.int .i64 op) rfl).set 2 (.int .i64 c) rfl).set 3 (.int .u64 old) rfl).set 4 (.int .u64 x) rfl).mv1); (case ln => exact ⟨by have := HI.out; have := HL.out; omega⟩); rintro e w5 ⟨rfl, hX⟩; refine ⟨_, rfl, ?_⟩; clear HS; have HS := Aside0.mk hX; clear hX; have hcq0 : w5.cell? ⟨gb, 0, none⟩ = some (.int .i64 who) := (HS.out.mv1.cell 0).trans rfl; have hcq1 : w5.cell? ⟨gb, 1, none⟩ = some (.int .i64 op) := (HS.out.mv1.cell 1).trans rfl; have hcq2 : w5.cell? ⟨gb, 2, none⟩ = some (.int .i64 c) := (HS.out.mv1.cell 2).trans rfl; have hcq3 : w5.cell? ⟨gb, 3, none⟩ = some (.int .u64 old) := (HS.out.mv1.cell 3).trans rfl; have hcq4 : w5.cell? ⟨gb, 4, none⟩ = some (.int .u64 x) := (HS.out.mv1.cell 4).trans rfl))
          go_roundg (gk - 1)
          case measure => have := HI.out; have := of_eq_true hi; omega
          case rel =>
            have hi' := of_eq_true hi
            have HI' := HI.out
            have HL' := HL.out
            have hv := inv_one HI'.2.2.2.2.1 HC.out.1 T0.out who (op % 4) old x
            have l2 := len_log_le M lm who (op % 4) c old x
            exact ⟨i + 1, _, K, _, lk, by rw [w64 (by omega) (by omega)], ⟨⟨by omega, by omega, by omega, by omega, hv, by omega⟩⟩, ⟨HS.out.mv1.drop⟩⟩
      · have hb : decide (i < (l1.length : Int)) = false := decide_eq_false hi
        have HV := Aside0.mk HI.out.2.2.2.2.1
        clear hi HI
        go_wp2
        clear hb
        go_loopg [11] N.toNat (fun kq v11 w' => ∃ (j : Int), v11 = .int .i64 j ∧ Aside0 (0 ≤ j ∧ j ≤ N ∧ N - j = kq) ∧ Aside0 (Holds w w' [MemO w.heap.size gm M lm, MemO w.heap.size gq K lk]))
        case atStart => exact ⟨0, rfl, ⟨by have := HN.out; omega⟩, HS⟩
        case round =>
          clear HS
          obtain ⟨j, rfl, HJ, HS⟩ := hrel
          by_cases hj : j < N
          · have hb : decide (j < N) = true := decide_eq_true hj
            have HJ2 := Aside0.mk hj
            clear hj
            by_cases hjC : j = C
            · have t0 : (j == C) = true := beq_iff_eq.2 hjC
              have t1 : (j != C) = false := by rw [bne, t0]; rfl
              clear hjC
              go_wp2
              go_roundg (gk - 1)
              case measure => have := HJ.out; have := HJ2.out; omega
              case rel => have := HJ.out; have := HJ2.out; have := HN.out; exact ⟨j + 1, by rw [w64 (by omega) (by omega)], ⟨by omega⟩, ⟨by (with_reducible repeat (first | apply Holds.alloc | apply Holds.drewN | apply Holds.drew)); exact HS.out⟩⟩
            · have t0 : (j == C) = false := beq_eq_false_iff_ne.2 hjC
              have t1 : (j != C) = true := by rw [bne, t0]; rfl
              have PK : Aside0 (peek K j = 0) := ⟨by rw [peek_in HJ.out.1 (by have := HV.out.2.1; have := HJ2.out; omega)]; exact HV.out.2.2.2.1 j HJ.out.1 hjC⟩
              clear hjC
              go_wp2_with (first | ((with_reducible refine gate_callee (f := 21) rfl ?_); (try (refine gate_guard (by rfl) ?_; dsimp only)); (refine goesL_ (some 58) rfl rfl Try.func21 (by kernel_rfl) rfl #[.pointer (some ⟨gq, 0, none⟩), .int .i64 j] rfl (by (try simp only [List.map_toArray, List.map_cons, List.map_nil]); first | done | rfl) ?_); (with_reducible refine (Peek_to (w0 := w) (F := [MemO w.heap.size gm M lm]) (cs := K) (lg := lk) j 0 ?p0 ?s0).mono ?_); (case s0 => (with_reducible repeat (first | apply Holds.alloc | apply Holds.drewN | apply Holds.drew)); exact HS.out.mv1); (case p0 => exact PK.out); rintro e w7 ⟨rfl, hX⟩; refine ⟨_, rfl, ?_⟩; clear HS; have HS := Aside0.mk hX; clear hX))
              go_roundg (gk - 1)
              case measure => have := HJ.out; have := HJ2.out; omega
              case rel => have := HJ.out; have := HJ2.out; have := HN.out; exact ⟨j + 1, by rw [w64 (by omega) (by omega)], ⟨by omega⟩, ⟨HS.out.mv1⟩⟩
          · have hb : decide (j < N) = false := decide_eq_false hj
            clear hj
            have P1 : Aside0 (peek M C = rd K C) := ⟨by rw [peek_in HC.out.1 (by have := HV.out.1; have := HC.out.2; omega)]; exact HV.out.2.2.1⟩
            have P2 : Aside0 (peek K C = rd K C) := ⟨by rw [peek_in HC.out.1 (by have := HV.out.2.1; have := HC.out.2; omega)]⟩
            have q0 : decide (lk.length ≤ lm.length) = true := decide_eq_true HV.out.2.2.2.2
            go_wp2_with (first | ((with_reducible refine gate_callee (f := 21) rfl ?_); (try (refine gate_guard (by rfl) ?_; dsimp only)); (refine goesL_ (some 63) rfl rfl Try.func21 (by kernel_rfl) rfl #[.pointer (some ⟨gm, 0, none⟩), .int .i64 C] rfl (by (try simp only [List.map_toArray, List.map_cons, List.map_nil]); first | done | rfl) ?_); (with_reducible refine (Peek_to (w0 := w) (F := [MemO w.heap.size gq K lk]) (cs := M) (lg := lm) C (rd K C) ?p0 ?s0).mono ?_); (case s0 => (with_reducible repeat (first | apply Holds.alloc | apply Holds.drewN | apply Holds.drew)); exact HS.out); (case p0 => exact P1.out); rintro e w8 ⟨rfl, hX⟩; refine ⟨_, rfl, ?_⟩; clear HS; have HS := Aside0.mk hX; clear hX) | ((with_reducible refine gate_callee (f := 21) rfl ?_); (try (refine gate_guard (by rfl) ?_; dsimp only)); (refine goesL_ (some 66) rfl rfl Try.func21 (by kernel_rfl) rfl #[.pointer (some ⟨gq, 0, none⟩), .int .i64 C] rfl (by (try simp only [List.map_toArray, List.map_cons, List.map_nil]); first | done | rfl) ?_); (with_reducible refine (Peek_to (w0 := w) (F := [MemO w.heap.size gm M lm]) (cs := K) (lg := lk) C (rd K C) ?p0 ?s0).mono ?_); (case s0 => (with_reducible repeat (first | apply Holds.alloc | apply Holds.drewN | apply Holds.drew)); exact HS.out.mv1); (case p0 => exact P2.out); rintro e w9 ⟨rfl, hX⟩; refine ⟨_, rfl, ?_⟩; clear HS; have HS := Aside0.mk hX; clear hX) | ((with_reducible refine gate_callee (f := 22) rfl ?_); (try (refine gate_guard (by rfl) ?_; dsimp only)); (refine goesL_ (some 70) rfl rfl Try.func22 (by kernel_rfl) rfl #[.pointer (some ⟨gq, 0, none⟩)] rfl (by (try simp only [List.map_toArray, List.map_cons, List.map_nil]); first | done | rfl) ?_); (with_reducible refine (Count_calls (w0 := w) (F := [MemO w.heap.size gm M lm]) (cs := K) (lg := lk) ?s0).mono ?_); (case s0 => (with_reducible repeat (first | apply Holds.alloc | apply Holds.drewN | apply Holds.drew)); exact HS.out); rintro e w10 ⟨rfl, hX⟩; refine ⟨_, rfl, ?_⟩; clear HS; have HS := Aside0.mk hX; clear hX) | ((with_reducible refine gate_callee (f := 22) rfl ?_); (try (refine gate_guard (by rfl) ?_; dsimp only)); (refine goesL_ (some 72) rfl rfl Try.func22 (by kernel_rfl) rfl #[.pointer (some ⟨gm, 0, none⟩)] rfl (by (try simp only [List.map_toArray, List.map_cons, List.map_nil]); first | done | rfl) ?_); (with_reducible refine (Count_calls (w0 := w) (F := [MemO w.heap.size gq K lk]) (cs := M) (lg := lm) ?s0).mono ?_); (case s0 => (with_reducible repeat (first | apply Holds.alloc | apply Holds.drewN | apply Holds.drew)); exact HS.out.mv1); rintro e w11 ⟨rfl, hX⟩; refine ⟨_, rfl, ?_⟩; clear HS; have HS := Aside0.mk hX; clear hX))
            go_ret
            exact ⟨rfl, (Holds.below (by (with_reducible repeat (first | apply Holds.alloc | apply Holds.drewN | apply Holds.drew)); exact HS.out))⟩

end Go.Proofs.Ytlimmmnpcomfjaa.Law03
