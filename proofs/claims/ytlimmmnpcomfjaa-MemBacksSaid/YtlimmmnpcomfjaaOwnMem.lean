/- Cells that are shared, and what was done to them: what each method of mem.Mem does. A lemma file for the laws over it. -/
import Derived.Test.YtlimmmnpcomfjaaOwnSep
import Derived.Test.YtlimmmnpcomfjaaWGuard
import Derived.Test.YtlimmmnpcomfjaaProg
import Derived.WalkKit
import Derived.KernelRfl
import Derived.BigQuiet
import Derived.WideLaws
import Derived.Laws.BitsLemmas
import Derived.OwnWalk
import Derived.Laws.MakeOwn
import Derived.Laws.AppendOwn
set_option linter.unusedVariables false
set_option linter.unusedSimpArgs false
namespace Go.Proofs.Ytlimmmnpcomfjaa.Mem
open Go.RowKit Go.Proofs.YtlimmmnpcomfjaaW.PrintWords Go.Proofs.YtlimmmnpcomfjaaW.PrintLast Go.Proofs.YtlimmmnpcomfjaaW.PrintMore Go.Proofs.Ytlimmmnpcomfjaa.Sep
attribute [local go_sem] max2_int min2_int max_two min_two max_three min_three max_four min_four

structure Ev where
  who : Int
  op : Int
  cell : Int
  old : Int
  new : Int
  ok : Bool
def zEv : Ev := ⟨0, 0, 0, 0, 0, false⟩
def kEv : Kd Ev := Kd.iso (Kd.pair (Kd.int .i64) (Kd.pair (Kd.int .i64) (Kd.pair (Kd.int .i64) (Kd.pair (Kd.int .u64) (Kd.pair (Kd.int .u64) Kd.bool))))) (fun x : Ev => (x.who, x.op, x.cell, x.old, x.new, x.ok))
theorem kEv_open {w : World} {x : Ev} {cs : List Value} (h : kEv.K w x cs) : cs = [.int .i64 x.who, .int .i64 x.op, .int .i64 x.cell, .int .u64 x.old, .int .u64 x.new, .bool x.ok] := by
  obtain ⟨_, _, rfl, rfl, ⟨_, _, rfl, rfl, ⟨_, _, rfl, rfl, ⟨_, _, rfl, rfl, ⟨_, _, rfl, rfl, rfl⟩⟩⟩⟩⟩ := h
  exact rfl
theorem kEv_mk (w : World) (x : Ev) : kEv.K w x [.int .i64 x.who, .int .i64 x.op, .int .i64 x.cell, .int .u64 x.old, .int .u64 x.new, .bool x.ok] := ⟨[.int .i64 x.who], [.int .i64 x.op, .int .i64 x.cell, .int .u64 x.old, .int .u64 x.new, .bool x.ok], rfl, rfl, ⟨[.int .i64 x.op], [.int .i64 x.cell, .int .u64 x.old, .int .u64 x.new, .bool x.ok], rfl, rfl, ⟨[.int .i64 x.cell], [.int .u64 x.old, .int .u64 x.new, .bool x.ok], rfl, rfl, ⟨[.int .u64 x.old], [.int .u64 x.new, .bool x.ok], rfl, rfl, ⟨[.int .u64 x.new], [.bool x.ok], rfl, rfl, rfl⟩⟩⟩⟩⟩
theorem kEv_mkM (w : World) (base : Nat) (ok : Nat → Prop) (x : Ev) : kEv.M w base ok x [.int .i64 x.who, .int .i64 x.op, .int .i64 x.cell, .int .u64 x.old, .int .u64 x.new, .bool x.ok] := ⟨[.int .i64 x.who], [.int .i64 x.op, .int .i64 x.cell, .int .u64 x.old, .int .u64 x.new, .bool x.ok], rfl, rfl, ⟨[.int .i64 x.op], [.int .i64 x.cell, .int .u64 x.old, .int .u64 x.new, .bool x.ok], rfl, rfl, ⟨[.int .i64 x.cell], [.int .u64 x.old, .int .u64 x.new, .bool x.ok], rfl, rfl, ⟨[.int .u64 x.old], [.int .u64 x.new, .bool x.ok], rfl, rfl, ⟨[.int .u64 x.new], [.bool x.ok], rfl, rfl, rfl⟩⟩⟩⟩⟩
theorem flat_int (k : IntKind) : Flat (Kd.int k) := flat_scalar
theorem flat_bool : Flat Kd.bool := flat_scalar
theorem flat_ev : Flat kEv := flat_iso (flat_pair (flat_int _) (flat_pair (flat_int _) (flat_pair (flat_int _) (flat_pair (flat_int _) (flat_pair (flat_int _) flat_bool)))))
theorem infoU : (Try.prog.info? 26).map (fun i => (i.zero, i.size, i.bytes)) = some (some (.int .u64 0), 1, 8) := by kernel_rfl
theorem infoEv : (Try.prog.info? 58).map (fun i => (i.zero, i.size, i.bytes)) = some (some (.agg #[.int .i64 0, .int .i64 0, .int .i64 0, .int .u64 0, .int .u64 0, .bool false]), 6, 48) := by kernel_rfl

/-- A mem.Mem at g: its cells, and what was noted. -/
def MemO (b g : Nat) (cs : List Int) (lg : List Ev) : HObj :=
  Ex fun p : Value × Value => [Pt g 66 #[p.1, p.2], Row (Kd.int .u64) 26 b p.1 cs, Row kEv 58 b p.2 lg]
section
variable {w0 w : World} {F : List HObj} {g : Nat} {cs : List Int} {lg : List Ev}
theorem mem_open (h : Holds w0 w (MemO w0.heap.size g cs lg :: F)) :
    ∃ A c B d, cs.length ≤ c ∧ lg.length ≤ d ∧ Holds w0 w (Pt g 66 #[.slice A cs.length c, .slice B lg.length d] :: Row (Kd.int .u64) 26 w0.heap.size (.slice A cs.length c) cs :: Row kEv 58 w0.heap.size (.slice B lg.length d) lg :: F) := by
  obtain ⟨⟨vc, vl⟩, h⟩ := h.ex
  have h : Holds w0 w (Pt g 66 #[vc, vl] :: Row (Kd.int .u64) 26 w0.heap.size vc cs :: Row kEv 58 w0.heap.size vl lg :: F) := h
  obtain ⟨A, c, rfl, hc, _⟩ := h.mv1.row_slice
  obtain ⟨B, d, rfl, hd, _⟩ := h.mv2.row_slice
  exact ⟨A, c, B, d, hc, hd, h⟩
theorem mem_close {vc vl : Value} (h : Holds w0 w (Pt g 66 #[vc, vl] :: Row (Kd.int .u64) 26 w0.heap.size vc cs :: Row kEv 58 w0.heap.size vl lg :: F)) : Holds w0 w (MemO w0.heap.size g cs lg :: F) :=
  Holds.put (P := fun p : Value × Value => [Pt g 66 #[p.1, p.2], Row (Kd.int .u64) 26 w0.heap.size p.1 cs, Row kEv 58 w0.heap.size p.2 lg]) (vc, vl) h
end

def inR (cs : List Int) (c : Int) : Bool := decide (0 ≤ c ∧ c < (cs.length : Int))
set_option maxHeartbeats 4000000 in
set_option maxRecDepth 100000 in
theorem there_calls {w0 w : World} {F : List HObj} {g : Nat} {cs : List Int} {lg : List Ev} (c : Int) (h : Holds w0 w (MemO w0.heap.size g cs lg :: F)) :
    Calls Try.prog 39 #[.pointer (some ⟨g, 0, none⟩), .int .i64 c] w fun e w' => e = .returned (.bool (inR cs c)) ∧ Holds w0 w' (MemO w0.heap.size g cs lg :: F) := by
  by_cases c0 : 0 ≤ c
  · have c1 : decide (0 ≤ c) = true := decide_eq_true c0
    have er : inR cs c = decide (c < (cs.length : Int)) := by unfold inR; exact decide_eq_decide.2 ⟨fun h => h.2, fun h => ⟨c0, h⟩⟩
    have ER := Aside0.mk er
    clear er
    obtain ⟨A, cA, B, cB, hcA, hcB, h⟩ := mem_open h
    have hcz0 : w.cell? ⟨g, 0, none⟩ = some (.slice A cs.length cA) := (h.cell 0).trans rfl
    have hcz1 : w.cell? ⟨g, 1, none⟩ = some (.slice B lg.length cB) := (h.cell 1).trans rfl
    have HS := Aside0.mk (mem_close h)
    clear h
    go_enter Try.func39, Try.ntmps39
    go_wp2
    go_ret
    exact ⟨by rw [ER.out]; rfl, by (with_reducible repeat (first | apply Holds.alloc | apply Holds.drewN | apply Holds.drew)); exact HS.out⟩
  · have c1 : decide (0 ≤ c) = false := decide_eq_false c0
    have er : inR cs c = false := by unfold inR; exact decide_eq_false fun h => c0 h.1
    have ER := Aside0.mk er
    clear er
    have HS := Aside0.mk h
    clear h
    go_enter Try.func39, Try.ntmps39
    go_wp2
    go_ret
    exact ⟨by rw [ER.out]; rfl, by (with_reducible repeat (first | apply Holds.alloc | apply Holds.drewN | apply Holds.drew)); exact HS.out⟩

set_option maxHeartbeats 4000000 in
set_option maxRecDepth 100000 in
theorem Len_calls {w0 w : World} {F : List HObj} {g : Nat} {cs : List Int} {lg : List Ev} (h : Holds w0 w (MemO w0.heap.size g cs lg :: F)) :
    Calls Try.prog 24 #[.pointer (some ⟨g, 0, none⟩)] w fun e w' => e = .returned (.int .i64 (cs.length : Int)) ∧ Holds w0 w' (MemO w0.heap.size g cs lg :: F) := by
  obtain ⟨A, cA, B, cB, hcA, hcB, h⟩ := mem_open h
  have hcz0 : w.cell? ⟨g, 0, none⟩ = some (.slice A cs.length cA) := (h.cell 0).trans rfl
  have hcz1 : w.cell? ⟨g, 1, none⟩ = some (.slice B lg.length cB) := (h.cell 1).trans rfl
  have HS := Aside0.mk (mem_close h)
  clear h
  go_enter Try.func24, Try.ntmps24
  go_wp2
  go_ret
  exact ⟨rfl, by (with_reducible repeat (first | apply Holds.alloc | apply Holds.drewN | apply Holds.drew)); exact HS.out⟩

set_option maxHeartbeats 4000000 in
set_option maxRecDepth 100000 in
theorem Count_calls {w0 w : World} {F : List HObj} {g : Nat} {cs : List Int} {lg : List Ev} (h : Holds w0 w (MemO w0.heap.size g cs lg :: F)) :
    Calls Try.prog 22 #[.pointer (some ⟨g, 0, none⟩)] w fun e w' => e = .returned (.int .i64 (lg.length : Int)) ∧ Holds w0 w' (MemO w0.heap.size g cs lg :: F) := by
  obtain ⟨A, cA, B, cB, hcA, hcB, h⟩ := mem_open h
  have hcz0 : w.cell? ⟨g, 0, none⟩ = some (.slice A cs.length cA) := (h.cell 0).trans rfl
  have hcz1 : w.cell? ⟨g, 1, none⟩ = some (.slice B lg.length cB) := (h.cell 1).trans rfl
  have HS := Aside0.mk (mem_close h)
  clear h
  go_enter Try.func22, Try.ntmps22
  go_wp2
  go_ret
  exact ⟨rfl, by (with_reducible repeat (first | apply Holds.alloc | apply Holds.drewN | apply Holds.drew)); exact HS.out⟩

def peek (cs : List Int) (c : Int) : Int := if inR cs c = true then rd cs c else 0
set_option maxHeartbeats 4000000 in
set_option maxRecDepth 100000 in
theorem Peek_calls {w0 w : World} {F : List HObj} {g : Nat} {cs : List Int} {lg : List Ev} (c : Int) (h : Holds w0 w (MemO w0.heap.size g cs lg :: F)) :
    Calls Try.prog 21 #[.pointer (some ⟨g, 0, none⟩), .int .i64 c] w fun e w' => e = .returned (.int .u64 (peek cs c)) ∧ Holds w0 w' (MemO w0.heap.size g cs lg :: F) := by
  by_cases hr : inR cs c = true
  · have ER := Aside0.mk (show peek cs c = rd cs c by unfold peek; rw [if_pos hr])
    have c0 : 0 ≤ c := (of_decide_eq_true hr).1
    have c1 : c < (cs.length : Int) := (of_decide_eq_true hr).2
    have HS := Aside0.mk h
    clear h
    go_enter Try.func21, Try.ntmps21
    go_wp2_with (first | ((with_reducible refine gate_callee (f := 39) rfl ?_); (try (refine gate_guard (by rfl) ?_; dsimp only)); refine goesL_ (some 7) rfl rfl Try.func39 (by kernel_rfl) rfl #[.pointer (some ⟨g, 0, none⟩), .int .i64 c] rfl (by (try simp only [List.map_toArray, List.map_cons, List.map_nil]); first | done | rfl) ?_; (with_reducible refine (there_calls (w0 := w0) (F := F) (cs := cs) (lg := lg) c ?s0).mono ?_); (case s0 => (with_reducible repeat (first | apply Holds.alloc | apply Holds.drewN | apply Holds.drew)); exact HS.out); rintro e w1 ⟨rfl, hX⟩; refine ⟨_, rfl, ?_⟩; clear HS; have HS := Aside0.mk hX; clear hX; obtain ⟨A, cA, B, cB, hcA, hcB, h⟩ := mem_open HS.out; clear HS; obtain ⟨gc, cap, hA, hcap, hcell, hfz⟩ := h.mv1.row_at (0 : Int) c c0 c1; injection hA with hA1 hA2 hA3; subst hA1; subst hA3; clear hA2; have hcz0 : w1.cell? ⟨g, 0, none⟩ = some (.slice (some ⟨gc, 0, none⟩) cs.length cA) := (h.cell 0).trans rfl; have hcz1 : w1.cell? ⟨g, 1, none⟩ = some (.slice B lg.length cB) := (h.cell 1).trans rfl; have hcr : w1.cell? ⟨gc, c.toNat, none⟩ = some (.int .u64 (rd cs c)) := hcell; clear hcell; have hfz0 := h.frozen 0; have hfz1 := h.frozen 1; have HS := Aside0.mk h; clear h))
    go_ret
    exact ⟨by rw [ER.out]; rfl, mem_close (by (with_reducible repeat (first | apply Holds.alloc | apply Holds.drewN | apply Holds.drew)); exact HS.out)⟩
  · have hr := Bool.eq_false_iff.mpr hr
    have ER := Aside0.mk (show peek cs c = 0 by unfold peek; rw [hr]; rfl)
    have HS := Aside0.mk h
    clear h
    go_enter Try.func21, Try.ntmps21
    go_wp2_with (first | ((with_reducible refine gate_callee (f := 39) rfl ?_); (try (refine gate_guard (by rfl) ?_; dsimp only)); refine goesL_ (some 7) rfl rfl Try.func39 (by kernel_rfl) rfl #[.pointer (some ⟨g, 0, none⟩), .int .i64 c] rfl (by (try simp only [List.map_toArray, List.map_cons, List.map_nil]); first | done | rfl) ?_; (with_reducible refine (there_calls (w0 := w0) (F := F) (cs := cs) (lg := lg) c ?s0).mono ?_); (case s0 => (with_reducible repeat (first | apply Holds.alloc | apply Holds.drewN | apply Holds.drew)); exact HS.out); rintro e w1 ⟨rfl, hX⟩; refine ⟨_, rfl, ?_⟩; clear HS; have HS := Aside0.mk hX; clear hX))
    go_ret
    exact ⟨by rw [ER.out]; rfl, by (with_reducible repeat (first | apply Holds.alloc | apply Holds.drewN | apply Holds.drew)); exact HS.out⟩

def nxt (op was old x : Int) : Int := if op = 0 then was else if op = 2 then (if was = old then x else was) else if op = 3 then IntKind.u64.wrap (was + x) else x
def okk (op was old : Int) : Bool := if op = 2 then was == old else true
def cellsT (cs : List Int) (op c old x : Int) : List Int := if inR cs c = true then cs.set c.toNat (nxt op (rd cs c) old x) else cs
def logT (cs : List Int) (lg : List Ev) (who op c old x : Int) : List Ev := if inR cs c = true then lg ++ [⟨who, op, c, rd cs c, nxt op (rd cs c) old x, okk op (rd cs c) old⟩] else lg
def okT (cs : List Int) (op c old : Int) : Bool := if inR cs c = true then okk op (rd cs c) old else false

set_option maxHeartbeats 4000000 in
set_option maxRecDepth 100000 in
theorem touch_way0 {w0 w : World} {F : List HObj} {g : Nat} {cs : List Int} {lg : List Ev} (who op c old x : Int) (c0 : 0 ≤ c) (c1 : c < (cs.length : Int)) (hr : inR cs c = true) (hlen : Aside0 (lg.length ≤ 1000000)) (t0 : (op == 0) = true) (h : Holds w0 w (MemO w0.heap.size g cs lg :: F)) :
    Calls Try.prog 38 #[.pointer (some ⟨g, 0, none⟩), .int .i64 who, .int .i64 op, .int .i64 c, .int .u64 old, .int .u64 x] w fun e w' => e = .returned (.tuple #[.int .u64 (rd cs c), .bool true]) ∧ Holds w0 w' (MemO w0.heap.size g (cs.set c.toNat (rd cs c)) (lg ++ [⟨who, op, c, rd cs c, (rd cs c), true⟩]) :: F) := by
  have HS := Aside0.mk h
  clear h
  go_enter Try.func38, Try.ntmps38
  go_wp2_with (first | ((with_reducible refine gate_callee (f := 39) rfl ?_); (try (refine gate_guard (by rfl) ?_; dsimp only)); refine goesL_ (some 18) rfl rfl Try.func39 (by kernel_rfl) rfl #[.pointer (some ⟨g, 0, none⟩), .int .i64 c] rfl (by (try simp only [List.map_toArray, List.map_cons, List.map_nil]); first | done | rfl) ?_; (with_reducible refine (there_calls (w0 := w0) (F := F) (cs := cs) (lg := lg) c ?s0).mono ?_); (case s0 => (with_reducible repeat (first | apply Holds.alloc | apply Holds.drewN | apply Holds.drew)); exact HS.out); rintro e w1 ⟨rfl, hX⟩; refine ⟨_, rfl, ?_⟩; clear HS; have HS := Aside0.mk hX; clear hX; obtain ⟨A, cA, B, cB, hcA, hcB, h⟩ := mem_open HS.out; clear HS; obtain ⟨gc, cap, hA, hcap, hcell, hfz⟩ := h.mv1.row_at (0 : Int) c c0 c1; injection hA with hA1 hA2 hA3; subst hA1; subst hA3; clear hA2; have hcz0 : w1.cell? ⟨g, 0, none⟩ = some (.slice (some ⟨gc, 0, none⟩) cs.length cA) := (h.cell 0).trans rfl; have hcz1 : w1.cell? ⟨g, 1, none⟩ = some (.slice B lg.length cB) := (h.cell 1).trans rfl; have hcr : w1.cell? ⟨gc, c.toNat, none⟩ = some (.int .u64 (rd cs c)) := hcell; clear hcell; have hfz0 := h.frozen 0; have hfz1 := h.frozen 1; have HS := Aside0.mk h; clear h) | ((with_reducible refine gate_store (t := 26) (p := 50) rfl ?_); refine store_event (t := 26) (p := 50) (v := ?vo) (w1 := ?ww) ?hg ?ho ?hn ?hr ?_; (case ho => rfl); (case hg => rfl); (case hn => rfl); (case hr => first | (go_simp; done) | (go_simp; rfl)); intro w2 hw; have n0_ := Aside0.mk (show Holds w0 w2 _ by rw [hw]; exact (HS.out.mv1.row_put c (rd cs c)).mv1); clear hw; clear HS; have HS := n0_; clear n0_; have hcy0 : w2.cell? ⟨g, 0, none⟩ = some (.slice (some ⟨gc, 0, none⟩) cs.length cA) := (HS.out.cell 0).trans rfl; have hcy1 : w2.cell? ⟨g, 1, none⟩ = some (.slice B lg.length cB) := (HS.out.cell 1).trans rfl) | ((with_reducible refine gate_builtin (b := .append) (xs := #[.tmp 55, .tmp 63]) rfl ?_); at_builtin; refine Kd.R_append kEv (w0 := w0) w0.heap.size rfl (.tmp 55) (.tmp 63) 55 58 (.agg #[.int .i64 0, .int .i64 0, .int .i64 0, .int .u64 0, .int .u64 0, .bool false]) 48 rfl Try.underlying55 infoEv rfl (by decide) (by omega) (.slice B lg.length cB) lg (⟨who, op, c, rd cs c, (rd cs c), true⟩ : Ev) [.int .i64 who, .int .i64 op, .int .i64 c, .int .u64 (rd cs c), .int .u64 (rd cs c), .bool true] (fun _ => True) (fun _ => False) rfl rfl ?aP (fun _ hk => hk.elim) (fun _ _ => trivial) ?aO ?aB ?aS ?aL ?_; (case aP => exact kEv_mkM _ _ _ (⟨who, op, c, rd cs c, (rd cs c), true⟩ : Ev)); (case aO => obtain ⟨S, hR⟩ := HS.out.mv2.row; exact Kd.R_mono hR (fun _ _ => trivial)); (case aB => exact HS.out.below); (case aS => exact HS.out.size); (case aL => have := hlen.out; omega); intro v1 w3 hR3 hB3 hG3 hat3; have n0_ := Aside0.mk (Holds.row_grown flat_ev HS.out.mv2 hR3 hG3 hat3).mv1; obtain ⟨B3, d3, hv3⟩ := Kd.R_slice hR3; rw [List.length_append, List.length_singleton] at hv3; subst hv3; clear hR3 hB3 hG3 hat3; clear HS; have HS := n0_; clear n0_; have hcx1 : w3.cell? ⟨g, 1, none⟩ = some (.slice B lg.length cB) := (HS.out.cell 1).trans rfl; have hfx1 := HS.out.frozen 1))
  go_ret2
  exact ⟨rfl, mem_close (HS.out.set 1 (.slice B3 (lg.length + 1) d3) rfl).mv2.mv1⟩

set_option maxHeartbeats 4000000 in
set_option maxRecDepth 100000 in
theorem touch_way1 {w0 w : World} {F : List HObj} {g : Nat} {cs : List Int} {lg : List Ev} (who op c old x : Int) (c0 : 0 ≤ c) (c1 : c < (cs.length : Int)) (hr : inR cs c = true) (hlen : Aside0 (lg.length ≤ 1000000)) (t0 : (op == 0) = false) (t1 : (op == 2) = true) (t2 : (rd cs c == old) = true) (h : Holds w0 w (MemO w0.heap.size g cs lg :: F)) :
    Calls Try.prog 38 #[.pointer (some ⟨g, 0, none⟩), .int .i64 who, .int .i64 op, .int .i64 c, .int .u64 old, .int .u64 x] w fun e w' => e = .returned (.tuple #[.int .u64 (rd cs c), .bool true]) ∧ Holds w0 w' (MemO w0.heap.size g (cs.set c.toNat x) (lg ++ [⟨who, op, c, rd cs c, x, true⟩]) :: F) := by
  have HS := Aside0.mk h
  clear h
  go_enter Try.func38, Try.ntmps38
  go_wp2_with (first | ((with_reducible refine gate_callee (f := 39) rfl ?_); (try (refine gate_guard (by rfl) ?_; dsimp only)); refine goesL_ (some 18) rfl rfl Try.func39 (by kernel_rfl) rfl #[.pointer (some ⟨g, 0, none⟩), .int .i64 c] rfl (by (try simp only [List.map_toArray, List.map_cons, List.map_nil]); first | done | rfl) ?_; (with_reducible refine (there_calls (w0 := w0) (F := F) (cs := cs) (lg := lg) c ?s0).mono ?_); (case s0 => (with_reducible repeat (first | apply Holds.alloc | apply Holds.drewN | apply Holds.drew)); exact HS.out); rintro e w1 ⟨rfl, hX⟩; refine ⟨_, rfl, ?_⟩; clear HS; have HS := Aside0.mk hX; clear hX; obtain ⟨A, cA, B, cB, hcA, hcB, h⟩ := mem_open HS.out; clear HS; obtain ⟨gc, cap, hA, hcap, hcell, hfz⟩ := h.mv1.row_at (0 : Int) c c0 c1; injection hA with hA1 hA2 hA3; subst hA1; subst hA3; clear hA2; have hcz0 : w1.cell? ⟨g, 0, none⟩ = some (.slice (some ⟨gc, 0, none⟩) cs.length cA) := (h.cell 0).trans rfl; have hcz1 : w1.cell? ⟨g, 1, none⟩ = some (.slice B lg.length cB) := (h.cell 1).trans rfl; have hcr : w1.cell? ⟨gc, c.toNat, none⟩ = some (.int .u64 (rd cs c)) := hcell; clear hcell; have hfz0 := h.frozen 0; have hfz1 := h.frozen 1; have HS := Aside0.mk h; clear h) | ((with_reducible refine gate_store (t := 26) (p := 50) rfl ?_); refine store_event (t := 26) (p := 50) (v := ?vo) (w1 := ?ww) ?hg ?ho ?hn ?hr ?_; (case ho => rfl); (case hg => rfl); (case hn => rfl); (case hr => first | (go_simp; done) | (go_simp; rfl)); intro w2 hw; have n0_ := Aside0.mk (show Holds w0 w2 _ by rw [hw]; exact (HS.out.mv1.row_put c x).mv1); clear hw; clear HS; have HS := n0_; clear n0_; have hcy0 : w2.cell? ⟨g, 0, none⟩ = some (.slice (some ⟨gc, 0, none⟩) cs.length cA) := (HS.out.cell 0).trans rfl; have hcy1 : w2.cell? ⟨g, 1, none⟩ = some (.slice B lg.length cB) := (HS.out.cell 1).trans rfl) | ((with_reducible refine gate_builtin (b := .append) (xs := #[.tmp 55, .tmp 63]) rfl ?_); at_builtin; refine Kd.R_append kEv (w0 := w0) w0.heap.size rfl (.tmp 55) (.tmp 63) 55 58 (.agg #[.int .i64 0, .int .i64 0, .int .i64 0, .int .u64 0, .int .u64 0, .bool false]) 48 rfl Try.underlying55 infoEv rfl (by decide) (by omega) (.slice B lg.length cB) lg (⟨who, op, c, rd cs c, x, true⟩ : Ev) [.int .i64 who, .int .i64 op, .int .i64 c, .int .u64 (rd cs c), .int .u64 x, .bool true] (fun _ => True) (fun _ => False) rfl rfl ?aP (fun _ hk => hk.elim) (fun _ _ => trivial) ?aO ?aB ?aS ?aL ?_; (case aP => exact kEv_mkM _ _ _ (⟨who, op, c, rd cs c, x, true⟩ : Ev)); (case aO => obtain ⟨S, hR⟩ := HS.out.mv2.row; exact Kd.R_mono hR (fun _ _ => trivial)); (case aB => exact HS.out.below); (case aS => exact HS.out.size); (case aL => have := hlen.out; omega); intro v1 w3 hR3 hB3 hG3 hat3; have n0_ := Aside0.mk (Holds.row_grown flat_ev HS.out.mv2 hR3 hG3 hat3).mv1; obtain ⟨B3, d3, hv3⟩ := Kd.R_slice hR3; rw [List.length_append, List.length_singleton] at hv3; subst hv3; clear hR3 hB3 hG3 hat3; clear HS; have HS := n0_; clear n0_; have hcx1 : w3.cell? ⟨g, 1, none⟩ = some (.slice B lg.length cB) := (HS.out.cell 1).trans rfl; have hfx1 := HS.out.frozen 1))
  go_ret2
  exact ⟨rfl, mem_close (HS.out.set 1 (.slice B3 (lg.length + 1) d3) rfl).mv2.mv1⟩

set_option maxHeartbeats 4000000 in
set_option maxRecDepth 100000 in
theorem touch_way2 {w0 w : World} {F : List HObj} {g : Nat} {cs : List Int} {lg : List Ev} (who op c old x : Int) (c0 : 0 ≤ c) (c1 : c < (cs.length : Int)) (hr : inR cs c = true) (hlen : Aside0 (lg.length ≤ 1000000)) (t0 : (op == 0) = false) (t1 : (op == 2) = true) (t2 : (rd cs c == old) = false) (h : Holds w0 w (MemO w0.heap.size g cs lg :: F)) :
    Calls Try.prog 38 #[.pointer (some ⟨g, 0, none⟩), .int .i64 who, .int .i64 op, .int .i64 c, .int .u64 old, .int .u64 x] w fun e w' => e = .returned (.tuple #[.int .u64 (rd cs c), .bool false]) ∧ Holds w0 w' (MemO w0.heap.size g (cs.set c.toNat (rd cs c)) (lg ++ [⟨who, op, c, rd cs c, (rd cs c), false⟩]) :: F) := by
  have HS := Aside0.mk h
  clear h
  go_enter Try.func38, Try.ntmps38
  go_wp2_with (first | ((with_reducible refine gate_callee (f := 39) rfl ?_); (try (refine gate_guard (by rfl) ?_; dsimp only)); refine goesL_ (some 18) rfl rfl Try.func39 (by kernel_rfl) rfl #[.pointer (some ⟨g, 0, none⟩), .int .i64 c] rfl (by (try simp only [List.map_toArray, List.map_cons, List.map_nil]); first | done | rfl) ?_; (with_reducible refine (there_calls (w0 := w0) (F := F) (cs := cs) (lg := lg) c ?s0).mono ?_); (case s0 => (with_reducible repeat (first | apply Holds.alloc | apply Holds.drewN | apply Holds.drew)); exact HS.out); rintro e w1 ⟨rfl, hX⟩; refine ⟨_, rfl, ?_⟩; clear HS; have HS := Aside0.mk hX; clear hX; obtain ⟨A, cA, B, cB, hcA, hcB, h⟩ := mem_open HS.out; clear HS; obtain ⟨gc, cap, hA, hcap, hcell, hfz⟩ := h.mv1.row_at (0 : Int) c c0 c1; injection hA with hA1 hA2 hA3; subst hA1; subst hA3; clear hA2; have hcz0 : w1.cell? ⟨g, 0, none⟩ = some (.slice (some ⟨gc, 0, none⟩) cs.length cA) := (h.cell 0).trans rfl; have hcz1 : w1.cell? ⟨g, 1, none⟩ = some (.slice B lg.length cB) := (h.cell 1).trans rfl; have hcr : w1.cell? ⟨gc, c.toNat, none⟩ = some (.int .u64 (rd cs c)) := hcell; clear hcell; have hfz0 := h.frozen 0; have hfz1 := h.frozen 1; have HS := Aside0.mk h; clear h) | ((with_reducible refine gate_store (t := 26) (p := 50) rfl ?_); refine store_event (t := 26) (p := 50) (v := ?vo) (w1 := ?ww) ?hg ?ho ?hn ?hr ?_; (case ho => rfl); (case hg => rfl); (case hn => rfl); (case hr => first | (go_simp; done) | (go_simp; rfl)); intro w2 hw; have n0_ := Aside0.mk (show Holds w0 w2 _ by rw [hw]; exact (HS.out.mv1.row_put c (rd cs c)).mv1); clear hw; clear HS; have HS := n0_; clear n0_; have hcy0 : w2.cell? ⟨g, 0, none⟩ = some (.slice (some ⟨gc, 0, none⟩) cs.length cA) := (HS.out.cell 0).trans rfl; have hcy1 : w2.cell? ⟨g, 1, none⟩ = some (.slice B lg.length cB) := (HS.out.cell 1).trans rfl) | ((with_reducible refine gate_builtin (b := .append) (xs := #[.tmp 55, .tmp 63]) rfl ?_); at_builtin; refine Kd.R_append kEv (w0 := w0) w0.heap.size rfl (.tmp 55) (.tmp 63) 55 58 (.agg #[.int .i64 0, .int .i64 0, .int .i64 0, .int .u64 0, .int .u64 0, .bool false]) 48 rfl Try.underlying55 infoEv rfl (by decide) (by omega) (.slice B lg.length cB) lg (⟨who, op, c, rd cs c, (rd cs c), false⟩ : Ev) [.int .i64 who, .int .i64 op, .int .i64 c, .int .u64 (rd cs c), .int .u64 (rd cs c), .bool false] (fun _ => True) (fun _ => False) rfl rfl ?aP (fun _ hk => hk.elim) (fun _ _ => trivial) ?aO ?aB ?aS ?aL ?_; (case aP => exact kEv_mkM _ _ _ (⟨who, op, c, rd cs c, (rd cs c), false⟩ : Ev)); (case aO => obtain ⟨S, hR⟩ := HS.out.mv2.row; exact Kd.R_mono hR (fun _ _ => trivial)); (case aB => exact HS.out.below); (case aS => exact HS.out.size); (case aL => have := hlen.out; omega); intro v1 w3 hR3 hB3 hG3 hat3; have n0_ := Aside0.mk (Holds.row_grown flat_ev HS.out.mv2 hR3 hG3 hat3).mv1; obtain ⟨B3, d3, hv3⟩ := Kd.R_slice hR3; rw [List.length_append, List.length_singleton] at hv3; subst hv3; clear hR3 hB3 hG3 hat3; clear HS; have HS := n0_; clear n0_; have hcx1 : w3.cell? ⟨g, 1, none⟩ = some (.slice B lg.length cB) := (HS.out.cell 1).trans rfl; have hfx1 := HS.out.frozen 1))
  go_ret2
  exact ⟨rfl, mem_close (HS.out.set 1 (.slice B3 (lg.length + 1) d3) rfl).mv2.mv1⟩

set_option maxHeartbeats 4000000 in
set_option maxRecDepth 100000 in
theorem touch_way3 {w0 w : World} {F : List HObj} {g : Nat} {cs : List Int} {lg : List Ev} (who op c old x : Int) (c0 : 0 ≤ c) (c1 : c < (cs.length : Int)) (hr : inR cs c = true) (hlen : Aside0 (lg.length ≤ 1000000)) (t0 : (op == 0) = false) (t1 : (op == 2) = false) (t2 : (op == 3) = true) (h : Holds w0 w (MemO w0.heap.size g cs lg :: F)) :
    Calls Try.prog 38 #[.pointer (some ⟨g, 0, none⟩), .int .i64 who, .int .i64 op, .int .i64 c, .int .u64 old, .int .u64 x] w fun e w' => e = .returned (.tuple #[.int .u64 (rd cs c), .bool true]) ∧ Holds w0 w' (MemO w0.heap.size g (cs.set c.toNat (IntKind.u64.wrap (rd cs c + x))) (lg ++ [⟨who, op, c, rd cs c, (IntKind.u64.wrap (rd cs c + x)), true⟩]) :: F) := by
  have HS := Aside0.mk h
  clear h
  go_enter Try.func38, Try.ntmps38
  go_wp2_with (first | ((with_reducible refine gate_callee (f := 39) rfl ?_); (try (refine gate_guard (by rfl) ?_; dsimp only)); refine goesL_ (some 18) rfl rfl Try.func39 (by kernel_rfl) rfl #[.pointer (some ⟨g, 0, none⟩), .int .i64 c] rfl (by (try simp only [List.map_toArray, List.map_cons, List.map_nil]); first | done | rfl) ?_; (with_reducible refine (there_calls (w0 := w0) (F := F) (cs := cs) (lg := lg) c ?s0).mono ?_); (case s0 => (with_reducible repeat (first | apply Holds.alloc | apply Holds.drewN | apply Holds.drew)); exact HS.out); rintro e w1 ⟨rfl, hX⟩; refine ⟨_, rfl, ?_⟩; clear HS; have HS := Aside0.mk hX; clear hX; obtain ⟨A, cA, B, cB, hcA, hcB, h⟩ := mem_open HS.out; clear HS; obtain ⟨gc, cap, hA, hcap, hcell, hfz⟩ := h.mv1.row_at (0 : Int) c c0 c1; injection hA with hA1 hA2 hA3; subst hA1; subst hA3; clear hA2; have hcz0 : w1.cell? ⟨g, 0, none⟩ = some (.slice (some ⟨gc, 0, none⟩) cs.length cA) := (h.cell 0).trans rfl; have hcz1 : w1.cell? ⟨g, 1, none⟩ = some (.slice B lg.length cB) := (h.cell 1).trans rfl; have hcr : w1.cell? ⟨gc, c.toNat, none⟩ = some (.int .u64 (rd cs c)) := hcell; clear hcell; have hfz0 := h.frozen 0; have hfz1 := h.frozen 1; have HS := Aside0.mk h; clear h) | ((with_reducible refine gate_store (t := 26) (p := 50) rfl ?_); refine store_event (t := 26) (p := 50) (v := ?vo) (w1 := ?ww) ?hg ?ho ?hn ?hr ?_; (case ho => rfl); (case hg => rfl); (case hn => rfl); (case hr => first | (go_simp; done) | (go_simp; rfl)); intro w2 hw; have n0_ := Aside0.mk (show Holds w0 w2 _ by rw [hw]; exact (HS.out.mv1.row_put c (IntKind.u64.wrap (rd cs c + x))).mv1); clear hw; clear HS; have HS := n0_; clear n0_; have hcy0 : w2.cell? ⟨g, 0, none⟩ = some (.slice (some ⟨gc, 0, none⟩) cs.length cA) := (HS.out.cell 0).trans rfl; have hcy1 : w2.cell? ⟨g, 1, none⟩ = some (.slice B lg.length cB) := (HS.out.cell 1).trans rfl) | ((with_reducible refine gate_builtin (b := .append) (xs := #[.tmp 55, .tmp 63]) rfl ?_); at_builtin; refine Kd.R_append kEv (w0 := w0) w0.heap.size rfl (.tmp 55) (.tmp 63) 55 58 (.agg #[.int .i64 0, .int .i64 0, .int .i64 0, .int .u64 0, .int .u64 0, .bool false]) 48 rfl Try.underlying55 infoEv rfl (by decide) (by omega) (.slice B lg.length cB) lg (⟨who, op, c, rd cs c, (IntKind.u64.wrap (rd cs c + x)), true⟩ : Ev) [.int .i64 who, .int .i64 op, .int .i64 c, .int .u64 (rd cs c), .int .u64 (IntKind.u64.wrap (rd cs c + x)), .bool true] (fun _ => True) (fun _ => False) rfl rfl ?aP (fun _ hk => hk.elim) (fun _ _ => trivial) ?aO ?aB ?aS ?aL ?_; (case aP => exact kEv_mkM _ _ _ (⟨who, op, c, rd cs c, (IntKind.u64.wrap (rd cs c + x)), true⟩ : Ev)); (case aO => obtain ⟨S, hR⟩ := HS.out.mv2.row; exact Kd.R_mono hR (fun _ _ => trivial)); (case aB => exact HS.out.below); (case aS => exact HS.out.size); (case aL => have := hlen.out; omega); intro v1 w3 hR3 hB3 hG3 hat3; have n0_ := Aside0.mk (Holds.row_grown flat_ev HS.out.mv2 hR3 hG3 hat3).mv1; obtain ⟨B3, d3, hv3⟩ := Kd.R_slice hR3; rw [List.length_append, List.length_singleton] at hv3; subst hv3; clear hR3 hB3 hG3 hat3; clear HS; have HS := n0_; clear n0_; have hcx1 : w3.cell? ⟨g, 1, none⟩ = some (.slice B lg.length cB) := (HS.out.cell 1).trans rfl; have hfx1 := HS.out.frozen 1))
  go_ret2
  exact ⟨rfl, mem_close (HS.out.set 1 (.slice B3 (lg.length + 1) d3) rfl).mv2.mv1⟩

set_option maxHeartbeats 4000000 in
set_option maxRecDepth 100000 in
theorem touch_way4 {w0 w : World} {F : List HObj} {g : Nat} {cs : List Int} {lg : List Ev} (who op c old x : Int) (c0 : 0 ≤ c) (c1 : c < (cs.length : Int)) (hr : inR cs c = true) (hlen : Aside0 (lg.length ≤ 1000000)) (t0 : (op == 0) = false) (t1 : (op == 2) = false) (t2 : (op == 3) = false) (h : Holds w0 w (MemO w0.heap.size g cs lg :: F)) :
    Calls Try.prog 38 #[.pointer (some ⟨g, 0, none⟩), .int .i64 who, .int .i64 op, .int .i64 c, .int .u64 old, .int .u64 x] w fun e w' => e = .returned (.tuple #[.int .u64 (rd cs c), .bool true]) ∧ Holds w0 w' (MemO w0.heap.size g (cs.set c.toNat x) (lg ++ [⟨who, op, c, rd cs c, x, true⟩]) :: F) := by
  have HS := Aside0.mk h
  clear h
  go_enter Try.func38, Try.ntmps38
  go_wp2_with (first | ((with_reducible refine gate_callee (f := 39) rfl ?_); (try (refine gate_guard (by rfl) ?_; dsimp only)); refine goesL_ (some 18) rfl rfl Try.func39 (by kernel_rfl) rfl #[.pointer (some ⟨g, 0, none⟩), .int .i64 c] rfl (by (try simp only [List.map_toArray, List.map_cons, List.map_nil]); first | done | rfl) ?_; (with_reducible refine (there_calls (w0 := w0) (F := F) (cs := cs) (lg := lg) c ?s0).mono ?_); (case s0 => (with_reducible repeat (first | apply Holds.alloc | apply Holds.drewN | apply Holds.drew)); exact HS.out); rintro e w1 ⟨rfl, hX⟩; refine ⟨_, rfl, ?_⟩; clear HS; have HS := Aside0.mk hX; clear hX; obtain ⟨A, cA, B, cB, hcA, hcB, h⟩ := mem_open HS.out; clear HS; obtain ⟨gc, cap, hA, hcap, hcell, hfz⟩ := h.mv1.row_at (0 : Int) c c0 c1; injection hA with hA1 hA2 hA3; subst hA1; subst hA3; clear hA2; have hcz0 : w1.cell? ⟨g, 0, none⟩ = some (.slice (some ⟨gc, 0, none⟩) cs.length cA) := (h.cell 0).trans rfl; have hcz1 : w1.cell? ⟨g, 1, none⟩ = some (.slice B lg.length cB) := (h.cell 1).trans rfl; have hcr : w1.cell? ⟨gc, c.toNat, none⟩ = some (.int .u64 (rd cs c)) := hcell; clear hcell; have hfz0 := h.frozen 0; have hfz1 := h.frozen 1; have HS := Aside0.mk h; clear h) | ((with_reducible refine gate_store (t := 26) (p := 50) rfl ?_); refine store_event (t := 26) (p := 50) (v := ?vo) (w1 := ?ww) ?hg ?ho ?hn ?hr ?_; (case ho => rfl); (case hg => rfl); (case hn => rfl); (case hr => first | (go_simp; done) | (go_simp; rfl)); intro w2 hw; have n0_ := Aside0.mk (show Holds w0 w2 _ by rw [hw]; exact (HS.out.mv1.row_put c x).mv1); clear hw; clear HS; have HS := n0_; clear n0_; have hcy0 : w2.cell? ⟨g, 0, none⟩ = some (.slice (some ⟨gc, 0, none⟩) cs.length cA) := (HS.out.cell 0).trans rfl; have hcy1 : w2.cell? ⟨g, 1, none⟩ = some (.slice B lg.length cB) := (HS.out.cell 1).trans rfl) | ((with_reducible refine gate_builtin (b := .append) (xs := #[.tmp 55, .tmp 63]) rfl ?_); at_builtin; refine Kd.R_append kEv (w0 := w0) w0.heap.size rfl (.tmp 55) (.tmp 63) 55 58 (.agg #[.int .i64 0, .int .i64 0, .int .i64 0, .int .u64 0, .int .u64 0, .bool false]) 48 rfl Try.underlying55 infoEv rfl (by decide) (by omega) (.slice B lg.length cB) lg (⟨who, op, c, rd cs c, x, true⟩ : Ev) [.int .i64 who, .int .i64 op, .int .i64 c, .int .u64 (rd cs c), .int .u64 x, .bool true] (fun _ => True) (fun _ => False) rfl rfl ?aP (fun _ hk => hk.elim) (fun _ _ => trivial) ?aO ?aB ?aS ?aL ?_; (case aP => exact kEv_mkM _ _ _ (⟨who, op, c, rd cs c, x, true⟩ : Ev)); (case aO => obtain ⟨S, hR⟩ := HS.out.mv2.row; exact Kd.R_mono hR (fun _ _ => trivial)); (case aB => exact HS.out.below); (case aS => exact HS.out.size); (case aL => have := hlen.out; omega); intro v1 w3 hR3 hB3 hG3 hat3; have n0_ := Aside0.mk (Holds.row_grown flat_ev HS.out.mv2 hR3 hG3 hat3).mv1; obtain ⟨B3, d3, hv3⟩ := Kd.R_slice hR3; rw [List.length_append, List.length_singleton] at hv3; subst hv3; clear hR3 hB3 hG3 hat3; clear HS; have HS := n0_; clear n0_; have hcx1 : w3.cell? ⟨g, 1, none⟩ = some (.slice B lg.length cB) := (HS.out.cell 1).trans rfl; have hfx1 := HS.out.frozen 1))
  go_ret2
  exact ⟨rfl, mem_close (HS.out.set 1 (.slice B3 (lg.length + 1) d3) rfl).mv2.mv1⟩

set_option maxHeartbeats 4000000 in
set_option maxRecDepth 100000 in
theorem touch_none {w0 w : World} {F : List HObj} {g : Nat} {cs : List Int} {lg : List Ev} (who op c old x : Int) (hr : inR cs c = false) (h : Holds w0 w (MemO w0.heap.size g cs lg :: F)) :
    Calls Try.prog 38 #[.pointer (some ⟨g, 0, none⟩), .int .i64 who, .int .i64 op, .int .i64 c, .int .u64 old, .int .u64 x] w fun e w' => e = .returned (.tuple #[.int .u64 0, .bool false]) ∧ Holds w0 w' (MemO w0.heap.size g cs lg :: F) := by
  have HS := Aside0.mk h
  clear h
  go_enter Try.func38, Try.ntmps38
  go_wp2_with (first | ((with_reducible refine gate_callee (f := 39) rfl ?_); (try (refine gate_guard (by rfl) ?_; dsimp only)); refine goesL_ (some 18) rfl rfl Try.func39 (by kernel_rfl) rfl #[.pointer (some ⟨g, 0, none⟩), .int .i64 c] rfl (by (try simp only [List.map_toArray, List.map_cons, List.map_nil]); first | done | rfl) ?_; (with_reducible refine (there_calls (w0 := w0) (F := F) (cs := cs) (lg := lg) c ?s0).mono ?_); (case s0 => (with_reducible repeat (first | apply Holds.alloc | apply Holds.drewN | apply Holds.drew)); exact HS.out); rintro e w1 ⟨rfl, hX⟩; refine ⟨_, rfl, ?_⟩; clear HS; have HS := Aside0.mk hX; clear hX))
  go_ret2
  exact ⟨rfl, by (with_reducible repeat (first | apply Holds.alloc | apply Holds.drewN | apply Holds.drew)); exact HS.out⟩

theorem inR_lt {cs : List Int} {c : Int} (hr : inR cs c = true) : 0 ≤ c ∧ c < (cs.length : Int) := of_decide_eq_true hr
theorem touch_calls {w0 w : World} {F : List HObj} {g : Nat} {cs : List Int} {lg : List Ev} (who op c old x : Int) (hlen : Aside0 (lg.length ≤ 1000000)) (h : Holds w0 w (MemO w0.heap.size g cs lg :: F)) :
    Calls Try.prog 38 #[.pointer (some ⟨g, 0, none⟩), .int .i64 who, .int .i64 op, .int .i64 c, .int .u64 old, .int .u64 x] w fun e w' => e = .returned (.tuple #[.int .u64 (peek cs c), .bool (okT cs op c old)]) ∧ Holds w0 w' (MemO w0.heap.size g (cellsT cs op c old x) (logT cs lg who op c old x) :: F) := by
  unfold peek cellsT logT okT
  by_cases hr : inR cs c = true
  · obtain ⟨c0, c1⟩ := inR_lt hr
    simp only [if_pos hr]
    unfold nxt okk
    by_cases h0 : op = 0
    · simp only [if_pos h0, if_neg (show ¬ op = 2 by omega)]
      exact touch_way0 who op c old x c0 c1 hr hlen (beq_iff_eq.2 h0) h
    · by_cases h2 : op = 2
      · simp only [if_neg h0, if_pos h2]
        by_cases h3 : rd cs c = old
        · have e : (rd cs c == old) = true := beq_iff_eq.2 h3
          simp only [if_pos h3, e]
          exact touch_way1 who op c old x c0 c1 hr hlen (beq_eq_false_iff_ne.2 h0) (beq_iff_eq.2 h2) e h
        · have e : (rd cs c == old) = false := beq_eq_false_iff_ne.2 h3
          simp only [if_neg h3, e]
          exact touch_way2 who op c old x c0 c1 hr hlen (beq_eq_false_iff_ne.2 h0) (beq_iff_eq.2 h2) e h
      · by_cases h3 : op = 3
        · simp only [if_neg h0, if_neg h2, if_pos h3]
          exact touch_way3 who op c old x c0 c1 hr hlen (beq_eq_false_iff_ne.2 h0) (beq_eq_false_iff_ne.2 h2) (beq_iff_eq.2 h3) h
        · simp only [if_neg h0, if_neg h2, if_neg h3]
          exact touch_way4 who op c old x c0 c1 hr hlen (beq_eq_false_iff_ne.2 h0) (beq_eq_false_iff_ne.2 h2) (beq_eq_false_iff_ne.2 h3) h
  · simp only [if_neg hr]
    exact touch_none who op c old x (Bool.eq_false_iff.mpr hr) h

set_option maxHeartbeats 4000000 in
set_option maxRecDepth 100000 in
theorem Load_calls {w0 w : World} {F : List HObj} {g : Nat} {cs : List Int} {lg : List Ev} (who c : Int) (hlen : Aside0 (lg.length ≤ 1000000)) (h : Holds w0 w (MemO w0.heap.size g cs lg :: F)) :
    Calls Try.prog 40 #[.pointer (some ⟨g, 0, none⟩), .int .i64 who, .int .i64 c] w fun e w' => e = .returned (.int .u64 (peek cs c)) ∧ Holds w0 w' (MemO w0.heap.size g (cellsT cs 0 c 0 0) (logT cs lg who 0 c 0 0) :: F) := by
  have HS := Aside0.mk h
  clear h
  go_enter Try.func40, Try.ntmps40
  go_wp2_with (first | ((with_reducible refine gate_callee (f := 38) rfl ?_); (try (refine gate_guard (by rfl) ?_; dsimp only)); refine goesL_ (some 13) rfl rfl Try.func38 (by kernel_rfl) rfl #[.pointer (some ⟨g, 0, none⟩), .int .i64 who, .int .i64 0, .int .i64 c, .int .u64 0, .int .u64 0] rfl (by (try simp only [List.map_toArray, List.map_cons, List.map_nil]); first | done | rfl) ?_; (with_reducible refine (touch_calls (w0 := w0) (F := F) (cs := cs) (lg := lg) who 0 c 0 0 hlen ?s0).mono ?_); (case s0 => (with_reducible repeat (first | apply Holds.alloc | apply Holds.drewN | apply Holds.drew)); exact HS.out); rintro e w1 ⟨rfl, hX⟩; refine ⟨_, rfl, ?_⟩; clear HS; have HS := Aside0.mk hX; clear hX))
  go_ret
  exact ⟨rfl, by (with_reducible repeat (first | apply Holds.alloc | apply Holds.drewN | apply Holds.drew)); exact HS.out⟩

set_option maxHeartbeats 4000000 in
set_option maxRecDepth 100000 in
theorem Add_calls {w0 w : World} {F : List HObj} {g : Nat} {cs : List Int} {lg : List Ev} (who c x : Int) (hlen : Aside0 (lg.length ≤ 1000000)) (h : Holds w0 w (MemO w0.heap.size g cs lg :: F)) :
    Calls Try.prog 20 #[.pointer (some ⟨g, 0, none⟩), .int .i64 who, .int .i64 c, .int .u64 x] w fun e w' => e = .returned (.int .u64 (peek cs c)) ∧ Holds w0 w' (MemO w0.heap.size g (cellsT cs 3 c 0 x) (logT cs lg who 3 c 0 x) :: F) := by
  have HS := Aside0.mk h
  clear h
  go_enter Try.func20, Try.ntmps20
  go_wp2_with (first | ((with_reducible refine gate_callee (f := 38) rfl ?_); (try (refine gate_guard (by rfl) ?_; dsimp only)); refine goesL_ (some 16) rfl rfl Try.func38 (by kernel_rfl) rfl #[.pointer (some ⟨g, 0, none⟩), .int .i64 who, .int .i64 3, .int .i64 c, .int .u64 0, .int .u64 x] rfl (by (try simp only [List.map_toArray, List.map_cons, List.map_nil]); first | done | rfl) ?_; (with_reducible refine (touch_calls (w0 := w0) (F := F) (cs := cs) (lg := lg) who 3 c 0 x hlen ?s0).mono ?_); (case s0 => (with_reducible repeat (first | apply Holds.alloc | apply Holds.drewN | apply Holds.drew)); exact HS.out); rintro e w1 ⟨rfl, hX⟩; refine ⟨_, rfl, ?_⟩; clear HS; have HS := Aside0.mk hX; clear hX))
  go_ret
  exact ⟨rfl, by (with_reducible repeat (first | apply Holds.alloc | apply Holds.drewN | apply Holds.drew)); exact HS.out⟩

set_option maxHeartbeats 4000000 in
set_option maxRecDepth 100000 in
theorem Swap_calls {w0 w : World} {F : List HObj} {g : Nat} {cs : List Int} {lg : List Ev} (who c old x : Int) (hlen : Aside0 (lg.length ≤ 1000000)) (h : Holds w0 w (MemO w0.heap.size g cs lg :: F)) :
    Calls Try.prog 25 #[.pointer (some ⟨g, 0, none⟩), .int .i64 who, .int .i64 c, .int .u64 old, .int .u64 x] w fun e w' => e = .returned (.bool (okT cs 2 c old)) ∧ Holds w0 w' (MemO w0.heap.size g (cellsT cs 2 c old x) (logT cs lg who 2 c old x) :: F) := by
  have HS := Aside0.mk h
  clear h
  go_enter Try.func25, Try.ntmps25
  go_wp2_with (first | ((with_reducible refine gate_callee (f := 38) rfl ?_); (try (refine gate_guard (by rfl) ?_; dsimp only)); refine goesL_ (some 19) rfl rfl Try.func38 (by kernel_rfl) rfl #[.pointer (some ⟨g, 0, none⟩), .int .i64 who, .int .i64 2, .int .i64 c, .int .u64 old, .int .u64 x] rfl (by (try simp only [List.map_toArray, List.map_cons, List.map_nil]); first | done | rfl) ?_; (with_reducible refine (touch_calls (w0 := w0) (F := F) (cs := cs) (lg := lg) who 2 c old x hlen ?s0).mono ?_); (case s0 => (with_reducible repeat (first | apply Holds.alloc | apply Holds.drewN | apply Holds.drew)); exact HS.out); rintro e w1 ⟨rfl, hX⟩; refine ⟨_, rfl, ?_⟩; clear HS; have HS := Aside0.mk hX; clear hX))
  go_ret
  exact ⟨rfl, by (with_reducible repeat (first | apply Holds.alloc | apply Holds.drewN | apply Holds.drew)); exact HS.out⟩

set_option maxHeartbeats 4000000 in
set_option maxRecDepth 100000 in
theorem Store_calls {w0 w : World} {F : List HObj} {g : Nat} {cs : List Int} {lg : List Ev} (who c x : Int) (hlen : Aside0 (lg.length ≤ 1000000)) (h : Holds w0 w (MemO w0.heap.size g cs lg :: F)) :
    Calls Try.prog 23 #[.pointer (some ⟨g, 0, none⟩), .int .i64 who, .int .i64 c, .int .u64 x] w fun e w' => e = .returned (.tuple #[]) ∧ Holds w0 w' (MemO w0.heap.size g (cellsT cs 1 c 0 x) (logT cs lg who 1 c 0 x) :: F) := by
  have HS := Aside0.mk h
  clear h
  go_enter Try.func23, Try.ntmps23
  go_wp2_with (first | ((with_reducible refine gate_callee (f := 38) rfl ?_); (try (refine gate_guard (by rfl) ?_; dsimp only)); refine goesL_ (some 12) rfl rfl Try.func38 (by kernel_rfl) rfl #[.pointer (some ⟨g, 0, none⟩), .int .i64 who, .int .i64 1, .int .i64 c, .int .u64 0, .int .u64 x] rfl (by (try simp only [List.map_toArray, List.map_cons, List.map_nil]); first | done | rfl) ?_; (with_reducible refine (touch_calls (w0 := w0) (F := F) (cs := cs) (lg := lg) who 1 c 0 x hlen ?s0).mono ?_); (case s0 => (with_reducible repeat (first | apply Holds.alloc | apply Holds.drewN | apply Holds.drew)); exact HS.out); rintro e w1 ⟨rfl, hX⟩; refine ⟨_, rfl, ?_⟩; clear HS; have HS := Aside0.mk hX; clear hX))
  first | go_end0 | ((try simp only [Exit.inBlock, Exit.then]); refine bodyPost_ret (results_none rfl _ _ _) rfl ?_)
  exact ⟨rfl, by (with_reducible repeat (first | apply Holds.alloc | apply Holds.drewN | apply Holds.drew)); exact HS.out⟩

set_option maxHeartbeats 4000000 in
set_option maxRecDepth 100000 in
theorem New_calls {w0 w : World} {F : List HObj} (n : Int) (h : Holds w0 w F) :
    Calls Try.prog 19 #[.int .i64 n] w fun e w' => ∃ g, e = .returned (.pointer (some ⟨g, 0, none⟩)) ∧ Holds w0 w' (MemO w0.heap.size g (List.replicate (mx 0 (mn n 65536)).toNat 0) [] :: F) := by
  have HS := Aside0.mk h
  clear h
  have M0 : Aside0 (0 ≤ mx 0 (mn n 65536)) := ⟨by unfold mx mn; split <;> split <;> omega⟩
  have M1 : Aside0 ((mx 0 (mn n 65536)).toNat * 8 ≤ 281474976710656) := ⟨by unfold mx mn; split <;> split <;> omega⟩
  go_enter Try.func19, Try.ntmps19
  go_wp2_with (first | ((with_reducible refine gate_dst (N := 6) rfl ?_); refine Kd.R_make (Kd.int .u64) (w0 := w0) w0.heap.size 26 ?hgd (N := 6) ?hd 22 (.tmp 5) (.tmp 5) ?ho (mx 0 (mn n 65536)) ?hx ?hy Try.underlying22 (.int .u64 0) 8 infoU rfl (by decide) (by omega) (0 : Int) (ok := fun _ => True) (okp := fun _ => False) ?hz (fun _ hk => hk.elim) trivial ?h0 ?hl ?hB ?hS ?_; (case hgd => rfl); (case hd => rfl); (case ho => rfl); (case hx => rfl); (case hy => rfl); (case hz => exact rfl); (case h0 => exact M0.out); (case hl => exact M1.out); (case hB => exact HS.out.below); (case hS => exact HS.out.size); intro v1 w1 hR1 hB1 hG1 hat1; have n0_ := Aside0.mk (Holds.row_new (flat_int _) HS.out hR1 hG1 (fun k hk => by obtain ⟨b, hb, hbb⟩ := hat1; rw [hb] at hk; injection hk with hk; omega)); obtain ⟨A1, d1, hv1⟩ := Kd.R_slice hR1; subst hv1; clear hR1 hB1 hG1 hat1; clear HS; have HS := n0_; clear n0_) | ((with_reducible refine gate_dst (N := 8) rfl ?_); refine box_event ?hg (N := 8) ?hd (cs := #[.slice A1 (List.replicate (mx 0 (mn n 65536)).toNat (0 : Int)).length d1, .slice none 0 0]) (t := 66) ?hr ?_; (case hd => rfl); (case hg => rfl); (case hr => first | (go_simp; done) | (go_simp; rfl)); intro gb hg w2 hbox hb; have n0_ := Aside0.mk (Holds.box (T := 66) HS.out hb hbox hg); clear hbox hb hg; clear HS; have HS := n0_; clear n0_))
  all_goals go_ret
  all_goals exact ⟨_, rfl, mem_close (Holds.row_nil HS.out).mv1.mv2.mv1⟩

/-- The same, what comes of it named. -/
theorem Load_to {w0 w : World} {F : List HObj} {g : Nat} {cs : List Int} {lg : List Ev} (who c : Int) (cs' : List Int) (lg' : List Ev) (r : Int) (hlen : Aside0 (lg.length ≤ 1000000)) (hc : cellsT cs 0 c 0 0 = cs') (hl : logT cs lg who 0 c 0 0 = lg') (hr : peek cs c = r) (h : Holds w0 w (MemO w0.heap.size g cs lg :: F)) :
    Calls Try.prog 40 #[.pointer (some ⟨g, 0, none⟩), .int .i64 who, .int .i64 c] w fun e w' => e = .returned (.int .u64 r) ∧ Holds w0 w' (MemO w0.heap.size g cs' lg' :: F) := by
  subst hc hl hr
  exact Load_calls who c hlen h

/-- The same, what comes of it named. -/
theorem Add_to {w0 w : World} {F : List HObj} {g : Nat} {cs : List Int} {lg : List Ev} (who c x : Int) (cs' : List Int) (lg' : List Ev) (r : Int) (hlen : Aside0 (lg.length ≤ 1000000)) (hc : cellsT cs 3 c 0 x = cs') (hl : logT cs lg who 3 c 0 x = lg') (hr : peek cs c = r) (h : Holds w0 w (MemO w0.heap.size g cs lg :: F)) :
    Calls Try.prog 20 #[.pointer (some ⟨g, 0, none⟩), .int .i64 who, .int .i64 c, .int .u64 x] w fun e w' => e = .returned (.int .u64 r) ∧ Holds w0 w' (MemO w0.heap.size g cs' lg' :: F) := by
  subst hc hl hr
  exact Add_calls who c x hlen h

/-- The same, what comes of it named. -/
theorem Swap_to {w0 w : World} {F : List HObj} {g : Nat} {cs : List Int} {lg : List Ev} (who c old x : Int) (cs' : List Int) (lg' : List Ev) (r : Bool) (hlen : Aside0 (lg.length ≤ 1000000)) (hc : cellsT cs 2 c old x = cs') (hl : logT cs lg who 2 c old x = lg') (hr : okT cs 2 c old = r) (h : Holds w0 w (MemO w0.heap.size g cs lg :: F)) :
    Calls Try.prog 25 #[.pointer (some ⟨g, 0, none⟩), .int .i64 who, .int .i64 c, .int .u64 old, .int .u64 x] w fun e w' => e = .returned (.bool r) ∧ Holds w0 w' (MemO w0.heap.size g cs' lg' :: F) := by
  subst hc hl hr
  exact Swap_calls who c old x hlen h

/-- The same, what comes of it named. -/
theorem Store_to {w0 w : World} {F : List HObj} {g : Nat} {cs : List Int} {lg : List Ev} (who c x : Int) (cs' : List Int) (lg' : List Ev) (hlen : Aside0 (lg.length ≤ 1000000)) (hc : cellsT cs 1 c 0 x = cs') (hl : logT cs lg who 1 c 0 x = lg') (h : Holds w0 w (MemO w0.heap.size g cs lg :: F)) :
    Calls Try.prog 23 #[.pointer (some ⟨g, 0, none⟩), .int .i64 who, .int .i64 c, .int .u64 x] w fun e w' => e = .returned (.tuple #[]) ∧ Holds w0 w' (MemO w0.heap.size g cs' lg' :: F) := by
  subst hc hl
  exact Store_calls who c x hlen h

theorem New_to {w0 w : World} {F : List HObj} (n : Int) (m : Nat) (hm : (mx 0 (mn n 65536)).toNat = m) (h : Holds w0 w F) :
    Calls Try.prog 19 #[.int .i64 n] w fun e w' => ∃ g, e = .returned (.pointer (some ⟨g, 0, none⟩)) ∧ Holds w0 w' (MemO w0.heap.size g (List.replicate m 0) [] :: F) := by
  subst hm
  exact New_calls n h
theorem Peek_to {w0 w : World} {F : List HObj} {g : Nat} {cs : List Int} {lg : List Ev} (c r : Int) (hr : peek cs c = r) (h : Holds w0 w (MemO w0.heap.size g cs lg :: F)) :
    Calls Try.prog 21 #[.pointer (some ⟨g, 0, none⟩), .int .i64 c] w fun e w' => e = .returned (.int .u64 r) ∧ Holds w0 w' (MemO w0.heap.size g cs lg :: F) := by
  subst hr
  exact Peek_calls c h

theorem Len_to {w0 w : World} {F : List HObj} {g : Nat} {cs : List Int} {lg : List Ev} (r : Int) (hr : (cs.length : Int) = r) (h : Holds w0 w (MemO w0.heap.size g cs lg :: F)) :
    Calls Try.prog 24 #[.pointer (some ⟨g, 0, none⟩)] w fun e w' => e = .returned (.int .i64 r) ∧ Holds w0 w' (MemO w0.heap.size g cs lg :: F) := by
  subst hr
  exact Len_calls h

theorem Count_to {w0 w : World} {F : List HObj} {g : Nat} {cs : List Int} {lg : List Ev} (r : Int) (hr : (lg.length : Int) = r) (h : Holds w0 w (MemO w0.heap.size g cs lg :: F)) :
    Calls Try.prog 22 #[.pointer (some ⟨g, 0, none⟩)] w fun e w' => e = .returned (.int .i64 r) ∧ Holds w0 w' (MemO w0.heap.size g cs lg :: F) := by
  subst hr
  exact Count_calls h

theorem New_as {w0 w : World} {F : List HObj} (n : Int) (C : List Int) (hm : List.replicate (mx 0 (mn n 65536)).toNat 0 = C) (h : Holds w0 w F) :
    Calls Try.prog 19 #[.int .i64 n] w fun e w' => ∃ g, e = .returned (.pointer (some ⟨g, 0, none⟩)) ∧ Holds w0 w' (MemO w0.heap.size g C [] :: F) := by
  subst hm
  exact New_calls n h

end Go.Proofs.Ytlimmmnpcomfjaa.Mem