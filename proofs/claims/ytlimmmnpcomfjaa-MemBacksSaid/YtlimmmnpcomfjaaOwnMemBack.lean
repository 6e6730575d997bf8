/- mem.Back: cells that come of events alone. A lemma file for the laws over mem. -/
import Derived.Test.YtlimmmnpcomfjaaOwnMemLog
import Derived.Test.YtlimmmnpcomfjaaOwnSep2
import Derived.WalkKit
import Derived.KernelRfl
import Derived.BigQuiet
import Derived.WideLaws
import Derived.Deep.LoopGhost
import Derived.Deep.DeepCutAuto
import Derived.Deep.QuietTactic
import Derived.OwnWalk
set_option linter.unusedVariables false
set_option linter.unusedSimpArgs false
namespace Go.Proofs.Ytlimmmnpcomfjaa.Mem
open Go.RowKit Go.Proofs.YtlimmmnpcomfjaaW.PrintWords Go.Proofs.YtlimmmnpcomfjaaW.PrintLast Go.Proofs.YtlimmmnpcomfjaaW.PrintMore Go.Proofs.Ytlimmmnpcomfjaa.Sep
attribute [local go_sem] max2_int min2_int max_two min_two max_three min_three max_four min_four
attribute [local go_sem high] eqEv

theorem back_w64 {a : Int} (h0 : -9223372036854775808 ≤ a) (h1 : a ≤ 9223372036854775807) : wrap64 a = a := by
  unfold wrap64
  omega
theorem back_wu (a : Int) : IntKind.u64.wrap a = a % 18446744073709551616 := by
  simp [IntKind.wrap, IntKind.bits, IntKind.signed]
/-- May an event be the next one, at these cells? -/
def stepOk (cs : List Int) (e : Ev) : Bool := decide (0 ≤ e.op) && (decide (e.op ≤ 3) && (inR cs e.cell && (e.old == rd cs e.cell && ((e.op == 2 || e.ok) && ((!(e.op == 0) && e.ok) || e.new == rd cs e.cell)))))
def runE : List Int → List Ev → Option (List Int)
  | cs, [] => some cs
  | cs, e :: l => if stepOk cs e = true then runE (cs.set e.cell.toNat e.new) l else none
def oldOf (e : Ev) : Int := if e.op = 2 ∧ e.ok = false then IntKind.u64.wrap (e.old + 1) else e.old
def nextOf (e : Ev) : Int := if e.op = 3 then IntKind.u64.wrap (e.new - e.old) else e.new
def evt (cs : List Int) (e : Ev) : Ev := ⟨e.who, e.op, e.cell, rd cs e.cell, nxt e.op (rd cs e.cell) (oldOf e) (nextOf e), okk e.op (rd cs e.cell) (oldOf e)⟩
def eqB (x y : Ev) : Bool := (x.who == y.who && (x.op == y.op && (x.cell == y.cell && (x.old == y.old && (x.new == y.new && (x.ok == y.ok))))))
theorem wu_add {a b : Int} (h : IntKind.u64.wrap b = b) : IntKind.u64.wrap (a + IntKind.u64.wrap (b - a)) = b := by
  rw [back_wu] at *
  rw [back_wu]
  omega
theorem wu_ne (a : Int) : a ≠ IntKind.u64.wrap (a + 1) := by
  rw [back_wu]
  omega
theorem evt_eq {cs : List Int} {e : Ev} (hr : inR cs e.cell = true) (h0 : 0 ≤ e.op) (h3 : e.op ≤ 3) (hw : e.op = 3 → IntKind.u64.wrap e.new = e.new) : eqB (evt cs e) e = stepOk cs e := by
  obtain ⟨who, op, c, old, new, ok⟩ := e
  dsimp only at *
  have hm : op = 0 ∨ op = 1 ∨ op = 2 ∨ op = 3 := by omega
  rw [Bool.eq_iff_iff]
  unfold eqB evt stepOk oldOf nextOf nxt okk
  dsimp only
  rw [hr]
  generalize rd cs c = was
  have a1 := wu_ne was
  have a2 := fun h : IntKind.u64.wrap new = new => wu_add (a := was) h
  rcases hm with rfl | rfl | rfl | rfl
  · cases ok <;> simp <;> omega
  · cases ok <;> simp <;> omega
  · cases ok
    · by_cases h1 : was = old
      · subst h1
        have a3 : ¬ (was = IntKind.u64.wrap (was + 1)) := a1
        simp [a3]
        omega
      · simp [h1]
        omega
    · by_cases h1 : was = old
      · subst h1
        simp
      · simp [h1]
        omega
  · have a3 := a2 (hw rfl)
    by_cases h1 : was = old
    · subst h1
      cases ok <;> simp [a3]
    · simp [h1]
      omega
theorem eqB_iff {x y : Ev} : eqB x y = true ↔ x = y := by
  obtain ⟨a, b, c, d, e, f⟩ := x
  obtain ⟨a', b', c', d', e', f'⟩ := y
  simp [eqB]
theorem cells_evt (cs : List Int) (e : Ev) (hr : inR cs e.cell = true) : cellsT cs e.op e.cell (oldOf e) (nextOf e) = cs.set e.cell.toNat (evt cs e).new := by
  unfold cellsT
  rw [if_pos hr]
  rfl
theorem log_evt (cs : List Int) (lg : List Ev) (e : Ev) (hr : inR cs e.cell = true) : logT cs lg e.who e.op e.cell (oldOf e) (nextOf e) = lg ++ [evt cs e] := by
  unfold logT
  rw [if_pos hr]
  rfl
theorem runE_bad {cs : List Int} {e : Ev} {l : List Ev} (h : stepOk cs e = false) : runE cs (e :: l) = none := by
  unfold runE
  rw [if_neg (by rw [h]; exact Bool.false_ne_true)]
theorem runE_good {cs : List Int} {e : Ev} {l : List Ev} (h : stepOk cs e = true) : runE cs (e :: l) = runE (cs.set e.cell.toNat e.new) l := by
  conv => lhs; unfold runE
  rw [if_pos h]
theorem stepOk_in {cs : List Int} {e : Ev} (h : stepOk cs e = true) : 0 ≤ e.op ∧ e.op ≤ 3 ∧ inR cs e.cell = true := by
  unfold stepOk at h
  simp only [Bool.and_eq_true, decide_eq_true_eq] at h
  exact ⟨h.1, h.2.1, h.2.2.1⟩
theorem drop_at {xs : List Ev} {i : Int} (h0 : 0 ≤ i) (h1 : i < (xs.length : Int)) : xs.drop i.toNat = rdEv xs i :: xs.drop (i + 1).toNat := by
  rw [show (i + 1).toNat = i.toNat + 1 by omega]
  unfold rdEv
  rw [List.getD_eq_getElem?_getD, List.getElem?_eq_getElem (by omega : i.toNat < xs.length)]
  exact List.drop_eq_getElem_cons (by omega)
theorem take_at {xs : List Ev} {i : Int} (h0 : 0 ≤ i) (h1 : i < (xs.length : Int)) : xs.take (i + 1).toNat = xs.take i.toNat ++ [rdEv xs i] := by
  rw [show (i + 1).toNat = i.toNat + 1 by omega]
  unfold rdEv
  rw [List.getD_eq_getElem?_getD, List.getElem?_eq_getElem (by omega : i.toNat < xs.length)]
  simp [List.take_add_one]
theorem rdEv_mem {xs : List Ev} {i : Int} (h0 : 0 ≤ i) (h1 : i < (xs.length : Int)) : rdEv xs i ∈ xs := by
  unfold rdEv
  rw [List.getD_eq_getElem?_getD, List.getElem?_eq_getElem (by omega : i.toNat < xs.length)]
  exact List.getElem_mem _
theorem rdEv_last (lg : List Ev) (E : Ev) : rdEv (lg ++ [E]) (lg.length : Int) = E := by
  unfold rdEv
  simp

theorem touch_at {w0 w : World} {F : List HObj} {g : Nat} {cs : List Int} {lg L : List Ev} (a : Ev) (old next : Int) (hr : inR cs a.cell = true) (ho : oldOf a = old) (hn : nextOf a = next) (hL : lg ++ [evt cs a] = L) (hlen : Aside0 (lg.length ≤ 1000000)) (h : Holds w0 w (MemO w0.heap.size g cs lg :: F)) :
    Calls Try.prog 38 #[.pointer (some ⟨g, 0, none⟩), .int .i64 a.who, .int .i64 a.op, .int .i64 a.cell, .int .u64 old, .int .u64 next] w fun e w' => ∃ x b, e = .returned (.tuple #[.int .u64 x, .bool b]) ∧ Holds w0 w' (MemO w0.heap.size g (cs.set a.cell.toNat (evt cs a).new) L :: F) := by
  subst ho hn
  refine (touch_calls a.who a.op a.cell (oldOf a) (nextOf a) hlen h).mono ?_
  rintro e w' ⟨rfl, hX⟩
  rw [cells_evt cs a hr, log_evt cs lg a hr, hL] at hX
  exact ⟨_, _, rfl, hX⟩

set_option maxHeartbeats 60000000 in
set_option maxRecDepth 100000 in
theorem Back_start {w : World} {A : Option Addr} {c : Nat} {xs : List Ev} (n : Int) (C0 : List Int) (hC0 : List.replicate (mx 0 (mn n 65536)).toNat (0 : Int) = C0) (hr0 : Kd.C kEv w A xs.length xs) (hlen : Aside0 (xs.length ≤ 1000)) (hw3 : ∀ e ∈ xs, e.op = 3 → IntKind.u64.wrap e.new = e.new) :
    Calls Try.prog 37 #[.int .i64 n, .slice A xs.length c] w fun e w' => ∃ g cs lg, e = .returned (.tuple #[.pointer (some ⟨g, 0, none⟩), .bool (runE C0 xs).isSome]) ∧ Holds w w' [MemO w.heap.size g cs lg] ∧ (∀ C', runE C0 xs = some C' → cs = C' ∧ lg = xs) := by
  have HR0 := Aside0.mk hr0
  have HC0 := Aside0.mk hC0
  have HW := Aside0.mk hw3
  clear hr0 hC0 hw3
  have HS := Aside0.mk (Holds.start w)
  go_enter Try.func37, Try.ntmps37
  go_wp2_with (first | ((with_reducible refine gate_callee (f := 19) rfl ?_); (try (refine gate_guard (by rfl) ?_; dsimp only)); (refine goesL_ (some 12) rfl rfl Try.func19 (by kernel_rfl) rfl #[.int .i64 n] rfl (by (try simp only [List.map_toArray, List.map_cons, List.map_nil]); first | done | rfl) ?_); (with_reducible refine (New_as (w0 := w) (F := []) n C0 ?p0 ?s0).mono ?_); (case s0 => (with_reducible repeat (first | apply Holds.alloc | apply Holds.drewN | apply Holds.drew)); exact HS.out); (case p0 => exact HC0.out); rintro e w1 ⟨g, rfl, hX⟩; refine ⟨_, rfl, ?_⟩; clear HS; have HS := Aside0.mk hX; clear hX))
  go_loopg [15] xs.length (fun kq v15 w' => ∃ (i : Int) (cs : List Int) (lg : List Ev), v15 = .int .i64 i ∧ Aside0 (0 ≤ i ∧ i ≤ (xs.length : Int) ∧ (xs.length : Int) - i = kq ∧ lg = xs.take i.toNat ∧ runE cs (xs.drop i.toNat) = runE C0 xs) ∧ Aside0 (Holds w w' (MemO w.heap.size g cs lg :: [])))
  case atStart => exact ⟨0, C0, [], rfl, ⟨by simp⟩, HS⟩
  case round =>
    clear HS
    obtain ⟨i, cs, lg, rfl, HI, HS⟩ := hrel
    by_cases hi : i < (xs.length : Int)
    · have hb : decide (i < (xs.length : Int)) = true := decide_eq_true hi
      have p0 : 0 ≤ i := HI.out.1
      have HI2 := Aside0.mk hi
      obtain ⟨ad, e, hx0, hx1, hx2, hx3, hx4, hx5⟩ := at_Ev (HS.out.old HR0.out) i p0 hi
      cases e
      have HD : Aside0 (runE cs (rdEv xs i :: xs.drop (i + 1).toNat) = runE C0 xs) := ⟨by rw [← drop_at p0 hi]; exact HI.out.2.2.2.2⟩
      have HT : Aside0 (lg = xs.take i.toNat ∧ xs.take (i + 1).toNat = xs.take i.toNat ++ [rdEv xs i]) := ⟨HI.out.2.2.2.1, take_at p0 hi⟩
      have HW3 : Aside0 ((rdEv xs i).op = 3 → IntKind.u64.wrap (rdEv xs i).new = (rdEv xs i).new) := ⟨HW.out _ (rdEv_mem p0 hi)⟩
      generalize rdEv xs i = a at hx0 hx1 hx2 hx3 hx4 hx5 HD HT HW3
      have hlen2 : Aside0 (lg.length ≤ 1000000) := ⟨by have := hlen.out; rw [HI.out.2.2.2.1, List.length_take]; omega⟩
      replace p0 := eq_true p0
      replace hi := eq_true hi
      by_cases h0 : a.op < 0
      · have t0 : decide (a.op < 0) = true := decide_eq_true h0
        have H0 := Aside0.mk h0
        clear h0
        have HN : Aside0 (runE C0 xs = none) := ⟨by rw [← HD.out]; exact runE_bad (by unfold stepOk; rw [decide_eq_false (by have := H0.out; omega)]; rfl)⟩
        go_wp2_with (first | ((with_reducible refine gate_dst (N := 8) rfl ?_); refine box_event ?hg (N := 8) ?hd (cs := #[.int .i64 0, .int .i64 0, .int .i64 0, .int .u64 0, .int .u64 0, .bool false]) (t := 58) ?hr ?_; (case hd => rfl); (case hg => rfl); (case hr => first | (go_simp; done) | (go_simp; rfl)); intro gb hg w3 hbox hb; have n0_ := Aside0.mk (Holds.box (T := 58) HS.out hb hbox hg); clear hbox hb hg; clear HS; have HS := n0_; clear n0_; have hcb0 : w3.cell? ⟨gb, 0, none⟩ = some (.int .i64 0) := (HS.out.cell 0).trans rfl; have hfb0 := HS.out.frozen 0; have hcb1 : w3.cell? ⟨gb, 1, none⟩ = some (.int .i64 0) := (HS.out.cell 1).trans rfl; have hfb1 := HS.out.frozen 1; have hcb2 : w3.cell? ⟨gb, 2, none⟩ = some (.int .i64 0) := (HS.out.cell 2).trans rfl; have hfb2 := HS.out.frozen 2; have hcb3 : w3.cell? ⟨gb, 3, none⟩ = some (.int .u64 0) := (HS.out.cell 3).trans rfl; have hfb3 := HS.out.frozen 3; have hcb4 : w3.cell? ⟨gb, 4, none⟩ = some (.int .u64 0) := (HS.out.cell 4).trans rfl; have hfb4 := HS.out.frozen 4; have hcb5 : w3.cell? ⟨gb, 5, none⟩ = some (.bool false) := (HS.out.cell 5).trans rfl; have hfb5 := HS.out.frozen 5))
        repeat (go_quiet (fail); try go_wp2)
        go_ret2
        exact ⟨g, cs, lg, by rw [HN.out]; rfl, by (with_reducible repeat (first | apply Holds.alloc | apply Holds.drewN | apply Holds.drew)); exact ((((((HS.out.set 0 (.int .i64 a.who) rfl).set 1 (.int .i64 a.op) rfl).set 2 (.int .i64 a.cell) rfl).set 3 (.int .u64 a.old) rfl).set 4 (.int .u64 a.new) rfl).set 5 (.bool a.ok) rfl).drop, fun C' h => by rw [HN.out] at h; cases h⟩
      by_cases h3 : 3 < a.op
      · have t0 : decide (a.op < 0) = false := decide_eq_false h0
        have t1 : decide (3 < a.op) = true := decide_eq_true h3
        have H3 := Aside0.mk h3
        clear h0 h3
        have HN : Aside0 (runE C0 xs = none) := ⟨by rw [← HD.out]; exact runE_bad (by unfold stepOk; rw [decide_eq_false (p := a.op ≤ 3) (by have := H3.out; omega)]; simp)⟩
        go_wp2_with (first | ((with_reducible refine gate_dst (N := 8) rfl ?_); refine box_event ?hg (N := 8) ?hd (cs := #[.int .i64 0, .int .i64 0, .int .i64 0, .int .u64 0, .int .u64 0, .bool false]) (t := 58) ?hr ?_; (case hd => rfl); (case hg => rfl); (case hr => first | (go_simp; done) | (go_simp; rfl)); intro gb hg w3 hbox hb; have n0_ := Aside0.mk (Holds.box (T := 58) HS.out hb hbox hg); clear hbox hb hg; clear HS; have HS := n0_; clear n0_; have hcb0 : w3.cell? ⟨gb, 0, none⟩ = some (.int .i64 0) := (HS.out.cell 0).trans rfl; have hfb0 := HS.out.frozen 0; have hcb1 : w3.cell? ⟨gb, 1, none⟩ = some (.int .i64 0) := (HS.out.cell 1).trans rfl; have hfb1 := HS.out.frozen 1; have hcb2 : w3.cell? ⟨gb, 2, none⟩ = some (.int .i64 0) := (HS.out.cell 2).trans rfl; have hfb2 := HS.out.frozen 2; have hcb3 : w3.cell? ⟨gb, 3, none⟩ = some (.int .u64 0) := (HS.out.cell 3).trans rfl; have hfb3 := HS.out.frozen 3; have hcb4 : w3.cell? ⟨gb, 4, none⟩ = some (.int .u64 0) := (HS.out.cell 4).trans rfl; have hfb4 := HS.out.frozen 4; have hcb5 : w3.cell? ⟨gb, 5, none⟩ = some (.bool false) := (HS.out.cell 5).trans rfl; have hfb5 := HS.out.frozen 5))
        repeat (go_quiet (fail); try go_wp2)
        go_ret2
        exact ⟨g, cs, lg, by rw [HN.out]; rfl, by (with_reducible repeat (first | apply Holds.alloc | apply Holds.drewN | apply Holds.drew)); exact ((((((HS.out.set 0 (.int .i64 a.who) rfl).set 1 (.int .i64 a.op) rfl).set 2 (.int .i64 a.cell) rfl).set 3 (.int .u64 a.old) rfl).set 4 (.int .u64 a.new) rfl).set 5 (.bool a.ok) rfl).drop, fun C' h => by rw [HN.out] at h; cases h⟩
      have t0 : decide (a.op < 0) = false := decide_eq_false h0
      have t1 : decide (3 < a.op) = false := decide_eq_false h3
      have H03 : Aside0 (0 ≤ a.op ∧ a.op ≤ 3) := ⟨by omega⟩
      clear h0 h3
      by_cases hin : inR cs a.cell = true
      · have HR := Aside0.mk hin
        obtain ⟨E, hE⟩ : ∃ E, evt cs a = E := ⟨_, rfl⟩
        obtain ⟨L, hL⟩ : ∃ L, lg ++ [evt cs a] = L := ⟨_, rfl⟩
        obtain ⟨k, hk⟩ : ∃ k, (lg.length : Int) = k := ⟨_, rfl⟩
        have hLl : (L.length : Int) = k + 1 := by rw [← hL, List.length_append, ← hk]; rfl
        have hkb : 0 ≤ k ∧ k ≤ 1000000 := by have := hlen2.out; omega
        have hkw : wrap64 ((L.length : Int) - 1) = k := by rw [hLl, back_w64 (by omega) (by omega)]; omega
        have hkx : IntKind.i64.wrap ((L.length : Int) - 1) = k := by rw [hLl, show k + 1 - 1 = k by omega, IntKind.wrap_i64]; omega
        have hk0 : Aside0 (0 ≤ k) := ⟨by omega⟩
        have hk1 : Aside0 (k < (L.length : Int)) := ⟨by omega⟩
        have hkE : Aside0 (rdEv L k = E) := ⟨by rw [← hL, ← hk, ← hE]; exact rdEv_last _ _⟩
        have HE := Aside0.mk hE
        have HL := Aside0.mk hL
        have q0 := eq_true hk0.out
        have q1 := eq_true hk1.out
        clear hE hL hk hLl hkb
        by_cases h3 : a.op = 3
        · have t2 : (a.op == 3) = true := beq_iff_eq.2 h3
          have t3 : (a.op == 2) = false := beq_eq_false_iff_ne.2 (by omega)
          have h2 : ¬ a.op = 2 := by omega
          have HO : Aside0 (oldOf a = a.old) := ⟨by unfold oldOf; rw [if_neg (fun h => h2 h.1)]⟩
          have HNX : Aside0 (nextOf a = IntKind.u64.wrap (a.new - a.old)) := ⟨by unfold nextOf; rw [if_pos h3]⟩
          try clear h2
          try clear h3
          try clear hok
          by_cases hs : stepOk cs a = true
          · have hq : (E.who == a.who && (E.op == a.op && (E.cell == a.cell && (E.old == a.old && (E.new == a.new && (E.ok == a.ok)))))) = true := by have := evt_eq HR.out H03.out.1 H03.out.2 HW3.out; rw [HE.out, hs] at this; exact this
            have HSK := Aside0.mk hs
            clear hs
            go_wp2_with (first | ((with_reducible refine gate_dst (N := 8) rfl ?_); refine box_event ?hg (N := 8) ?hd (cs := #[.int .i64 0, .int .i64 0, .int .i64 0, .int .u64 0, .int .u64 0, .bool false]) (t := 58) ?hr ?_; (case hd => rfl); (case hg => rfl); (case hr => first | (go_simp; done) | (go_simp; rfl)); intro gb hg w3 hbox hb; have n0_ := Aside0.mk (Holds.box (T := 58) HS.out hb hbox hg); clear hbox hb hg; clear HS; have HS := n0_; clear n0_; have hcb0 : w3.cell? ⟨gb, 0, none⟩ = some (.int .i64 0) := (HS.out.cell 0).trans rfl; have hfb0 := HS.out.frozen 0; have hcb1 : w3.cell? ⟨gb, 1, none⟩ = some (.int .i64 0) := (HS.out.cell 1).trans rfl; have hfb1 := HS.out.frozen 1; have hcb2 : w3.cell? ⟨gb, 2, none⟩ = some (.int .i64 0) := (HS.out.cell 2).trans rfl; have hfb2 := HS.out.frozen 2; have hcb3 : w3.cell? ⟨gb, 3, none⟩ = some (.int .u64 0) := (HS.out.cell 3).trans rfl; have hfb3 := HS.out.frozen 3; have hcb4 : w3.cell? ⟨gb, 4, none⟩ = some (.int .u64 0) := (HS.out.cell 4).trans rfl; have hfb4 := HS.out.frozen 4; have hcb5 : w3.cell? ⟨gb, 5, none⟩ = some (.bool false) := (HS.out.cell 5).trans rfl; have hfb5 := HS.out.frozen 5) | ((with_reducible refine gate_callee (f := 39) rfl ?_); (try (refine gate_guard (by rfl) ?_; dsimp only)); (refine goesL_ (some 31) rfl rfl Try.func39 (by kernel_rfl) rfl #[.pointer (some ⟨g, 0, none⟩), .int .i64 a.cell] rfl (by (try simp only [List.map_toArray, List.map_cons, List.map_nil]); first | done | rfl) ?_); (with_reducible refine (there_calls (w0 := w) (F := Pt gb 58 #[.int .i64 a.who, .int .i64 a.op, .int .i64 a.cell, .int .u64 a.old, .int .u64 a.new, .bool a.ok] :: []) (cs := cs) (lg := lg) a.cell ?s0).mono ?_); (case s0 => exact ((((((HS.out.set 0 (.int .i64 a.who) rfl).set 1 (.int .i64 a.op) rfl).set 2 (.int .i64 a.cell) rfl).set 3 (.int .u64 a.old) rfl).set 4 (.int .u64 a.new) rfl).set 5 (.bool a.ok) rfl).mv1); rintro e w4 ⟨rfl, hX⟩; refine ⟨_, rfl, ?_⟩; clear HS; have HS := Aside0.mk hX; clear hX; have hcq0 : w4.cell? ⟨gb, 0, none⟩ = some (.int .i64 a.who) := (HS.out.mv1.cell 0).trans rfl; have hcq1 : w4.cell? ⟨gb, 1, none⟩ = some (.int .i64 a.op) := (HS.out.mv1.cell 1).trans rfl; have hcq2 : w4.cell? ⟨gb, 2, none⟩ = some (.int .i64 a.cell) := (HS.out.mv1.cell 2).trans rfl; have hcq3 : w4.cell? ⟨gb, 3, none⟩ = some (.int .u64 a.old) := (HS.out.mv1.cell 3).trans rfl; have hcq4 : w4.cell? ⟨gb, 4, none⟩ = some (.int .u64 a.new) := (HS.out.mv1.cell 4).trans rfl; have hcq5 : w4.cell? ⟨gb, 5, none⟩ = some (.bool a.ok) := (HS.out.mv1.cell 5).trans rfl) | ((with_reducible refine gate_callee (f := 38) rfl ?_); (try (refine gate_guard (by rfl) ?_; dsimp only)); (refine goesL_ (some 65) rfl rfl Try.func38 (by kernel_rfl) rfl #[.pointer (some ⟨g, 0, none⟩), .int .i64 a.who, .int .i64 a.op, .int .i64 a.cell, .int .u64 (a.old), .int .u64 (IntKind.u64.wrap (a.new - a.old))] rfl (by (try simp only [List.map_toArray, List.map_cons, List.map_nil]); first | done | rfl) ?_); (with_reducible refine (touch_at (w0 := w) (F := Pt gb 58 #[.int .i64 a.who, .int .i64 a.op, .int .i64 a.cell, .int .u64 a.old, .int .u64 a.new, .bool a.ok] :: []) (cs := cs) (lg := lg) (L := L) a (a.old) (IntKind.u64.wrap (a.new - a.old)) HR.out ?o0 ?n0 HL.out hlen2 ?s0).mono ?_); (case s0 => exact HS.out); (case o0 => exact HO.out); (case n0 => exact HNX.out); rintro e w5 ⟨xr, br, rfl, hX⟩; refine ⟨_, rfl, ?_⟩; clear HS; have HS := Aside0.mk hX; clear hX; obtain ⟨A1, cA1, B1, cB1, hcA1, hcB1, h1⟩ := mem_open HS.out; have hcz1 : w5.cell? ⟨g, 1, none⟩ = some (.slice B1 L.length cB1) := (h1.cell 1).trans rfl; obtain ⟨B2, cB2, hB2, _, hC2⟩ := h1.mv2.row_slice; injection hB2 with hB3 hB4 hB5; subst hB3; clear hB4 hB5; obtain ⟨ae, e2, hy0, hy1, hy2, hy3, hy4, hy5⟩ := at_Ev hC2 k hk0.out hk1.out; rw [hkE.out] at hy0 hy1 hy2 hy3 hy4 hy5; clear hC2 h1; cases e2; have hcs0 : w5.cell? ⟨gb, 0, none⟩ = some (.int .i64 a.who) := (HS.out.mv1.cell 0).trans rfl; have hcs1 : w5.cell? ⟨gb, 1, none⟩ = some (.int .i64 a.op) := (HS.out.mv1.cell 1).trans rfl; have hcs2 : w5.cell? ⟨gb, 2, none⟩ = some (.int .i64 a.cell) := (HS.out.mv1.cell 2).trans rfl; have hcs3 : w5.cell? ⟨gb, 3, none⟩ = some (.int .u64 a.old) := (HS.out.mv1.cell 3).trans rfl; have hcs4 : w5.cell? ⟨gb, 4, none⟩ = some (.int .u64 a.new) := (HS.out.mv1.cell 4).trans rfl; have hcs5 : w5.cell? ⟨gb, 5, none⟩ = some (.bool a.ok) := (HS.out.mv1.cell 5).trans rfl))
            repeat (go_quiet (fail); try go_wp2)
            go_roundg (gk - 1)
            case measure => have := HI.out; have := HI2.out; omega
            case rel =>
              have h1 := HI.out
              have h2 := HI2.out
              have h3 := hlen.out
              have hEa : evt cs a = a := eqB_iff.1 (by rw [evt_eq HR.out H03.out.1 H03.out.2 HW3.out]; exact HSK.out)
              exact ⟨i + 1, cs.set a.cell.toNat a.new, L, by rw [back_w64 (by omega) (by omega)], ⟨⟨by omega, by omega, by omega, by rw [← HL.out, hEa, HT.out.1, HT.out.2], by rw [← runE_good HSK.out]; exact HD.out⟩⟩, ⟨by (with_reducible repeat (first | apply Holds.alloc | apply Holds.drewN | apply Holds.drew)); have h9 := HS.out.mv1.drop; rw [hEa] at h9; exact h9⟩⟩
          · have hs := Bool.eq_false_iff.mpr hs
            have hq : (E.who == a.who && (E.op == a.op && (E.cell == a.cell && (E.old == a.old && (E.new == a.new && (E.ok == a.ok)))))) = false := by have := evt_eq HR.out H03.out.1 H03.out.2 HW3.out; rw [HE.out, hs] at this; exact this
            have HSK := Aside0.mk hs
            clear hs
            have HN : Aside0 (runE C0 xs = none) := ⟨by rw [← HD.out]; exact runE_bad (HSK.out)⟩
            go_wp2_with (first | ((with_reducible refine gate_dst (N := 8) rfl ?_); refine box_event ?hg (N := 8) ?hd (cs := #[.int .i64 0, .int .i64 0, .int .i64 0, .int .u64 0, .int .u64 0, .bool false]) (t := 58) ?hr ?_; (case hd => rfl); (case hg => rfl); (case hr => first | (go_simp; done) | (go_simp; rfl)); intro gb hg w3 hbox hb; have n0_ := Aside0.mk (Holds.box (T := 58) HS.out hb hbox hg); clear hbox hb hg; clear HS; have HS := n0_; clear n0_; have hcb0 : w3.cell? ⟨gb, 0, none⟩ = some (.int .i64 0) := (HS.out.cell 0).trans rfl; have hfb0 := HS.out.frozen 0; have hcb1 : w3.cell? ⟨gb, 1, none⟩ = some (.int .i64 0) := (HS.out.cell 1).trans rfl; have hfb1 := HS.out.frozen 1; have hcb2 : w3.cell? ⟨gb, 2, none⟩ = some (.int .i64 0) := (HS.out.cell 2).trans rfl; have hfb2 := HS.out.frozen 2; have hcb3 : w3.cell? ⟨gb, 3, none⟩ = some (.int .u64 0) := (HS.out.cell 3).trans rfl; have hfb3 := HS.out.frozen 3; have hcb4 : w3.cell? ⟨gb, 4, none⟩ = some (.int .u64 0) := (HS.out.cell 4).trans rfl; have hfb4 := HS.out.frozen 4; have hcb5 : w3.cell? ⟨gb, 5, none⟩ = some (.bool false) := (HS.out.cell 5).trans rfl; have hfb5 := HS.out.frozen 5) | ((with_reducible refine gate_callee (f := 39) rfl ?_); (try (refine gate_guard (by rfl) ?_; dsimp only)); (refine goesL_ (some 31) rfl rfl Try.func39 (by kernel_rfl) rfl #[.pointer (some ⟨g, 0, none⟩), .int .i64 a.cell] rfl (by (try simp only [List.map_toArray, List.map_cons, List.map_nil]); first | done | rfl) ?_); (with_reducible refine (there_calls (w0 := w) (F := Pt gb 58 #[.int .i64 a.who, .int .i64 a.op, .int .i64 a.cell, .int .u64 a.old, .int .u64 a.new, .bool a.ok] :: []) (cs := cs) (lg := lg) a.cell ?s0).mono ?_); (case s0 => exact ((((((HS.out.set 0 (.int .i64 a.who) rfl).set 1 (.int .i64 a.op) rfl).set 2 (.int .i64 a.cell) rfl).set 3 (.int .u64 a.old) rfl).set 4 (.int .u64 a.new) rfl).set 5 (.bool a.ok) rfl).mv1); rintro e w4 ⟨rfl, hX⟩; refine ⟨_, rfl, ?_⟩; clear HS; have HS := Aside0.mk hX; clear hX; have hcq0 : w4.cell? ⟨gb, 0, none⟩ = some (.int .i64 a.who) := (HS.out.mv1.cell 0).trans rfl; have hcq1 : w4.cell? ⟨gb, 1, none⟩ = some (.int .i64 a.op) := (HS.out.mv1.cell 1).trans rfl; have hcq2 : w4.cell? ⟨gb, 2, none⟩ = some (.int .i64 a.cell) := (HS.out.mv1.cell 2).trans rfl; have hcq3 : w4.cell? ⟨gb, 3, none⟩ = some (.int .u64 a.old) := (HS.out.mv1.cell 3).trans rfl; have hcq4 : w4.cell? ⟨gb, 4, none⟩ = some (.int .u64 a.new) := (HS.out.mv1.cell 4).trans rfl; have hcq5 : w4.cell? ⟨gb, 5, none⟩ = some (.bool a.ok) := (HS.out.mv1.cell 5).trans rfl) | ((with_reducible refine gate_callee (f := 38) rfl ?_); (try (refine gate_guard (by rfl) ?_; dsimp only)); (refine goesL_ (some 65) rfl rfl Try.func38 (by kernel_rfl) rfl #[.pointer (some ⟨g, 0, none⟩), .int .i64 a.who, .int .i64 a.op, .int .i64 a.cell, .int .u64 (a.old), .int .u64 (IntKind.u64.wrap (a.new - a.old))] rfl (by (try simp only [List.map_toArray, List.map_cons, List.map_nil]); first | done | rfl) ?_); (with_reducible refine (touch_at (w0 := w) (F := Pt gb 58 #[.int .i64 a.who, .int .i64 a.op, .int .i64 a.cell, .int .u64 a.old, .int .u64 a.new, .bool a.ok] :: []) (cs := cs) (lg := lg) (L := L) a (a.old) (IntKind.u64.wrap (a.new - a.old)) HR.out ?o0 ?n0 HL.out hlen2 ?s0).mono ?_); (case s0 => exact HS.out); (case o0 => exact HO.out); (case n0 => exact HNX.out); rintro e w5 ⟨xr, br, rfl, hX⟩; refine ⟨_, rfl, ?_⟩; clear HS; have HS := Aside0.mk hX; clear hX; obtain ⟨A1, cA1, B1, cB1, hcA1, hcB1, h1⟩ := mem_open HS.out; have hcz1 : w5.cell? ⟨g, 1, none⟩ = some (.slice B1 L.length cB1) := (h1.cell 1).trans rfl; obtain ⟨B2, cB2, hB2, _, hC2⟩ := h1.mv2.row_slice; injection hB2 with hB3 hB4 hB5; subst hB3; clear hB4 hB5; obtain ⟨ae, e2, hy0, hy1, hy2, hy3, hy4, hy5⟩ := at_Ev hC2 k hk0.out hk1.out; rw [hkE.out] at hy0 hy1 hy2 hy3 hy4 hy5; clear hC2 h1; cases e2; have hcs0 : w5.cell? ⟨gb, 0, none⟩ = some (.int .i64 a.who) := (HS.out.mv1.cell 0).trans rfl; have hcs1 : w5.cell? ⟨gb, 1, none⟩ = some (.int .i64 a.op) := (HS.out.mv1.cell 1).trans rfl; have hcs2 : w5.cell? ⟨gb, 2, none⟩ = some (.int .i64 a.cell) := (HS.out.mv1.cell 2).trans rfl; have hcs3 : w5.cell? ⟨gb, 3, none⟩ = some (.int .u64 a.old) := (HS.out.mv1.cell 3).trans rfl; have hcs4 : w5.cell? ⟨gb, 4, none⟩ = some (.int .u64 a.new) := (HS.out.mv1.cell 4).trans rfl; have hcs5 : w5.cell? ⟨gb, 5, none⟩ = some (.bool a.ok) := (HS.out.mv1.cell 5).trans rfl))
            repeat (go_quiet (fail); try go_wp2)
            go_ret2
            exact ⟨g, _, _, by rw [HN.out]; rfl, by (with_reducible repeat (first | apply Holds.alloc | apply Holds.drewN | apply Holds.drew)); exact HS.out.mv1.drop, fun C' h => by rw [HN.out] at h; cases h⟩
        have t2 : (a.op == 3) = false := beq_eq_false_iff_ne.2 h3
        by_cases h2 : a.op = 2
        · have t3 : (a.op == 2) = true := beq_iff_eq.2 h2
          by_cases hok : a.ok = true
          · have t4 : (!a.ok) = false := by rw [hok]; rfl
            have HO : Aside0 (oldOf a = a.old) := ⟨by unfold oldOf; rw [if_neg (fun h => by rw [hok] at h; cases h.2)]⟩
            have HNX : Aside0 (nextOf a = a.new) := ⟨by unfold nextOf; rw [if_neg h3]⟩
            try clear h2
            try clear h3
            try clear hok
            by_cases hs : stepOk cs a = true
            · have hq : (E.who == a.who && (E.op == a.op && (E.cell == a.cell && (E.old == a.old && (E.new == a.new && (E.ok == a.ok)))))) = true := by have := evt_eq HR.out H03.out.1 H03.out.2 HW3.out; rw [HE.out, hs] at this; exact this
              have HSK := Aside0.mk hs
              clear hs
              go_wp2_with (first | ((with_reducible refine gate_dst (N := 8) rfl ?_); refine box_event ?hg (N := 8) ?hd (cs := #[.int .i64 0, .int .i64 0, .int .i64 0, .int .u64 0, .int .u64 0, .bool false]) (t := 58) ?hr ?_; (case hd => rfl); (case hg => rfl); (case hr => first | (go_simp; done) | (go_simp; rfl)); intro gb hg w3 hbox hb; have n0_ := Aside0.mk (Holds.box (T := 58) HS.out hb hbox hg); clear hbox hb hg; clear HS; have HS := n0_; clear n0_; have hcb0 : w3.cell? ⟨gb, 0, none⟩ = some (.int .i64 0) := (HS.out.cell 0).trans rfl; have hfb0 := HS.out.frozen 0; have hcb1 : w3.cell? ⟨gb, 1, none⟩ = some (.int .i64 0) := (HS.out.cell 1).trans rfl; have hfb1 := HS.out.frozen 1; have hcb2 : w3.cell? ⟨gb, 2, none⟩ = some (.int .i64 0) := (HS.out.cell 2).trans rfl; have hfb2 := HS.out.frozen 2; have hcb3 : w3.cell? ⟨gb, 3, none⟩ = some (.int .u64 0) := (HS.out.cell 3).trans rfl; have hfb3 := HS.out.frozen 3; have hcb4 : w3.cell? ⟨gb, 4, none⟩ = some (.int .u64 0) := (HS.out.cell 4).trans rfl; have hfb4 := HS.out.frozen 4; have hcb5 : w3.cell? ⟨gb, 5, none⟩ = some (.bool false) := (HS.out.cell 5).trans rfl; have hfb5 := HS.out.frozen 5) | ((with_reducible refine gate_callee (f := 39) rfl ?_); (try (refine gate_guard (by rfl) ?_; dsimp only)); (refine goesL_ (some 31) rfl rfl Try.func39 (by kernel_rfl) rfl #[.pointer (some ⟨g, 0, none⟩), .int .i64 a.cell] rfl (by (try simp only [List.map_toArray, List.map_cons, List.map_nil]); first | done | rfl) ?_); (with_reducible refine (there_calls (w0 := w) (F := Pt gb 58 #[.int .i64 a.who, .int .i64 a.op, .int .i64 a.cell, .int .u64 a.old, .int .u64 a.new, .bool a.ok] :: []) (cs := cs) (lg := lg) a.cell ?s0).mono ?_); (case s0 => exact ((((((HS.out.set 0 (.int .i64 a.who) rfl).set 1 (.int .i64 a.op) rfl).set 2 (.int .i64 a.cell) rfl).set 3 (.int .u64 a.old) rfl).set 4 (.int .u64 a.new) rfl).set 5 (.bool a.ok) rfl).mv1); rintro e w4 ⟨rfl, hX⟩; refine ⟨_, rfl, ?_⟩; clear HS; have HS := Aside0.mk hX; clear hX; have hcq0 : w4.cell? ⟨gb, 0, none⟩ = some (.int .i64 a.who) := (HS.out.mv1.cell 0).trans rfl; have hcq1 : w4.cell? ⟨gb, 1, none⟩ = some (.int .i64 a.op) := (HS.out.mv1.cell 1).trans rfl; have hcq2 : w4.cell? ⟨gb, 2, none⟩ = some (.int .i64 a.cell) := (HS.out.mv1.cell 2).trans rfl; have hcq3 : w4.cell? ⟨gb, 3, none⟩ = some (.int .u64 a.old) := (HS.out.mv1.cell 3).trans rfl; have hcq4 : w4.cell? ⟨gb, 4, none⟩ = some (.int .u64 a.new) := (HS.out.mv1.cell 4).trans rfl; have hcq5 : w4.cell? ⟨gb, 5, none⟩ = some (.bool a.ok) := (HS.out.mv1.cell 5).trans rfl) | ((with_reducible refine gate_callee (f := 38) rfl ?_); (try (refine gate_guard (by rfl) ?_; dsimp only)); (refine goesL_ (some 65) rfl rfl Try.func38 (by kernel_rfl) rfl #[.pointer (some ⟨g, 0, none⟩), .int .i64 a.who, .int .i64 a.op, .int .i64 a.cell, .int .u64 (a.old), .int .u64 (a.new)] rfl (by (try simp only [List.map_toArray, List.map_cons, List.map_nil]); first | done | rfl) ?_); (with_reducible refine (touch_at (w0 := w) (F := Pt gb 58 #[.int .i64 a.who, .int .i64 a.op, .int .i64 a.cell, .int .u64 a.old, .int .u64 a.new, .bool a.ok] :: []) (cs := cs) (lg := lg) (L := L) a (a.old) (a.new) HR.out ?o0 ?n0 HL.out hlen2 ?s0).mono ?_); (case s0 => exact HS.out); (case o0 => exact HO.out); (case n0 => exact HNX.out); rintro e w5 ⟨xr, br, rfl, hX⟩; refine ⟨_, rfl, ?_⟩; clear HS; have HS := Aside0.mk hX; clear hX; obtain ⟨A1, cA1, B1, cB1, hcA1, hcB1, h1⟩ := mem_open HS.out; have hcz1 : w5.cell? ⟨g, 1, none⟩ = some (.slice B1 L.length cB1) := (h1.cell 1).trans rfl; obtain ⟨B2, cB2, hB2, _, hC2⟩ := h1.mv2.row_slice; injection hB2 with hB3 hB4 hB5; subst hB3; clear hB4 hB5; obtain ⟨ae, e2, hy0, hy1, hy2, hy3, hy4, hy5⟩ := at_Ev hC2 k hk0.out hk1.out; rw [hkE.out] at hy0 hy1 hy2 hy3 hy4 hy5; clear hC2 h1; cases e2; have hcs0 : w5.cell? ⟨gb, 0, none⟩ = some (.int .i64 a.who) := (HS.out.mv1.cell 0).trans rfl; have hcs1 : w5.cell? ⟨gb, 1, none⟩ = some (.int .i64 a.op) := (HS.out.mv1.cell 1).trans rfl; have hcs2 : w5.cell? ⟨gb, 2, none⟩ = some (.int .i64 a.cell) := (HS.out.mv1.cell 2).trans rfl; have hcs3 : w5.cell? ⟨gb, 3, none⟩ = some (.int .u64 a.old) := (HS.out.mv1.cell 3).trans rfl; have hcs4 : w5.cell? ⟨gb, 4, none⟩ = some (.int .u64 a.new) := (HS.out.mv1.cell 4).trans rfl; have hcs5 : w5.cell? ⟨gb, 5, none⟩ = some (.bool a.ok) := (HS.out.mv1.cell 5).trans rfl))
              repeat (go_quiet (fail); try go_wp2)
              go_roundg (gk - 1)
              case measure => have := HI.out; have := HI2.out; omega
              case rel =>
                have h1 := HI.out
                have h2 := HI2.out
                have h3 := hlen.out
                have hEa : evt cs a = a := eqB_iff.1 (by rw [evt_eq HR.out H03.out.1 H03.out.2 HW3.out]; exact HSK.out)
                exact ⟨i + 1, cs.set a.cell.toNat a.new, L, by rw [back_w64 (by omega) (by omega)], ⟨⟨by omega, by omega, by omega, by rw [← HL.out, hEa, HT.out.1, HT.out.2], by rw [← runE_good HSK.out]; exact HD.out⟩⟩, ⟨by (with_reducible repeat (first | apply Holds.alloc | apply Holds.drewN | apply Holds.drew)); have h9 := HS.out.mv1.drop; rw [hEa] at h9; exact h9⟩⟩
            · have hs := Bool.eq_false_iff.mpr hs
              have hq : (E.who == a.who && (E.op == a.op && (E.cell == a.cell && (E.old == a.old && (E.new == a.new && (E.ok == a.ok)))))) = false := by have := evt_eq HR.out H03.out.1 H03.out.2 HW3.out; rw [HE.out, hs] at this; exact this
              have HSK := Aside0.mk hs
              clear hs
              have HN : Aside0 (runE C0 xs = none) := ⟨by rw [← HD.out]; exact runE_bad (HSK.out)⟩
              go_wp2_with (first | ((with_reducible refine gate_dst (N := 8) rfl ?_); refine box_event ?hg (N := 8) ?hd (cs := #[.int .i64 0, .int .i64 0, .int .i64 0, .int .u64 0, .int .u64 0, .bool false]) (t := 58) ?hr ?_; (case hd => rfl); (case hg => rfl); (case hr => first | (go_simp; done) | (go_simp; rfl)); intro gb hg w3 hbox hb; have n0_ := Aside0.mk (Holds.box (T := 58) HS.out hb hbox hg); clear hbox hb hg; clear HS; have HS := n0_; clear n0_; have hcb0 : w3.cell? ⟨gb, 0, none⟩ = some (.int .i64 0) := (HS.out.cell 0).trans rfl; have hfb0 := HS.out.frozen 0; have hcb1 : w3.cell? ⟨gb, 1, none⟩ = some (.int .i64 0) := (HS.out.cell 1).trans rfl; have hfb1 := HS.out.frozen 1; have hcb2 : w3.cell? ⟨gb, 2, none⟩ = some (.int .i64 0) := (HS.out.cell 2).trans rfl; have hfb2 := HS.out.frozen 2; have hcb3 : w3.cell? ⟨gb, 3, none⟩ = some (.int .u64 0) := (HS.out.cell 3).trans rfl; have hfb3 := HS.out.frozen 3; have hcb4 : w3.cell? ⟨gb, 4, none⟩ = some (.int .u64 0) := (HS.out.cell 4).trans rfl; have hfb4 := HS.out.frozen 4; have hcb5 : w3.cell? ⟨gb, 5, none⟩ = some (.bool false) := (HS.out.cell 5).trans rfl; have hfb5 := HS.out.frozen 5) | ((with_reducible refine gate_callee (f := 39) rfl ?_); (try (refine gate_guard (by rfl) ?_; dsimp only)); (refine goesL_ (some 31) rfl rfl Try.func39 (by kernel_rfl) rfl #[.pointer (some ⟨g, 0, none⟩), .int .i64 a.cell] rfl (by (try simp only [List.map_toArray, List.map_cons, List.map_nil]); first | done | rfl) ?_); (with_reducible refine (there_calls (w0 := w) (F := Pt gb 58 #[.int .i64 a.who, .int .i64 a.op, .int .i64 a.cell, .int .u64 a.old, .int .u64 a.new, .bool a.ok] :: []) (cs := cs) (lg := lg) a.cell ?s0).mono ?_); (case s0 => exact ((((((HS.out.set 0 (.int .i64 a.who) rfl).set 1 (.int .i64 a.op) rfl).set 2 (.int .i64 a.cell) rfl).set 3 (.int .u64 a.old) rfl).set 4 (.int .u64 a.new) rfl).set 5 (.bool a.ok) rfl).mv1); rintro e w4 ⟨rfl, hX⟩; refine ⟨_, rfl, ?_⟩; clear HS; have HS := Aside0.mk hX; clear hX; have hcq0 : w4.cell? ⟨gb, 0, none⟩ = some (.int .i64 a.who) := (HS.out.mv1.cell 0).trans rfl; have hcq1 : w4.cell? ⟨gb, 1, none⟩ = some (.int .i64 a.op) := (HS.out.mv1.cell 1).trans rfl; have hcq2 : w4.cell? ⟨gb, 2, none⟩ = some (.int .i64 a.cell) := (HS.out.mv1.cell 2).trans rfl; have hcq3 : w4.cell? ⟨gb, 3, none⟩ = some (.int .u64 a.old) := (HS.out.mv1.cell 3).trans rfl; have hcq4 : w4.cell? ⟨gb, 4, none⟩ = some (.int .u64 a.new) := (HS.out.mv1.cell 4).trans rfl; have hcq5 : w4.cell? ⟨gb, 5, none⟩ = some (.bool a.ok) := (HS.out.mv1.cell 5).trans rfl) | ((with_reducible refine gate_callee (f := 38) rfl ?_); (try (refine gate_guard (by rfl) ?_; dsimp only)); (refine goesL_ (some 65) rfl rfl Try.func38 (by kernel_rfl) rfl #[.pointer (some ⟨g, 0, none⟩), .int .i64 a.who, .int .i64 a.op, .int .i64 a.cell, .int .u64 (a.old), .int .u64 (a.new)] rfl (by (try simp only [List.map_toArray, List.map_cons, List.map_nil]); first | done | rfl) ?_); (with_reducible refine (touch_at (w0 := w) (F := Pt gb 58 #[.int .i64 a.who, .int .i64 a.op, .int .i64 a.cell, .int .u64 a.old, .int .u64 a.new, .bool a.ok] :: []) (cs := cs) (lg := lg) (L := L) a (a.old) (a.new) HR.out ?o0 ?n0 HL.out hlen2 ?s0).mono ?_); (case s0 => exact HS.out); (case o0 => exact HO.out); (case n0 => exact HNX.out); rintro e w5 ⟨xr, br, rfl, hX⟩; refine ⟨_, rfl, ?_⟩; clear HS; have HS := Aside0.mk hX; clear hX; obtain ⟨A1, cA1, B1, cB1, hcA1, hcB1, h1⟩ := mem_open HS.out; have hcz1 : w5.cell? ⟨g, 1, none⟩ = some (.slice B1 L.length cB1) := (h1.cell 1).trans rfl; obtain ⟨B2, cB2, hB2, _, hC2⟩ := h1.mv2.row_slice; injection hB2 with hB3 hB4 hB5; subst hB3; clear hB4 hB5; obtain ⟨ae, e2, hy0, hy1, hy2, hy3, hy4, hy5⟩ := at_Ev hC2 k hk0.out hk1.out; rw [hkE.out] at hy0 hy1 hy2 hy3 hy4 hy5; clear hC2 h1; cases e2; have hcs0 : w5.cell? ⟨gb, 0, none⟩ = some (.int .i64 a.who) := (HS.out.mv1.cell 0).trans rfl; have hcs1 : w5.cell? ⟨gb, 1, none⟩ = some (.int .i64 a.op) := (HS.out.mv1.cell 1).trans rfl; have hcs2 : w5.cell? ⟨gb, 2, none⟩ = some (.int .i64 a.cell) := (HS.out.mv1.cell 2).trans rfl; have hcs3 : w5.cell? ⟨gb, 3, none⟩ = some (.int .u64 a.old) := (HS.out.mv1.cell 3).trans rfl; have hcs4 : w5.cell? ⟨gb, 4, none⟩ = some (.int .u64 a.new) := (HS.out.mv1.cell 4).trans rfl; have hcs5 : w5.cell? ⟨gb, 5, none⟩ = some (.bool a.ok) := (HS.out.mv1.cell 5).trans rfl))
              repeat (go_quiet (fail); try go_wp2)
              go_ret2
              exact ⟨g, _, _, by rw [HN.out]; rfl, by (with_reducible repeat (first | apply Holds.alloc | apply Holds.drewN | apply Holds.drew)); exact HS.out.mv1.drop, fun C' h => by rw [HN.out] at h; cases h⟩
          · replace hok := Bool.eq_false_iff.mpr hok
            have t4 : (!a.ok) = true := by rw [hok]; rfl
            have HO : Aside0 (oldOf a = IntKind.u64.wrap (a.old + 1)) := ⟨by unfold oldOf; rw [if_pos ⟨h2, hok⟩]⟩
            have HNX : Aside0 (nextOf a = a.new) := ⟨by unfold nextOf; rw [if_neg h3]⟩
            try clear h2
            try clear h3
            try clear hok
            by_cases hs : stepOk cs a = true
            · have hq : (E.who == a.who && (E.op == a.op && (E.cell == a.cell && (E.old == a.old && (E.new == a.new && (E.ok == a.ok)))))) = true := by have := evt_eq HR.out H03.out.1 H03.out.2 HW3.out; rw [HE.out, hs] at this; exact this
              have HSK := Aside0.mk hs
              clear hs
              go_wp2_with (first | ((with_reducible refine gate_dst (N := 8) rfl ?_); refine box_event ?hg (N := 8) ?hd (cs := #[.int .i64 0, .int .i64 0, .int .i64 0, .int .u64 0, .int .u64 0, .bool false]) (t := 58) ?hr ?_; (case hd => rfl); (case hg => rfl); (case hr => first | (go_simp; done) | (go_simp; rfl)); intro gb hg w3 hbox hb; have n0_ := Aside0.mk (Holds.box (T := 58) HS.out hb hbox hg); clear hbox hb hg; clear HS; have HS := n0_; clear n0_; have hcb0 : w3.cell? ⟨gb, 0, none⟩ = some (.int .i64 0) := (HS.out.cell 0).trans rfl; have hfb0 := HS.out.frozen 0; have hcb1 : w3.cell? ⟨gb, 1, none⟩ = some (.int .i64 0) := (HS.out.cell 1).trans rfl; have hfb1 := HS.out.frozen 1; have hcb2 : w3.cell? ⟨gb, 2, none⟩ = some (.int .i64 0) := (HS.out.cell 2).trans rfl; have hfb2 := HS.out.frozen 2; have hcb3 : w3.cell? ⟨gb, 3, none⟩ = some (.int .u64 0) := (HS.out.cell 3).trans rfl; have hfb3 := HS.out.frozen 3; have hcb4 : w3.cell? ⟨gb, 4, none⟩ = some (.int .u64 0) := (HS.out.cell 4).trans rfl; have hfb4 := HS.out.frozen 4; have hcb5 : w3.cell? ⟨gb, 5, none⟩ = some (.bool false) := (HS.out.cell 5).trans rfl; have hfb5 := HS.out.frozen 5) | ((with_reducible refine gate_callee (f := 39) rfl ?_); (try (refine gate_guard (by rfl) ?_; dsimp only)); (refine goesL_ (some 31) rfl rfl Try.func39 (by kernel_rfl) rfl #[.pointer (some ⟨g, 0, none⟩), .int .i64 a.cell] rfl (by (try simp only [List.map_toArray, List.map_cons, List.map_nil]); first | done | rfl) ?_); (with_reducible refine (there_calls (w0 := w) (F := Pt gb 58 #[.int .i64 a.who, .int .i64 a.op, .int .i64 a.cell, .int .u64 a.old, .int .u64 a.new, .bool a.ok] :: []) (cs := cs) (lg := lg) a.cell ?s0).mono ?_); (case s0 => exact ((((((HS.out.set 0 (.int .i64 a.who) rfl).set 1 (.int .i64 a.op) rfl).set 2 (.int .i64 a.cell) rfl).set 3 (.int .u64 a.old) rfl).set 4 (.int .u64 a.new) rfl).set 5 (.bool a.ok) rfl).mv1); rintro e w4 ⟨rfl, hX⟩; refine ⟨_, rfl, ?_⟩; clear HS; have HS := Aside0.mk hX; clear hX; have hcq0 : w4.cell? ⟨gb, 0, none⟩ = some (.int .i64 a.who) := (HS.out.mv1.cell 0).trans rfl; have hcq1 : w4.cell? ⟨gb, 1, none⟩ = some (.int .i64 a.op) := (HS.out.mv1.cell 1).trans rfl; have hcq2 : w4.cell? ⟨gb, 2, none⟩ = some (.int .i64 a.cell) := (HS.out.mv1.cell 2).trans rfl; have hcq3 : w4.cell? ⟨gb, 3, none⟩ = some (.int .u64 a.old) := (HS.out.mv1.cell 3).trans rfl; have hcq4 : w4.cell? ⟨gb, 4, none⟩ = some (.int .u64 a.new) := (HS.out.mv1.cell 4).trans rfl; have hcq5 : w4.cell? ⟨gb, 5, none⟩ = some (.bool a.ok) := (HS.out.mv1.cell 5).trans rfl) | ((with_reducible refine gate_callee (f := 38) rfl ?_); (try (refine gate_guard (by rfl) ?_; dsimp only)); (refine goesL_ (some 65) rfl rfl Try.func38 (by kernel_rfl) rfl #[.pointer (some ⟨g, 0, none⟩), .int .i64 a.who, .int .i64 a.op, .int .i64 a.cell, .int .u64 (IntKind.u64.wrap (a.old + 1)), .int .u64 (a.new)] rfl (by (try simp only [List.map_toArray, List.map_cons, List.map_nil]); first | done | rfl) ?_); (with_reducible refine (touch_at (w0 := w) (F := Pt gb 58 #[.int .i64 a.who, .int .i64 a.op, .int .i64 a.cell, .int .u64 a.old, .int .u64 a.new, .bool a.ok] :: []) (cs := cs) (lg := lg) (L := L) a (IntKind.u64.wrap (a.old + 1)) (a.new) HR.out ?o0 ?n0 HL.out hlen2 ?s0).mono ?_); (case s0 => exact HS.out); (case o0 => exact HO.out); (case n0 => exact HNX.out); rintro e w5 ⟨xr, br, rfl, hX⟩; refine ⟨_, rfl, ?_⟩; clear HS; have HS := Aside0.mk hX; clear hX; obtain ⟨A1, cA1, B1, cB1, hcA1, hcB1, h1⟩ := mem_open HS.out; have hcz1 : w5.cell? ⟨g, 1, none⟩ = some (.slice B1 L.length cB1) := (h1.cell 1).trans rfl; obtain ⟨B2, cB2, hB2, _, hC2⟩ := h1.mv2.row_slice; injection hB2 with hB3 hB4 hB5; subst hB3; clear hB4 hB5; obtain ⟨ae, e2, hy0, hy1, hy2, hy3, hy4, hy5⟩ := at_Ev hC2 k hk0.out hk1.out; rw [hkE.out] at hy0 hy1 hy2 hy3 hy4 hy5; clear hC2 h1; cases e2; have hcs0 : w5.cell? ⟨gb, 0, none⟩ = some (.int .i64 a.who) := (HS.out.mv1.cell 0).trans rfl; have hcs1 : w5.cell? ⟨gb, 1, none⟩ = some (.int .i64 a.op) := (HS.out.mv1.cell 1).trans rfl; have hcs2 : w5.cell? ⟨gb, 2, none⟩ = some (.int .i64 a.cell) := (HS.out.mv1.cell 2).trans rfl; have hcs3 : w5.cell? ⟨gb, 3, none⟩ = some (.int .u64 a.old) := (HS.out.mv1.cell 3).trans rfl; have hcs4 : w5.cell? ⟨gb, 4, none⟩ = some (.int .u64 a.new) := (HS.out.mv1.cell 4).trans rfl; have hcs5 : w5.cell? ⟨gb, 5, none⟩ = some (.bool a.ok) := (HS.out.mv1.cell 5).trans rfl))
              repeat (go_quiet (fail); try go_wp2)
              go_roundg (gk - 1)
              case measure => have := HI.out; have := HI2.out; omega
              case rel =>
                have h1 := HI.out
                have h2 := HI2.out
                have h3 := hlen.out
                have hEa : evt cs a = a := eqB_iff.1 (by rw [evt_eq HR.out H03.out.1 H03.out.2 HW3.out]; exact HSK.out)
                exact ⟨i + 1, cs.set a.cell.toNat a.new, L, by rw [back_w64 (by omega) (by omega)], ⟨⟨by omega, by omega, by omega, by rw [← HL.out, hEa, HT.out.1, HT.out.2], by rw [← runE_good HSK.out]; exact HD.out⟩⟩, ⟨by (with_reducible repeat (first | apply Holds.alloc | apply Holds.drewN | apply Holds.drew)); have h9 := HS.out.mv1.drop; rw [hEa] at h9; exact h9⟩⟩
            · have hs := Bool.eq_false_iff.mpr hs
              have hq : (E.who == a.who && (E.op == a.op && (E.cell == a.cell && (E.old == a.old && (E.new == a.new && (E.ok == a.ok)))))) = false := by have := evt_eq HR.out H03.out.1 H03.out.2 HW3.out; rw [HE.out, hs] at this; exact this
              have HSK := Aside0.mk hs
              clear hs
              have HN : Aside0 (runE C0 xs = none) := ⟨by rw [← HD.out]; exact runE_bad (HSK.out)⟩
              go_wp2_with (first | ((with_reducible refine gate_dst (N := 8) rfl ?_); refine box_event ?hg (N := 8) ?hd (cs := #[.int .i64 0, .int .i64 0, .int .i64 0, .int .u64 0, .int .u64 0, .bool false]) (t := 58) ?hr ?_; (case hd => rfl); (case hg => rfl); (case hr => first | (go_simp; done) | (go_simp; rfl)); intro gb hg w3 hbox hb; have n0_ := Aside0.mk (Holds.box (T := 58) HS.out hb hbox hg); clear hbox hb hg; clear HS; have HS := n0_; clear n0_; have hcb0 : w3.cell? ⟨gb, 0, none⟩ = some (.int .i64 0) := (HS.out.cell 0).trans rfl; have hfb0 := HS.out.frozen 0; have hcb1 : w3.cell? ⟨gb, 1, none⟩ = some (.int .i64 0) := (HS.out.cell 1).trans rfl; have hfb1 := HS.out.frozen 1; have hcb2 : w3.cell? ⟨gb, 2, none⟩ = some (.int .i64 0) := (HS.out.cell 2).trans rfl; have hfb2 := HS.out.frozen 2; have hcb3 : w3.cell? ⟨gb, 3, none⟩ = some (.int .u64 0) := (HS.out.cell 3).trans rfl; have hfb3 := HS.out.frozen 3; have hcb4 : w3.cell? ⟨gb, 4, none⟩ = some (.int .u64 0) := (HS.out.cell 4).trans rfl; have hfb4 := HS.out.frozen 4; have hcb5 : w3.cell? ⟨gb, 5, none⟩ = some (.bool false) := (HS.out.cell 5).trans rfl; have hfb5 := HS.out.frozen 5) | ((with_reducible refine gate_callee (f := 39) rfl ?_); (try (refine gate_guard (by rfl) ?_; dsimp only)); (refine goesL_ (some 31) rfl rfl Try.func39 (by kernel_rfl) rfl #[.pointer (some ⟨g, 0, none⟩), .int .i64 a.cell] rfl (by (try simp only [List.map_toArray, List.map_cons, List.map_nil]); first | done | rfl) ?_); (with_reducible refine (there_calls (w0 := w) (F := Pt gb 58 #[.int .i64 a.who, .int .i64 a.op, .int .i64 a.cell, .int .u64 a.old, .int .u64 a.new, .bool a.ok] :: []) (cs := cs) (lg := lg) a.cell ?s0).mono ?_); (case s0 => exact ((((((HS.out.set 0 (.int .i64 a.who) rfl).set 1 (.int .i64 a.op) rfl).set 2 (.int .i64 a.cell) rfl).set 3 (.int .u64 a.old) rfl).set 4 (.int .u64 a.new) rfl).set 5 (.bool a.ok) rfl).mv1); rintro e w4 ⟨rfl, hX⟩; refine ⟨_, rfl, ?_⟩; clear HS; have HS := Aside0.mk hX; clear hX; have hcq0 : w4.cell? ⟨gb, 0, none⟩ = some (.int .i64 a.who) := (HS.out.mv1.cell 0).trans rfl; have hcq1 : w4.cell? ⟨gb, 1, none⟩ = some (.int .i64 a.op) := (HS.out.mv1.cell 1).trans rfl; have hcq2 : w4.cell? ⟨gb, 2, none⟩ = some (.int .i64 a.cell) := (HS.out.mv1.cell 2).trans rfl; have hcq3 : w4.cell? ⟨gb, 3, none⟩ = some (.int .u64 a.old) := (HS.out.mv1.cell 3).trans rfl; have hcq4 : w4.cell? ⟨gb, 4, none⟩ = some (.int .u64 a.new) := (HS.out.mv1.cell 4).trans rfl; have hcq5 : w4.cell? ⟨gb, 5, none⟩ = some (.bool a.ok) := (HS.out.mv1.cell 5).trans rfl) | ((with_reducible refine gate_callee (f := 38) rfl ?_); (try (refine gate_guard (by rfl) ?_; dsimp only)); (refine goesL_ (some 65) rfl rfl Try.func38 (by kernel_rfl) rfl #[.pointer (some ⟨g, 0, none⟩), .int .i64 a.who, .int .i64 a.op, .int .i64 a.cell, .int .u64 (IntKind.u64.wrap (a.old + 1)), .int .u64 (a.new)] rfl (by (try simp only [List.map_toArray, List.map_cons, List.map_nil]); first | done | rfl) ?_); (with_reducible refine (touch_at (w0 := w) (F := Pt gb 58 #[.int .i64 a.who, .int .i64 a.op, .int .i64 a.cell, .int .u64 a.old, .int .u64 a.new, .bool a.ok] :: []) (cs := cs) (lg := lg) (L := L) a (IntKind.u64.wrap (a.old + 1)) (a.new) HR.out ?o0 ?n0 HL.out hlen2 ?s0).mono ?_); (case s0 => exact HS.out); (case o0 => exact HO.out); (case n0 => exact HNX.out); rintro e w5 ⟨xr, br, rfl, hX⟩; refine ⟨_, rfl, ?_⟩; clear HS; have HS := Aside0.mk hX; clear hX; obtain ⟨A1, cA1, B1, cB1, hcA1, hcB1, h1⟩ := mem_open HS.out; have hcz1 : w5.cell? ⟨g, 1, none⟩ = some (.slice B1 L.length cB1) := (h1.cell 1).trans rfl; obtain ⟨B2, cB2, hB2, _, hC2⟩ := h1.mv2.row_slice; injection hB2 with hB3 hB4 hB5; subst hB3; clear hB4 hB5; obtain ⟨ae, e2, hy0, hy1, hy2, hy3, hy4, hy5⟩ := at_Ev hC2 k hk0.out hk1.out; rw [hkE.out] at hy0 hy1 hy2 hy3 hy4 hy5; clear hC2 h1; cases e2; have hcs0 : w5.cell? ⟨gb, 0, none⟩ = some (.int .i64 a.who) := (HS.out.mv1.cell 0).trans rfl; have hcs1 : w5.cell? ⟨gb, 1, none⟩ = some (.int .i64 a.op) := (HS.out.mv1.cell 1).trans rfl; have hcs2 : w5.cell? ⟨gb, 2, none⟩ = some (.int .i64 a.cell) := (HS.out.mv1.cell 2).trans rfl; have hcs3 : w5.cell? ⟨gb, 3, none⟩ = some (.int .u64 a.old) := (HS.out.mv1.cell 3).trans rfl; have hcs4 : w5.cell? ⟨gb, 4, none⟩ = some (.int .u64 a.new) := (HS.out.mv1.cell 4).trans rfl; have hcs5 : w5.cell? ⟨gb, 5, none⟩ = some (.bool a.ok) := (HS.out.mv1.cell 5).trans rfl))
              repeat (go_quiet (fail); try go_wp2)
              go_ret2
              exact ⟨g, _, _, by rw [HN.out]; rfl, by (with_reducible repeat (first | apply Holds.alloc | apply Holds.drewN | apply Holds.drew)); exact HS.out.mv1.drop, fun C' h => by rw [HN.out] at h; cases h⟩
        have t3 : (a.op == 2) = false := beq_eq_false_iff_ne.2 h2
        have HO : Aside0 (oldOf a = a.old) := ⟨by unfold oldOf; rw [if_neg (fun h => h2 h.1)]⟩
        have HNX : Aside0 (nextOf a = a.new) := ⟨by unfold nextOf; rw [if_neg h3]⟩
        try clear h2
        try clear h3
        try clear hok
        by_cases hs : stepOk cs a = true
        · have hq : (E.who == a.who && (E.op == a.op && (E.cell == a.cell && (E.old == a.old && (E.new == a.new && (E.ok == a.ok)))))) = true := by have := evt_eq HR.out H03.out.1 H03.out.2 HW3.out; rw [HE.out, hs] at this; exact this
          have HSK := Aside0.mk hs
          clear hs
          go_wp2_with (first | ((with_reducible refine gate_dst (N := 8) rfl ?_); refine box_event ?hg (N := 8) ?hd (cs := #[.int .i64 0, .int .i64 0, .int .i64 0, .int .u64 0, .int .u64 0, .bool false]) (t := 58) ?hr ?_; (case hd => rfl); (case hg => rfl); (case hr => first | (go_simp; done) | (go_simp; rfl)); intro gb hg w3 hbox hb; have n0_ := Aside0.mk (Holds.box (T := 58) HS.out hb hbox hg); clear hbox hb hg; clear HS; have HS := n0_; clear n0_; have hcb0 : w3.cell? ⟨gb, 0, none⟩ = some (.int .i64 0) := (HS.out.cell 0).trans rfl; have hfb0 := HS.out.frozen 0; have hcb1 : w3.cell? ⟨gb, 1, none⟩ = some (.int .i64 0) := (HS.out.cell 1).trans rfl; have hfb1 := HS.out.frozen 1; have hcb2 : w3.cell? ⟨gb, 2, none⟩ = some (.int .i64 0) := (HS.out.cell 2).trans rfl; have hfb2 := HS.out.frozen 2; have hcb3 : w3.cell? ⟨gb, 3, none⟩ = some (.int .u64 0) := (HS.out.cell 3).trans rfl; have hfb3 := HS.out.frozen 3; have hcb4 : w3.cell? ⟨gb, 4, none⟩ = some (.int .u64 0) := (HS.out.cell 4).trans rfl; have hfb4 := HS.out.frozen 4; have hcb5 : w3.cell? ⟨gb, 5, none⟩ = some (.bool false) := (HS.out.cell 5).trans rfl; have hfb5 := HS.out.frozen 5) | ((with_reducible refine gate_callee (f := 39) rfl ?_); (try (refine gate_guard (by rfl) ?_; dsimp only)); (refine goesL_ (some 31) rfl rfl Try.func39 (by kernel_rfl) rfl #[.pointer (some ⟨g, 0, none⟩), .int .i64 a.cell] rfl (by (try simp only [List.map_toArray, List.map_cons, List.map_nil]); first | done | rfl) ?_); (with_reducible refine (there_calls (w0 := w) (F := Pt gb 58 #[.int .i64 a.who, .int .i64 a.op, .int .i64 a.cell, .int .u64 a.old, .int .u64 a.new, .bool a.ok] :: []) (cs := cs) (lg := lg) a.cell ?s0).mono ?_); (case s0 => exact ((((((HS.out.set 0 (.int .i64 a.who) rfl).set 1 (.int .i64 a.op) rfl).set 2 (.int .i64 a.cell) rfl).set 3 (.int .u64 a.old) rfl).set 4 (.int .u64 a.new) rfl).set 5 (.bool a.ok) rfl).mv1); rintro e w4 ⟨rfl, hX⟩; refine ⟨_, rfl, ?_⟩; clear HS; have HS := Aside0.mk hX; clear hX; have hcq0 : w4.cell? ⟨gb, 0, none⟩ = some (.int .i64 a.who) := (HS.out.mv1.cell 0).trans rfl; have hcq1 : w4.cell? ⟨gb, 1, none⟩ = some (.int .i64 a.op) := (HS.out.mv1.cell 1).trans rfl; have hcq2 : w4.cell? ⟨gb, 2, none⟩ = some (.int .i64 a.cell) := (HS.out.mv1.cell 2).trans rfl; have hcq3 : w4.cell? ⟨gb, 3, none⟩ = some (.int .u64 a.old) := (HS.out.mv1.cell 3).trans rfl; have hcq4 : w4.cell? ⟨gb, 4, none⟩ = some (.int .u64 a.new) := (HS.out.mv1.cell 4).trans rfl; have hcq5 : w4.cell? ⟨gb, 5, none⟩ = some (.bool a.ok) := (HS.out.mv1.cell 5).trans rfl) | ((with_reducible refine gate_callee (f := 38) rfl ?_); (try (refine gate_guard (by rfl) ?_; dsimp only)); (refine goesL_ (some 65) rfl rfl Try.func38 (by kernel_rfl) rfl #[.pointer (some ⟨g, 0, none⟩), .int .i64 a.who, .int .i64 a.op, .int .i64 a.cell, .int .u64 (a.old), .int .u64 (a.new)] rfl (by (try simp only [List.map_toArray, List.map_cons, List.map_nil]); first | done | rfl) ?_); (with_reducible refine (touch_at (w0 := w) (F := Pt gb 58 #[.int .i64 a.who, .int .i64 a.op, .int .i64 a.cell, .int .u64 a.old, .int .u64 a.new, .bool a.ok] :: []) (cs := cs) (lg := lg) (L := L) a (a.old) (a.new) HR.out ?o0 ?n0 HL.out hlen2 ?s0).mono ?_); (case s0 => exact HS.out); (case o0 => exact HO.out); (case n0 => exact HNX.out); rintro e w5 ⟨xr, br, rfl, hX⟩; refine ⟨_, rfl, ?_⟩; clear HS; have HS := Aside0.mk hX; clear hX; obtain ⟨A1, cA1, B1, cB1, hcA1, hcB1, h1⟩ := mem_open HS.out; have hcz1 : w5.cell? ⟨g, 1, none⟩ = some (.slice B1 L.length cB1) := (h1.cell 1).trans rfl; obtain ⟨B2, cB2, hB2, _, hC2⟩ := h1.mv2.row_slice; injection hB2 with hB3 hB4 hB5; subst hB3; clear hB4 hB5; obtain ⟨ae, e2, hy0, hy1, hy2, hy3, hy4, hy5⟩ := at_Ev hC2 k hk0.out hk1.out; rw [hkE.out] at hy0 hy1 hy2 hy3 hy4 hy5; clear hC2 h1; cases e2; have hcs0 : w5.cell? ⟨gb, 0, none⟩ = some (.int .i64 a.who) := (HS.out.mv1.cell 0).trans rfl; have hcs1 : w5.cell? ⟨gb, 1, none⟩ = some (.int .i64 a.op) := (HS.out.mv1.cell 1).trans rfl; have hcs2 : w5.cell? ⟨gb, 2, none⟩ = some (.int .i64 a.cell) := (HS.out.mv1.cell 2).trans rfl; have hcs3 : w5.cell? ⟨gb, 3, none⟩ = some (.int .u64 a.old) := (HS.out.mv1.cell 3).trans rfl; have hcs4 : w5.cell? ⟨gb, 4, none⟩ = some (.int .u64 a.new) := (HS.out.mv1.cell 4).trans rfl; have hcs5 : w5.cell? ⟨gb, 5, none⟩ = some (.bool a.ok) := (HS.out.mv1.cell 5).trans rfl))
          repeat (go_quiet (fail); try go_wp2)
          go_roundg (gk - 1)
          case measure => have := HI.out; have := HI2.out; omega
          case rel =>
            have h1 := HI.out
            have h2 := HI2.out
            have h3 := hlen.out
            have hEa : evt cs a = a := eqB_iff.1 (by rw [evt_eq HR.out H03.out.1 H03.out.2 HW3.out]; exact HSK.out)
            exact ⟨i + 1, cs.set a.cell.toNat a.new, L, by rw [back_w64 (by omega) (by omega)], ⟨⟨by omega, by omega, by omega, by rw [← HL.out, hEa, HT.out.1, HT.out.2], by rw [← runE_good HSK.out]; exact HD.out⟩⟩, ⟨by (with_reducible repeat (first | apply Holds.alloc | apply Holds.drewN | apply Holds.drew)); have h9 := HS.out.mv1.drop; rw [hEa] at h9; exact h9⟩⟩
        · have hs := Bool.eq_false_iff.mpr hs
          have hq : (E.who == a.who && (E.op == a.op && (E.cell == a.cell && (E.old == a.old && (E.new == a.new && (E.ok == a.ok)))))) = false := by have := evt_eq HR.out H03.out.1 H03.out.2 HW3.out; rw [HE.out, hs] at this; exact this
          have HSK := Aside0.mk hs
          clear hs
          have HN : Aside0 (runE C0 xs = none) := ⟨by rw [← HD.out]; exact runE_bad (HSK.out)⟩
          go_wp2_with (first | ((with_reducible refine gate_dst (N := 8) rfl ?_); refine box_event ?hg (N := 8) ?hd (cs := #[.int .i64 0, .int .i64 0, .int .i64 0, .int .u64 0, .int .u64 0, .bool false]) (t := 58) ?hr ?_; (case hd => rfl); (case hg => rfl); (case hr => first | (go_simp; done) | (go_simp; rfl)); intro gb hg w3 hbox hb; have n0_ := Aside0.mk (Holds.box (T := 58) HS.out hb hbox hg); clear hbox hb hg; clear HS; have HS := n0_; clear n0_; have hcb0 : w3.cell? ⟨gb, 0, none⟩ = some (.int .i64 0) := (HS.out.cell 0).trans rfl; have hfb0 := HS.out.frozen 0; have hcb1 : w3.cell? ⟨gb, 1, none⟩ = some (.int .i64 0) := (HS.out.cell 1).trans rfl; have hfb1 := HS.out.frozen 1; have hcb2 : w3.cell? ⟨gb, 2, none⟩ = some (.int .i64 0) := (HS.out.cell 2).trans rfl; have hfb2 := HS.out.frozen 2; have hcb3 : w3.cell? ⟨gb, 3, none⟩ = some (.int .u64 0) := (HS.out.cell 3).trans rfl; have hfb3 := HS.out.frozen 3; have hcb4 : w3.cell? ⟨gb, 4, none⟩ = some (.int .u64 0) := (HS.out.cell 4).trans rfl; have hfb4 := HS.out.frozen 4; have hcb5 : w3.cell? ⟨gb, 5, none⟩ = some (.bool false) := (HS.out.cell 5).trans rfl; have hfb5 := HS.out.frozen 5) | ((with_reducible refine gate_callee (f := 39) rfl ?_); (try (refine gate_guard (by rfl) ?_; dsimp only)); (refine goesL_ (some 31) rfl rfl Try.func39 (by kernel_rfl) rfl #[.pointer (some ⟨g, 0, none⟩), .int .i64 a.cell] rfl (by (try simp only [List.map_toArray, List.map_cons, List.map_nil]); first | done | rfl) ?_); (with_reducible refine (there_calls (w0 := w) (F := Pt gb 58 #[.int .i64 a.who, .int .i64 a.op, .int .i64 a.cell, .int .u64 a.old, .int .u64 a.new, .bool a.ok] :: []) (cs := cs) (lg := lg) a.cell ?s0).mono ?_); (case s0 => exact ((((((HS.out.set 0 (.int .i64 a.who) rfl).set 1 (.int .i64 a.op) rfl).set 2 (.int .i64 a.cell) rfl).set 3 (.int .u64 a.old) rfl).set 4 (.int .u64 a.new) rfl).set 5 (.bool a.ok) rfl).mv1); rintro e w4 ⟨rfl, hX⟩; refine ⟨_, rfl, ?_⟩; clear HS; have HS := Aside0.mk hX; clear hX; have hcq0 : w4.cell? ⟨gb, 0, none⟩ = some (.int .i64 a.who) := (HS.out.mv1.cell 0).trans rfl; have hcq1 : w4.cell? ⟨gb, 1, none⟩ = some (.int .i64 a.op) := (HS.out.mv1.cell 1).trans rfl; have hcq2 : w4.cell? ⟨gb, 2, none⟩ = some (.int .i64 a.cell) := (HS.out.mv1.cell 2).trans rfl; have hcq3 : w4.cell? ⟨gb, 3, none⟩ = some (.int .u64 a.old) := (HS.out.mv1.cell 3).trans rfl; have hcq4 : w4.cell? ⟨gb, 4, none⟩ = some (.int .u64 a.new) := (HS.out.mv1.cell 4).trans rfl; have hcq5 : w4.cell? ⟨gb, 5, none⟩ = some (.bool a.ok) := (HS.out.mv1.cell 5).trans rfl) | ((with_reducible refine gate_callee (f := 38) rfl ?_); (try (refine gate_guard (by rfl) ?_; dsimp only)); (refine goesL_ (some 65) rfl rfl Try.func38 (by kernel_rfl) rfl #[.pointer (some ⟨g, 0, none⟩), .int .i64 a.who, .int .i64 a.op, .int .i64 a.cell, .int .u64 (a.old), .int .u64 (a.new)] rfl (by (try simp only [List.map_toArray, List.map_cons, List.map_nil]); first | done | rfl) ?_); (with_reducible refine (touch_at (w0 := w) (F := Pt gb 58 #[.int .i64 a.who, .int .i64 a.op, .int .i64 a.cell, .int .u64 a.old, .int .u64 a.new, .bool a.ok] :: []) (cs := cs) (lg := lg) (L := L) a (a.old) (a.new) HR.out ?o0 ?n0 HL.out hlen2 ?s0).mono ?_); (case s0 => exact HS.out); (case o0 => exact HO.out); (case n0 => exact HNX.out); rintro e w5 ⟨xr, br, rfl, hX⟩; refine ⟨_, rfl, ?_⟩; clear HS; have HS := Aside0.mk hX; clear hX; obtain ⟨A1, cA1, B1, cB1, hcA1, hcB1, h1⟩ := mem_open HS.out; have hcz1 : w5.cell? ⟨g, 1, none⟩ = some (.slice B1 L.length cB1) := (h1.cell 1).trans rfl; obtain ⟨B2, cB2, hB2, _, hC2⟩ := h1.mv2.row_slice; injection hB2 with hB3 hB4 hB5; subst hB3; clear hB4 hB5; obtain ⟨ae, e2, hy0, hy1, hy2, hy3, hy4, hy5⟩ := at_Ev hC2 k hk0.out hk1.out; rw [hkE.out] at hy0 hy1 hy2 hy3 hy4 hy5; clear hC2 h1; cases e2; have hcs0 : w5.cell? ⟨gb, 0, none⟩ = some (.int .i64 a.who) := (HS.out.mv1.cell 0).trans rfl; have hcs1 : w5.cell? ⟨gb, 1, none⟩ = some (.int .i64 a.op) := (HS.out.mv1.cell 1).trans rfl; have hcs2 : w5.cell? ⟨gb, 2, none⟩ = some (.int .i64 a.cell) := (HS.out.mv1.cell 2).trans rfl; have hcs3 : w5.cell? ⟨gb, 3, none⟩ = some (.int .u64 a.old) := (HS.out.mv1.cell 3).trans rfl; have hcs4 : w5.cell? ⟨gb, 4, none⟩ = some (.int .u64 a.new) := (HS.out.mv1.cell 4).trans rfl; have hcs5 : w5.cell? ⟨gb, 5, none⟩ = some (.bool a.ok) := (HS.out.mv1.cell 5).trans rfl))
          repeat (go_quiet (fail); try go_wp2)
          go_ret2
          exact ⟨g, _, _, by rw [HN.out]; rfl, by (with_reducible repeat (first | apply Holds.alloc | apply Holds.drewN | apply Holds.drew)); exact HS.out.mv1.drop, fun C' h => by rw [HN.out] at h; cases h⟩
      · have hin := Bool.eq_false_iff.mpr hin
        have HR := Aside0.mk hin
        have HN : Aside0 (runE C0 xs = none) := ⟨by rw [← HD.out]; exact runE_bad (by unfold stepOk; rw [HR.out]; simp)⟩
        go_wp2_with (first | ((with_reducible refine gate_dst (N := 8) rfl ?_); refine box_event ?hg (N := 8) ?hd (cs := #[.int .i64 0, .int .i64 0, .int .i64 0, .int .u64 0, .int .u64 0, .bool false]) (t := 58) ?hr ?_; (case hd => rfl); (case hg => rfl); (case hr => first | (go_simp; done) | (go_simp; rfl)); intro gb hg w3 hbox hb; have n0_ := Aside0.mk (Holds.box (T := 58) HS.out hb hbox hg); clear hbox hb hg; clear HS; have HS := n0_; clear n0_; have hcb0 : w3.cell? ⟨gb, 0, none⟩ = some (.int .i64 0) := (HS.out.cell 0).trans rfl; have hfb0 := HS.out.frozen 0; have hcb1 : w3.cell? ⟨gb, 1, none⟩ = some (.int .i64 0) := (HS.out.cell 1).trans rfl; have hfb1 := HS.out.frozen 1; have hcb2 : w3.cell? ⟨gb, 2, none⟩ = some (.int .i64 0) := (HS.out.cell 2).trans rfl; have hfb2 := HS.out.frozen 2; have hcb3 : w3.cell? ⟨gb, 3, none⟩ = some (.int .u64 0) := (HS.out.cell 3).trans rfl; have hfb3 := HS.out.frozen 3; have hcb4 : w3.cell? ⟨gb, 4, none⟩ = some (.int .u64 0) := (HS.out.cell 4).trans rfl; have hfb4 := HS.out.frozen 4; have hcb5 : w3.cell? ⟨gb, 5, none⟩ = some (.bool false) := (HS.out.cell 5).trans rfl; have hfb5 := HS.out.frozen 5) | ((with_reducible refine gate_callee (f := 39) rfl ?_); (try (refine gate_guard (by rfl) ?_; dsimp only)); (refine goesL_ (some 31) rfl rfl Try.func39 (by kernel_rfl) rfl #[.pointer (some ⟨g, 0, none⟩), .int .i64 a.cell] rfl (by (try simp only [List.map_toArray, List.map_cons, List.map_nil]); first | done | rfl) ?_); (with_reducible refine (there_calls (w0 := w) (F := Pt gb 58 #[.int .i64 a.who, .int .i64 a.op, .int .i64 a.cell, .int .u64 a.old, .int .u64 a.new, .bool a.ok] :: []) (cs := cs) (lg := lg) a.cell ?s0).mono ?_); (case s0 => exact ((((((HS.out.set 0 (.int .i64 a.who) rfl).set 1 (.int .i64 a.op) rfl).set 2 (.int .i64 a.cell) rfl).set 3 (.int .u64 a.old) rfl).set 4 (.int .u64 a.new) rfl).set 5 (.bool a.ok) rfl).mv1); rintro e w4 ⟨rfl, hX⟩; refine ⟨_, rfl, ?_⟩; clear HS; have HS := Aside0.mk hX; clear hX; have hcq0 : w4.cell? ⟨gb, 0, none⟩ = some (.int .i64 a.who) := (HS.out.mv1.cell 0).trans rfl; have hcq1 : w4.cell? ⟨gb, 1, none⟩ = some (.int .i64 a.op) := (HS.out.mv1.cell 1).trans rfl; have hcq2 : w4.cell? ⟨gb, 2, none⟩ = some (.int .i64 a.cell) := (HS.out.mv1.cell 2).trans rfl; have hcq3 : w4.cell? ⟨gb, 3, none⟩ = some (.int .u64 a.old) := (HS.out.mv1.cell 3).trans rfl; have hcq4 : w4.cell? ⟨gb, 4, none⟩ = some (.int .u64 a.new) := (HS.out.mv1.cell 4).trans rfl; have hcq5 : w4.cell? ⟨gb, 5, none⟩ = some (.bool a.ok) := (HS.out.mv1.cell 5).trans rfl))
        repeat (go_quiet (fail); try go_wp2)
        go_ret2
        exact ⟨g, cs, lg, by rw [HN.out]; rfl, by (with_reducible repeat (first | apply Holds.alloc | apply Holds.drewN | apply Holds.drew)); exact HS.out.mv1.drop, fun C' h => by rw [HN.out] at h; cases h⟩
    · have hb : decide (i < (xs.length : Int)) = false := decide_eq_false hi
      have HF : Aside0 (runE C0 xs = some cs ∧ lg = xs) := ⟨by
        have h5 := HI.out
        have h6 : i.toNat = xs.length := by omega
        rw [h6] at h5
        rw [List.drop_length, List.take_length] at h5
        exact ⟨h5.2.2.2.2.symm, h5.2.2.2.1⟩⟩
      clear hi
      go_wp2
      repeat (go_quiet (fail); try go_wp2)
      go_ret2
      exact ⟨g, cs, lg, by rw [HF.out.1]; rfl, by (with_reducible repeat (first | apply Holds.alloc | apply Holds.drewN | apply Holds.drew)); exact HS.out, fun C' h => by rw [HF.out.1] at h; exact ⟨Option.some.inj h, HF.out.2⟩⟩

theorem mem_lower {b b' g : Nat} {cs : List Int} {lg : List Ev} (hb : b' ≤ b) (w : World) (S : Nat → Prop) (h : (MemO b g cs lg).at_ w S) : (MemO b' g cs lg).at_ w S := by
  obtain ⟨x, h⟩ := h
  exact ⟨x, h.under fun _ h => SepL.imp1 (row_lower hb) (h.under fun _ h => SepL.imp1 (row_lower hb) h)⟩
theorem Back_calls {w0 w : World} {F : List HObj} {A : Option Addr} {c : Nat} {xs : List Ev} (n : Int) (C0 : List Int) (hC0 : List.replicate (mx 0 (mn n 65536)).toNat (0 : Int) = C0) (hr0 : Kd.C kEv w A xs.length xs) (hlen : Aside0 (xs.length ≤ 1000)) (hw3 : ∀ e ∈ xs, e.op = 3 → IntKind.u64.wrap e.new = e.new) (h : Holds w0 w F) :
    Calls Try.prog 37 #[.int .i64 n, .slice A xs.length c] w fun e w' => ∃ g cs lg, e = .returned (.tuple #[.pointer (some ⟨g, 0, none⟩), .bool (runE C0 xs).isSome]) ∧ Holds w0 w' (MemO w0.heap.size g cs lg :: F) ∧ (∀ C', runE C0 xs = some C' → cs = C' ∧ lg = xs) := by
  refine (Back_start n C0 hC0 hr0 hlen hw3).mono ?_
  rintro e w' ⟨g, cs, lg, he, hh, hp⟩
  exact ⟨g, cs, lg, he, (h.merge hh).imp (mem_lower h.size), hp⟩

theorem Back_ok {w0 w : World} {F : List HObj} {A : Option Addr} {c : Nat} {xs : List Ev} (n : Int) (C0 M : List Int) (hC0 : List.replicate (mx 0 (mn n 65536)).toNat (0 : Int) = C0) (hrun : runE C0 xs = some M) (hr0 : Kd.C kEv w A xs.length xs) (hlen : Aside0 (xs.length ≤ 1000)) (hw3 : ∀ e ∈ xs, e.op = 3 → IntKind.u64.wrap e.new = e.new) (h : Holds w0 w F) :
    Calls Try.prog 37 #[.int .i64 n, .slice A xs.length c] w fun e w' => ∃ g, e = .returned (.tuple #[.pointer (some ⟨g, 0, none⟩), .bool true]) ∧ Holds w0 w' (MemO w0.heap.size g M xs :: F) := by
  refine (Back_calls n C0 hC0 hr0 hlen hw3 h).mono ?_
  rintro e w' ⟨g, cs, lg, he, hh, hp⟩
  obtain ⟨rfl, rfl⟩ := hp M hrun
  rw [hrun] at he
  exact ⟨g, he, hh⟩
theorem Back_bad {w0 w : World} {F : List HObj} {A : Option Addr} {c : Nat} {xs : List Ev} (n : Int) (C0 : List Int) (hC0 : List.replicate (mx 0 (mn n 65536)).toNat (0 : Int) = C0) (hrun : runE C0 xs = none) (hr0 : Kd.C kEv w A xs.length xs) (hlen : Aside0 (xs.length ≤ 1000)) (hw3 : ∀ e ∈ xs, e.op = 3 → IntKind.u64.wrap e.new = e.new) (h : Holds w0 w F) :
    Calls Try.prog 37 #[.int .i64 n, .slice A xs.length c] w fun e w' => ∃ g cs lg, e = .returned (.tuple #[.pointer (some ⟨g, 0, none⟩), .bool false]) ∧ Holds w0 w' (MemO w0.heap.size g cs lg :: F) := by
  refine (Back_calls n C0 hC0 hr0 hlen hw3 h).mono ?_
  rintro e w' ⟨g, cs, lg, he, hh, hp⟩
  rw [hrun] at he
  exact ⟨g, cs, lg, he, hh⟩
theorem run_snoc : ∀ {C0 M : List Int} {lg : List Ev} (e : Ev), runE C0 lg = some M → runE C0 (lg ++ [e]) = if stepOk M e = true then some (M.set e.cell.toNat e.new) else none
  | C0, M, [], e, h => by
    cases h
    rfl
  | C0, M, x :: lg, e, h => by
    unfold runE at h
    split at h
    · rename_i hx
      rw [List.cons_append, runE_good hx]
      exact run_snoc e h
    · cases h
theorem wrap_u64_wrap (a : Int) : IntKind.u64.wrap (IntKind.u64.wrap a) = IntKind.u64.wrap a := by
  rw [back_wu, back_wu]
  omega
theorem run_touch {C0 M : List Int} {lg : List Ev} (h : runE C0 lg = some M) (hw : ∀ e ∈ lg, e.op = 3 → IntKind.u64.wrap e.new = e.new) (who op c old x : Int) (h0 : 0 ≤ op) (h3 : op ≤ 3) :
    runE C0 (logT M lg who op c old x) = some (cellsT M op c old x) ∧ ∀ e ∈ logT M lg who op c old x, e.op = 3 → IntKind.u64.wrap e.new = e.new := by
  unfold logT cellsT
  by_cases hr : inR M c = true
  · rw [if_pos hr, if_pos hr, run_snoc _ h, if_pos ?_]
    · refine ⟨rfl, fun e he => ?_⟩
      rcases List.mem_append.1 he with he | he
      · exact hw e he
      · obtain rfl := List.mem_singleton.1 he
        rintro (rfl : op = 3)
        exact wrap_u64_wrap _
    · unfold stepOk nxt okk
      dsimp only
      rw [hr]
      have hm : op = 0 ∨ op = 1 ∨ op = 2 ∨ op = 3 := by omega
      rcases hm with rfl | rfl | rfl | rfl
      · simp
      · simp
      · by_cases h1 : rd M c = old <;> simp [h1]
      · simp
  · rw [if_neg hr, if_neg hr]
    exact ⟨h, hw⟩

end Go.Proofs.Ytlimmmnpcomfjaa.Mem