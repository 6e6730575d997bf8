/- What an act of law 3 does to cells. A lemma file. -/
import Derived.Test.YtlimmmnpcomfjaaOwnHead03
import Derived.WalkKit
import Derived.KernelRfl
import Derived.BigQuiet
import Derived.WideLaws
import Derived.Deep.LoopGhost
import Derived.Deep.DeepCutAuto
import Derived.Laws.BitsLemmas
set_option linter.unusedVariables false
set_option linter.unusedSimpArgs false
namespace Go.Proofs.Ytlimmmnpcomfjaa.Law03
open Go.RowKit Go.Proofs.YtlimmmnpcomfjaaW.PrintWords Go.Proofs.YtlimmmnpcomfjaaW.PrintLast Go.Proofs.YtlimmmnpcomfjaaW.PrintMore Go.Proofs.Ytlimmmnpcomfjaa.Sep Go.Proofs.Ytlimmmnpcomfjaa.Mem
attribute [local go_sem] max2_int min2_int max_two min_two max_three min_three max_four min_four

structure ActR where
  who : Int
  op : Int
  cell : Int
  old : Int
  x : Int
def zAct : ActR := ⟨0, 0, 0, 0, 0⟩
def kAct : Kd ActR := Kd.iso (Kd.pair (Kd.int .i64) (Kd.pair (Kd.int .i64) (Kd.pair (Kd.int .i64) (Kd.pair (Kd.int .u64) (Kd.int .u64))))) (fun x : ActR => (x.who, x.op, x.cell, x.old, x.x))
theorem kAct_open {w : World} {x : ActR} {cs : List Value} (h : kAct.K w x cs) : cs = [.int .i64 x.who, .int .i64 x.op, .int .i64 x.cell, .int .u64 x.old, .int .u64 x.x] := by
  obtain ⟨_, _, rfl, rfl, ⟨_, _, rfl, rfl, ⟨_, _, rfl, rfl, ⟨_, _, rfl, rfl, rfl⟩⟩⟩⟩ := h
  exact rfl
theorem kAct_mk (w : World) (x : ActR) : kAct.K w x [.int .i64 x.who, .int .i64 x.op, .int .i64 x.cell, .int .u64 x.old, .int .u64 x.x] := ⟨[.int .i64 x.who], [.int .i64 x.op, .int .i64 x.cell, .int .u64 x.old, .int .u64 x.x], rfl, rfl, ⟨[.int .i64 x.op], [.int .i64 x.cell, .int .u64 x.old, .int .u64 x.x], rfl, rfl, ⟨[.int .i64 x.cell], [.int .u64 x.old, .int .u64 x.x], rfl, rfl, ⟨[.int .u64 x.old], [.int .u64 x.x], rfl, rfl, rfl⟩⟩⟩⟩
def rdA (xs : List ActR) (i : Int) : ActR := xs.getD i.toNat zAct
theorem at_Act {w : World} {A : Option Addr} {n : Nat} {xs : List ActR} (h : Kd.C kAct w A n xs) (i : Int) (h0 : 0 ≤ i) (h1 : i < n) : ∃ ad, A = some ad ∧ w.cell? (ad.add (i.toNat * 5)) = some (.int .i64 (rdA xs i).who) ∧ w.cell? ⟨(ad.add (i.toNat * 5)).block, (ad.add (i.toNat * 5)).off + 1, none⟩ = some (.int .i64 (rdA xs i).op) ∧ w.cell? ⟨(ad.add (i.toNat * 5)).block, (ad.add (i.toNat * 5)).off + 2, none⟩ = some (.int .i64 (rdA xs i).cell) ∧ w.cell? ⟨(ad.add (i.toNat * 5)).block, (ad.add (i.toNat * 5)).off + 3, none⟩ = some (.int .u64 (rdA xs i).old) ∧ w.cell? ⟨(ad.add (i.toNat * 5)).block, (ad.add (i.toNat * 5)).off + 4, none⟩ = some (.int .u64 (rdA xs i).x) := by
  obtain ⟨ad, c, e, _, hK, hc0⟩ := Kd.C_get h zAct i h0 h1
  have hc : ∀ j u, c[j]? = some u → w.cell? (ad.add (i.toNat * 5 + j)) = some u := hc0
  obtain rfl := kAct_open hK
  exact ⟨ad, e, hc 0 _ rfl, by rw [← add_field _ _ 1 (by omega)]; exact hc 1 _ rfl, by rw [← add_field _ _ 2 (by omega)]; exact hc 2 _ rfl, by rw [← add_field _ _ 3 (by omega)]; exact hc 3 _ rfl, by rw [← add_field _ _ 4 (by omega)]; exact hc 4 _ rfl⟩
theorem and_i64 (i : Nat) (hi : i ≤ 62) (x : Int) : Go.bits .and .i64 x (2 ^ i - 1) = x % 2 ^ i := by
  have hpos : 0 < 2 ^ i := Nat.two_pow_pos i
  have hle : 2 ^ i ≤ 2 ^ 62 := Nat.pow_le_pow_right (by decide) hi
  have hc : ((2 : Int) ^ i - 1) = ((2 ^ i - 1 : Nat) : Int) := by
    rw [Int.natCast_sub hpos]; simp
  have hm : (2 ^ i - 1) % 2 ^ 64 = 2 ^ i - 1 := Nat.mod_eq_of_lt (by omega)
  have ht : (BitVec.ofInt 64 x).toNat = (x % (2 ^ 64 : Int)).toNat := by simp [BitVec.toNat_ofInt]
  have hn : 0 ≤ x % (2 ^ 64 : Int) := Int.emod_nonneg _ (by decide)
  have hd : ((2 : Int) ^ i) ∣ (2 ^ 64 : Int) := ⟨2 ^ (64 - i), by rw [← Int.pow_add]; congr 1; omega⟩
  have hr : (((x % (2 ^ 64 : Int)).toNat % 2 ^ i : Nat) : Int) = x % 2 ^ i := by
    rw [Int.natCast_emod, Int.toNat_of_nonneg hn]
    rw [Int.natCast_pow]
    exact Int.emod_emod_of_dvd x hd
  have hb : 0 ≤ x % 2 ^ i ∧ x % 2 ^ i < 2 ^ 62 := by
    have hpz : (0 : Int) < 2 ^ i := by exact_mod_cast hpos
    have hlz : (2 : Int) ^ i ≤ 2 ^ 62 := by exact_mod_cast hle
    exact ⟨Int.emod_nonneg _ (by omega), Int.lt_of_lt_of_le (Int.emod_lt_of_pos _ hpz) hlz⟩
  rw [hc]
  show IntKind.i64.wrap (((BitVec.ofInt 64 x &&& BitVec.ofInt 64 ((2 ^ i - 1 : Nat) : Int)).toNat : Nat) : Int) = _
  rw [BitVec.ofInt_natCast, BitVec.toNat_and, BitVec.toNat_ofNat, hm, ht, Nat.and_two_pow_sub_one_eq_mod, hr, IntKind.wrap_i64]
  obtain ⟨b0, b1⟩ := hb
  generalize x % 2 ^ i = z at b0 b1 ⊢
  omega
def doX (cs : List Int) (op c : Int) : Int := if op % 4 = 0 ∨ op % 4 = 3 then peek cs c else 0
def doOk (cs : List Int) (op c old : Int) : Bool := if op % 4 = 2 then okT cs 2 c old else true
theorem cells_load (cs : List Int) (c old x : Int) : cellsT cs 0 c old x = cellsT cs 0 c 0 0 := by unfold cellsT nxt; simp
theorem log_load (cs : List Int) (lg : List Ev) (who c old x : Int) : logT cs lg who 0 c old x = logT cs lg who 0 c 0 0 := by unfold logT nxt okk; simp
theorem cells_store (cs : List Int) (c old x : Int) : cellsT cs 1 c old x = cellsT cs 1 c 0 x := by unfold cellsT nxt; simp
theorem log_store (cs : List Int) (lg : List Ev) (who c old x : Int) : logT cs lg who 1 c old x = logT cs lg who 1 c 0 x := by unfold logT nxt okk; simp
theorem cells_add (cs : List Int) (c old x : Int) : cellsT cs 3 c old x = cellsT cs 3 c 0 x := by unfold cellsT nxt; simp
theorem log_add (cs : List Int) (lg : List Ev) (who c old x : Int) : logT cs lg who 3 c old x = logT cs lg who 3 c 0 x := by unfold logT nxt okk; simp

set_option maxHeartbeats 4000000 in
set_option maxRecDepth 100000 in
theorem Do_calls {w0 w : World} {F : List HObj} {g : Nat} {cs : List Int} {lg : List Ev} (who op c old x : Int) (hlen : Aside0 (lg.length ≤ 1000000)) (h : Holds w0 w (MemO w0.heap.size g cs lg :: F)) :
    Calls Try.prog 26 #[.agg #[.int .i64 who, .int .i64 op, .int .i64 c, .int .u64 old, .int .u64 x], .pointer (some ⟨g, 0, none⟩)] w fun e w' => e = .returned (.tuple #[.int .u64 (doX cs op c), .bool (doOk cs op c old)]) ∧ Holds w0 w' (MemO w0.heap.size g (cellsT cs (op % 4) c old x) (logT cs lg who (op % 4) c old x) :: F) := by
  have hb : Go.bits .and .i64 op 3 = op % 4 := and_i64 2 (by decide) op
  have hm : op % 4 = 0 ∨ op % 4 = 1 ∨ op % 4 = 2 ∨ op % 4 = 3 := by omega
  unfold doX doOk
  rcases hm with hm | hm | hm | hm
  · rw [hm, cells_load, log_load, if_pos (.inl rfl), if_neg (by decide)]
    have t0 : (Go.bits .and .i64 op 3 == 0) = true := by rw [hb, hm]; rfl
    clear hb hm
    have HS := Aside0.mk h
    clear h
    go_enter Try.func26, Try.ntmps26
    go_wp2_with (first | ((with_reducible refine gate_callee (f := 40) rfl ?_); (try (refine gate_guard (by rfl) ?_; dsimp only)); (refine goesL_ (some 16) rfl rfl Try.func40 (by kernel_rfl) rfl #[.pointer (some ⟨g, 0, none⟩), .int .i64 who, .int .i64 c] rfl (by (try simp only [List.map_toArray, List.map_cons, List.map_nil]); first | done | rfl) ?_); (with_reducible refine (Load_calls (w0 := w0) (F := F) (cs := cs) (lg := lg) who c hlen ?s0).mono ?_); (case s0 => (with_reducible repeat (first | apply Holds.alloc | apply Holds.drewN | apply Holds.drew)); exact HS.out); rintro e w1 ⟨rfl, hX⟩; refine ⟨_, rfl, ?_⟩; clear HS; have HS := Aside0.mk hX; clear hX))
    go_ret2
    exact ⟨by rfl, by (with_reducible repeat (first | apply Holds.alloc | apply Holds.drewN | apply Holds.drew)); exact HS.out⟩
  · rw [hm, cells_store, log_store, if_neg (by decide), if_neg (by decide)]
    have t0 : (Go.bits .and .i64 op 3 == 0) = false := by rw [hb, hm]; rfl
    have t1 : (Go.bits .and .i64 op 3 == 1) = true := by rw [hb, hm]; rfl
    clear hb hm
    have HS := Aside0.mk h
    clear h
    go_enter Try.func26, Try.ntmps26
    go_wp2_with (first | ((with_reducible refine gate_callee (f := 23) rfl ?_); (try (refine gate_guard (by rfl) ?_; dsimp only)); (refine goesL_ (some 26) rfl rfl Try.func23 (by kernel_rfl) rfl #[.pointer (some ⟨g, 0, none⟩), .int .i64 who, .int .i64 c, .int .u64 x] rfl (by (try simp only [List.map_toArray, List.map_cons, List.map_nil]); first | done | rfl) ?_); (with_reducible refine (Store_calls (w0 := w0) (F := F) (cs := cs) (lg := lg) who c x hlen ?s0).mono ?_); (case s0 => (with_reducible repeat (first | apply Holds.alloc | apply Holds.drewN | apply Holds.drew)); exact HS.out); rintro e w1 ⟨rfl, hX⟩; refine ⟨_, rfl, ?_⟩; clear HS; have HS := Aside0.mk hX; clear hX))
    go_ret2
    exact ⟨by rfl, by (with_reducible repeat (first | apply Holds.alloc | apply Holds.drewN | apply Holds.drew)); exact HS.out⟩
  · rw [hm, if_neg (by decide), if_pos rfl]
    have t0 : (Go.bits .and .i64 op 3 == 0) = false := by rw [hb, hm]; rfl
    have t1 : (Go.bits .and .i64 op 3 == 1) = false := by rw [hb, hm]; rfl
    have t2 : (Go.bits .and .i64 op 3 == 2) = true := by rw [hb, hm]; rfl
    clear hb hm
    have HS := Aside0.mk h
    clear h
    go_enter Try.func26, Try.ntmps26
    go_wp2_with (first | ((with_reducible refine gate_callee (f := 25) rfl ?_); (try (refine gate_guard (by rfl) ?_; dsimp only)); (refine goesL_ (some 38) rfl rfl Try.func25 (by kernel_rfl) rfl #[.pointer (some ⟨g, 0, none⟩), .int .i64 who, .int .i64 c, .int .u64 old, .int .u64 x] rfl (by (try simp only [List.map_toArray, List.map_cons, List.map_nil]); first | done | rfl) ?_); (with_reducible refine (Swap_calls (w0 := w0) (F := F) (cs := cs) (lg := lg) who c old x hlen ?s0).mono ?_); (case s0 => (with_reducible repeat (first | apply Holds.alloc | apply Holds.drewN | apply Holds.drew)); exact HS.out); rintro e w1 ⟨rfl, hX⟩; refine ⟨_, rfl, ?_⟩; clear HS; have HS := Aside0.mk hX; clear hX))
    go_ret2
    exact ⟨by rfl, by (with_reducible repeat (first | apply Holds.alloc | apply Holds.drewN | apply Holds.drew)); exact HS.out⟩
  · rw [hm, cells_add, log_add, if_pos (.inr rfl), if_neg (by decide)]
    have t0 : (Go.bits .and .i64 op 3 == 0) = false := by rw [hb, hm]; rfl
    have t1 : (Go.bits .and .i64 op 3 == 1) = false := by rw [hb, hm]; rfl
    have t2 : (Go.bits .and .i64 op 3 == 2) = false := by rw [hb, hm]; rfl
    clear hb hm
    have HS := Aside0.mk h
    clear h
    go_enter Try.func26, Try.ntmps26
    go_wp2_with (first | ((with_reducible refine gate_callee (f := 20) rfl ?_); (try (refine gate_guard (by rfl) ?_; dsimp only)); (refine goesL_ (some 46) rfl rfl Try.func20 (by kernel_rfl) rfl #[.pointer (some ⟨g, 0, none⟩), .int .i64 who, .int .i64 c, .int .u64 x] rfl (by (try simp only [List.map_toArray, List.map_cons, List.map_nil]); first | done | rfl) ?_); (with_reducible refine (Add_calls (w0 := w0) (F := F) (cs := cs) (lg := lg) who c x hlen ?s0).mono ?_); (case s0 => (with_reducible repeat (first | apply Holds.alloc | apply Holds.drewN | apply Holds.drew)); exact HS.out); rintro e w1 ⟨rfl, hX⟩; refine ⟨_, rfl, ?_⟩; clear HS; have HS := Aside0.mk hX; clear hX))
    go_ret2
    exact ⟨by rfl, by (with_reducible repeat (first | apply Holds.alloc | apply Holds.drewN | apply Holds.drew)); exact HS.out⟩

end Go.Proofs.Ytlimmmnpcomfjaa.Law03
