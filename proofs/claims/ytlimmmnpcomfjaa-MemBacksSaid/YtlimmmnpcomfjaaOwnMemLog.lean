/- What is noted of cells, told: mem.Mem.Log (slices.Clone); events compared. A lemma file for the laws over mem. -/
import Derived.Test.YtlimmmnpcomfjaaOwnMem
import Derived.Test.YtlimmmnpcomfjaaWEqStruct
import Derived.WalkKit
import Derived.KernelRfl
import Derived.BigQuiet
import Derived.WideLaws
import Derived.Deep.LoopGhost
import Derived.Deep.DeepCutAuto
import Derived.OwnWalk
import Derived.Laws.MakeOwn
import Derived.Laws.AppendOwn
import Derived.Lib.SliceRun
import Derived.Deep.DeepMust
set_option linter.unusedVariables false
set_option linter.unusedSimpArgs false
namespace Go.Proofs.Ytlimmmnpcomfjaa.Mem
open Go.RowKit Go.Proofs.YtlimmmnpcomfjaaW.PrintWords Go.Proofs.YtlimmmnpcomfjaaW.PrintLast Go.Proofs.YtlimmmnpcomfjaaW.PrintMore Go.Proofs.Ytlimmmnpcomfjaa.Sep
attribute [local go_sem] max2_int min2_int max_two min_two max_three min_three max_four min_four

def rdEv (xs : List Ev) (i : Int) : Ev := xs.getD i.toNat zEv
theorem at_Ev {w : World} {A : Option Addr} {n : Nat} {xs : List Ev} (h : Kd.C kEv w A n xs) (i : Int) (h0 : 0 ≤ i) (h1 : i < n) : ∃ ad, A = some ad ∧ w.cell? (ad.add (i.toNat * 6)) = some (.int .i64 (rdEv xs i).who) ∧ w.cell? ⟨(ad.add (i.toNat * 6)).block, (ad.add (i.toNat * 6)).off + 1, none⟩ = some (.int .i64 (rdEv xs i).op) ∧ w.cell? ⟨(ad.add (i.toNat * 6)).block, (ad.add (i.toNat * 6)).off + 2, none⟩ = some (.int .i64 (rdEv xs i).cell) ∧ w.cell? ⟨(ad.add (i.toNat * 6)).block, (ad.add (i.toNat * 6)).off + 3, none⟩ = some (.int .u64 (rdEv xs i).old) ∧ w.cell? ⟨(ad.add (i.toNat * 6)).block, (ad.add (i.toNat * 6)).off + 4, none⟩ = some (.int .u64 (rdEv xs i).new) ∧ w.cell? ⟨(ad.add (i.toNat * 6)).block, (ad.add (i.toNat * 6)).off + 5, none⟩ = some (.bool (rdEv xs i).ok) := by
  obtain ⟨ad, c, e, _, hK, hc0⟩ := Kd.C_get h zEv i h0 h1
  have hc : ∀ j u, c[j]? = some u → w.cell? (ad.add (i.toNat * 6 + j)) = some u := hc0
  obtain rfl := kEv_open hK
  exact ⟨ad, e, hc 0 _ rfl, by rw [← add_field _ _ 1 (by omega)]; exact hc 1 _ rfl, by rw [← add_field _ _ 2 (by omega)]; exact hc 2 _ rfl, by rw [← add_field _ _ 3 (by omega)]; exact hc 3 _ rfl, by rw [← add_field _ _ 4 (by omega)]; exact hc 4 _ rfl, by rw [← add_field _ _ 5 (by omega)]; exact hc 5 _ rfl⟩

theorem eqEv (d : Nat) (w : World) (x0 y0 : Int) (x1 y1 : Int) (x2 y2 : Int) (x3 y3 : Int) (x4 y4 : Int) (x5 y5 : Bool) :
    (Op.equalIn (d + 2) 58 (.agg #[.int .i64 x0, .int .i64 x1, .int .i64 x2, .int .u64 x3, .int .u64 x4, .bool x5]) (.agg #[.int .i64 y0, .int .i64 y1, .int .i64 y2, .int .u64 y3, .int .u64 y4, .bool y5])).run Try.prog w = .ok (x0 == y0 && (x1 == y1 && (x2 == y2 && (x3 == y3 && (x4 == y4 && (x5 == y5)))))) w := by
  refine eqA_of Try.underlying58 (by kernel_rfl) ?_
  refine eqf_cons (by rfl) (by go_simp; rfl) (by go_simp; rfl) (by go_simp) ?_
  refine eqf_cons (by rfl) (by go_simp; rfl) (by go_simp; rfl) (by go_simp) ?_
  refine eqf_cons (by rfl) (by go_simp; rfl) (by go_simp; rfl) (by go_simp) ?_
  refine eqf_cons (by rfl) (by go_simp; rfl) (by go_simp; rfl) (by go_simp) ?_
  refine eqf_cons (by rfl) (by go_simp; rfl) (by go_simp; rfl) (by go_simp) ?_
  exact eqf_last (by rfl) (by go_simp; rfl) (by go_simp; rfl) (by go_simp)

set_option maxHeartbeats 4000000 in
set_option maxRecDepth 100000 in
theorem Clone_calls {w0 w : World} {F : List HObj} {A : Option Addr} {n : Nat} {xs : List Ev} (hr : Kd.C kEv w A xs.length xs) (hlen : Aside0 (xs.length ≤ 1000000)) (h : Holds w0 w F) :
    Calls Try.prog 43 #[.slice A xs.length n] w fun e w' => ∃ v', e = .returned v' ∧ Holds w0 w' (Row kEv 58 w0.heap.size v' xs :: F) := by
  have q22 : ∀ (w : World) (a : Option Addr) (n c n' c' : Nat), (binOp .eql 55 (.slice a n c) (.slice none n' c')).run Try.prog w = .ok (.bool a.isNone) w := fun w a n c n' c' => Lib.run_eql_slice_nil w _ _ a n c n' c' Try.underlying55
  cases A with
  | none =>
    have h0 : xs.length = 0 := by
      rcases Nat.eq_zero_or_pos xs.length with h0 | h0
      · exact h0
      · obtain ⟨ad, h, _⟩ := hr.2.2 h0
        cases h
    obtain rfl : xs = [] := List.eq_nil_of_length_eq_zero h0
    have HS := Aside0.mk h
    clear h hr
    go_enter Try.func43, Try.ntmps43
    go_wp2
    go_ret
    exact ⟨_, rfl, Holds.row_nil HS.out⟩
  | some ad =>
    have HR := Aside0.mk (show ReadsRow (kEv.K w) kEv.sz (w.alloc (.cells #[] 58)) (some ad) xs.length xs from ReadsRow.imp_ hr ((Below.refl _ w).alloc (Nat.le_refl _) _) (fun _ _ hp => hp))
    have HO : Aside0 (Holds w0 (w.alloc (.cells #[] 58)) (Row kEv 58 w0.heap.size (.slice (some ⟨w.heap.size, 0, none⟩) 0 0) [] :: F)) :=
      ⟨h.fresh (S := fun k => k = w.heap.size) ((Below.refl _ w).alloc (Nat.le_refl _) _) ⟨⟨fun k hk => by simpa [Value.ownBlock] using hk.symm, [], World.ownsRow_made w #[] 0 h.size (Nat.zero_le _) (by simp), ⟨rfl, fun j p hj => by simp at hj⟩⟩, fun k hk => by simp [hk]⟩ (fun k hk => by omega)⟩
    have HS := Aside0.mk h
    clear h hr
    go_enter Try.func43, Try.ntmps43
    go_wp2_with (first | ((with_reducible refine gate_builtin (b := .append) (xs := #[.tmp 5, .tmp 6]) rfl ?_); at_builtin; go_must (refine Kd.R_append_rows kEv (Rr := kEv.K w) (w0 := w0) (W := w.alloc (.cells #[] 58)) w0.heap.size rfl (.tmp 5) (.tmp 6) 55 58 (.agg #[.int .i64 0, .int .i64 0, .int .i64 0, .int .u64 0, .int .u64 0, .bool false]) 48 rfl Try.underlying55 infoEv rfl (by decide) (by omega) (.slice (some ⟨w.heap.size, 0, none⟩) 0 0) [] xs (some ad) xs.length n (fun _ => True) (fun _ => False) rfl rfl ?aO ?aR ?aK (fun _ hk => hk.elim) (fun _ _ => trivial) ?aB ?aS ?aL ?_); (case aO => exact HO.out.row.elim fun _ h => Kd.R_mono h (fun _ _ => trivial)); (case aR => exact HR.out); (case aK => intro x cs hx; obtain rfl := kEv_open hx; exact kEv_mkM _ _ _ x); (case aB => exact HO.out.below); (case aS => exact HO.out.size); (case aL => have := hlen.out; simp; omega); intro v1 w3 hR3 hB3 hG3 hat3; have n0_ := Aside0.mk (Holds.row_grown flat_ev HO.out hR3 hG3 hat3); clear hR3 hB3 hG3 hat3; clear HS; have HS := n0_; clear n0_))
    go_ret
    exact ⟨_, rfl, by (with_reducible repeat (first | apply Holds.alloc | apply Holds.drewN | apply Holds.drew)); exact HS.out⟩

set_option maxHeartbeats 4000000 in
set_option maxRecDepth 100000 in
theorem Log_calls {w0 w : World} {F : List HObj} {g : Nat} {cs : List Int} {lg : List Ev} (hlen : Aside0 (lg.length ≤ 1000000)) (h : Holds w0 w (MemO w0.heap.size g cs lg :: F)) :
    Calls Try.prog 36 #[.pointer (some ⟨g, 0, none⟩)] w fun e w' => ∃ v', e = .returned v' ∧ Holds w0 w' (Row kEv 58 w0.heap.size v' lg :: MemO w0.heap.size g cs lg :: F) := by
  obtain ⟨A, cA, B, cB, hcA, hcB, h⟩ := mem_open h
  have hcz0 : w.cell? ⟨g, 0, none⟩ = some (.slice A cs.length cA) := (h.cell 0).trans rfl
  have hcz1 : w.cell? ⟨g, 1, none⟩ = some (.slice B lg.length cB) := (h.cell 1).trans rfl
  obtain ⟨B', c', hB, _, hr⟩ := h.mv2.row_slice
  injection hB with hB1 hB2 hB3
  subst hB1
  have HR := Aside0.mk hr
  have HS := Aside0.mk h
  clear h hr hB2 hB3
  go_enter Try.func36, Try.ntmps36
  go_wp2_with (first | ((with_reducible refine gate_callee (f := 43) rfl ?_); (try (refine gate_guard (by rfl) ?_; dsimp only)); (refine goesL_ (some 7) rfl rfl Try.func43 (by kernel_rfl) rfl #[.slice B lg.length cB] rfl (by (try simp only [List.map_toArray, List.map_cons, List.map_nil]); first | done | rfl) ?_); go_must (with_reducible refine (Clone_calls (w0 := w0) (F := [Pt g 66 #[.slice A cs.length cA, .slice B lg.length cB], Row (Kd.int .u64) 26 w0.heap.size (.slice A cs.length cA) cs, Row kEv 58 w0.heap.size (.slice B lg.length cB) lg] ++ F) ?s0 hlen ?s1).mono ?_); go_must (case s0 => exact HR.out); go_must (case s1 => exact HS.out); rintro e w1 ⟨v, rfl, hX⟩; refine ⟨_, rfl, ?_⟩; clear HS; have HS := Aside0.mk hX; clear hX))
  go_ret
  exact ⟨_, rfl, (mem_close (F := Row kEv 58 w0.heap.size v lg :: F) HS.out.mv3.mv3.mv3).mv1⟩

end Go.Proofs.Ytlimmmnpcomfjaa.Mem