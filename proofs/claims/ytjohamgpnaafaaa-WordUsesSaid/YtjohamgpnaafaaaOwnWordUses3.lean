/- The walk of stackyardlaw02.WordUses: it answers what its Lean function tells. No condition. -/
import Derived.Test.YtjohamgpnaafaaaPWordUsesx0
import Derived.Test.YtjohamgpnaafaaaPWordUsesx2
namespace Go.Proofs.Ytjohamgpnaafaaa.PWordUses
open Go.RowKit Go.Proofs.YtjohamgpnaafaaaW.PrintWords Go.Proofs.YtjohamgpnaafaaaW.PrintLast Go.Proofs.YtjohamgpnaafaaaW.PrintMore
attribute [local go_sem] max2_int min2_int max_two min_two max_three min_three max_four min_four   -- for this text's walks alone
set_option linter.unusedVariables false
set_option linter.unusedSimpArgs false

/-! ### stackyardlaw02_WordUses: function 11 -/
mutual
def stackyardlaw02_WordUses.j0 : Nat → List Bool → Bool → Int → Int → Option (Bool)
  | 0, _, _, _, _ => none
  | k + 1, x0, x23, x121000, x121001 => if x23 = true then (some true) else ((word_Word_Pack.f 0 0 0 0 0).bind fun t124 => (stackyardlaw02_WordUses.l0 k x0 (([t124] : List Int)) x0 (x0.length : Int) 0 x121000 x121001 0 0 0 0 0))
def stackyardlaw02_WordUses.l0 : Nat → List Bool → List Int → List Bool → Int → Int → Int → Int → Int → Int → Int → Int → Int → Option (Bool)
  | 0, _, _, _, _, _, _, _, _, _, _, _, _ => none
  | k + 1, x0, x6, x28, x29, x30, x121000, x121001, x124000, x124001, x124002, x124003, x124004 => if x30 < x29 then (if 0 ≤ x30 then (if x30 < (x28.length : Int) then (if rdOf false x28 x30 = true then (stackyardlaw02_WordUses.j2 k x0 x6 1 x28 x29 x30 x121000 x121001 x124000 x124001 x124002 x124003 x124004) else (stackyardlaw02_WordUses.j2 k x0 x6 0 x28 x29 x30 x121000 x121001 x124000 x124001 x124002 x124003 x124004)) else (none)) else (none)) else (stackyardlaw02_WordUses.l1 k x0 x6 x6 (x6.length : Int) 0 x124000 x124001 x124002 x124003 x124004)
def stackyardlaw02_WordUses.j2 : Nat → List Bool → List Int → Int → List Bool → Int → Int → Int → Int → Int → Int → Int → Int → Int → Option (Bool)
  | 0, _, _, _, _, _, _, _, _, _, _, _, _, _ => none
  | k + 1, x0, x6, x9, x28, x29, x30, x121000, x121001, x124000, x124001, x124002, x124003, x124004 => (word_Word_Next.f x124000 x124001 x124002 x124003 x124004 x9 x121000 x121001).bind fun bt129 => ((word_Word_Pack.f bt129.1 bt129.2.1 bt129.2.2.1 bt129.2.2.2.1 bt129.2.2.2.2).bind fun t134 => (if x6.length < 17592186044416 then ((some (x6 ++ [t134] : List Int)).bind fun y135 => ((word_Word_Taken.f bt129.1 bt129.2.1 bt129.2.2.1 bt129.2.2.2.1 bt129.2.2.2.2).bind fun bt138 => ((word_Word_Pack.f bt138.1 bt138.2.1 bt138.2.2.1 bt138.2.2.2.1 bt138.2.2.2.2).bind fun t143 => (if y135.length < 17592186044416 then (stackyardlaw02_WordUses.l0 k x0 (y135 ++ [t143]) x28 x29 (wrap64 (x30 + 1)) x121000 x121001 bt138.1 bt138.2.1 bt138.2.2.1 bt138.2.2.2.1 bt138.2.2.2.2) else (none))))) else (none)))
def stackyardlaw02_WordUses.l1 : Nat → List Bool → List Int → List Int → Int → Int → Int → Int → Int → Int → Int → Option (Bool)
  | 0, _, _, _, _, _, _, _, _, _, _ => none
  | k + 1, x0, x6, x52, x53, x54, x124000, x124001, x124002, x124003, x124004 => if x54 < x53 then (if 0 ≤ x54 then (if x54 < (x52.length : Int) then (if x54 ≤ (x6.length : Int) then ((some (x6.take (x54 : Int).toNat : List Int)).bind fun y148 => (stackyardlaw02_WordUses.l2 k x0 x6 (rd x52 x54) x52 x53 x54 y148 (y148.length : Int) 0 x124000 x124001 x124002 x124003 x124004)) else (none)) else (none)) else (none)) else (some (x124002 == (x0.length : Int)))
def stackyardlaw02_WordUses.l2 : Nat → List Bool → List Int → Int → List Int → Int → Int → List Int → Int → Int → Int → Int → Int → Int → Int → Option (Bool)
  | 0, _, _, _, _, _, _, _, _, _, _, _, _, _, _ => none
  | k + 1, x0, x6, x11, x52, x53, x54, x61, x62, x63, x124000, x124001, x124002, x124003, x124004 => if x63 < x62 then (if 0 ≤ x63 then (if x63 < (x61.length : Int) then (if x11 = (rd x61 x63) then (some false) else (stackyardlaw02_WordUses.l2 k x0 x6 x11 x52 x53 x54 x61 x62 (wrap64 (x63 + 1)) x124000 x124001 x124002 x124003 x124004)) else (none)) else (none)) else (stackyardlaw02_WordUses.l1 k x0 x6 x52 x53 (wrap64 (x54 + 1)) x124000 x124001 x124002 x124003 x124004)
end
def stackyardlaw02_WordUses.f (k : Nat) (l0 : List Bool) (a1_0 : Int) (a1_1 : Int) : Option (Bool) := (stackyardlaw02_head.f).bind fun t121 => (if t121 = true then (if (l0.length : Int) > 60 then (stackyardlaw02_WordUses.j0 k l0 true a1_0 a1_1) else ((stamp_Stamp_Right.f a1_0 a1_1).bind fun t122 => (stackyardlaw02_WordUses.j0 k l0 (!t122) a1_0 a1_1))) else (some false))
theorem stackyardlaw02_WordUses.mono_l : ∀ k, (∀ y0 y1 y2 y3, LeO (stackyardlaw02_WordUses.j0 k y0 y1 y2 y3) (stackyardlaw02_WordUses.j0 (k + 1) y0 y1 y2 y3)) ∧ (∀ y0 y1 y2 y3 y4 y5 y6 y7 y8 y9 y10 y11, LeO (stackyardlaw02_WordUses.l0 k y0 y1 y2 y3 y4 y5 y6 y7 y8 y9 y10 y11) (stackyardlaw02_WordUses.l0 (k + 1) y0 y1 y2 y3 y4 y5 y6 y7 y8 y9 y10 y11)) ∧ (∀ y0 y1 y2 y3 y4 y5 y6 y7 y8 y9 y10 y11 y12, LeO (stackyardlaw02_WordUses.j2 k y0 y1 y2 y3 y4 y5 y6 y7 y8 y9 y10 y11 y12) (stackyardlaw02_WordUses.j2 (k + 1) y0 y1 y2 y3 y4 y5 y6 y7 y8 y9 y10 y11 y12)) ∧ (∀ y0 y1 y2 y3 y4 y5 y6 y7 y8 y9, LeO (stackyardlaw02_WordUses.l1 k y0 y1 y2 y3 y4 y5 y6 y7 y8 y9) (stackyardlaw02_WordUses.l1 (k + 1) y0 y1 y2 y3 y4 y5 y6 y7 y8 y9)) ∧ (∀ y0 y1 y2 y3 y4 y5 y6 y7 y8 y9 y10 y11 y12 y13, LeO (stackyardlaw02_WordUses.l2 k y0 y1 y2 y3 y4 y5 y6 y7 y8 y9 y10 y11 y12 y13) (stackyardlaw02_WordUses.l2 (k + 1) y0 y1 y2 y3 y4 y5 y6 y7 y8 y9 y10 y11 y12 y13))
  | 0 => ⟨fun _ _ _ _ r h => by simp [stackyardlaw02_WordUses.j0] at h, fun _ _ _ _ _ _ _ _ _ _ _ _ r h => by simp [stackyardlaw02_WordUses.l0] at h, fun _ _ _ _ _ _ _ _ _ _ _ _ _ r h => by simp [stackyardlaw02_WordUses.j2] at h, fun _ _ _ _ _ _ _ _ _ _ r h => by simp [stackyardlaw02_WordUses.l1] at h, fun _ _ _ _ _ _ _ _ _ _ _ _ _ _ r h => by simp [stackyardlaw02_WordUses.l2] at h⟩
  | k + 1 => by
    obtain ⟨ih0, ih1, ih2, ih3, ih4⟩ := stackyardlaw02_WordUses.mono_l k
    refine ⟨?_, ?_, ?_, ?_, ?_⟩
    · intro y0 y1 y2 y3
      unfold stackyardlaw02_WordUses.j0
      repeat' first
      | (with_reducible exact ih0 _ _ _ _)
      | (with_reducible exact ih1 _ _ _ _ _ _ _ _ _ _ _ _)
      | (with_reducible exact ih2 _ _ _ _ _ _ _ _ _ _ _ _ _)
      | (with_reducible exact ih3 _ _ _ _ _ _ _ _ _ _)
      | (with_reducible exact ih4 _ _ _ _ _ _ _ _ _ _ _ _ _ _)
      | (with_reducible exact LeO.refl _)
      | (with_reducible exact LeO.none _)
      | (with_reducible refine LeO.ite ?_ ?_)
      | (with_reducible refine LeO.bind ?_ (fun _ => ?_))
      | exact ih0 _ _ _ _
      | exact ih1 _ _ _ _ _ _ _ _ _ _ _ _
      | exact ih2 _ _ _ _ _ _ _ _ _ _ _ _ _
      | exact ih3 _ _ _ _ _ _ _ _ _ _
      | exact ih4 _ _ _ _ _ _ _ _ _ _ _ _ _ _
      | exact LeO.none _
      | refine LeO.ite ?_ ?_
      | refine LeO.bind ?_ (fun _ => ?_)
    · intro y0 y1 y2 y3 y4 y5 y6 y7 y8 y9 y10 y11
      unfold stackyardlaw02_WordUses.l0
      repeat' first
      | (with_reducible exact ih0 _ _ _ _)
      | (with_reducible exact ih1 _ _ _ _ _ _ _ _ _ _ _ _)
      | (with_reducible exact ih2 _ _ _ _ _ _ _ _ _ _ _ _ _)
      | (with_reducible exact ih3 _ _ _ _ _ _ _ _ _ _)
      | (with_reducible exact ih4 _ _ _ _ _ _ _ _ _ _ _ _ _ _)
      | (with_reducible exact LeO.refl _)
      | (with_reducible exact LeO.none _)
      | (with_reducible refine LeO.ite ?_ ?_)
      | (with_reducible refine LeO.bind ?_ (fun _ => ?_))
      | exact ih0 _ _ _ _
      | exact ih1 _ _ _ _ _ _ _ _ _ _ _ _
      | exact ih2 _ _ _ _ _ _ _ _ _ _ _ _ _
      | exact ih3 _ _ _ _ _ _ _ _ _ _
      | exact ih4 _ _ _ _ _ _ _ _ _ _ _ _ _ _
      | exact LeO.none _
      | refine LeO.ite ?_ ?_
      | refine LeO.bind ?_ (fun _ => ?_)
    · intro y0 y1 y2 y3 y4 y5 y6 y7 y8 y9 y10 y11 y12
      unfold stackyardlaw02_WordUses.j2
      repeat' first
      | (with_reducible exact ih0 _ _ _ _)
      | (with_reducible exact ih1 _ _ _ _ _ _ _ _ _ _ _ _)
      | (with_reducible exact ih2 _ _ _ _ _ _ _ _ _ _ _ _ _)
      | (with_reducible exact ih3 _ _ _ _ _ _ _ _ _ _)
      | (with_reducible exact ih4 _ _ _ _ _ _ _ _ _ _ _ _ _ _)
      | (with_reducible exact LeO.refl _)
      | (with_reducible exact LeO.none _)
      | (with_reducible refine LeO.ite ?_ ?_)
      | (with_reducible refine LeO.bind ?_ (fun _ => ?_))
      | exact ih0 _ _ _ _
      | exact ih1 _ _ _ _ _ _ _ _ _ _ _ _
      | exact ih2 _ _ _ _ _ _ _ _ _ _ _ _ _
      | exact ih3 _ _ _ _ _ _ _ _ _ _
      | exact ih4 _ _ _ _ _ _ _ _ _ _ _ _ _ _
      | exact LeO.none _
      | refine LeO.ite ?_ ?_
      | refine LeO.bind ?_ (fun _ => ?_)
    · intro y0 y1 y2 y3 y4 y5 y6 y7 y8 y9
      unfold stackyardlaw02_WordUses.l1
      repeat' first
      | (with_reducible exact ih0 _ _ _ _)
      | (with_reducible exact ih1 _ _ _ _ _ _ _ _ _ _ _ _)
      | (with_reducible exact ih2 _ _ _ _ _ _ _ _ _ _ _ _ _)
      | (with_reducible exact ih3 _ _ _ _ _ _ _ _ _ _)
      | (with_reducible exact ih4 _ _ _ _ _ _ _ _ _ _ _ _ _ _)
      | (with_reducible exact LeO.refl _)
      | (with_reducible exact LeO.none _)
      | (with_reducible refine LeO.ite ?_ ?_)
      | (with_reducible refine LeO.bind ?_ (fun _ => ?_))
      | exact ih0 _ _ _ _
      | exact ih1 _ _ _ _ _ _ _ _ _ _ _ _
      | exact ih2 _ _ _ _ _ _ _ _ _ _ _ _ _
      | exact ih3 _ _ _ _ _ _ _ _ _ _
      | exact ih4 _ _ _ _ _ _ _ _ _ _ _ _ _ _
      | exact LeO.none _
      | refine LeO.ite ?_ ?_
      | refine LeO.bind ?_ (fun _ => ?_)
    · intro y0 y1 y2 y3 y4 y5 y6 y7 y8 y9 y10 y11 y12 y13
      unfold stackyardlaw02_WordUses.l2
      repeat' first
      | (with_reducible exact ih0 _ _ _ _)
      | (with_reducible exact ih1 _ _ _ _ _ _ _ _ _ _ _ _)
      | (with_reducible exact ih2 _ _ _ _ _ _ _ _ _ _ _ _ _)
      | (with_reducible exact ih3 _ _ _ _ _ _ _ _ _ _)
      | (with_reducible exact ih4 _ _ _ _ _ _ _ _ _ _ _ _ _ _)
      | (with_reducible exact LeO.refl _)
      | (with_reducible exact LeO.none _)
      | (with_reducible refine LeO.ite ?_ ?_)
      | (with_reducible refine LeO.bind ?_ (fun _ => ?_))
      | exact ih0 _ _ _ _
      | exact ih1 _ _ _ _ _ _ _ _ _ _ _ _
      | exact ih2 _ _ _ _ _ _ _ _ _ _ _ _ _
      | exact ih3 _ _ _ _ _ _ _ _ _ _
      | exact ih4 _ _ _ _ _ _ _ _ _ _ _ _ _ _
      | exact LeO.none _
      | refine LeO.ite ?_ ?_
      | refine LeO.bind ?_ (fun _ => ?_)
theorem stackyardlaw02_WordUses.mono : ∀ a0 a1 a2 k, LeO (stackyardlaw02_WordUses.f k a0 a1 a2) (stackyardlaw02_WordUses.f (k + 1) a0 a1 a2) := by
  intro a0 a1 a2 k
  obtain ⟨ih0, ih1, ih2, ih3, ih4⟩ := stackyardlaw02_WordUses.mono_l k
  unfold stackyardlaw02_WordUses.f
  repeat' first
      | (with_reducible exact ih0 _ _ _ _)
      | (with_reducible exact ih1 _ _ _ _ _ _ _ _ _ _ _ _)
      | (with_reducible exact ih2 _ _ _ _ _ _ _ _ _ _ _ _ _)
      | (with_reducible exact ih3 _ _ _ _ _ _ _ _ _ _)
      | (with_reducible exact ih4 _ _ _ _ _ _ _ _ _ _ _ _ _ _)
      | (with_reducible exact LeO.refl _)
      | (with_reducible exact LeO.none _)
      | (with_reducible refine LeO.ite ?_ ?_)
      | (with_reducible refine LeO.bind ?_ (fun _ => ?_))
      | exact ih0 _ _ _ _
      | exact ih1 _ _ _ _ _ _ _ _ _ _ _ _
      | exact ih2 _ _ _ _ _ _ _ _ _ _ _ _ _
      | exact ih3 _ _ _ _ _ _ _ _ _ _
      | exact ih4 _ _ _ _ _ _ _ _ _ _ _ _ _ _
      | exact LeO.none _
      | refine LeO.ite ?_ ?_
      | refine LeO.bind ?_ (fun _ => ?_)
set_option maxHeartbeats 8000000 in
set_option maxRecDepth 100000 in
theorem stackyardlaw02_WordUses.calls (k : Nat) (A0 : Option Addr) (c0 : Nat) (l0 : List Bool) (a1_0 : Int) (a1_1 : Int) (r : Bool) (w : World) (hr0 : Kd.C Kd.bool w A0 l0.length l0) (hc0 : l0.length ≤ c0) (h : stackyardlaw02_WordUses.f k l0 a1_0 a1_1 = some r) :
    Calls Try.prog 11 #[.slice A0 l0.length c0, .agg #[.int .i64 a1_0, .int .i64 a1_1]] w fun e w' => e = .returned (.bool r) ∧ Below w.heap.size w w' := by
  have hu33 := Try.underlying33
  have hu35 := Try.underlying35
  have HR0 := Aside0.mk hr0
  have HC0 := Aside0.mk hc0
  clear hr0 hc0
  have HB := Aside0.mk (Below.refl w.heap.size w)
  have H : ((stackyardlaw02_head.f).bind fun t121 => (if t121 = true then (if (l0.length : Int) > 60 then (stackyardlaw02_WordUses.j0 k l0 true a1_0 a1_1) else ((stamp_Stamp_Right.f a1_0 a1_1).bind fun t122 => (stackyardlaw02_WordUses.j0 k l0 (!t122) a1_0 a1_1))) else (some false))) = some r := h
  clear h
  replace H := Option.bind_eq_some_iff.mp H
  obtain ⟨t121, A30, H⟩ := H
  replace H : (if t121 = true then (if (l0.length : Int) > 60 then (stackyardlaw02_WordUses.j0 k l0 true a1_0 a1_1) else ((stamp_Stamp_Right.f a1_0 a1_1).bind fun t122 => (stackyardlaw02_WordUses.j0 k l0 (!t122) a1_0 a1_1))) else (some false)) = some r := H
  have A3 := Aside0.mk A30
  clear A30
  by_cases c4 : t121 = true
  · subst c4
    have H1 : (if (l0.length : Int) > 60 then (stackyardlaw02_WordUses.j0 k l0 true a1_0 a1_1) else ((stamp_Stamp_Right.f a1_0 a1_1).bind fun t122 => (stackyardlaw02_WordUses.j0 k l0 (!t122) a1_0 a1_1))) = some r := by rw [if_pos rfl] at H; exact H
    clear H
    have H := H1
    clear H1
    have HC5 := Aside0.mk H
    clear H
    go_enter Try.func11, Try.ntmps11
    go_upto_region 3 with (first | ((with_reducible refine gate_dst (N := 3) rfl ?_); refine box_event ?hg (N := 3) ?hd (cs := #[.int .i64 a1_0, .int .i64 a1_1]) (t := 33) ?hr ?_; (case hd => rfl); (case hg => rfl); (case hr => first | (go_simp; done) | (go_simp; rfl)); intro gb120 hg w6 hbox hb; have n0_ := Aside0.mk (below_step (by repeat (first | (with_reducible first | exact HB.out | apply below_alloc | apply pw_below_drewN | apply below_drew1) | exact HB.out)) hb); have n1_ := Aside0.mk (hbox); have n2_ := Aside0.mk ((by rw [hg]; exact (below_size (by repeat (first | (with_reducible first | exact HB.out | apply below_alloc | apply pw_below_drewN | apply below_drew1) | exact HB.out))) : w.heap.size ≤ gb120)); have n3_ := Aside0.mk ((by rw [hg]; exact (below_size (by repeat (first | (with_reducible first | exact HB.out | apply below_alloc | apply pw_below_drewN | apply below_drew1) | exact HB.out))) : w.heap.size ≤ gb120)); clear HB; have HB := n0_; have BK120 := n1_; have GW120 := n2_; have GE120 := n3_; clear n0_ n1_ n2_ n3_; clear hb hbox hg) | ((with_reducible refine gate_callee (f := 23) rfl ?_); refine goesL_ (some 14) rfl rfl Try.func23 (by kernel_rfl) rfl #[] rfl (by (try simp only [List.map_toArray, List.map_cons, List.map_nil]); first | done | rfl | (simp only [List.length_drop, List.length_take]; rfl)) ?_; (with_reducible refine (stackyardlaw02_head.calls  true _ A3.out).mono ?_); rintro e w7 ⟨rfl, hb⟩; refine ⟨_, rfl, ?_⟩; have n0_ := Aside0.mk (blk_below (g := gb120) (o := .cells #[.int .i64 a1_0, .int .i64 a1_1] 33 (0, 0)) (by (with_reducible repeat (first | refine blk_drewN ?_ _ | refine blk_drew ?_ | refine blk_alloc ?_ _)); exact BK120.out) hb); have n1_ := Aside0.mk (below_step (by repeat (first | (with_reducible first | exact HB.out | apply below_alloc | apply pw_below_drewN | apply below_drew1 | refine below_set ?_ GE120.out) | exact HB.out)) hb); clear BK120; clear HB; have BK120 := n0_; have HB := n1_; clear n0_ n1_; (try clear hb); (try clear hb2); (try clear hk); (try clear hi)))
    (try simp only [Act.put, List.setIfInBounds_toArray, List.set_cons_zero, List.set_cons_succ])
    go_cut [23] (fun v23 wc => ∃ (kq : Nat) (x23_4 : Bool), v23 = .bool x23_4 ∧ Aside0 (stackyardlaw02_WordUses.j0 kq l0 x23_4 a1_0 a1_1 = some r) ∧ Aside0 (kq ≤ k) ∧ Aside0 (wc.heap[gb120]? = some (.cells #[.int .i64 a1_0, .int .i64 a1_1] 33 (0, 0))) ∧ Aside0 (Below w.heap.size w wc))
    case first =>
      have H := HC5.out
      clear HC5
      by_cases c8 : (l0.length : Int) > 60
      · rw [if_pos c8] at H
        have c8b0 : decide (60 < (l0.length : Int)) = true := decide_eq_true c8
        have c8b1 : decide (60 < l0.length) = true := decide_eq_true (by omega)
        clear c8
        (first | rw [c8b0] | (simp only [i64_w, i32_w]; rw [c8b0]) | skip)
        have H' := Aside0.mk H
        clear H
        go_wp2
        go_meet
        case rel => exact ⟨_, (true), (by first | rfl | (simp; done) | (simp [*]; done)), H', ⟨by first | omega | exact Nat.le_refl _⟩, ⟨by (with_reducible repeat (first | refine blk_drewN ?_ _ | refine blk_drew ?_ | refine blk_alloc ?_ _)); exact BK120.out⟩, ⟨by repeat (first | (with_reducible first | exact HB.out | apply below_alloc | apply pw_below_drewN | apply below_drew1 | refine below_set ?_ GE120.out) | exact HB.out)⟩⟩
      · rw [if_neg c8] at H
        have c8b0 : decide (60 < (l0.length : Int)) = false := decide_eq_false c8
        have c8b1 : decide (60 < l0.length) = false := decide_eq_false (by omega)
        clear c8
        (first | rw [c8b0] | (simp only [i64_w, i32_w]; rw [c8b0]) | skip)
        replace H := Option.bind_eq_some_iff.mp H
        obtain ⟨t122, A90, H⟩ := H
        replace H : (stackyardlaw02_WordUses.j0 k l0 (!t122) a1_0 a1_1) = some r := H
        have A9 := Aside0.mk A90
        clear A90
        have H' := Aside0.mk H
        clear H
        have hcz10_0 : w7.cell? ⟨gb120, 0, none⟩ = some (.int .i64 a1_0) := (blk_cell BK120.out 0).trans rfl
        have hcz10_1 : w7.cell? ⟨gb120, 1, none⟩ = some (.int .i64 a1_1) := (blk_cell BK120.out 1).trans rfl
        have hfz10_0 := blk_frozen BK120.out 0
        have hfz10_1 := blk_frozen BK120.out 1
        go_wp2_with (first | (go_at_call 31; (with_reducible refine (stamp_Stamp_Right.calls a1_0 a1_1 t122 _ A9.out).mono ?_); rintro e w11 ⟨rfl, hb⟩; have n0_ := Aside0.mk (blk_below (g := gb120) (o := .cells #[.int .i64 a1_0, .int .i64 a1_1] 33 (0, 0)) (by (with_reducible repeat (first | refine blk_drewN ?_ _ | refine blk_drew ?_ | refine blk_alloc ?_ _)); exact BK120.out) hb); have n1_ := Aside0.mk (below_step (by repeat (first | (with_reducible first | exact HB.out | apply below_alloc | apply pw_below_drewN | apply below_drew1 | refine below_set ?_ GE120.out) | exact HB.out)) hb); clear BK120; clear HB; have BK120 := n0_; have HB := n1_; clear n0_ n1_; (try clear hb); (try clear hb2); (try clear hk); (try clear hi)))
        go_meet
        case rel => exact ⟨_, (!t122), (by first | rfl | (simp; done) | (simp [*]; done)), H', ⟨by first | omega | exact Nat.le_refl _⟩, ⟨by (with_reducible repeat (first | refine blk_drewN ?_ _ | refine blk_drew ?_ | refine blk_alloc ?_ _)); exact BK120.out⟩, ⟨by repeat (first | (with_reducible first | exact HB.out | apply below_alloc | apply pw_below_drewN | apply below_drew1 | refine below_set ?_ GE120.out) | exact HB.out)⟩⟩
    case rest =>
      clear HC5
      try clear c1
      try clear c2
      try clear p2
      try clear c4
      try clear c8
      try clear c8b0
      try clear c8b1
      try clear c11
      try clear hcz10_0
      try clear hcz10_1
      try clear hfz10_0
      try clear hfz10_1
      obtain ⟨kq, x23_4, rfl, HA, HJ4, BK120, HB⟩ := hcut
      cases kq with
      | zero => exact absurd HA.out (by simp [stackyardlaw02_WordUses.j0])
      | succ kj4 =>
        have H := HA.out
        clear HA
        simp only [stackyardlaw02_WordUses.j0] at H
        by_cases c12 : x23_4 = true
        · subst c12
          have H1 : (some true) = some r := by rw [if_pos rfl] at H; exact H
          clear H
          have H := H1
          clear H1
          obtain rfl := Option.some.inj H
          go_wp2
          go_ret
          exact ⟨by first | rfl | (simp [errW_none, errW_some] <;> rfl) | (simp [*, errW_none, errW_some] <;> rfl), by repeat (first | (with_reducible first | exact HB.out | apply below_alloc | apply pw_below_drewN | apply below_drew1 | refine below_set ?_ GE120.out) | exact HB.out)⟩
        · replace c12 := Bool.eq_false_iff.mpr c12
          subst c12
          have H1 : ((word_Word_Pack.f 0 0 0 0 0).bind fun t124 => (stackyardlaw02_WordUses.l0 kj4 l0 (([t124] : List Int)) l0 (l0.length : Int) 0 a1_0 a1_1 0 0 0 0 0)) = some r := by rw [if_neg (show ¬ (false = true) by decide)] at H; exact H
          clear H
          have H := H1
          clear H1
          replace H := Option.bind_eq_some_iff.mp H
          obtain ⟨t124, A130, H⟩ := H
          replace H : (stackyardlaw02_WordUses.l0 kj4 l0 (([t124] : List Int)) l0 (l0.length : Int) 0 a1_0 a1_1 0 0 0 0 0) = some r := H
          have A13 := Aside0.mk A130
          clear A130
          obtain ⟨y125, hy125⟩ : ∃ y_ : List Int, y_ = (([t124] : List Int)) := ⟨_, rfl⟩
          replace H : (stackyardlaw02_WordUses.l0 kj4 l0 y125 l0 (l0.length : Int) 0 a1_0 a1_1 0 0 0 0 0) = some r := by first | (rw [hy125]; with_reducible exact H) | (have H2_ := (Option.bind_some _ _).symm.trans H; rw [hy125]; with_reducible exact H2_) | (have H2_ := (Option.bind_some _ _).symm.trans H; with_reducible exact H2_) | with_reducible exact H | (rw [hy125]; exact H) | exact H
          have Ny125 := Aside0.mk hy125
          clear hy125
          have H' := Aside0.mk H
          clear H
          go_wp2_with (first | ((with_reducible refine gate_dst (N := 5) rfl ?_); refine box_event ?hg (N := 5) ?hd (cs := #[.int .i64 0, .int .i64 0, .int .i64 0, .int .i64 0, .int .i64 0]) (t := 35) ?hr ?_; (case hd => rfl); (case hg => rfl); (case hr => first | (go_simp; done) | (go_simp; rfl)); intro gb123 hg w14 hbox hb; have n0_ := Aside0.mk (blk_below (g := gb120) (o := .cells #[.int .i64 a1_0, .int .i64 a1_1] 33 (0, 0)) (by (with_reducible repeat (first | refine blk_drewN ?_ _ | refine blk_drew ?_ | refine blk_alloc ?_ _)); exact BK120.out) hb); have n1_ := Aside0.mk (below_step (by repeat (first | (with_reducible first | exact HB.out | apply below_alloc | apply pw_below_drewN | apply below_drew1 | refine below_set ?_ GE120.out) | exact HB.out)) hb); have n2_ := Aside0.mk (hbox); have n3_ := Aside0.mk ((by rw [hg]; exact (below_size (by repeat (first | (with_reducible first | exact HB.out | apply below_alloc | apply pw_below_drewN | apply below_drew1 | refine below_set ?_ GE120.out) | exact HB.out))) : w.heap.size ≤ gb123)); have n4_ := Aside0.mk ((by rw [hg]; exact (below_size (by repeat (first | (with_reducible first | exact HB.out | apply below_alloc | apply pw_below_drewN | apply below_drew1 | refine below_set ?_ GE120.out) | exact HB.out))) : w.heap.size ≤ gb123)); have n5_ := Aside0.mk ((by rw [hg]; exact Nat.ne_of_lt (blk_lt (g := gb120) (o := .cells #[.int .i64 a1_0, .int .i64 a1_1] 33 (0, 0)) (by (with_reducible repeat (first | refine blk_drewN ?_ _ | refine blk_drew ?_ | refine blk_alloc ?_ _)); exact BK120.out)) : gb120 ≠ gb123)); have n6_ := Aside0.mk ((by rw [hg]; exact Nat.ne_of_gt (blk_lt (g := gb120) (o := .cells #[.int .i64 a1_0, .int .i64 a1_1] 33 (0, 0)) (by (with_reducible repeat (first | refine blk_drewN ?_ _ | refine blk_drew ?_ | refine blk_alloc ?_ _)); exact BK120.out)) : gb123 ≠ gb120)); clear BK120; clear HB; have BK120 := n0_; have HB := n1_; have BK123 := n2_; have GW123 := n3_; have GE123 := n4_; have NB120_123 := n5_; have NB123_120 := n6_; clear n0_ n1_ n2_ n3_ n4_ n5_ n6_; clear hb hbox hg; have hnb15 := NB123_120.out; have hnc15 := NB120_123.out; have hcz16_0 : w14.cell? ⟨gb123, 0, none⟩ = some (.int .i64 0) := (blk_cell BK123.out 0).trans rfl; have hcz16_1 : w14.cell? ⟨gb123, 1, none⟩ = some (.int .i64 0) := (blk_cell BK123.out 1).trans rfl; have hcz16_2 : w14.cell? ⟨gb123, 2, none⟩ = some (.int .i64 0) := (blk_cell BK123.out 2).trans rfl; have hcz16_3 : w14.cell? ⟨gb123, 3, none⟩ = some (.int .i64 0) := (blk_cell BK123.out 3).trans rfl; have hcz16_4 : w14.cell? ⟨gb123, 4, none⟩ = some (.int .i64 0) := (blk_cell BK123.out 4).trans rfl; have hfz16_0 := blk_frozen BK123.out 0; have hfz16_1 := blk_frozen BK123.out 1; have hfz16_2 := blk_frozen BK123.out 2; have hfz16_3 := blk_frozen BK123.out 3; have hfz16_4 := blk_frozen BK123.out 4) | ((with_reducible refine gate_callee (f := 24) rfl ?_); refine goesL_ (some 26) rfl rfl Try.func24 (by kernel_rfl) rfl #[.agg #[.int .i64 0, .int .i64 0, .int .i64 0, .int .i64 0, .int .i64 0]] rfl (by (try simp only [List.map_toArray, List.map_cons, List.map_nil]); first | done | rfl | (simp only [List.length_drop, List.length_take]; rfl)) ?_; (with_reducible refine (word_Word_Pack.calls 0 0 0 0 0 t124 _ A13.out).mono ?_); rintro e w17 ⟨rfl, hb⟩; refine ⟨_, rfl, ?_⟩; have n0_ := Aside0.mk (blk_below (g := gb120) (o := .cells #[.int .i64 a1_0, .int .i64 a1_1] 33 (0, 0)) (by (with_reducible repeat (first | refine blk_drewN ?_ _ | refine blk_drew ?_ | refine blk_alloc ?_ _)); refine blk_far ?_ NB120_123.out _; (with_reducible repeat (first | refine blk_drewN ?_ _ | refine blk_drew ?_ | refine blk_alloc ?_ _)); refine blk_far ?_ NB120_123.out _; (with_reducible repeat (first | refine blk_drewN ?_ _ | refine blk_drew ?_ | refine blk_alloc ?_ _)); refine blk_far ?_ NB120_123.out _; (with_reducible repeat (first | refine blk_drewN ?_ _ | refine blk_drew ?_ | refine blk_alloc ?_ _)); refine blk_far ?_ NB120_123.out _; (with_reducible repeat (first | refine blk_drewN ?_ _ | refine blk_drew ?_ | refine blk_alloc ?_ _)); refine blk_far ?_ NB120_123.out _; (with_reducible repeat (first | refine blk_drewN ?_ _ | refine blk_drew ?_ | refine blk_alloc ?_ _)); exact BK120.out) hb); have n1_ := Aside0.mk (blk_below (g := gb123) (o := .cells #[.int .i64 0, .int .i64 0, .int .i64 0, .int .i64 0, .int .i64 0] 35 (0, 0)) (by (with_reducible repeat (first | refine blk_drewN ?_ _ | refine blk_drew ?_ | refine blk_alloc ?_ _)); refine blk_put (cs := #[.int .i64 0, .int .i64 0, .int .i64 0, .int .i64 0, .int .i64 0]) ?_ 4 _ rfl; (with_reducible repeat (first | refine blk_drewN ?_ _ | refine blk_drew ?_ | refine blk_alloc ?_ _)); refine blk_put (cs := #[.int .i64 0, .int .i64 0, .int .i64 0, .int .i64 0, .int .i64 0]) ?_ 3 _ rfl; (with_reducible repeat (first | refine blk_drewN ?_ _ | refine blk_drew ?_ | refine blk_alloc ?_ _)); refine blk_put (cs := #[.int .i64 0, .int .i64 0, .int .i64 0, .int .i64 0, .int .i64 0]) ?_ 2 _ rfl; (with_reducible repeat (first | refine blk_drewN ?_ _ | refine blk_drew ?_ | refine blk_alloc ?_ _)); refine blk_put (cs := #[.int .i64 0, .int .i64 0, .int .i64 0, .int .i64 0, .int .i64 0]) ?_ 1 _ rfl; (with_reducible repeat (first | refine blk_drewN ?_ _ | refine blk_drew ?_ | refine blk_alloc ?_ _)); refine blk_put (cs := #[.int .i64 0, .int .i64 0, .int .i64 0, .int .i64 0, .int .i64 0]) ?_ 0 _ rfl; (with_reducible repeat (first | refine blk_drewN ?_ _ | refine blk_drew ?_ | refine blk_alloc ?_ _)); exact BK123.out) hb); have n2_ := Aside0.mk (below_step (by repeat (first | (with_reducible first | exact HB.out | apply below_alloc | apply pw_below_drewN | apply below_drew1 | refine below_set ?_ GE120.out | refine below_set ?_ GE123.out) | exact HB.out)) hb); clear BK120; clear BK123; clear HB; have BK120 := n0_; have BK123 := n1_; have HB := n2_; clear n0_ n1_ n2_; (try clear hb); (try clear hb2); (try clear hk); (try clear hi)) | ((with_reducible refine gate_dst (N := 27) rfl ?_); refine Kd.R_lit (Kd.int .u64) _ 36 ?hg (N := 27) ?hd (xs := ([t124] : List Int)) (inner := [.int .u64 t124]) (ok := fun _ => True) (okp := fun _ => True) ?hr ?hp (fun _ hk => hk) trivial (Below.refl _ _) (Nat.le_refl _) (by simp) ?_; (case hd => rfl); (case hg => rfl); (case hr => first | (go_simp; done) | (go_simp; rfl)); (case hp => exact (Reps.one (show Kd.M (Kd.int .u64) _ _ _ t124 [.int .u64 t124] from rfl) (Reps.none _ _))); intro v126 w18 ho19 hb hg_ hnew_; clear hg_ hnew_; (first | rw [← Ny125.out] at ho19 | (simp only [Int.reduceToNat] at ho19; rw [← Ny125.out] at ho19)); have n0_ := Aside0.mk (Kd.R_lower ho19 (below_size (by repeat (first | (with_reducible first | exact HB.out | apply below_alloc | apply pw_below_drewN | apply below_drew1 | refine below_set ?_ GE120.out | refine below_set ?_ GE123.out) | exact HB.out)))); have n1_ := Aside0.mk (blk_below (g := gb120) (o := .cells #[.int .i64 a1_0, .int .i64 a1_1] 33 (0, 0)) (by (with_reducible repeat (first | refine blk_drewN ?_ _ | refine blk_drew ?_ | refine blk_alloc ?_ _)); exact BK120.out) hb); have n2_ := Aside0.mk (blk_below (g := gb123) (o := .cells #[.int .i64 0, .int .i64 0, .int .i64 0, .int .i64 0, .int .i64 0] 35 (0, 0)) (by (with_reducible repeat (first | refine blk_drewN ?_ _ | refine blk_drew ?_ | refine blk_alloc ?_ _)); exact BK123.out) hb); have n3_ := Aside0.mk (below_step (by repeat (first | (with_reducible first | exact HB.out | apply below_alloc | apply pw_below_drewN | apply below_drew1 | refine below_set ?_ GE120.out | refine below_set ?_ GE123.out) | exact HB.out)) hb); clear BK120; clear BK123; clear HB; have HO127 := n0_; have BK120 := n1_; have BK123 := n2_; have HB := n3_; clear n0_ n1_ n2_ n3_; clear hb ho19))
          go_loopg [6, 30] kj4 (fun kq v6 v30 w' => ∃ (x6_2 : List Int) (x30_2 : Int) (x124000_2 : Int) (x124001_2 : Int) (x124002_2 : Int) (x124003_2 : Int) (x124004_2 : Int), v30 = .int .i64 x30_2 ∧ Aside0 (stackyardlaw02_WordUses.l0 kq l0 x6_2 l0 (l0.length : Int) x30_2 a1_0 a1_1 x124000_2 x124001_2 x124002_2 x124003_2 x124004_2 = some r) ∧ Aside0 (kq ≤ kj4) ∧ Aside0 (Kd.R (Kd.int .u64) 36 w' w.heap.size (fun _ => True) v6 x6_2) ∧ Aside0 (w'.heap[gb120]? = some (.cells #[.int .i64 a1_0, .int .i64 a1_1] 33 (0, 0))) ∧ Aside0 (w'.heap[gb123]? = some (.cells #[.int .i64 x124000_2, .int .i64 x124001_2, .int .i64 x124002_2, .int .i64 x124003_2, .int .i64 x124004_2] 35 (0, 0))) ∧ Aside0 (Below w.heap.size w w'))
          case atStart => exact ⟨(y125), (0), (0), (0), (0), (0), (0), (by first | rfl | (simp; done) | (simp [*]; done)), H', ⟨Nat.le_refl _⟩, ⟨by (with_reducible repeat (first | apply Kd.R_alloc | apply Kd.R_drewN | apply Kd.R_drew)); exact HO127.out⟩, ⟨by (with_reducible repeat (first | refine blk_drewN ?_ _ | refine blk_drew ?_ | refine blk_alloc ?_ _)); exact BK120.out⟩, ⟨by (with_reducible repeat (first | refine blk_drewN ?_ _ | refine blk_drew ?_ | refine blk_alloc ?_ _)); exact BK123.out⟩, ⟨by repeat (first | (with_reducible first | exact HB.out | apply below_alloc | apply pw_below_drewN | apply below_drew1 | refine below_set ?_ GE120.out | refine below_set ?_ GE123.out) | exact HB.out)⟩⟩
          case round =>
            clear H'
            try clear c1
            try clear c2
            try clear p2
            try clear c4
            try clear c8
            try clear c8b0
            try clear c8b1
            try clear c11
            try clear c12
            try clear c15
            try clear hcz10_0
            try clear hcz10_1
            try clear hcz16_0
            try clear hcz16_1
            try clear hcz16_2
            try clear hcz16_3
            try clear hcz16_4
            try clear hfz10_0
            try clear hfz10_1
            try clear hfz16_0
            try clear hfz16_1
            try clear hfz16_2
            try clear hfz16_3
            try clear hfz16_4
            try clear p2
            obtain ⟨x6_2, x30_2, x124000_2, x124001_2, x124002_2, x124003_2, x124004_2, rfl, HA, HK2, HO_6, BK120, BK123, HB⟩ := hrel
            cases gk with
            | zero => exact absurd HA.out (by simp [stackyardlaw02_WordUses.l0])
            | succ k2 =>
              have H := HA.out
              clear HA
              simp only [stackyardlaw02_WordUses.l0] at H
              by_cases c20 : x30_2 < (l0.length : Int)
              · rw [if_pos c20] at H
                have c20b0 : decide (x30_2 < (l0.length : Int)) = true := decide_eq_true c20
                clear c20
                by_cases c21 : 0 ≤ x30_2
                · rw [if_pos c21] at H
                  have c21b0 : decide (0 ≤ x30_2) = true := decide_eq_true c21
                  clear c21
                  by_cases c22 : x30_2 < (l0.length : Int)
                  · rw [if_pos c22] at H
                    have c22b0 : decide (x30_2 < (l0.length : Int)) = true := decide_eq_true c22
                    clear c22
                    have HC23 := Aside0.mk H
                    clear H
                    have p128 : 0 ≤ (x30_2 : Int) := of_decide_eq_true (by first | (with_reducible assumption) | assumption)
                    have q128 : x30_2 < (l0.length : Int) := of_decide_eq_true (by first | (with_reducible assumption) | assumption)
                    obtain ⟨ad128, e128, hx128_0⟩ := Kd.at_bool HR0.out x30_2 p128 q128
                    cases e128
                    replace hx128_0 := (HB.out.cell (World.block_lt_of_cell? w _ hx128_0)).trans hx128_0
                    replace p128 := eq_true p128
                    replace q128 := eq_true q128
                    obtain ⟨bq24, hbq24⟩ : ∃ b_ : Bool, b_ = (rdOf false l0 x30_2) := ⟨_, rfl⟩
                    rw [← hbq24] at hx128_0
                    have Nbq24 := Aside0.mk hbq24
                    clear hbq24
                    go_upto_if 34 with (fail)
                    go_cut [9] (fun v9 wc => ∃ (kq : Nat) (x9_22 : Int), v9 = .int .i64 x9_22 ∧ Aside0 (stackyardlaw02_WordUses.j2 kq l0 x6_2 x9_22 l0 (l0.length : Int) x30_2 a1_0 a1_1 x124000_2 x124001_2 x124002_2 x124003_2 x124004_2 = some r) ∧ Aside0 (kq ≤ k2) ∧ Aside0 (Kd.R (Kd.int .u64) 36 wc w.heap.size (fun _ => True) u6 x6_2) ∧ Aside0 (wc.heap[gb120]? = some (.cells #[.int .i64 a1_0, .int .i64 a1_1] 33 (0, 0))) ∧ Aside0 (wc.heap[gb123]? = some (.cells #[.int .i64 x124000_2, .int .i64 x124001_2, .int .i64 x124002_2, .int .i64 x124003_2, .int .i64 x124004_2] 35 (0, 0))) ∧ Aside0 (Below w.heap.size w wc))
                    case first =>
                      have H := HC23.out
                      clear HC23
                      replace H : (if bq24 = true then (stackyardlaw02_WordUses.j2 k2 l0 x6_2 1 l0 (l0.length : Int) x30_2 a1_0 a1_1 x124000_2 x124001_2 x124002_2 x124003_2 x124004_2) else (stackyardlaw02_WordUses.j2 k2 l0 x6_2 0 l0 (l0.length : Int) x30_2 a1_0 a1_1 x124000_2 x124001_2 x124002_2 x124003_2 x124004_2)) = some r := by rw [← Nbq24.out] at H; exact H
                      by_cases c25 : bq24 = true
                      · subst c25
                        have H1 : (stackyardlaw02_WordUses.j2 k2 l0 x6_2 1 l0 (l0.length : Int) x30_2 a1_0 a1_1 x124000_2 x124001_2 x124002_2 x124003_2 x124004_2) = some r := by rw [if_pos rfl] at H; exact H
                        clear H
                        have H := H1
                        clear H1
                        have H' := Aside0.mk H
                        clear H
                        go_wp2
                        go_meet
                        case rel => exact ⟨_, (1), (by first | rfl | (simp; done) | (simp [*]; done)), H', ⟨by have := HJ4.out; have := HK2.out; first | omega | exact Nat.le_refl _⟩, ⟨by (with_reducible repeat (first | apply Kd.R_alloc | apply Kd.R_drewN | apply Kd.R_drew)); exact HO_6.out⟩, ⟨by (with_reducible repeat (first | refine blk_drewN ?_ _ | refine blk_drew ?_ | refine blk_alloc ?_ _)); exact BK120.out⟩, ⟨by (with_reducible repeat (first | refine blk_drewN ?_ _ | refine blk_drew ?_ | refine blk_alloc ?_ _)); exact BK123.out⟩, ⟨by repeat (first | (with_reducible first | exact HB.out | apply below_alloc | apply pw_below_drewN | apply below_drew1 | refine below_set ?_ GE120.out | refine below_set ?_ GE123.out) | exact HB.out)⟩⟩
                      · replace c25 := Bool.eq_false_iff.mpr c25
                        subst c25
                        have H1 : (stackyardlaw02_WordUses.j2 k2 l0 x6_2 0 l0 (l0.length : Int) x30_2 a1_0 a1_1 x124000_2 x124001_2 x124002_2 x124003_2 x124004_2) = some r := by rw [if_neg (show ¬ (false = true) by decide)] at H; exact H
                        clear H
                        have H := H1
                        clear H1
                        have H' := Aside0.mk H
                        clear H
                        go_wp2
                        go_meet
                        case rel => exact ⟨_, (0), (by first | rfl | (simp; done) | (simp [*]; done)), H', ⟨by have := HJ4.out; have := HK2.out; first | omega | exact Nat.le_refl _⟩, ⟨by (with_reducible repeat (first | apply Kd.R_alloc | apply Kd.R_drewN | apply Kd.R_drew)); exact HO_6.out⟩, ⟨by (with_reducible repeat (first | refine blk_drewN ?_ _ | refine blk_drew ?_ | refine blk_alloc ?_ _)); exact BK120.out⟩, ⟨by (with_reducible repeat (first | refine blk_drewN ?_ _ | refine blk_drew ?_ | refine blk_alloc ?_ _)); exact BK123.out⟩, ⟨by repeat (first | (with_reducible first | exact HB.out | apply below_alloc | apply pw_below_drewN | apply below_drew1 | refine below_set ?_ GE120.out | refine below_set ?_ GE123.out) | exact HB.out)⟩⟩
                    case rest =>
                      clear HC23
                      try clear c1
                      try clear p1
                      try clear q1
                      try clear hx1
                      try clear c2
                      try clear p2
                      try clear q2
                      try clear c4
                      try clear c8
                      try clear c8b0
                      try clear c8b1
                      try clear c11
                      try clear c12
                      try clear p12
                      try clear q12
                      try clear hx12
                      try clear c15
                      try clear c20
                      try clear c20b0
                      try clear c21
                      try clear c21b0
                      try clear c22
                      try clear c22b0
                      try clear c23
                      try clear c24
                      try clear q24
                      try clear c25
                      try clear hcz10_0
                      try clear hcz10_1
                      try clear hcz16_0
                      try clear hcz16_1
                      try clear hcz16_2
                      try clear hcz16_3
                      try clear hcz16_4
                      try clear hfz10_0
                      try clear hfz10_1
                      try clear hfz16_0
                      try clear hfz16_1
                      try clear hfz16_2
                      try clear hfz16_3
                      try clear hfz16_4
                      try clear hx128_0
                      try clear p128
                      try clear p2
                      try clear q128
                      obtain ⟨kq, x9_22, rfl, HA, HJ22, HO_6, BK120, BK123, HB⟩ := hcut
                      cases kq with
                      | zero => exact absurd HA.out (by simp [stackyardlaw02_WordUses.j2])
                      | succ kj22 =>
                        have H := HA.out
                        clear HA
                        simp only [stackyardlaw02_WordUses.j2] at H
                        replace H := Option.bind_eq_some_iff.mp H
                        obtain ⟨⟨t129, t130, t131, t132, t133⟩, A260, H⟩ := H
                        replace H : ((word_Word_Pack.f t129 t130 t131 t132 t133).bind fun t134 => (if x6_2.length < 17592186044416 then ((some (x6_2 ++ [t134] : List Int)).bind fun y135 => ((word_Word_Taken.f t129 t130 t131 t132 t133).bind fun bt138 => ((word_Word_Pack.f bt138.1 bt138.2.1 bt138.2.2.1 bt138.2.2.2.1 bt138.2.2.2.2).bind fun t143 => (if y135.length < 17592186044416 then (stackyardlaw02_WordUses.l0 kj22 l0 (y135 ++ [t143]) l0 (l0.length : Int) (wrap64 (x30_2 + 1)) a1_0 a1_1 bt138.1 bt138.2.1 bt138.2.2.1 bt138.2.2.2.1 bt138.2.2.2.2) else (none))))) else (none))) = some r := H
                        have A26 := Aside0.mk A260
                        clear A260
                        replace H := Option.bind_eq_some_iff.mp H
                        obtain ⟨t134, A270, H⟩ := H
                        replace H : (if x6_2.length < 17592186044416 then ((some (x6_2 ++ [t134] : List Int)).bind fun y135 => ((word_Word_Taken.f t129 t130 t131 t132 t133).bind fun bt138 => ((word_Word_Pack.f bt138.1 bt138.2.1 bt138.2.2.1 bt138.2.2.2.1 bt138.2.2.2.2).bind fun t143 => (if y135.length < 17592186044416 then (stackyardlaw02_WordUses.l0 kj22 l0 (y135 ++ [t143]) l0 (l0.length : Int) (wrap64 (x30_2 + 1)) a1_0 a1_1 bt138.1 bt138.2.1 bt138.2.2.1 bt138.2.2.2.1 bt138.2.2.2.2) else (none))))) else (none)) = some r := H
                        have A27 := Aside0.mk A270
                        clear A270
                        by_cases c28 : x6_2.length < 17592186044416
                        · rw [if_pos c28] at H
                          have LMc28 := Aside0.mk c28
                          clear c28
                          obtain ⟨y135, hy135⟩ : ∃ y_ : List Int, y_ = (x6_2 ++ [t134]) := ⟨_, rfl⟩
                          replace H : ((word_Word_Taken.f t129 t130 t131 t132 t133).bind fun bt138 => ((word_Word_Pack.f bt138.1 bt138.2.1 bt138.2.2.1 bt138.2.2.2.1 bt138.2.2.2.2).bind fun t143 => (if y135.length < 17592186044416 then (stackyardlaw02_WordUses.l0 kj22 l0 (y135 ++ [t143]) l0 (l0.length : Int) (wrap64 (x30_2 + 1)) a1_0 a1_1 bt138.1 bt138.2.1 bt138.2.2.1 bt138.2.2.2.1 bt138.2.2.2.2) else (none)))) = some r := by first | (rw [hy135]; with_reducible exact H) | (have H2_ := (Option.bind_some _ _).symm.trans H; rw [hy135]; with_reducible exact H2_) | (have H2_ := (Option.bind_some _ _).symm.trans H; with_reducible exact H2_) | with_reducible exact H | (rw [hy135]; exact H) | exact H
                          have Ny135 := Aside0.mk hy135
                          clear hy135
                          replace H := Option.bind_eq_some_iff.mp H
                          obtain ⟨⟨t138, t139, t140, t141, t142⟩, A290, H⟩ := H
                          replace H : ((word_Word_Pack.f t138 t139 t140 t141 t142).bind fun t143 => (if y135.length < 17592186044416 then (stackyardlaw02_WordUses.l0 kj22 l0 (y135 ++ [t143]) l0 (l0.length : Int) (wrap64 (x30_2 + 1)) a1_0 a1_1 t138 t139 t140 t141 t142) else (none))) = some r := H
                          have A29 := Aside0.mk A290
                          clear A290
                          replace H := Option.bind_eq_some_iff.mp H
                          obtain ⟨t143, A300, H⟩ := H
                          replace H : (if y135.length < 17592186044416 then (stackyardlaw02_WordUses.l0 kj22 l0 (y135 ++ [t143]) l0 (l0.length : Int) (wrap64 (x30_2 + 1)) a1_0 a1_1 t138 t139 t140 t141 t142) else (none)) = some r := H
                          have A30 := Aside0.mk A300
                          clear A300
                          by_cases c31 : y135.length < 17592186044416
                          · rw [if_pos c31] at H
                            have LMc31 := Aside0.mk c31
                            clear c31
                            obtain ⟨y144, hy144⟩ : ∃ y_ : List Int, y_ = (y135 ++ [t143]) := ⟨_, rfl⟩
                            replace H : (stackyardlaw02_WordUses.l0 kj22 l0 y144 l0 (l0.length : Int) (wrap64 (x30_2 + 1)) a1_0 a1_1 t138 t139 t140 t141 t142) = some r := by first | (rw [hy144]; with_reducible exact H) | (have H2_ := (Option.bind_some _ _).symm.trans H; rw [hy144]; with_reducible exact H2_) | (have H2_ := (Option.bind_some _ _).symm.trans H; with_reducible exact H2_) | with_reducible exact H | (rw [hy144]; exact H) | exact H
                            have Ny144 := Aside0.mk hy144
                            clear hy144
                            have H' := Aside0.mk H
                            clear H
                            have hnb32 := NB123_120.out
                            have hnc32 := NB120_123.out
                            have hcz33_0 : wc.cell? ⟨gb123, 0, none⟩ = some (.int .i64 x124000_2) := (blk_cell BK123.out 0).trans rfl
                            have hcz33_1 : wc.cell? ⟨gb123, 1, none⟩ = some (.int .i64 x124001_2) := (blk_cell BK123.out 1).trans rfl
                            have hcz33_2 : wc.cell? ⟨gb123, 2, none⟩ = some (.int .i64 x124002_2) := (blk_cell BK123.out 2).trans rfl
                            have hcz33_3 : wc.cell? ⟨gb123, 3, none⟩ = some (.int .i64 x124003_2) := (blk_cell BK123.out 3).trans rfl
                            have hcz33_4 : wc.cell? ⟨gb123, 4, none⟩ = some (.int .i64 x124004_2) := (blk_cell BK123.out 4).trans rfl
                            have hfz33_0 := blk_frozen BK123.out 0
                            have hfz33_1 := blk_frozen BK123.out 1
                            have hfz33_2 := blk_frozen BK123.out 2
                            have hfz33_3 := blk_frozen BK123.out 3
                            have hfz33_4 := blk_frozen BK123.out 4
                            have hcz34_0 : wc.cell? ⟨gb120, 0, none⟩ = some (.int .i64 a1_0) := (blk_cell BK120.out 0).trans rfl
                            have hcz34_1 : wc.cell? ⟨gb120, 1, none⟩ = some (.int .i64 a1_1) := (blk_cell BK120.out 1).trans rfl
                            have hfz34_0 := blk_frozen BK120.out 0
                            have hfz34_1 := blk_frozen BK120.out 1
                            go_wp2_with (first | ((with_reducible refine gate_callee (f := 29) rfl ?_); refine goesL_ (some 38) rfl rfl Try.func29 (by kernel_rfl) rfl #[.agg #[.int .i64 x124000_2, .int .i64 x124001_2, .int .i64 x124002_2, .int .i64 x124003_2, .int .i64 x124004_2], .int .i64 x9_22, .agg #[.int .i64 a1_0, .int .i64 a1_1]] rfl (by (try simp only [List.map_toArray, List.map_cons, List.map_nil]); first | done | rfl | (simp only [List.length_drop, List.length_take]; rfl)) ?_; (with_reducible refine (word_Word_Next.calls x124000_2 x124001_2 x124002_2 x124003_2 x124004_2 x9_22 a1_0 a1_1 t129 t130 t131 t132 t133 _ A26.out).mono ?_); rintro e w35 ⟨rfl, hb⟩; refine ⟨_, rfl, ?_⟩; have n0_ := Aside0.mk (Kd.R_below (by (with_reducible repeat (first | apply Kd.R_alloc | apply Kd.R_drewN | apply Kd.R_drew)); exact HO_6.out) hb); have n1_ := Aside0.mk (blk_below (g := gb120) (o := .cells #[.int .i64 a1_0, .int .i64 a1_1] 33 (0, 0)) (by (with_reducible repeat (first | refine blk_drewN ?_ _ | refine blk_drew ?_ | refine blk_alloc ?_ _)); exact BK120.out) hb); have n2_ := Aside0.mk (blk_below (g := gb123) (o := .cells #[.int .i64 x124000_2, .int .i64 x124001_2, .int .i64 x124002_2, .int .i64 x124003_2, .int .i64 x124004_2] 35 (0, 0)) (by (with_reducible repeat (first | refine blk_drewN ?_ _ | refine blk_drew ?_ | refine blk_alloc ?_ _)); exact BK123.out) hb); have n3_ := Aside0.mk (below_step (by repeat (first | (with_reducible first | exact HB.out | apply below_alloc | apply pw_below_drewN | apply below_drew1 | refine below_set ?_ GE120.out | refine below_set ?_ GE123.out) | exact HB.out)) hb); clear HO_6; clear BK120; clear BK123; clear HB; have HO_6 := n0_; have BK120 := n1_; have BK123 := n2_; have HB := n3_; clear n0_ n1_ n2_ n3_; (try clear hb); (try clear hb2); (try clear hk); (try clear hi); have hcz36_0 : w35.cell? ⟨gb123, 0, none⟩ = some (.int .i64 x124000_2) := (blk_cell BK123.out 0).trans rfl; have hcz36_1 : w35.cell? ⟨gb123, 1, none⟩ = some (.int .i64 x124001_2) := (blk_cell BK123.out 1).trans rfl; have hcz36_2 : w35.cell? ⟨gb123, 2, none⟩ = some (.int .i64 x124002_2) := (blk_cell BK123.out 2).trans rfl; have hcz36_3 : w35.cell? ⟨gb123, 3, none⟩ = some (.int .i64 x124003_2) := (blk_cell BK123.out 3).trans rfl; have hcz36_4 : w35.cell? ⟨gb123, 4, none⟩ = some (.int .i64 x124004_2) := (blk_cell BK123.out 4).trans rfl; have hfz36_0 := blk_frozen BK123.out 0; have hfz36_1 := blk_frozen BK123.out 1; have hfz36_2 := blk_frozen BK123.out 2; have hfz36_3 := blk_frozen BK123.out 3; have hfz36_4 := blk_frozen BK123.out 4) | ((with_reducible refine gate_callee (f := 24) rfl ?_); refine goesL_ (some 41) rfl rfl Try.func24 (by kernel_rfl) rfl #[.agg #[.int .i64 t129, .int .i64 t130, .int .i64 t131, .int .i64 t132, .int .i64 t133]] rfl (by (try simp only [List.map_toArray, List.map_cons, List.map_nil]); first | done | rfl | (simp only [List.length_drop, List.length_take]; rfl)) ?_; (with_reducible refine (word_Word_Pack.calls t129 t130 t131 t132 t133 t134 _ A27.out).mono ?_); rintro e w37 ⟨rfl, hb⟩; refine ⟨_, rfl, ?_⟩; have n0_ := Aside0.mk (Kd.R_below (by (with_reducible repeat (first | apply Kd.R_alloc | apply Kd.R_drewN | apply Kd.R_drew)); exact (Kd.R_mono (Kd.R_far (p := ⟨gb123, 4, none⟩) (Kd.R_far (p := ⟨gb123, 3, none⟩) (Kd.R_far (p := ⟨gb123, 2, none⟩) (Kd.R_far (p := ⟨gb123, 1, none⟩) (Kd.R_far (p := ⟨gb123, 0, none⟩) (Kd.R_types HO_6.out BK123.out (by decide)) (fun _ hk => hk.2) (.int .i64 t129)) (fun _ hk => hk.2) (.int .i64 t130)) (fun _ hk => hk.2) (.int .i64 t131)) (fun _ hk => hk.2) (.int .i64 t132)) (fun _ hk => hk.2) (.int .i64 t133)) (fun _ h_ => h_.1))) hb); have n1_ := Aside0.mk (blk_below (g := gb120) (o := .cells #[.int .i64 a1_0, .int .i64 a1_1] 33 (0, 0)) (by (with_reducible repeat (first | refine blk_drewN ?_ _ | refine blk_drew ?_ | refine blk_alloc ?_ _)); refine blk_far ?_ NB120_123.out _; (with_reducible repeat (first | refine blk_drewN ?_ _ | refine blk_drew ?_ | refine blk_alloc ?_ _)); refine blk_far ?_ NB120_123.out _; (with_reducible repeat (first | refine blk_drewN ?_ _ | refine blk_drew ?_ | refine blk_alloc ?_ _)); refine blk_far ?_ NB120_123.out _; (with_reducible repeat (first | refine blk_drewN ?_ _ | refine blk_drew ?_ | refine blk_alloc ?_ _)); refine blk_far ?_ NB120_123.out _; (with_reducible repeat (first | refine blk_drewN ?_ _ | refine blk_drew ?_ | refine blk_alloc ?_ _)); refine blk_far ?_ NB120_123.out _; (with_reducible repeat (first | refine blk_drewN ?_ _ | refine blk_drew ?_ | refine blk_alloc ?_ _)); exact BK120.out) hb); have n2_ := Aside0.mk (blk_below (g := gb123) (o := .cells #[.int .i64 t129, .int .i64 t130, .int .i64 t131, .int .i64 t132, .int .i64 t133] 35 (0, 0)) (by (with_reducible repeat (first | refine blk_drewN ?_ _ | refine blk_drew ?_ | refine blk_alloc ?_ _)); refine blk_put (cs := #[.int .i64 t129, .int .i64 t130, .int .i64 t131, .int .i64 t132, .int .i64 x124004_2]) ?_ 4 _ rfl; (with_reducible repeat (first | refine blk_drewN ?_ _ | refine blk_drew ?_ | refine blk_alloc ?_ _)); refine blk_put (cs := #[.int .i64 t129, .int .i64 t130, .int .i64 t131, .int .i64 x124003_2, .int .i64 x124004_2]) ?_ 3 _ rfl; (with_reducible repeat (first | refine blk_drewN ?_ _ | refine blk_drew ?_ | refine blk_alloc ?_ _)); refine blk_put (cs := #[.int .i64 t129, .int .i64 t130, .int .i64 x124002_2, .int .i64 x124003_2, .int .i64 x124004_2]) ?_ 2 _ rfl; (with_reducible repeat (first | refine blk_drewN ?_ _ | refine blk_drew ?_ | refine blk_alloc ?_ _)); refine blk_put (cs := #[.int .i64 t129, .int .i64 x124001_2, .int .i64 x124002_2, .int .i64 x124003_2, .int .i64 x124004_2]) ?_ 1 _ rfl; (with_reducible repeat (first | refine blk_drewN ?_ _ | refine blk_drew ?_ | refine blk_alloc ?_ _)); refine blk_put (cs := #[.int .i64 x124000_2, .int .i64 x124001_2, .int .i64 x124002_2, .int .i64 x124003_2, .int .i64 x124004_2]) ?_ 0 _ rfl; (with_reducible repeat (first | refine blk_drewN ?_ _ | refine blk_drew ?_ | refine blk_alloc ?_ _)); exact BK123.out) hb); have n3_ := Aside0.mk (below_step (by repeat (first | (with_reducible first | exact HB.out | apply below_alloc | apply pw_below_drewN | apply below_drew1 | refine below_set ?_ GE120.out | refine below_set ?_ GE123.out) | exact HB.out)) hb); clear HO_6; clear BK120; clear BK123; clear HB; have HO_6 := n0_; have BK120 := n1_; have BK123 := n2_; have HB := n3_; clear n0_ n1_ n2_ n3_; (try clear hb); (try clear hb2); (try clear hk); (try clear hi)) | ((with_reducible refine gate_builtin (b := .append) (xs := #[.tmp 39, .tmp 42]) rfl ?_); at_builtin; refine Kd.R_append (Kd.int .u64) (w0 := w) w.heap.size rfl (.tmp 39) (.tmp 42) 49 36 (.int .u64 0) 8 rfl Try.underlying49 info36 rfl (by decide) (by omega) u6 x6_2 t134 [.int .u64 t134] (fun _ => True) (fun _ => False) rfl rfl ?aP (fun _ hk => hk.elim) ?aF ?aO ?aB ?aS ?aL ?_; (case aP => exact rfl); (case aB => exact (by repeat (first | (with_reducible first | exact HB.out | apply below_alloc | apply pw_below_drewN | apply below_drew1 | refine below_set ?_ GE120.out | refine below_set ?_ GE123.out) | exact HB.out))); (case aF => exact (fun _ _ => trivial)); (case aO => exact (by (with_reducible repeat (first | apply Kd.R_alloc | apply Kd.R_drewN | apply Kd.R_drew)); exact HO_6.out)); (case aS => exact (below_size (by repeat (first | (with_reducible first | exact HB.out | apply below_alloc | apply pw_below_drewN | apply below_drew1 | refine below_set ?_ GE120.out | refine below_set ?_ GE123.out) | exact HB.out)))); (case aL => have := LMc28.out; omega); intro v136 w38 ho hb hg hat; rw [← Ny135.out] at ho; have n0_ := Aside0.mk (blk_grown (g := gb120) (o := .cells #[.int .i64 a1_0, .int .i64 a1_1] 33 (0, 0)) (by (with_reducible repeat (first | refine blk_drewN ?_ _ | refine blk_drew ?_ | refine blk_alloc ?_ _)); exact BK120.out) hg (Kd.R_ne HO_6.out BK120.out (by decide))); have n1_ := Aside0.mk (blk_grown (g := gb123) (o := .cells #[.int .i64 t129, .int .i64 t130, .int .i64 t131, .int .i64 t132, .int .i64 t133] 35 (0, 0)) (by (with_reducible repeat (first | refine blk_drewN ?_ _ | refine blk_drew ?_ | refine blk_alloc ?_ _)); exact BK123.out) hg (Kd.R_ne HO_6.out BK123.out (by decide))); have n2_ := Aside0.mk (hb); have n3_ := Aside0.mk (ho); clear BK120; clear BK123; clear HB; clear HO_6; have BK120 := n0_; have BK123 := n1_; have HB := n2_; have HO137 := n3_; clear n0_ n1_ n2_ n3_; clear ho hb hg hat; have hcz39_0 : w38.cell? ⟨gb123, 0, none⟩ = some (.int .i64 t129) := (blk_cell BK123.out 0).trans rfl; have hcz39_1 : w38.cell? ⟨gb123, 1, none⟩ = some (.int .i64 t130) := (blk_cell BK123.out 1).trans rfl; have hcz39_2 : w38.cell? ⟨gb123, 2, none⟩ = some (.int .i64 t131) := (blk_cell BK123.out 2).trans rfl; have hcz39_3 : w38.cell? ⟨gb123, 3, none⟩ = some (.int .i64 t132) := (blk_cell BK123.out 3).trans rfl; have hcz39_4 : w38.cell? ⟨gb123, 4, none⟩ = some (.int .i64 t133) := (blk_cell BK123.out 4).trans rfl; have hfz39_0 := blk_frozen BK123.out 0; have hfz39_1 := blk_frozen BK123.out 1; have hfz39_2 := blk_frozen BK123.out 2; have hfz39_3 := blk_frozen BK123.out 3; have hfz39_4 := blk_frozen BK123.out 4) | ((with_reducible refine gate_callee (f := 28) rfl ?_); refine goesL_ (some 45) rfl rfl Try.func28 (by kernel_rfl) rfl #[.agg #[.int .i64 t129, .int .i64 t130, .int .i64 t131, .int .i64 t132, .int .i64 t133]] rfl (by (try simp only [List.map_toArray, List.map_cons, List.map_nil]); first | done | rfl | (simp only [List.length_drop, List.length_take]; rfl)) ?_; (with_reducible refine (word_Word_Taken.calls t129 t130 t131 t132 t133 t138 t139 t140 t141 t142 _ A29.out).mono ?_); rintro e w40 ⟨rfl, hb⟩; refine ⟨_, rfl, ?_⟩; have n0_ := Aside0.mk (Kd.R_below (by (with_reducible repeat (first | apply Kd.R_alloc | apply Kd.R_drewN | apply Kd.R_drew)); exact HO137.out) hb); have n1_ := Aside0.mk (blk_below (g := gb120) (o := .cells #[.int .i64 a1_0, .int .i64 a1_1] 33 (0, 0)) (by (with_reducible repeat (first | refine blk_drewN ?_ _ | refine blk_drew ?_ | refine blk_alloc ?_ _)); exact BK120.out) hb); have n2_ := Aside0.mk (blk_below (g := gb123) (o := .cells #[.int .i64 t129, .int .i64 t130, .int .i64 t131, .int .i64 t132, .int .i64 t133] 35 (0, 0)) (by (with_reducible repeat (first | refine blk_drewN ?_ _ | refine blk_drew ?_ | refine blk_alloc ?_ _)); exact BK123.out) hb); have n3_ := Aside0.mk (below_step (by repeat (first | (with_reducible first | exact HB.out | apply below_alloc | apply pw_below_drewN | apply below_drew1 | refine below_set ?_ GE120.out | refine below_set ?_ GE123.out) | exact HB.out)) hb); clear HO137; clear BK120; clear BK123; clear HB; have HO137 := n0_; have BK120 := n1_; have BK123 := n2_; have HB := n3_; clear n0_ n1_ n2_ n3_; (try clear hb); (try clear hb2); (try clear hk); (try clear hi); have hcz41_0 : w40.cell? ⟨gb123, 0, none⟩ = some (.int .i64 t129) := (blk_cell BK123.out 0).trans rfl; have hcz41_1 : w40.cell? ⟨gb123, 1, none⟩ = some (.int .i64 t130) := (blk_cell BK123.out 1).trans rfl; have hcz41_2 : w40.cell? ⟨gb123, 2, none⟩ = some (.int .i64 t131) := (blk_cell BK123.out 2).trans rfl; have hcz41_3 : w40.cell? ⟨gb123, 3, none⟩ = some (.int .i64 t132) := (blk_cell BK123.out 3).trans rfl; have hcz41_4 : w40.cell? ⟨gb123, 4, none⟩ = some (.int .i64 t133) := (blk_cell BK123.out 4).trans rfl; have hfz41_0 := blk_frozen BK123.out 0; have hfz41_1 := blk_frozen BK123.out 1; have hfz41_2 := blk_frozen BK123.out 2; have hfz41_3 := blk_frozen BK123.out 3; have hfz41_4 := blk_frozen BK123.out 4) | ((with_reducible refine gate_callee (f := 24) rfl ?_); refine goesL_ (some 48) rfl rfl Try.func24 (by kernel_rfl) rfl #[.agg #[.int .i64 t138, .int .i64 t139, .int .i64 t140, .int .i64 t141, .int .i64 t142]] rfl (by (try simp only [List.map_toArray, List.map_cons, List.map_nil]); first | done | rfl | (simp only [List.length_drop, List.length_take]; rfl)) ?_; (with_reducible refine (word_Word_Pack.calls t138 t139 t140 t141 t142 t143 _ A30.out).mono ?_); rintro e w42 ⟨rfl, hb⟩; refine ⟨_, rfl, ?_⟩; have n0_ := Aside0.mk (Kd.R_below (by (with_reducible repeat (first | apply Kd.R_alloc | apply Kd.R_drewN | apply Kd.R_drew)); exact (Kd.R_mono (Kd.R_far (p := ⟨gb123, 4, none⟩) (Kd.R_far (p := ⟨gb123, 3, none⟩) (Kd.R_far (p := ⟨gb123, 2, none⟩) (Kd.R_far (p := ⟨gb123, 1, none⟩) (Kd.R_far (p := ⟨gb123, 0, none⟩) (Kd.R_types HO137.out BK123.out (by decide)) (fun _ hk => hk.2) (.int .i64 t138)) (fun _ hk => hk.2) (.int .i64 t139)) (fun _ hk => hk.2) (.int .i64 t140)) (fun _ hk => hk.2) (.int .i64 t141)) (fun _ hk => hk.2) (.int .i64 t142)) (fun _ h_ => h_.1))) hb); have n1_ := Aside0.mk (blk_below (g := gb120) (o := .cells #[.int .i64 a1_0, .int .i64 a1_1] 33 (0, 0)) (by (with_reducible repeat (first | refine blk_drewN ?_ _ | refine blk_drew ?_ | refine blk_alloc ?_ _)); refine blk_far ?_ NB120_123.out _; (with_reducible repeat (first | refine blk_drewN ?_ _ | refine blk_drew ?_ | refine blk_alloc ?_ _)); refine blk_far ?_ NB120_123.out _; (with_reducible repeat (first | refine blk_drewN ?_ _ | refine blk_drew ?_ | refine blk_alloc ?_ _)); refine blk_far ?_ NB120_123.out _; (with_reducible repeat (first | refine blk_drewN ?_ _ | refine blk_drew ?_ | refine blk_alloc ?_ _)); refine blk_far ?_ NB120_123.out _; (with_reducible repeat (first | refine blk_drewN ?_ _ | refine blk_drew ?_ | refine blk_alloc ?_ _)); refine blk_far ?_ NB120_123.out _; (with_reducible repeat (first | refine blk_drewN ?_ _ | refine blk_drew ?_ | refine blk_alloc ?_ _)); exact BK120.out) hb); have n2_ := Aside0.mk (blk_below (g := gb123) (o := .cells #[.int .i64 t138, .int .i64 t139, .int .i64 t140, .int .i64 t141, .int .i64 t142] 35 (0, 0)) (by (with_reducible repeat (first | refine blk_drewN ?_ _ | refine blk_drew ?_ | refine blk_alloc ?_ _)); refine blk_put (cs := #[.int .i64 t138, .int .i64 t139, .int .i64 t140, .int .i64 t141, .int .i64 t133]) ?_ 4 _ rfl; (with_reducible repeat (first | refine blk_drewN ?_ _ | refine blk_drew ?_ | refine blk_alloc ?_ _)); refine blk_put (cs := #[.int .i64 t138, .int .i64 t139, .int .i64 t140, .int .i64 t132, .int .i64 t133]) ?_ 3 _ rfl; (with_reducible repeat (first | refine blk_drewN ?_ _ | refine blk_drew ?_ | refine blk_alloc ?_ _)); refine blk_put (cs := #[.int .i64 t138, .int .i64 t139, .int .i64 t131, .int .i64 t132, .int .i64 t133]) ?_ 2 _ rfl; (with_reducible repeat (first | refine blk_drewN ?_ _ | refine blk_drew ?_ | refine blk_alloc ?_ _)); refine blk_put (cs := #[.int .i64 t138, .int .i64 t130, .int .i64 t131, .int .i64 t132, .int .i64 t133]) ?_ 1 _ rfl; (with_reducible repeat (first | refine blk_drewN ?_ _ | refine blk_drew ?_ | refine blk_alloc ?_ _)); refine blk_put (cs := #[.int .i64 t129, .int .i64 t130, .int .i64 t131, .int .i64 t132, .int .i64 t133]) ?_ 0 _ rfl; (with_reducible repeat (first | refine blk_drewN ?_ _ | refine blk_drew ?_ | refine blk_alloc ?_ _)); exact BK123.out) hb); have n3_ := Aside0.mk (below_step (by repeat (first | (with_reducible first | exact HB.out | apply below_alloc | apply pw_below_drewN | apply below_drew1 | refine below_set ?_ GE120.out | refine below_set ?_ GE123.out) | exact HB.out)) hb); clear HO137; clear BK120; clear BK123; clear HB; have HO137 := n0_; have BK120 := n1_; have BK123 := n2_; have HB := n3_; clear n0_ n1_ n2_ n3_; (try clear hb); (try clear hb2); (try clear hk); (try clear hi)) | ((with_reducible refine gate_builtin (b := .append) (xs := #[.tmp 46, .tmp 49]) rfl ?_); at_builtin; refine Kd.R_append (Kd.int .u64) (w0 := w) w.heap.size rfl (.tmp 46) (.tmp 49) 49 36 (.int .u64 0) 8 rfl Try.underlying49 info36 rfl (by decide) (by omega) v136 y135 t143 [.int .u64 t143] (fun _ => True) (fun _ => False) rfl rfl ?aP (fun _ hk => hk.elim) ?aF ?aO ?aB ?aS ?aL ?_; (case aP => exact rfl); (case aB => exact (by repeat (first | (with_reducible first | exact HB.out | apply below_alloc | apply pw_below_drewN | apply below_drew1 | refine below_set ?_ GE120.out | refine below_set ?_ GE123.out) | exact HB.out))); (case aF => exact (fun _ _ => trivial)); (case aO => exact (by (with_reducible repeat (first | apply Kd.R_alloc | apply Kd.R_drewN | apply Kd.R_drew)); exact HO137.out)); (case aS => exact (below_size (by repeat (first | (with_reducible first | exact HB.out | apply below_alloc | apply pw_below_drewN | apply below_drew1 | refine below_set ?_ GE120.out | refine below_set ?_ GE123.out) | exact HB.out)))); (case aL => have := LMc31.out; omega); intro v145 w43 ho hb hg hat; rw [← Ny144.out] at ho; have n0_ := Aside0.mk (blk_grown (g := gb120) (o := .cells #[.int .i64 a1_0, .int .i64 a1_1] 33 (0, 0)) (by (with_reducible repeat (first | refine blk_drewN ?_ _ | refine blk_drew ?_ | refine blk_alloc ?_ _)); exact BK120.out) hg (Kd.R_ne HO137.out BK120.out (by decide))); have n1_ := Aside0.mk (blk_grown (g := gb123) (o := .cells #[.int .i64 t138, .int .i64 t139, .int .i64 t140, .int .i64 t141, .int .i64 t142] 35 (0, 0)) (by (with_reducible repeat (first | refine blk_drewN ?_ _ | refine blk_drew ?_ | refine blk_alloc ?_ _)); exact BK123.out) hg (Kd.R_ne HO137.out BK123.out (by decide))); have n2_ := Aside0.mk (hb); have n3_ := Aside0.mk (ho); clear BK120; clear BK123; clear HB; clear HO137; have BK120 := n0_; have BK123 := n1_; have HB := n2_; have HO146 := n3_; clear n0_ n1_ n2_ n3_; clear ho hb hg hat))
                            go_roundg kj22
                            case measure => have := HJ4.out; have := HK2.out; have := HJ22.out; omega
                            case rel => exact ⟨(y144), (wrap64 (x30_2 + 1)), (t138), (t139), (t140), (t141), (t142), (by first | rfl | (simp; done) | (simp [*]; done)), H', ⟨by have := HJ4.out; have := HK2.out; have := HJ22.out; omega⟩, ⟨by (with_reducible repeat (first | apply Kd.R_alloc | apply Kd.R_drewN | apply Kd.R_drew)); exact HO146.out⟩, ⟨by (with_reducible repeat (first | refine blk_drewN ?_ _ | refine blk_drew ?_ | refine blk_alloc ?_ _)); exact BK120.out⟩, ⟨by (with_reducible repeat (first | refine blk_drewN ?_ _ | refine blk_drew ?_ | refine blk_alloc ?_ _)); exact BK123.out⟩, ⟨by repeat (first | (with_reducible first | exact HB.out | apply below_alloc | apply pw_below_drewN | apply below_drew1 | refine below_set ?_ GE120.out | refine below_set ?_ GE123.out) | exact HB.out)⟩⟩
                          · rw [if_neg c31] at H
                            exact absurd H (by simp)
                        · rw [if_neg c28] at H
                          exact absurd H (by simp)
                  · rw [if_neg c22] at H
                    exact absurd H (by simp)
                · rw [if_neg c21] at H
                  exact absurd H (by simp)
              · rw [if_neg c20] at H
                have c20b0 : decide (x30_2 < (l0.length : Int)) = false := decide_eq_false c20
                clear c20
                have H' := Aside0.mk H
                clear H
                obtain ⟨Ao44, co44, eo44⟩ := Kd.R_slice HO_6.out
                subst eo44
                go_wp2
                go_loopg [54] k2 (fun kq v54 w' => ∃ (x54_3 : Int), v54 = .int .i64 x54_3 ∧ Aside0 (stackyardlaw02_WordUses.l1 kq l0 x6_2 x6_2 (x6_2.length : Int) x54_3 x124000_2 x124001_2 x124002_2 x124003_2 x124004_2 = some r) ∧ Aside0 (kq ≤ k2) ∧ Aside0 (Kd.R (Kd.int .u64) 36 w' w.heap.size (fun _ => True) (.slice Ao44 x6_2.length co44) x6_2) ∧ Aside0 (Kd.R (Kd.int .u64) 36 w' w.heap.size (fun _ => True) (.slice Ao44 x6_2.length co44) x6_2) ∧ Aside0 (w'.heap[gb120]? = some (.cells #[.int .i64 a1_0, .int .i64 a1_1] 33 (0, 0))) ∧ Aside0 (w'.heap[gb123]? = some (.cells #[.int .i64 x124000_2, .int .i64 x124001_2, .int .i64 x124002_2, .int .i64 x124003_2, .int .i64 x124004_2] 35 (0, 0))) ∧ Aside0 (Below w.heap.size w w'))
                case atStart => exact ⟨(0), (by first | rfl | (simp; done) | (simp [*]; done)), H', ⟨Nat.le_refl _⟩, ⟨by (with_reducible repeat (first | apply Kd.R_alloc | apply Kd.R_drewN | apply Kd.R_drew)); exact HO_6.out⟩, ⟨by (with_reducible repeat (first | apply Kd.R_alloc | apply Kd.R_drewN | apply Kd.R_drew)); exact HO_6.out⟩, ⟨by (with_reducible repeat (first | refine blk_drewN ?_ _ | refine blk_drew ?_ | refine blk_alloc ?_ _)); exact BK120.out⟩, ⟨by (with_reducible repeat (first | refine blk_drewN ?_ _ | refine blk_drew ?_ | refine blk_alloc ?_ _)); exact BK123.out⟩, ⟨by repeat (first | (with_reducible first | exact HB.out | apply below_alloc | apply pw_below_drewN | apply below_drew1 | refine below_set ?_ GE120.out | refine below_set ?_ GE123.out) | exact HB.out)⟩⟩
                case round =>
                  clear H'
                  try clear c1
                  try clear p1
                  try clear q1
                  try clear hx1
                  try clear c2
                  try clear p2
                  try clear q2
                  try clear c3
                  try clear c4
                  try clear p6
                  try clear c8
                  try clear c8b0
                  try clear c8b1
                  try clear c11
                  try clear c12
                  try clear p12
                  try clear q12
                  try clear hx12
                  try clear c15
                  try clear c20
                  try clear c20b0
                  try clear c21
                  try clear c21b0
                  try clear c22
                  try clear c22b0
                  try clear c23
                  try clear c24
                  try clear q24
                  try clear c25
                  try clear c28
                  try clear c29
                  try clear c31
                  try clear c32
                  try clear hcz10_0
                  try clear hcz10_1
                  try clear hcz16_0
                  try clear hcz16_1
                  try clear hcz16_2
                  try clear hcz16_3
                  try clear hcz16_4
                  try clear hcz33_0
                  try clear hcz33_1
                  try clear hcz33_2
                  try clear hcz33_3
                  try clear hcz33_4
                  try clear hcz34_0
                  try clear hcz34_1
                  try clear hcz36_0
                  try clear hcz36_1
                  try clear hcz36_2
                  try clear hcz36_3
                  try clear hcz36_4
                  try clear hcz39_0
                  try clear hcz39_1
                  try clear hcz39_2
                  try clear hcz39_3
                  try clear hcz39_4
                  try clear hcz41_0
                  try clear hcz41_1
                  try clear hcz41_2
                  try clear hcz41_3
                  try clear hcz41_4
                  try clear hfz10_0
                  try clear hfz10_1
                  try clear hfz16_0
                  try clear hfz16_1
                  try clear hfz16_2
                  try clear hfz16_3
                  try clear hfz16_4
                  try clear hfz33_0
                  try clear hfz33_1
                  try clear hfz33_2
                  try clear hfz33_3
                  try clear hfz33_4
                  try clear hfz34_0
                  try clear hfz34_1
                  try clear hfz36_0
                  try clear hfz36_1
                  try clear hfz36_2
                  try clear hfz36_3
                  try clear hfz36_4
                  try clear hfz39_0
                  try clear hfz39_1
                  try clear hfz39_2
                  try clear hfz39_3
                  try clear hfz39_4
                  try clear hfz41_0
                  try clear hfz41_1
                  try clear hfz41_2
                  try clear hfz41_3
                  try clear hfz41_4
                  try clear hx128_0
                  try clear p1
                  try clear p12
                  try clear p128
                  try clear p2
                  try clear q1
                  try clear q12
                  try clear q128
                  try clear q2
                  try clear q24
                  obtain ⟨x54_3, rfl, HA, HK3, HO_6, HO_52, BK120, BK123, HB⟩ := hrel
                  cases gk with
                  | zero => exact absurd HA.out (by simp [stackyardlaw02_WordUses.l1])
                  | succ k3 =>
                    have H := HA.out
                    clear HA
                    simp only [stackyardlaw02_WordUses.l1] at H
                    by_cases c45 : x54_3 < (x6_2.length : Int)
                    · rw [if_pos c45] at H
                      have c45b0 : decide (x54_3 < (x6_2.length : Int)) = true := decide_eq_true c45
                      clear c45
                      by_cases c46 : 0 ≤ x54_3
                      · rw [if_pos c46] at H
                        have c46b0 : decide (0 ≤ x54_3) = true := decide_eq_true c46
                        clear c46
                        by_cases c47 : x54_3 < (x6_2.length : Int)
                        · rw [if_pos c47] at H
                          have c47b0 : decide (x54_3 < (x6_2.length : Int)) = true := decide_eq_true c47
                          clear c47
                          have c48b0 := eq_true (of_decide_eq_true (by first | (with_reducible assumption) | assumption) : 0 ≤ x54_3)
                          by_cases c49 : x54_3 ≤ (x6_2.length : Int)
                          · rw [if_pos c49] at H
                            have c49b0 := eq_true c49
                            have c49b1 : decide (x54_3 ≤ (x6_2.length : Int)) = true := decide_eq_true c49
                            clear c49
                            obtain ⟨y148, hy148⟩ : ∃ y_ : List Int, y_ = (x6_2.take (x54_3 : Int).toNat) := ⟨_, rfl⟩
                            replace H : (stackyardlaw02_WordUses.l2 k3 l0 x6_2 (rd x6_2 x54_3) x6_2 (x6_2.length : Int) x54_3 y148 (y148.length : Int) 0 x124000_2 x124001_2 x124002_2 x124003_2 x124004_2) = some r := by first | (rw [hy148]; with_reducible exact H) | (have H2_ := (Option.bind_some _ _).symm.trans H; rw [hy148]; with_reducible exact H2_) | (have H2_ := (Option.bind_some _ _).symm.trans H; with_reducible exact H2_) | with_reducible exact H | (rw [hy148]; exact H) | exact H
                            have Ny148 := Aside0.mk hy148
                            clear hy148
                            have H' := Aside0.mk H
                            clear H
                            have p147 : 0 ≤ (x54_3 : Int) := of_decide_eq_true (by first | (with_reducible assumption) | assumption)
                            have q147 : x54_3 < (x6_2.length : Int) := of_decide_eq_true (by first | (with_reducible assumption) | assumption)
                            obtain ⟨ad147, e147, hx147_0⟩ := Kd.at_int (Kd.R_reads' HO_52.out).2.2 x54_3 p147 q147
                            cases e147
                            replace p147 := eq_true p147
                            replace q147 := eq_true q147
                            have q50 : (x54_3 : Int) ≤ ((x6_2.length : Int) : Int) := of_decide_eq_true (by first | (with_reducible assumption) | assumption)
                            obtain ⟨i050, hi050, _, hsz50, _⟩ := info_parts info36
                            have hroom50 : x6_2.length ≤ co44 := (Kd.R_reads' HO_6.out).2.1
                            have hC50 : Kd.C (Kd.int .u64) _ (some ad147) x6_2.length x6_2 := (Kd.R_reads' HO_6.out).2.2
                            have hcut50 := cut_to (P := Try.prog) 49 36 .i64 Try.underlying49 hi050 (some ad147) x6_2.length co44 x54_3 (of_decide_eq_true (by first | (with_reducible assumption) | assumption)) q50 hroom50
                            have hr50 := Kd.C_take (m := (x54_3 : Int).toNat) hC50 (by omega)
                            have hy50 : y148.length = (x54_3 : Int).toNat := (by rw [Ny148.out, List.length_take]; omega)
                            rw [← Ny148.out] at hr50
                            rw [← hy50] at hcut50
                            have HR151 := Aside0.mk hr50
                            have HC151 := Aside0.mk (show y148.length ≤ co44 from by omega)
                            clear hr50 hC50 hroom50 hi050 hsz50
                            have KY50 := Aside0.mk hy50
                            clear hy50
                            have KL50 := Aside0.mk (show (x54_3 : Int).toNat ≤ x6_2.length from by omega)
                            replace q50 := eq_true q50
                            go_wp2
                            go_loopg [63] k3 (fun kq v63 w' => ∃ (x63_4 : Int), v63 = .int .i64 x63_4 ∧ Aside0 (stackyardlaw02_WordUses.l2 kq l0 x6_2 (rd x6_2 x54_3) x6_2 (x6_2.length : Int) x54_3 y148 (y148.length : Int) x63_4 x124000_2 x124001_2 x124002_2 x124003_2 x124004_2 = some r) ∧ Aside0 (kq ≤ k3) ∧ Aside0 (Kd.R (Kd.int .u64) 36 w' w.heap.size (fun _ => True) (.slice (some ad147) x6_2.length co44) x6_2) ∧ Aside0 (Kd.R (Kd.int .u64) 36 w' w.heap.size (fun _ => True) (.slice (some ad147) x6_2.length co44) x6_2) ∧ Aside0 (w'.heap[gb120]? = some (.cells #[.int .i64 a1_0, .int .i64 a1_1] 33 (0, 0))) ∧ Aside0 (w'.heap[gb123]? = some (.cells #[.int .i64 x124000_2, .int .i64 x124001_2, .int .i64 x124002_2, .int .i64 x124003_2, .int .i64 x124004_2] 35 (0, 0))) ∧ Aside0 (Kd.C (Kd.int .u64) w' (some ad147) y148.length y148) ∧ Aside0 (Below w.heap.size w w'))
                            case atStart => exact ⟨(0), (by first | rfl | (simp; done) | (simp [*]; done)), H', ⟨Nat.le_refl _⟩, ⟨by (with_reducible repeat (first | apply Kd.R_alloc | apply Kd.R_drewN | apply Kd.R_drew)); exact HO_6.out⟩, ⟨by (with_reducible repeat (first | apply Kd.R_alloc | apply Kd.R_drewN | apply Kd.R_drew)); exact HO_52.out⟩, ⟨by (with_reducible repeat (first | refine blk_drewN ?_ _ | refine blk_drew ?_ | refine blk_alloc ?_ _)); exact BK120.out⟩, ⟨by (with_reducible repeat (first | refine blk_drewN ?_ _ | refine blk_drew ?_ | refine blk_alloc ?_ _)); exact BK123.out⟩, ⟨by repeat (first | (with_reducible exact HR151.out) | (with_reducible refine Kd.C_alloc ?_ _) | (with_reducible refine Kd.C_drewN ?_ _) | (with_reducible refine Kd.C_drew ?_) | exact HR151.out)⟩, ⟨by repeat (first | (with_reducible first | exact HB.out | apply below_alloc | apply pw_below_drewN | apply below_drew1 | refine below_set ?_ GE120.out | refine below_set ?_ GE123.out) | exact HB.out)⟩⟩
                            case round =>
                              clear H'
                              try clear c1
                              try clear p1
                              try clear q1
                              try clear hx1
                              try clear c2
                              try clear p2
                              try clear q2
                              try clear c3
                              try clear c4
                              try clear q5
                              try clear p6
                              try clear c8
                              try clear c8b0
                              try clear c8b1
                              try clear c11
                              try clear c12
                              try clear p12
                              try clear q12
                              try clear hx12
                              try clear p14
                              try clear q14
                              try clear hx14
                              try clear c15
                              try clear c20
                              try clear c20b0
                              try clear c21
                              try clear c21b0
                              try clear c22
                              try clear c22b0
                              try clear c23
                              try clear c24
                              try clear q24
                              try clear c25
                              try clear c28
                              try clear c29
                              try clear c31
                              try clear c32
                              try clear c45
                              try clear c45b0
                              try clear c46
                              try clear c46b0
                              try clear c47
                              try clear c47b0
                              try clear c48
                              try clear c48b0
                              try clear c49
                              try clear c49b0
                              try clear c49b1
                              try clear q50
                              try clear hcz10_0
                              try clear hcz10_1
                              try clear hcz16_0
                              try clear hcz16_1
                              try clear hcz16_2
                              try clear hcz16_3
                              try clear hcz16_4
                              try clear hcz33_0
                              try clear hcz33_1
                              try clear hcz33_2
                              try clear hcz33_3
                              try clear hcz33_4
                              try clear hcz34_0
                              try clear hcz34_1
                              try clear hcz36_0
                              try clear hcz36_1
                              try clear hcz36_2
                              try clear hcz36_3
                              try clear hcz36_4
                              try clear hcz39_0
                              try clear hcz39_1
                              try clear hcz39_2
                              try clear hcz39_3
                              try clear hcz39_4
                              try clear hcz41_0
                              try clear hcz41_1
                              try clear hcz41_2
                              try clear hcz41_3
                              try clear hcz41_4
                              try clear hfz10_0
                              try clear hfz10_1
                              try clear hfz16_0
                              try clear hfz16_1
                              try clear hfz16_2
                              try clear hfz16_3
                              try clear hfz16_4
                              try clear hfz33_0
                              try clear hfz33_1
                              try clear hfz33_2
                              try clear hfz33_3
                              try clear hfz33_4
                              try clear hfz34_0
                              try clear hfz34_1
                              try clear hfz36_0
                              try clear hfz36_1
                              try clear hfz36_2
                              try clear hfz36_3
                              try clear hfz36_4
                              try clear hfz39_0
                              try clear hfz39_1
                              try clear hfz39_2
                              try clear hfz39_3
                              try clear hfz39_4
                              try clear hfz41_0
                              try clear hfz41_1
                              try clear hfz41_2
                              try clear hfz41_3
                              try clear hfz41_4
                              try clear hx128_0
                              try clear hx147_0
                              try clear p1
                              try clear p12
                              try clear p128
                              try clear p147
                              try clear p2
                              try clear p6
                              try clear q1
                              try clear q12
                              try clear q128
                              try clear q147
                              try clear q2
                              try clear q24
                              try clear q50
                              obtain ⟨x63_4, rfl, HA, HK4, HO_6, HO_52, BK120, BK123, HR151, HB⟩ := hrel
                              cases gk with
                              | zero => exact absurd HA.out (by simp [stackyardlaw02_WordUses.l2])
                              | succ k4 =>
                                have H := HA.out
                                clear HA
                                simp only [stackyardlaw02_WordUses.l2] at H
                                by_cases c51 : x63_4 < (y148.length : Int)
                                · rw [if_pos c51] at H
                                  have c51b0 : decide (x63_4 < (y148.length : Int)) = true := decide_eq_true c51
                                  clear c51
                                  by_cases c52 : 0 ≤ x63_4
                                  · rw [if_pos c52] at H
                                    have c52b0 : decide (0 ≤ x63_4) = true := decide_eq_true c52
                                    clear c52
                                    by_cases c53 : x63_4 < (y148.length : Int)
                                    · rw [if_pos c53] at H
                                      have c53b0 : decide (x63_4 < (y148.length : Int)) = true := decide_eq_true c53
                                      clear c53
                                      by_cases c54 : (rd x6_2 x54_3) = (rd y148 x63_4)
                                      · rw [if_pos c54] at H
                                        have c54b0 : ((rd x6_2 x54_3) == (rd y148 x63_4)) = true := beq_iff_eq.mpr c54
                                        have c54b1 : ((rd x6_2 x54_3) != (rd y148 x63_4)) = false := bne_eq_false_iff_eq.mpr c54
                                        clear c54
                                        obtain rfl := Option.some.inj H
                                        have p152 : 0 ≤ (x63_4 : Int) := of_decide_eq_true (by first | (with_reducible assumption) | assumption)
                                        have q152 : x63_4 < (y148.length : Int) := of_decide_eq_true (by first | (with_reducible assumption) | assumption)
                                        obtain ⟨ad152, e152, hx152_0⟩ := Kd.at_int HR151.out x63_4 p152 q152
                                        obtain rfl : ad147 = ad152 := (by injection e152)
                                        try replace hx152_0 := (HB.out.cell (World.block_lt_of_cell? w _ hx152_0)).trans hx152_0
                                        replace p152 := eq_true p152
                                        replace q152 := eq_true q152
                                        go_wp2
                                        go_ret
                                        exact ⟨by first | rfl | (simp [errW_none, errW_some] <;> rfl) | (simp [*, errW_none, errW_some] <;> rfl), by repeat (first | (with_reducible first | exact HB.out | apply below_alloc | apply pw_below_drewN | apply below_drew1 | refine below_set ?_ GE120.out | refine below_set ?_ GE123.out) | exact HB.out)⟩
                                      · rw [if_neg c54] at H
                                        have c54b0 : ((rd x6_2 x54_3) == (rd y148 x63_4)) = false := beq_eq_false_iff_ne.mpr c54
                                        have c54b1 : ((rd x6_2 x54_3) != (rd y148 x63_4)) = true := bne_iff_ne.mpr c54
                                        have H' := Aside0.mk H
                                        clear H
                                        have p152 : 0 ≤ (x63_4 : Int) := of_decide_eq_true (by first | (with_reducible assumption) | assumption)
                                        have q152 : x63_4 < (y148.length : Int) := of_decide_eq_true (by first | (with_reducible assumption) | assumption)
                                        obtain ⟨ad152, e152, hx152_0⟩ := Kd.at_int HR151.out x63_4 p152 q152
                                        obtain rfl : ad147 = ad152 := (by injection e152)
                                        try replace hx152_0 := (HB.out.cell (World.block_lt_of_cell? w _ hx152_0)).trans hx152_0
                                        replace p152 := eq_true p152
                                        replace q152 := eq_true q152
                                        go_wp2
                                        go_roundg k4
                                        case measure => have := HJ4.out; have := HK2.out; have := HK3.out; have := HK4.out; omega
                                        case rel => exact ⟨(wrap64 (x63_4 + 1)), (by first | rfl | (simp; done) | (simp [*]; done)), H', ⟨by have := HJ4.out; have := HK2.out; have := HK3.out; have := HK4.out; omega⟩, ⟨by (with_reducible repeat (first | apply Kd.R_alloc | apply Kd.R_drewN | apply Kd.R_drew)); exact HO_6.out⟩, ⟨by (with_reducible repeat (first | apply Kd.R_alloc | apply Kd.R_drewN | apply Kd.R_drew)); exact HO_52.out⟩, ⟨by (with_reducible repeat (first | refine blk_drewN ?_ _ | refine blk_drew ?_ | refine blk_alloc ?_ _)); exact BK120.out⟩, ⟨by (with_reducible repeat (first | refine blk_drewN ?_ _ | refine blk_drew ?_ | refine blk_alloc ?_ _)); exact BK123.out⟩, ⟨by repeat (first | (with_reducible exact HR151.out) | (with_reducible refine Kd.C_alloc ?_ _) | (with_reducible refine Kd.C_drewN ?_ _) | (with_reducible refine Kd.C_drew ?_) | exact HR151.out)⟩, ⟨by repeat (first | (with_reducible first | exact HB.out | apply below_alloc | apply pw_below_drewN | apply below_drew1 | refine below_set ?_ GE120.out | refine below_set ?_ GE123.out) | exact HB.out)⟩⟩
                                    · rw [if_neg c53] at H
                                      exact absurd H (by simp)
                                  · rw [if_neg c52] at H
                                    exact absurd H (by simp)
                                · rw [if_neg c51] at H
                                  have c51b0 : decide (x63_4 < (y148.length : Int)) = false := decide_eq_false c51
                                  clear c51
                                  have H' := Aside0.mk H
                                  clear H
                                  go_wp2
                                  go_roundg k4
                                  case measure => have := HJ4.out; have := HK2.out; have := HK3.out; have := HK4.out; omega
                                  case rel => exact ⟨(wrap64 (x54_3 + 1)), (by first | rfl | (simp; done) | (simp [*]; done)), H', ⟨by have := HJ4.out; have := HK2.out; have := HK3.out; have := HK4.out; omega⟩, ⟨by (with_reducible repeat (first | apply Kd.R_alloc | apply Kd.R_drewN | apply Kd.R_drew)); exact HO_6.out⟩, ⟨by (with_reducible repeat (first | apply Kd.R_alloc | apply Kd.R_drewN | apply Kd.R_drew)); exact HO_52.out⟩, ⟨by (with_reducible repeat (first | refine blk_drewN ?_ _ | refine blk_drew ?_ | refine blk_alloc ?_ _)); exact BK120.out⟩, ⟨by (with_reducible repeat (first | refine blk_drewN ?_ _ | refine blk_drew ?_ | refine blk_alloc ?_ _)); exact BK123.out⟩, ⟨by repeat (first | (with_reducible first | exact HB.out | apply below_alloc | apply pw_below_drewN | apply below_drew1 | refine below_set ?_ GE120.out | refine below_set ?_ GE123.out) | exact HB.out)⟩⟩
                          · rw [if_neg c49] at H
                            exact absurd H (by simp)
                        · rw [if_neg c47] at H
                          exact absurd H (by simp)
                      · rw [if_neg c46] at H
                        exact absurd H (by simp)
                    · rw [if_neg c45] at H
                      have c45b0 : decide (x54_3 < (x6_2.length : Int)) = false := decide_eq_false c45
                      clear c45
                      obtain rfl := Option.some.inj H
                      have hnb55 := NB123_120.out
                      have hnc55 := NB120_123.out
                      have hcz56_0 : wr.cell? ⟨gb123, 0, none⟩ = some (.int .i64 x124000_2) := (blk_cell BK123.out 0).trans rfl
                      have hcz56_1 : wr.cell? ⟨gb123, 1, none⟩ = some (.int .i64 x124001_2) := (blk_cell BK123.out 1).trans rfl
                      have hcz56_2 : wr.cell? ⟨gb123, 2, none⟩ = some (.int .i64 x124002_2) := (blk_cell BK123.out 2).trans rfl
                      have hcz56_3 : wr.cell? ⟨gb123, 3, none⟩ = some (.int .i64 x124003_2) := (blk_cell BK123.out 3).trans rfl
                      have hcz56_4 : wr.cell? ⟨gb123, 4, none⟩ = some (.int .i64 x124004_2) := (blk_cell BK123.out 4).trans rfl
                      have hfz56_0 := blk_frozen BK123.out 0
                      have hfz56_1 := blk_frozen BK123.out 1
                      have hfz56_2 := blk_frozen BK123.out 2
                      have hfz56_3 := blk_frozen BK123.out 3
                      have hfz56_4 := blk_frozen BK123.out 4
                      go_wp2
                      go_ret
                      exact ⟨by first | rfl | (simp [errW_none, errW_some] <;> rfl) | (simp [*, errW_none, errW_some] <;> rfl), by repeat (first | (with_reducible first | exact HB.out | apply below_alloc | apply pw_below_drewN | apply below_drew1 | refine below_set ?_ GE120.out | refine below_set ?_ GE123.out) | exact HB.out)⟩
  · replace c4 := Bool.eq_false_iff.mpr c4
    subst c4
    have H1 : (some false) = some r := by rw [if_neg (show ¬ (false = true) by decide)] at H; exact H
    clear H
    have H := H1
    clear H1
    obtain rfl := Option.some.inj H
    go_enter Try.func11, Try.ntmps11
    go_wp2_with (first | ((with_reducible refine gate_dst (N := 3) rfl ?_); refine box_event ?hg (N := 3) ?hd (cs := #[.int .i64 a1_0, .int .i64 a1_1]) (t := 33) ?hr ?_; (case hd => rfl); (case hg => rfl); (case hr => first | (go_simp; done) | (go_simp; rfl)); intro gb120 hg w57 hbox hb; have n0_ := Aside0.mk (below_step (by repeat (first | (with_reducible first | exact HB.out | apply below_alloc | apply pw_below_drewN | apply below_drew1) | exact HB.out)) hb); have n1_ := Aside0.mk (hbox); have n2_ := Aside0.mk ((by rw [hg]; exact (below_size (by repeat (first | (with_reducible first | exact HB.out | apply below_alloc | apply pw_below_drewN | apply below_drew1) | exact HB.out))) : w.heap.size ≤ gb120)); have n3_ := Aside0.mk ((by rw [hg]; exact (below_size (by repeat (first | (with_reducible first | exact HB.out | apply below_alloc | apply pw_below_drewN | apply below_drew1) | exact HB.out))) : w.heap.size ≤ gb120)); clear HB; have HB := n0_; have BK120 := n1_; have GW120 := n2_; have GE120 := n3_; clear n0_ n1_ n2_ n3_; clear hb hbox hg) | ((with_reducible refine gate_callee (f := 23) rfl ?_); refine goesL_ (some 14) rfl rfl Try.func23 (by kernel_rfl) rfl #[] rfl (by (try simp only [List.map_toArray, List.map_cons, List.map_nil]); first | done | rfl | (simp only [List.length_drop, List.length_take]; rfl)) ?_; (with_reducible refine (stackyardlaw02_head.calls  false _ A3.out).mono ?_); rintro e w58 ⟨rfl, hb⟩; refine ⟨_, rfl, ?_⟩; have n0_ := Aside0.mk (blk_below (g := gb120) (o := .cells #[.int .i64 a1_0, .int .i64 a1_1] 33 (0, 0)) (by (with_reducible repeat (first | refine blk_drewN ?_ _ | refine blk_drew ?_ | refine blk_alloc ?_ _)); exact BK120.out) hb); have n1_ := Aside0.mk (below_step (by repeat (first | (with_reducible first | exact HB.out | apply below_alloc | apply pw_below_drewN | apply below_drew1 | refine below_set ?_ GE120.out) | exact HB.out)) hb); clear BK120; clear HB; have BK120 := n0_; have HB := n1_; clear n0_ n1_; (try clear hb); (try clear hb2); (try clear hk); (try clear hi)))
    go_ret
    exact ⟨by first | rfl | (simp [errW_none, errW_some] <;> rfl) | (simp [*, errW_none, errW_some] <;> rfl), by repeat (first | (with_reducible first | exact HB.out | apply below_alloc | apply pw_below_drewN | apply below_drew1 | refine below_set ?_ GE120.out) | exact HB.out)⟩

end Go.Proofs.Ytjohamgpnaafaaa.PWordUses
