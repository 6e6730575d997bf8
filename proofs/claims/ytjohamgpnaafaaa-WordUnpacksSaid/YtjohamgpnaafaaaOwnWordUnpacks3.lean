/- The walk of stackyardlaw02.WordUnpacks: it answers what its Lean function tells. No condition. -/
import Derived.Test.YtjohamgpnaafaaaPWordUnpacksx0
import Derived.Test.YtjohamgpnaafaaaPWordUnpacksx1
import Derived.Test.YtjohamgpnaafaaaPWordUnpacksx2
namespace Go.Proofs.Ytjohamgpnaafaaa.PWordUnpacks
open Go.RowKit Go.Proofs.YtjohamgpnaafaaaW.PrintWords Go.Proofs.YtjohamgpnaafaaaW.PrintLast Go.Proofs.YtjohamgpnaafaaaW.PrintMore
attribute [local go_sem] max2_int min2_int max_two min_two max_three min_three max_four min_four   -- for this text's walks alone
set_option linter.unusedVariables false
set_option linter.unusedSimpArgs false

attribute [local go_sem high] eqA35
/-! ### stackyardlaw02_WordUnpacks: function 7 -/
def stackyardlaw02_WordUnpacks.j0 : Nat → Int → Bool → Int → Int → Int → Int → Int → Option (Bool)
  | 0, _, _, _, _, _, _, _ => none
  | k + 1, x0, x39, x121000, x121001, x121002, x121003, x121004 => if x39 = true then (some false) else (if (Int.tmod x0 4) = 3 then ((word_Word_Pack.f x121000 x121001 x121002 x121003 x121004).bind fun t123 => (if t123 = 0 then (some true) else (if (Int.tmod x0 4) < 3 then ((word_Word_Pack.f x121000 x121001 x121002 x121003 x121004).bind fun t124 => (some (t124 == x0))) else (some false)))) else (if (Int.tmod x0 4) < 3 then ((word_Word_Pack.f x121000 x121001 x121002 x121003 x121004).bind fun t125 => (some (t125 == x0))) else (some false)))
def stackyardlaw02_WordUnpacks.f (k : Nat) (a0 : Int) : Option (Bool) := (stackyardlaw02_head.f).bind fun t114 => (if t114 = true then ((word_Unpack.f a0).bind fun bt115 => (if (!(bt115.1 == (wrap64 (Int.tmod a0 4))) || (!(bt115.2.1 == (wrap64 (Int.tmod (IntKind.u64.wrap (Int.tdiv a0 4)) 2))) || (!(bt115.2.2.1 == (wrap64 (Int.tmod (IntKind.u64.wrap (Int.tdiv a0 8)) 8192))) || ((!(bt115.2.2.2.1 == (wrap64 (Int.tmod (IntKind.u64.wrap (Int.tdiv a0 65536)) 16777216))) || (!(bt115.2.2.2.2 == (wrap64 (IntKind.u64.wrap (Int.tdiv a0 1099511627776)))))))))) = true then (stackyardlaw02_WordUnpacks.j0 k a0 true bt115.1 bt115.2.1 bt115.2.2.1 bt115.2.2.2.1 bt115.2.2.2.2) else ((word_Word_Right.f bt115.1 bt115.2.1 bt115.2.2.1 bt115.2.2.2.1 bt115.2.2.2.2).bind fun t122 => (stackyardlaw02_WordUnpacks.j0 k a0 (t122 != (decide ((Int.tmod a0 4) < 3))) bt115.1 bt115.2.1 bt115.2.2.1 bt115.2.2.2.1 bt115.2.2.2.2)))) else (some false))
theorem stackyardlaw02_WordUnpacks.mono_l : ∀ k, (∀ y0 y1 y2 y3 y4 y5 y6, LeO (stackyardlaw02_WordUnpacks.j0 k y0 y1 y2 y3 y4 y5 y6) (stackyardlaw02_WordUnpacks.j0 (k + 1) y0 y1 y2 y3 y4 y5 y6))
  | 0 => fun _ _ _ _ _ _ _ r h => by simp [stackyardlaw02_WordUnpacks.j0] at h
  | k + 1 => by
    have ih0 := stackyardlaw02_WordUnpacks.mono_l k
    · intro y0 y1 y2 y3 y4 y5 y6
      unfold stackyardlaw02_WordUnpacks.j0
      repeat' first
      | (with_reducible exact ih0 _ _ _ _ _ _ _)
      | (with_reducible exact LeO.refl _)
      | (with_reducible exact LeO.none _)
      | (with_reducible refine LeO.ite ?_ ?_)
      | (with_reducible refine LeO.bind ?_ (fun _ => ?_))
      | exact ih0 _ _ _ _ _ _ _
      | exact LeO.none _
      | refine LeO.ite ?_ ?_
      | refine LeO.bind ?_ (fun _ => ?_)
theorem stackyardlaw02_WordUnpacks.mono : ∀ a0 k, LeO (stackyardlaw02_WordUnpacks.f k a0) (stackyardlaw02_WordUnpacks.f (k + 1) a0) := by
  intro a0 k
  have ih0 := stackyardlaw02_WordUnpacks.mono_l k
  unfold stackyardlaw02_WordUnpacks.f
  repeat' first
      | (with_reducible exact ih0 _ _ _ _ _ _ _)
      | (with_reducible exact LeO.refl _)
      | (with_reducible exact LeO.none _)
      | (with_reducible refine LeO.ite ?_ ?_)
      | (with_reducible refine LeO.bind ?_ (fun _ => ?_))
      | exact ih0 _ _ _ _ _ _ _
      | exact LeO.none _
      | refine LeO.ite ?_ ?_
      | refine LeO.bind ?_ (fun _ => ?_)
set_option maxHeartbeats 8000000 in
set_option maxRecDepth 100000 in
theorem stackyardlaw02_WordUnpacks.calls (k : Nat) (a0 : Int) (r : Bool) (w : World) (h : stackyardlaw02_WordUnpacks.f k a0 = some r) :
    Calls Try.prog 7 #[.int .u64 a0] w fun e w' => e = .returned (.bool r) ∧ Below w.heap.size w w' := by
  have hu35 := Try.underlying35
  have hu33 := Try.underlying33
  have HB := Aside0.mk (Below.refl w.heap.size w)
  have H : ((stackyardlaw02_head.f).bind fun t114 => (if t114 = true then ((word_Unpack.f a0).bind fun bt115 => (if (!(bt115.1 == (wrap64 (Int.tmod a0 4))) || (!(bt115.2.1 == (wrap64 (Int.tmod (IntKind.u64.wrap (Int.tdiv a0 4)) 2))) || (!(bt115.2.2.1 == (wrap64 (Int.tmod (IntKind.u64.wrap (Int.tdiv a0 8)) 8192))) || ((!(bt115.2.2.2.1 == (wrap64 (Int.tmod (IntKind.u64.wrap (Int.tdiv a0 65536)) 16777216))) || (!(bt115.2.2.2.2 == (wrap64 (IntKind.u64.wrap (Int.tdiv a0 1099511627776)))))))))) = true then (stackyardlaw02_WordUnpacks.j0 k a0 true bt115.1 bt115.2.1 bt115.2.2.1 bt115.2.2.2.1 bt115.2.2.2.2) else ((word_Word_Right.f bt115.1 bt115.2.1 bt115.2.2.1 bt115.2.2.2.1 bt115.2.2.2.2).bind fun t122 => (stackyardlaw02_WordUnpacks.j0 k a0 (t122 != (decide ((Int.tmod a0 4) < 3))) bt115.1 bt115.2.1 bt115.2.2.1 bt115.2.2.2.1 bt115.2.2.2.2)))) else (some false))) = some r := h
  clear h
  replace H := Option.bind_eq_some_iff.mp H
  obtain ⟨t114, A20, H⟩ := H
  replace H : (if t114 = true then ((word_Unpack.f a0).bind fun bt115 => (if (!(bt115.1 == (wrap64 (Int.tmod a0 4))) || (!(bt115.2.1 == (wrap64 (Int.tmod (IntKind.u64.wrap (Int.tdiv a0 4)) 2))) || (!(bt115.2.2.1 == (wrap64 (Int.tmod (IntKind.u64.wrap (Int.tdiv a0 8)) 8192))) || ((!(bt115.2.2.2.1 == (wrap64 (Int.tmod (IntKind.u64.wrap (Int.tdiv a0 65536)) 16777216))) || (!(bt115.2.2.2.2 == (wrap64 (IntKind.u64.wrap (Int.tdiv a0 1099511627776)))))))))) = true then (stackyardlaw02_WordUnpacks.j0 k a0 true bt115.1 bt115.2.1 bt115.2.2.1 bt115.2.2.2.1 bt115.2.2.2.2) else ((word_Word_Right.f bt115.1 bt115.2.1 bt115.2.2.1 bt115.2.2.2.1 bt115.2.2.2.2).bind fun t122 => (stackyardlaw02_WordUnpacks.j0 k a0 (t122 != (decide ((Int.tmod a0 4) < 3))) bt115.1 bt115.2.1 bt115.2.2.1 bt115.2.2.2.1 bt115.2.2.2.2)))) else (some false)) = some r := H
  have A2 := Aside0.mk A20
  clear A20
  by_cases c3 : t114 = true
  · subst c3
    have H1 : ((word_Unpack.f a0).bind fun bt115 => (if (!(bt115.1 == (wrap64 (Int.tmod a0 4))) || (!(bt115.2.1 == (wrap64 (Int.tmod (IntKind.u64.wrap (Int.tdiv a0 4)) 2))) || (!(bt115.2.2.1 == (wrap64 (Int.tmod (IntKind.u64.wrap (Int.tdiv a0 8)) 8192))) || ((!(bt115.2.2.2.1 == (wrap64 (Int.tmod (IntKind.u64.wrap (Int.tdiv a0 65536)) 16777216))) || (!(bt115.2.2.2.2 == (wrap64 (IntKind.u64.wrap (Int.tdiv a0 1099511627776)))))))))) = true then (stackyardlaw02_WordUnpacks.j0 k a0 true bt115.1 bt115.2.1 bt115.2.2.1 bt115.2.2.2.1 bt115.2.2.2.2) else ((word_Word_Right.f bt115.1 bt115.2.1 bt115.2.2.1 bt115.2.2.2.1 bt115.2.2.2.2).bind fun t122 => (stackyardlaw02_WordUnpacks.j0 k a0 (t122 != (decide ((Int.tmod a0 4) < 3))) bt115.1 bt115.2.1 bt115.2.2.1 bt115.2.2.2.1 bt115.2.2.2.2)))) = some r := by rw [if_pos rfl] at H; exact H
    clear H
    have H := H1
    clear H1
    replace H := Option.bind_eq_some_iff.mp H
    obtain ⟨⟨t115, t116, t117, t118, t119⟩, A40, H⟩ := H
    replace H : (if (!(t115 == (wrap64 (Int.tmod a0 4))) || (!(t116 == (wrap64 (Int.tmod (IntKind.u64.wrap (Int.tdiv a0 4)) 2))) || (!(t117 == (wrap64 (Int.tmod (IntKind.u64.wrap (Int.tdiv a0 8)) 8192))) || ((!(t118 == (wrap64 (Int.tmod (IntKind.u64.wrap (Int.tdiv a0 65536)) 16777216))) || (!(t119 == (wrap64 (IntKind.u64.wrap (Int.tdiv a0 1099511627776)))))))))) = true then (stackyardlaw02_WordUnpacks.j0 k a0 true t115 t116 t117 t118 t119) else ((word_Word_Right.f t115 t116 t117 t118 t119).bind fun t122 => (stackyardlaw02_WordUnpacks.j0 k a0 (t122 != (decide ((Int.tmod a0 4) < 3))) t115 t116 t117 t118 t119))) = some r := H
    have A4 := Aside0.mk A40
    clear A40
    have HC5 := Aside0.mk H
    clear H
    go_enter Try.func7, Try.ntmps7
    go_upto_region 5 with (first | ((with_reducible refine gate_callee (f := 23) rfl ?_); refine goesL_ (some 5) rfl rfl Try.func23 (by kernel_rfl) rfl #[] rfl (by (try simp only [List.map_toArray, List.map_cons, List.map_nil]); first | done | rfl | (simp only [List.length_drop, List.length_take]; rfl)) ?_; (with_reducible refine (stackyardlaw02_head.calls  true _ A2.out).mono ?_); rintro e w6 ⟨rfl, hb⟩; refine ⟨_, rfl, ?_⟩; have n0_ := Aside0.mk (below_step (by repeat (first | (with_reducible first | exact HB.out | apply below_alloc | apply pw_below_drewN | apply below_drew1) | exact HB.out)) hb); clear HB; have HB := n0_; clear n0_; (try clear hb); (try clear hb2); (try clear hk); (try clear hi)) | ((with_reducible refine gate_callee (f := 27) rfl ?_); refine goesL_ (some 8) rfl rfl Try.func27 (by kernel_rfl) rfl #[.int .u64 a0] rfl (by (try simp only [List.map_toArray, List.map_cons, List.map_nil]); first | done | rfl | (simp only [List.length_drop, List.length_take]; rfl)) ?_; (with_reducible refine (word_Unpack.calls a0 t115 t116 t117 t118 t119 _ A4.out).mono ?_); rintro e w7 ⟨rfl, hb⟩; refine ⟨_, rfl, ?_⟩; have n0_ := Aside0.mk (below_step (by repeat (first | (with_reducible first | exact HB.out | apply below_alloc | apply pw_below_drewN | apply below_drew1) | exact HB.out)) hb); clear HB; have HB := n0_; clear n0_; (try clear hb); (try clear hb2); (try clear hk); (try clear hi)) | ((with_reducible refine gate_dst (N := 3) rfl ?_); refine box_event ?hg (N := 3) ?hd (cs := #[.int .i64 0, .int .i64 0, .int .i64 0, .int .i64 0, .int .i64 0]) (t := 35) ?hr ?_; (case hd => rfl); (case hg => rfl); (case hr => first | (go_simp; done) | (go_simp; rfl)); intro gb120 hg w8 hbox hb; have n0_ := Aside0.mk (below_step (by repeat (first | (with_reducible first | exact HB.out | apply below_alloc | apply pw_below_drewN | apply below_drew1) | exact HB.out)) hb); have n1_ := Aside0.mk (hbox); have n2_ := Aside0.mk ((by rw [hg]; exact (below_size (by repeat (first | (with_reducible first | exact HB.out | apply below_alloc | apply pw_below_drewN | apply below_drew1) | exact HB.out))) : w.heap.size ≤ gb120)); have n3_ := Aside0.mk ((by rw [hg]; exact (below_size (by repeat (first | (with_reducible first | exact HB.out | apply below_alloc | apply pw_below_drewN | apply below_drew1) | exact HB.out))) : w.heap.size ≤ gb120)); clear HB; have HB := n0_; have BK120 := n1_; have GW120 := n2_; have GE120 := n3_; clear n0_ n1_ n2_ n3_; clear hb hbox hg; have hcz9_0 : w8.cell? ⟨gb120, 0, none⟩ = some (.int .i64 0) := (blk_cell BK120.out 0).trans rfl; have hcz9_1 : w8.cell? ⟨gb120, 1, none⟩ = some (.int .i64 0) := (blk_cell BK120.out 1).trans rfl; have hcz9_2 : w8.cell? ⟨gb120, 2, none⟩ = some (.int .i64 0) := (blk_cell BK120.out 2).trans rfl; have hcz9_3 : w8.cell? ⟨gb120, 3, none⟩ = some (.int .i64 0) := (blk_cell BK120.out 3).trans rfl; have hcz9_4 : w8.cell? ⟨gb120, 4, none⟩ = some (.int .i64 0) := (blk_cell BK120.out 4).trans rfl; have hfz9_0 := blk_frozen BK120.out 0; have hfz9_1 := blk_frozen BK120.out 1; have hfz9_2 := blk_frozen BK120.out 2; have hfz9_3 := blk_frozen BK120.out 3; have hfz9_4 := blk_frozen BK120.out 4) | ((with_reducible refine gate_dst (N := 4) rfl ?_); refine box_event ?hg (N := 4) ?hd (cs := #[.int .i64 0, .int .i64 0, .int .i64 0, .int .i64 0, .int .i64 0]) (t := 35) ?hr ?_; (case hd => rfl); (case hg => rfl); (case hr => first | (go_simp; done) | (go_simp; rfl)); intro gb121 hg w10 hbox hb; have n0_ := Aside0.mk (blk_below (g := gb120) (o := .cells #[.int .i64 t115, .int .i64 t116, .int .i64 t117, .int .i64 t118, .int .i64 t119] 35 (0, 0)) (by (with_reducible repeat (first | refine blk_drewN ?_ _ | refine blk_drew ?_ | refine blk_alloc ?_ _)); refine blk_put (cs := #[.int .i64 t115, .int .i64 t116, .int .i64 t117, .int .i64 t118, .int .i64 0]) ?_ 4 _ rfl; (with_reducible repeat (first | refine blk_drewN ?_ _ | refine blk_drew ?_ | refine blk_alloc ?_ _)); refine blk_put (cs := #[.int .i64 t115, .int .i64 t116, .int .i64 t117, .int .i64 0, .int .i64 0]) ?_ 3 _ rfl; (with_reducible repeat (first | refine blk_drewN ?_ _ | refine blk_drew ?_ | refine blk_alloc ?_ _)); refine blk_put (cs := #[.int .i64 t115, .int .i64 t116, .int .i64 0, .int .i64 0, .int .i64 0]) ?_ 2 _ rfl; (with_reducible repeat (first | refine blk_drewN ?_ _ | refine blk_drew ?_ | refine blk_alloc ?_ _)); refine blk_put (cs := #[.int .i64 t115, .int .i64 0, .int .i64 0, .int .i64 0, .int .i64 0]) ?_ 1 _ rfl; (with_reducible repeat (first | refine blk_drewN ?_ _ | refine blk_drew ?_ | refine blk_alloc ?_ _)); refine blk_put (cs := #[.int .i64 0, .int .i64 0, .int .i64 0, .int .i64 0, .int .i64 0]) ?_ 0 _ rfl; (with_reducible repeat (first | refine blk_drewN ?_ _ | refine blk_drew ?_ | refine blk_alloc ?_ _)); exact BK120.out) hb); have n1_ := Aside0.mk (below_step (by repeat (first | (with_reducible first | exact HB.out | apply below_alloc | apply pw_below_drewN | apply below_drew1 | refine below_set ?_ GE120.out) | exact HB.out)) hb); have n2_ := Aside0.mk (hbox); have n3_ := Aside0.mk ((by rw [hg]; exact (below_size (by repeat (first | (with_reducible first | exact HB.out | apply below_alloc | apply pw_below_drewN | apply below_drew1 | refine below_set ?_ GE120.out) | exact HB.out))) : w.heap.size ≤ gb121)); have n4_ := Aside0.mk ((by rw [hg]; exact (below_size (by repeat (first | (with_reducible first | exact HB.out | apply below_alloc | apply pw_below_drewN | apply below_drew1 | refine below_set ?_ GE120.out) | exact HB.out))) : w.heap.size ≤ gb121)); have n5_ := Aside0.mk ((by rw [hg]; exact Nat.ne_of_lt (blk_lt (g := gb120) (o := .cells #[.int .i64 t115, .int .i64 t116, .int .i64 t117, .int .i64 t118, .int .i64 t119] 35 (0, 0)) (by (with_reducible repeat (first | refine blk_drewN ?_ _ | refine blk_drew ?_ | refine blk_alloc ?_ _)); refine blk_put (cs := #[.int .i64 t115, .int .i64 t116, .int .i64 t117, .int .i64 t118, .int .i64 0]) ?_ 4 _ rfl; (with_reducible repeat (first | refine blk_drewN ?_ _ | refine blk_drew ?_ | refine blk_alloc ?_ _)); refine blk_put (cs := #[.int .i64 t115, .int .i64 t116, .int .i64 t117, .int .i64 0, .int .i64 0]) ?_ 3 _ rfl; (with_reducible repeat (first | refine blk_drewN ?_ _ | refine blk_drew ?_ | refine blk_alloc ?_ _)); refine blk_put (cs := #[.int .i64 t115, .int .i64 t116, .int .i64 0, .int .i64 0, .int .i64 0]) ?_ 2 _ rfl; (with_reducible repeat (first | refine blk_drewN ?_ _ | refine blk_drew ?_ | refine blk_alloc ?_ _)); refine blk_put (cs := #[.int .i64 t115, .int .i64 0, .int .i64 0, .int .i64 0, .int .i64 0]) ?_ 1 _ rfl; (with_reducible repeat (first | refine blk_drewN ?_ _ | refine blk_drew ?_ | refine blk_alloc ?_ _)); refine blk_put (cs := #[.int .i64 0, .int .i64 0, .int .i64 0, .int .i64 0, .int .i64 0]) ?_ 0 _ rfl; (with_reducible repeat (first | refine blk_drewN ?_ _ | refine blk_drew ?_ | refine blk_alloc ?_ _)); exact BK120.out)) : gb120 ≠ gb121)); have n6_ := Aside0.mk ((by rw [hg]; exact Nat.ne_of_gt (blk_lt (g := gb120) (o := .cells #[.int .i64 t115, .int .i64 t116, .int .i64 t117, .int .i64 t118, .int .i64 t119] 35 (0, 0)) (by (with_reducible repeat (first | refine blk_drewN ?_ _ | refine blk_drew ?_ | refine blk_alloc ?_ _)); refine blk_put (cs := #[.int .i64 t115, .int .i64 t116, .int .i64 t117, .int .i64 t118, .int .i64 0]) ?_ 4 _ rfl; (with_reducible repeat (first | refine blk_drewN ?_ _ | refine blk_drew ?_ | refine blk_alloc ?_ _)); refine blk_put (cs := #[.int .i64 t115, .int .i64 t116, .int .i64 t117, .int .i64 0, .int .i64 0]) ?_ 3 _ rfl; (with_reducible repeat (first | refine blk_drewN ?_ _ | refine blk_drew ?_ | refine blk_alloc ?_ _)); refine blk_put (cs := #[.int .i64 t115, .int .i64 t116, .int .i64 0, .int .i64 0, .int .i64 0]) ?_ 2 _ rfl; (with_reducible repeat (first | refine blk_drewN ?_ _ | refine blk_drew ?_ | refine blk_alloc ?_ _)); refine blk_put (cs := #[.int .i64 t115, .int .i64 0, .int .i64 0, .int .i64 0, .int .i64 0]) ?_ 1 _ rfl; (with_reducible repeat (first | refine blk_drewN ?_ _ | refine blk_drew ?_ | refine blk_alloc ?_ _)); refine blk_put (cs := #[.int .i64 0, .int .i64 0, .int .i64 0, .int .i64 0, .int .i64 0]) ?_ 0 _ rfl; (with_reducible repeat (first | refine blk_drewN ?_ _ | refine blk_drew ?_ | refine blk_alloc ?_ _)); exact BK120.out)) : gb121 ≠ gb120)); clear BK120; clear HB; have BK120 := n0_; have HB := n1_; have BK121 := n2_; have GW121 := n3_; have GE121 := n4_; have NB120_121 := n5_; have NB121_120 := n6_; clear n0_ n1_ n2_ n3_ n4_ n5_ n6_; clear hb hbox hg; have hnb11 := NB121_120.out; have hnc11 := NB120_121.out; have hcz12_0 : w10.cell? ⟨gb121, 0, none⟩ = some (.int .i64 0) := (blk_cell BK121.out 0).trans rfl; have hcz12_1 : w10.cell? ⟨gb121, 1, none⟩ = some (.int .i64 0) := (blk_cell BK121.out 1).trans rfl; have hcz12_2 : w10.cell? ⟨gb121, 2, none⟩ = some (.int .i64 0) := (blk_cell BK121.out 2).trans rfl; have hcz12_3 : w10.cell? ⟨gb121, 3, none⟩ = some (.int .i64 0) := (blk_cell BK121.out 3).trans rfl; have hcz12_4 : w10.cell? ⟨gb121, 4, none⟩ = some (.int .i64 0) := (blk_cell BK121.out 4).trans rfl; have hfz12_0 := blk_frozen BK121.out 0; have hfz12_1 := blk_frozen BK121.out 1; have hfz12_2 := blk_frozen BK121.out 2; have hfz12_3 := blk_frozen BK121.out 3; have hfz12_4 := blk_frozen BK121.out 4))
    (try simp only [Act.put, List.setIfInBounds_toArray, List.set_cons_zero, List.set_cons_succ])
    go_cut [39] (fun v39 wc => ∃ (kq : Nat) (x39_4 : Bool), v39 = .bool x39_4 ∧ Aside0 (stackyardlaw02_WordUnpacks.j0 kq a0 x39_4 t115 t116 t117 t118 t119 = some r) ∧ Aside0 (kq ≤ k) ∧ Aside0 (wc.heap[gb120]? = some (.cells #[.int .i64 t115, .int .i64 t116, .int .i64 t117, .int .i64 t118, .int .i64 t119] 35 (0, 0))) ∧ Aside0 (wc.heap[gb121]? = some (.cells #[.int .i64 (wrap64 (Int.tmod a0 4)), .int .i64 (wrap64 (Int.tmod (IntKind.u64.wrap (Int.tdiv a0 4)) 2)), .int .i64 (wrap64 (Int.tmod (IntKind.u64.wrap (Int.tdiv a0 8)) 8192)), .int .i64 (wrap64 (Int.tmod (IntKind.u64.wrap (Int.tdiv a0 65536)) 16777216)), .int .i64 (wrap64 (IntKind.u64.wrap (Int.tdiv a0 1099511627776)))] 35 (0, 0))) ∧ Aside0 (Below w.heap.size w wc))
    case first =>
      have H := HC5.out
      clear HC5
      by_cases c13 : (!(t115 == (wrap64 (Int.tmod a0 4))) || (!(t116 == (wrap64 (Int.tmod (IntKind.u64.wrap (Int.tdiv a0 4)) 2))) || (!(t117 == (wrap64 (Int.tmod (IntKind.u64.wrap (Int.tdiv a0 8)) 8192))) || ((!(t118 == (wrap64 (Int.tmod (IntKind.u64.wrap (Int.tdiv a0 65536)) 16777216))) || (!(t119 == (wrap64 (IntKind.u64.wrap (Int.tdiv a0 1099511627776)))))))))) = true
      · rw [if_pos c13] at H
        have c13b0 : (!(t115 == (wrap64 (Int.tmod a0 4))) || (!(t116 == (wrap64 (Int.tmod (IntKind.u64.wrap (Int.tdiv a0 4)) 2))) || (!(t117 == (wrap64 (Int.tmod (IntKind.u64.wrap (Int.tdiv a0 8)) 8192))) || ((!(t118 == (wrap64 (Int.tmod (IntKind.u64.wrap (Int.tdiv a0 65536)) 16777216))) || (!(t119 == (wrap64 (IntKind.u64.wrap (Int.tdiv a0 1099511627776)))))))))) = true := c13
        clear c13
        (first | rw [c13b0] | (simp only [i64_w, i32_w]; rw [c13b0]) | skip)
        have H' := Aside0.mk H
        clear H
        have hnb14 := NB120_121.out
        have hnc14 := NB121_120.out
        have hcz15_0 : w10.cell? ⟨gb120, 0, none⟩ = some (.int .i64 t115) := (blk_cell BK120.out 0).trans rfl
        have hcz15_1 : w10.cell? ⟨gb120, 1, none⟩ = some (.int .i64 t116) := (blk_cell BK120.out 1).trans rfl
        have hcz15_2 : w10.cell? ⟨gb120, 2, none⟩ = some (.int .i64 t117) := (blk_cell BK120.out 2).trans rfl
        have hcz15_3 : w10.cell? ⟨gb120, 3, none⟩ = some (.int .i64 t118) := (blk_cell BK120.out 3).trans rfl
        have hcz15_4 : w10.cell? ⟨gb120, 4, none⟩ = some (.int .i64 t119) := (blk_cell BK120.out 4).trans rfl
        have hfz15_0 := blk_frozen BK120.out 0
        have hfz15_1 := blk_frozen BK120.out 1
        have hfz15_2 := blk_frozen BK120.out 2
        have hfz15_3 := blk_frozen BK120.out 3
        have hfz15_4 := blk_frozen BK120.out 4
        have hcz16_0 : w10.cell? ⟨gb121, 0, none⟩ = some (.int .i64 0) := (blk_cell BK121.out 0).trans rfl
        have hcz16_1 : w10.cell? ⟨gb121, 1, none⟩ = some (.int .i64 0) := (blk_cell BK121.out 1).trans rfl
        have hcz16_2 : w10.cell? ⟨gb121, 2, none⟩ = some (.int .i64 0) := (blk_cell BK121.out 2).trans rfl
        have hcz16_3 : w10.cell? ⟨gb121, 3, none⟩ = some (.int .i64 0) := (blk_cell BK121.out 3).trans rfl
        have hcz16_4 : w10.cell? ⟨gb121, 4, none⟩ = some (.int .i64 0) := (blk_cell BK121.out 4).trans rfl
        have hfz16_0 := blk_frozen BK121.out 0
        have hfz16_1 := blk_frozen BK121.out 1
        have hfz16_2 := blk_frozen BK121.out 2
        have hfz16_3 := blk_frozen BK121.out 3
        have hfz16_4 := blk_frozen BK121.out 4
        go_wp2
        go_meet
        case rel => exact ⟨_, (true), (by first | rfl | (simp; done) | (simp [*]; done)), H', ⟨by first | omega | exact Nat.le_refl _⟩, ⟨by (with_reducible repeat (first | refine blk_drewN ?_ _ | refine blk_drew ?_ | refine blk_alloc ?_ _)); refine blk_far ?_ NB120_121.out _; (with_reducible repeat (first | refine blk_drewN ?_ _ | refine blk_drew ?_ | refine blk_alloc ?_ _)); refine blk_far ?_ NB120_121.out _; (with_reducible repeat (first | refine blk_drewN ?_ _ | refine blk_drew ?_ | refine blk_alloc ?_ _)); refine blk_far ?_ NB120_121.out _; (with_reducible repeat (first | refine blk_drewN ?_ _ | refine blk_drew ?_ | refine blk_alloc ?_ _)); refine blk_far ?_ NB120_121.out _; (with_reducible repeat (first | refine blk_drewN ?_ _ | refine blk_drew ?_ | refine blk_alloc ?_ _)); refine blk_far ?_ NB120_121.out _; (with_reducible repeat (first | refine blk_drewN ?_ _ | refine blk_drew ?_ | refine blk_alloc ?_ _)); exact BK120.out⟩, ⟨by (with_reducible repeat (first | refine blk_drewN ?_ _ | refine blk_drew ?_ | refine blk_alloc ?_ _)); refine blk_put (cs := #[.int .i64 (wrap64 (Int.tmod a0 4)), .int .i64 (wrap64 (Int.tmod (IntKind.u64.wrap (Int.tdiv a0 4)) 2)), .int .i64 (wrap64 (Int.tmod (IntKind.u64.wrap (Int.tdiv a0 8)) 8192)), .int .i64 (wrap64 (Int.tmod (IntKind.u64.wrap (Int.tdiv a0 65536)) 16777216)), .int .i64 0]) ?_ 4 _ rfl; (with_reducible repeat (first | refine blk_drewN ?_ _ | refine blk_drew ?_ | refine blk_alloc ?_ _)); refine blk_put (cs := #[.int .i64 (wrap64 (Int.tmod a0 4)), .int .i64 (wrap64 (Int.tmod (IntKind.u64.wrap (Int.tdiv a0 4)) 2)), .int .i64 (wrap64 (Int.tmod (IntKind.u64.wrap (Int.tdiv a0 8)) 8192)), .int .i64 0, .int .i64 0]) ?_ 3 _ rfl; (with_reducible repeat (first | refine blk_drewN ?_ _ | refine blk_drew ?_ | refine blk_alloc ?_ _)); refine blk_put (cs := #[.int .i64 (wrap64 (Int.tmod a0 4)), .int .i64 (wrap64 (Int.tmod (IntKind.u64.wrap (Int.tdiv a0 4)) 2)), .int .i64 0, .int .i64 0, .int .i64 0]) ?_ 2 _ rfl; (with_reducible repeat (first | refine blk_drewN ?_ _ | refine blk_drew ?_ | refine blk_alloc ?_ _)); refine blk_put (cs := #[.int .i64 (wrap64 (Int.tmod a0 4)), .int .i64 0, .int .i64 0, .int .i64 0, .int .i64 0]) ?_ 1 _ rfl; (with_reducible repeat (first | refine blk_drewN ?_ _ | refine blk_drew ?_ | refine blk_alloc ?_ _)); refine blk_put (cs := #[.int .i64 0, .int .i64 0, .int .i64 0, .int .i64 0, .int .i64 0]) ?_ 0 _ rfl; (with_reducible repeat (first | refine blk_drewN ?_ _ | refine blk_drew ?_ | refine blk_alloc ?_ _)); exact BK121.out⟩, ⟨by repeat (first | (with_reducible first | exact HB.out | apply below_alloc | apply pw_below_drewN | apply below_drew1 | refine below_set ?_ GE120.out | refine below_set ?_ GE121.out) | exact HB.out)⟩⟩
      · rw [if_neg c13] at H
        have c13b0 : (!(t115 == (wrap64 (Int.tmod a0 4))) || (!(t116 == (wrap64 (Int.tmod (IntKind.u64.wrap (Int.tdiv a0 4)) 2))) || (!(t117 == (wrap64 (Int.tmod (IntKind.u64.wrap (Int.tdiv a0 8)) 8192))) || ((!(t118 == (wrap64 (Int.tmod (IntKind.u64.wrap (Int.tdiv a0 65536)) 16777216))) || (!(t119 == (wrap64 (IntKind.u64.wrap (Int.tdiv a0 1099511627776)))))))))) = false := by simpa using c13
        clear c13
        (first | rw [c13b0] | (simp only [i64_w, i32_w]; rw [c13b0]) | skip)
        replace H := Option.bind_eq_some_iff.mp H
        obtain ⟨t122, A170, H⟩ := H
        replace H : (stackyardlaw02_WordUnpacks.j0 k a0 (t122 != (decide ((Int.tmod a0 4) < 3))) t115 t116 t117 t118 t119) = some r := H
        have A17 := Aside0.mk A170
        clear A170
        have H' := Aside0.mk H
        clear H
        have hnb18 := NB120_121.out
        have hnc18 := NB121_120.out
        have hcz19_0 : w10.cell? ⟨gb120, 0, none⟩ = some (.int .i64 t115) := (blk_cell BK120.out 0).trans rfl
        have hcz19_1 : w10.cell? ⟨gb120, 1, none⟩ = some (.int .i64 t116) := (blk_cell BK120.out 1).trans rfl
        have hcz19_2 : w10.cell? ⟨gb120, 2, none⟩ = some (.int .i64 t117) := (blk_cell BK120.out 2).trans rfl
        have hcz19_3 : w10.cell? ⟨gb120, 3, none⟩ = some (.int .i64 t118) := (blk_cell BK120.out 3).trans rfl
        have hcz19_4 : w10.cell? ⟨gb120, 4, none⟩ = some (.int .i64 t119) := (blk_cell BK120.out 4).trans rfl
        have hfz19_0 := blk_frozen BK120.out 0
        have hfz19_1 := blk_frozen BK120.out 1
        have hfz19_2 := blk_frozen BK120.out 2
        have hfz19_3 := blk_frozen BK120.out 3
        have hfz19_4 := blk_frozen BK120.out 4
        have hcz20_0 : w10.cell? ⟨gb121, 0, none⟩ = some (.int .i64 0) := (blk_cell BK121.out 0).trans rfl
        have hcz20_1 : w10.cell? ⟨gb121, 1, none⟩ = some (.int .i64 0) := (blk_cell BK121.out 1).trans rfl
        have hcz20_2 : w10.cell? ⟨gb121, 2, none⟩ = some (.int .i64 0) := (blk_cell BK121.out 2).trans rfl
        have hcz20_3 : w10.cell? ⟨gb121, 3, none⟩ = some (.int .i64 0) := (blk_cell BK121.out 3).trans rfl
        have hcz20_4 : w10.cell? ⟨gb121, 4, none⟩ = some (.int .i64 0) := (blk_cell BK121.out 4).trans rfl
        have hfz20_0 := blk_frozen BK121.out 0
        have hfz20_1 := blk_frozen BK121.out 1
        have hfz20_2 := blk_frozen BK121.out 2
        have hfz20_3 := blk_frozen BK121.out 3
        have hfz20_4 := blk_frozen BK121.out 4
        go_wp2_with (first | (go_at_call 26; (with_reducible refine (word_Word_Right.calls t115 t116 t117 t118 t119 t122 _ A17.out).mono ?_); rintro e w21 ⟨rfl, hb⟩; have n0_ := Aside0.mk (blk_below (g := gb120) (o := .cells #[.int .i64 t115, .int .i64 t116, .int .i64 t117, .int .i64 t118, .int .i64 t119] 35 (0, 0)) (by (with_reducible repeat (first | refine blk_drewN ?_ _ | refine blk_drew ?_ | refine blk_alloc ?_ _)); refine blk_far ?_ NB120_121.out _; (with_reducible repeat (first | refine blk_drewN ?_ _ | refine blk_drew ?_ | refine blk_alloc ?_ _)); refine blk_far ?_ NB120_121.out _; (with_reducible repeat (first | refine blk_drewN ?_ _ | refine blk_drew ?_ | refine blk_alloc ?_ _)); refine blk_far ?_ NB120_121.out _; (with_reducible repeat (first | refine blk_drewN ?_ _ | refine blk_drew ?_ | refine blk_alloc ?_ _)); refine blk_far ?_ NB120_121.out _; (with_reducible repeat (first | refine blk_drewN ?_ _ | refine blk_drew ?_ | refine blk_alloc ?_ _)); refine blk_far ?_ NB120_121.out _; (with_reducible repeat (first | refine blk_drewN ?_ _ | refine blk_drew ?_ | refine blk_alloc ?_ _)); exact BK120.out) hb); have n1_ := Aside0.mk (blk_below (g := gb121) (o := .cells #[.int .i64 (wrap64 (Int.tmod a0 4)), .int .i64 (wrap64 (Int.tmod (IntKind.u64.wrap (Int.tdiv a0 4)) 2)), .int .i64 (wrap64 (Int.tmod (IntKind.u64.wrap (Int.tdiv a0 8)) 8192)), .int .i64 (wrap64 (Int.tmod (IntKind.u64.wrap (Int.tdiv a0 65536)) 16777216)), .int .i64 (wrap64 (IntKind.u64.wrap (Int.tdiv a0 1099511627776)))] 35 (0, 0)) (by (with_reducible repeat (first | refine blk_drewN ?_ _ | refine blk_drew ?_ | refine blk_alloc ?_ _)); refine blk_put (cs := #[.int .i64 (wrap64 (Int.tmod a0 4)), .int .i64 (wrap64 (Int.tmod (IntKind.u64.wrap (Int.tdiv a0 4)) 2)), .int .i64 (wrap64 (Int.tmod (IntKind.u64.wrap (Int.tdiv a0 8)) 8192)), .int .i64 (wrap64 (Int.tmod (IntKind.u64.wrap (Int.tdiv a0 65536)) 16777216)), .int .i64 0]) ?_ 4 _ rfl; (with_reducible repeat (first | refine blk_drewN ?_ _ | refine blk_drew ?_ | refine blk_alloc ?_ _)); refine blk_put (cs := #[.int .i64 (wrap64 (Int.tmod a0 4)), .int .i64 (wrap64 (Int.tmod (IntKind.u64.wrap (Int.tdiv a0 4)) 2)), .int .i64 (wrap64 (Int.tmod (IntKind.u64.wrap (Int.tdiv a0 8)) 8192)), .int .i64 0, .int .i64 0]) ?_ 3 _ rfl; (with_reducible repeat (first | refine blk_drewN ?_ _ | refine blk_drew ?_ | refine blk_alloc ?_ _)); refine blk_put (cs := #[.int .i64 (wrap64 (Int.tmod a0 4)), .int .i64 (wrap64 (Int.tmod (IntKind.u64.wrap (Int.tdiv a0 4)) 2)), .int .i64 0, .int .i64 0, .int .i64 0]) ?_ 2 _ rfl; (with_reducible repeat (first | refine blk_drewN ?_ _ | refine blk_drew ?_ | refine blk_alloc ?_ _)); refine blk_put (cs := #[.int .i64 (wrap64 (Int.tmod a0 4)), .int .i64 0, .int .i64 0, .int .i64 0, .int .i64 0]) ?_ 1 _ rfl; (with_reducible repeat (first | refine blk_drewN ?_ _ | refine blk_drew ?_ | refine blk_alloc ?_ _)); refine blk_put (cs := #[.int .i64 0, .int .i64 0, .int .i64 0, .int .i64 0, .int .i64 0]) ?_ 0 _ rfl; (with_reducible repeat (first | refine blk_drewN ?_ _ | refine blk_drew ?_ | refine blk_alloc ?_ _)); exact BK121.out) hb); have n2_ := Aside0.mk (below_step (by repeat (first | (with_reducible first | exact HB.out | apply below_alloc | apply pw_below_drewN | apply below_drew1 | refine below_set ?_ GE120.out | refine below_set ?_ GE121.out) | exact HB.out)) hb); clear BK120; clear BK121; clear HB; have BK120 := n0_; have BK121 := n1_; have HB := n2_; clear n0_ n1_ n2_; (try clear hb); (try clear hb2); (try clear hk); (try clear hi)))
        go_meet
        case rel => exact ⟨_, ((t122 != (decide ((Int.tmod a0 4) < 3)))), (by first | rfl | (simp; done) | (simp [*]; done)), H', ⟨by first | omega | exact Nat.le_refl _⟩, ⟨by (with_reducible repeat (first | refine blk_drewN ?_ _ | refine blk_drew ?_ | refine blk_alloc ?_ _)); exact BK120.out⟩, ⟨by (with_reducible repeat (first | refine blk_drewN ?_ _ | refine blk_drew ?_ | refine blk_alloc ?_ _)); exact BK121.out⟩, ⟨by repeat (first | (with_reducible first | exact HB.out | apply below_alloc | apply pw_below_drewN | apply below_drew1 | refine below_set ?_ GE120.out | refine below_set ?_ GE121.out) | exact HB.out)⟩⟩
    case rest =>
      clear HC5
      try clear c1
      try clear c2
      try clear p2
      try clear c3
      try clear p6
      try clear c7
      try clear c11
      try clear c13
      try clear c13b0
      try clear c14
      try clear c18
      try clear hcz12_0
      try clear hcz12_1
      try clear hcz12_2
      try clear hcz12_3
      try clear hcz12_4
      try clear hcz15_0
      try clear hcz15_1
      try clear hcz15_2
      try clear hcz15_3
      try clear hcz15_4
      try clear hcz16_0
      try clear hcz16_1
      try clear hcz16_2
      try clear hcz16_3
      try clear hcz16_4
      try clear hcz19_0
      try clear hcz19_1
      try clear hcz19_2
      try clear hcz19_3
      try clear hcz19_4
      try clear hcz20_0
      try clear hcz20_1
      try clear hcz20_2
      try clear hcz20_3
      try clear hcz20_4
      try clear hcz9_0
      try clear hcz9_1
      try clear hcz9_2
      try clear hcz9_3
      try clear hcz9_4
      try clear hfz12_0
      try clear hfz12_1
      try clear hfz12_2
      try clear hfz12_3
      try clear hfz12_4
      try clear hfz15_0
      try clear hfz15_1
      try clear hfz15_2
      try clear hfz15_3
      try clear hfz15_4
      try clear hfz16_0
      try clear hfz16_1
      try clear hfz16_2
      try clear hfz16_3
      try clear hfz16_4
      try clear hfz19_0
      try clear hfz19_1
      try clear hfz19_2
      try clear hfz19_3
      try clear hfz19_4
      try clear hfz20_0
      try clear hfz20_1
      try clear hfz20_2
      try clear hfz20_3
      try clear hfz20_4
      try clear hfz9_0
      try clear hfz9_1
      try clear hfz9_2
      try clear hfz9_3
      try clear hfz9_4
      obtain ⟨kq, x39_4, rfl, HA, HJ4, BK120, BK121, HB⟩ := hcut
      cases kq with
      | zero => exact absurd HA.out (by simp [stackyardlaw02_WordUnpacks.j0])
      | succ kj4 =>
        have H := HA.out
        clear HA
        simp only [stackyardlaw02_WordUnpacks.j0] at H
        by_cases c22 : x39_4 = true
        · subst c22
          have H1 : (some false) = some r := by rw [if_pos rfl] at H; exact H
          clear H
          have H := H1
          clear H1
          obtain rfl := Option.some.inj H
          go_wp2
          go_ret
          exact ⟨by first | rfl | (simp [errW_none, errW_some] <;> rfl) | (simp [*, errW_none, errW_some] <;> rfl), by repeat (first | (with_reducible first | exact HB.out | apply below_alloc | apply pw_below_drewN | apply below_drew1 | refine below_set ?_ GE120.out | refine below_set ?_ GE121.out) | exact HB.out)⟩
        · replace c22 := Bool.eq_false_iff.mpr c22
          subst c22
          have H1 : (if (Int.tmod a0 4) = 3 then ((word_Word_Pack.f t115 t116 t117 t118 t119).bind fun t123 => (if t123 = 0 then (some true) else (if (Int.tmod a0 4) < 3 then ((word_Word_Pack.f t115 t116 t117 t118 t119).bind fun t124 => (some (t124 == a0))) else (some false)))) else (if (Int.tmod a0 4) < 3 then ((word_Word_Pack.f t115 t116 t117 t118 t119).bind fun t125 => (some (t125 == a0))) else (some false))) = some r := by rw [if_neg (show ¬ (false = true) by decide)] at H; exact H
          clear H
          have H := H1
          clear H1
          by_cases c23 : (Int.tmod a0 4) = 3
          · rw [if_pos c23] at H
            have c23b0 : ((Int.tmod a0 4) == 3) = true := beq_iff_eq.mpr c23
            have c23b1 : ((Int.tmod a0 4) != 3) = false := bne_eq_false_iff_eq.mpr c23
            clear c23
            replace H := Option.bind_eq_some_iff.mp H
            obtain ⟨t123, A240, H⟩ := H
            replace H : (if t123 = 0 then (some true) else (if (Int.tmod a0 4) < 3 then ((word_Word_Pack.f t115 t116 t117 t118 t119).bind fun t124 => (some (t124 == a0))) else (some false))) = some r := H
            have A24 := Aside0.mk A240
            clear A240
            by_cases c25 : t123 = 0
            · rw [if_pos c25] at H
              have c25b0 : (t123 == 0) = true := beq_iff_eq.mpr c25
              have c25b1 : (t123 != 0) = false := bne_eq_false_iff_eq.mpr c25
              clear c25
              obtain rfl := Option.some.inj H
              have hnb26 := NB120_121.out
              have hnc26 := NB121_120.out
              have hcz27_0 : wc.cell? ⟨gb120, 0, none⟩ = some (.int .i64 t115) := (blk_cell BK120.out 0).trans rfl
              have hcz27_1 : wc.cell? ⟨gb120, 1, none⟩ = some (.int .i64 t116) := (blk_cell BK120.out 1).trans rfl
              have hcz27_2 : wc.cell? ⟨gb120, 2, none⟩ = some (.int .i64 t117) := (blk_cell BK120.out 2).trans rfl
              have hcz27_3 : wc.cell? ⟨gb120, 3, none⟩ = some (.int .i64 t118) := (blk_cell BK120.out 3).trans rfl
              have hcz27_4 : wc.cell? ⟨gb120, 4, none⟩ = some (.int .i64 t119) := (blk_cell BK120.out 4).trans rfl
              have hfz27_0 := blk_frozen BK120.out 0
              have hfz27_1 := blk_frozen BK120.out 1
              have hfz27_2 := blk_frozen BK120.out 2
              have hfz27_3 := blk_frozen BK120.out 3
              have hfz27_4 := blk_frozen BK120.out 4
              go_wp2_with (first | (go_at_call 24; (with_reducible refine (word_Word_Pack.calls t115 t116 t117 t118 t119 t123 _ A24.out).mono ?_); rintro e w28 ⟨rfl, hb⟩; have n0_ := Aside0.mk (blk_below (g := gb120) (o := .cells #[.int .i64 t115, .int .i64 t116, .int .i64 t117, .int .i64 t118, .int .i64 t119] 35 (0, 0)) (by (with_reducible repeat (first | refine blk_drewN ?_ _ | refine blk_drew ?_ | refine blk_alloc ?_ _)); exact BK120.out) hb); have n1_ := Aside0.mk (blk_below (g := gb121) (o := .cells #[.int .i64 (wrap64 (Int.tmod a0 4)), .int .i64 (wrap64 (Int.tmod (IntKind.u64.wrap (Int.tdiv a0 4)) 2)), .int .i64 (wrap64 (Int.tmod (IntKind.u64.wrap (Int.tdiv a0 8)) 8192)), .int .i64 (wrap64 (Int.tmod (IntKind.u64.wrap (Int.tdiv a0 65536)) 16777216)), .int .i64 (wrap64 (IntKind.u64.wrap (Int.tdiv a0 1099511627776)))] 35 (0, 0)) (by (with_reducible repeat (first | refine blk_drewN ?_ _ | refine blk_drew ?_ | refine blk_alloc ?_ _)); exact BK121.out) hb); have n2_ := Aside0.mk (below_step (by repeat (first | (with_reducible first | exact HB.out | apply below_alloc | apply pw_below_drewN | apply below_drew1 | refine below_set ?_ GE120.out | refine below_set ?_ GE121.out) | exact HB.out)) hb); clear BK120; clear BK121; clear HB; have BK120 := n0_; have BK121 := n1_; have HB := n2_; clear n0_ n1_ n2_; (try clear hb); (try clear hb2); (try clear hk); (try clear hi)))
              go_ret
              exact ⟨by first | rfl | (simp [errW_none, errW_some] <;> rfl) | (simp [*, errW_none, errW_some] <;> rfl), by repeat (first | (with_reducible first | exact HB.out | apply below_alloc | apply pw_below_drewN | apply below_drew1 | refine below_set ?_ GE120.out | refine below_set ?_ GE121.out) | exact HB.out)⟩
            · rw [if_neg c25] at H
              have c25b0 : (t123 == 0) = false := beq_eq_false_iff_ne.mpr c25
              have c25b1 : (t123 != 0) = true := bne_iff_ne.mpr c25
              by_cases c29 : (Int.tmod a0 4) < 3
              · rw [if_pos c29] at H
                have c29b0 : decide ((Int.tmod a0 4) < 3) = true := decide_eq_true c29
                clear c29
                replace H := Option.bind_eq_some_iff.mp H
                obtain ⟨t124, A300, H⟩ := H
                obtain rfl : t123 = t124 := Option.some.inj (A24.out.symm.trans A300)
                replace H : (some (t123 == a0)) = some r := H
                have A30 := Aside0.mk A300
                clear A300
                obtain rfl := Option.some.inj H
                have hnb31 := NB120_121.out
                have hnc31 := NB121_120.out
                have hcz32_0 : wc.cell? ⟨gb120, 0, none⟩ = some (.int .i64 t115) := (blk_cell BK120.out 0).trans rfl
                have hcz32_1 : wc.cell? ⟨gb120, 1, none⟩ = some (.int .i64 t116) := (blk_cell BK120.out 1).trans rfl
                have hcz32_2 : wc.cell? ⟨gb120, 2, none⟩ = some (.int .i64 t117) := (blk_cell BK120.out 2).trans rfl
                have hcz32_3 : wc.cell? ⟨gb120, 3, none⟩ = some (.int .i64 t118) := (blk_cell BK120.out 3).trans rfl
                have hcz32_4 : wc.cell? ⟨gb120, 4, none⟩ = some (.int .i64 t119) := (blk_cell BK120.out 4).trans rfl
                have hfz32_0 := blk_frozen BK120.out 0
                have hfz32_1 := blk_frozen BK120.out 1
                have hfz32_2 := blk_frozen BK120.out 2
                have hfz32_3 := blk_frozen BK120.out 3
                have hfz32_4 := blk_frozen BK120.out 4
                go_wp2_with (first | (go_at_call 24; (with_reducible refine (word_Word_Pack.calls t115 t116 t117 t118 t119 t123 _ A24.out).mono ?_); rintro e w33 ⟨rfl, hb⟩; have n0_ := Aside0.mk (blk_below (g := gb120) (o := .cells #[.int .i64 t115, .int .i64 t116, .int .i64 t117, .int .i64 t118, .int .i64 t119] 35 (0, 0)) (by (with_reducible repeat (first | refine blk_drewN ?_ _ | refine blk_drew ?_ | refine blk_alloc ?_ _)); exact BK120.out) hb); have n1_ := Aside0.mk (blk_below (g := gb121) (o := .cells #[.int .i64 (wrap64 (Int.tmod a0 4)), .int .i64 (wrap64 (Int.tmod (IntKind.u64.wrap (Int.tdiv a0 4)) 2)), .int .i64 (wrap64 (Int.tmod (IntKind.u64.wrap (Int.tdiv a0 8)) 8192)), .int .i64 (wrap64 (Int.tmod (IntKind.u64.wrap (Int.tdiv a0 65536)) 16777216)), .int .i64 (wrap64 (IntKind.u64.wrap (Int.tdiv a0 1099511627776)))] 35 (0, 0)) (by (with_reducible repeat (first | refine blk_drewN ?_ _ | refine blk_drew ?_ | refine blk_alloc ?_ _)); exact BK121.out) hb); have n2_ := Aside0.mk (below_step (by repeat (first | (with_reducible first | exact HB.out | apply below_alloc | apply pw_below_drewN | apply below_drew1 | refine below_set ?_ GE120.out | refine below_set ?_ GE121.out) | exact HB.out)) hb); clear BK120; clear BK121; clear HB; have BK120 := n0_; have BK121 := n1_; have HB := n2_; clear n0_ n1_ n2_; (try clear hb); (try clear hb2); (try clear hk); (try clear hi); have hcz34_0 : w33.cell? ⟨gb120, 0, none⟩ = some (.int .i64 t115) := (blk_cell BK120.out 0).trans rfl; have hcz34_1 : w33.cell? ⟨gb120, 1, none⟩ = some (.int .i64 t116) := (blk_cell BK120.out 1).trans rfl; have hcz34_2 : w33.cell? ⟨gb120, 2, none⟩ = some (.int .i64 t117) := (blk_cell BK120.out 2).trans rfl; have hcz34_3 : w33.cell? ⟨gb120, 3, none⟩ = some (.int .i64 t118) := (blk_cell BK120.out 3).trans rfl; have hcz34_4 : w33.cell? ⟨gb120, 4, none⟩ = some (.int .i64 t119) := (blk_cell BK120.out 4).trans rfl; have hfz34_0 := blk_frozen BK120.out 0; have hfz34_1 := blk_frozen BK120.out 1; have hfz34_2 := blk_frozen BK120.out 2; have hfz34_3 := blk_frozen BK120.out 3; have hfz34_4 := blk_frozen BK120.out 4) | (go_at_call 24; (with_reducible refine (word_Word_Pack.calls t115 t116 t117 t118 t119 t123 _ A30.out).mono ?_); rintro e w35 ⟨rfl, hb⟩; have n0_ := Aside0.mk (blk_below (g := gb120) (o := .cells #[.int .i64 t115, .int .i64 t116, .int .i64 t117, .int .i64 t118, .int .i64 t119] 35 (0, 0)) (by (with_reducible repeat (first | refine blk_drewN ?_ _ | refine blk_drew ?_ | refine blk_alloc ?_ _)); exact BK120.out) hb); have n1_ := Aside0.mk (blk_below (g := gb121) (o := .cells #[.int .i64 (wrap64 (Int.tmod a0 4)), .int .i64 (wrap64 (Int.tmod (IntKind.u64.wrap (Int.tdiv a0 4)) 2)), .int .i64 (wrap64 (Int.tmod (IntKind.u64.wrap (Int.tdiv a0 8)) 8192)), .int .i64 (wrap64 (Int.tmod (IntKind.u64.wrap (Int.tdiv a0 65536)) 16777216)), .int .i64 (wrap64 (IntKind.u64.wrap (Int.tdiv a0 1099511627776)))] 35 (0, 0)) (by (with_reducible repeat (first | refine blk_drewN ?_ _ | refine blk_drew ?_ | refine blk_alloc ?_ _)); exact BK121.out) hb); have n2_ := Aside0.mk (below_step (by repeat (first | (with_reducible first | exact HB.out | apply below_alloc | apply pw_below_drewN | apply below_drew1 | refine below_set ?_ GE120.out | refine below_set ?_ GE121.out) | exact HB.out)) hb); clear BK120; clear BK121; clear HB; have BK120 := n0_; have BK121 := n1_; have HB := n2_; clear n0_ n1_ n2_; (try clear hb); (try clear hb2); (try clear hk); (try clear hi)))
                go_ret
                exact ⟨by first | rfl | (simp [errW_none, errW_some] <;> rfl) | (simp [*, errW_none, errW_some] <;> rfl), by repeat (first | (with_reducible first | exact HB.out | apply below_alloc | apply pw_below_drewN | apply below_drew1 | refine below_set ?_ GE120.out | refine below_set ?_ GE121.out) | exact HB.out)⟩
              · rw [if_neg c29] at H
                have c29b0 : decide ((Int.tmod a0 4) < 3) = false := decide_eq_false c29
                clear c29
                obtain rfl := Option.some.inj H
                have hnb36 := NB120_121.out
                have hnc36 := NB121_120.out
                have hcz37_0 : wc.cell? ⟨gb120, 0, none⟩ = some (.int .i64 t115) := (blk_cell BK120.out 0).trans rfl
                have hcz37_1 : wc.cell? ⟨gb120, 1, none⟩ = some (.int .i64 t116) := (blk_cell BK120.out 1).trans rfl
                have hcz37_2 : wc.cell? ⟨gb120, 2, none⟩ = some (.int .i64 t117) := (blk_cell BK120.out 2).trans rfl
                have hcz37_3 : wc.cell? ⟨gb120, 3, none⟩ = some (.int .i64 t118) := (blk_cell BK120.out 3).trans rfl
                have hcz37_4 : wc.cell? ⟨gb120, 4, none⟩ = some (.int .i64 t119) := (blk_cell BK120.out 4).trans rfl
                have hfz37_0 := blk_frozen BK120.out 0
                have hfz37_1 := blk_frozen BK120.out 1
                have hfz37_2 := blk_frozen BK120.out 2
                have hfz37_3 := blk_frozen BK120.out 3
                have hfz37_4 := blk_frozen BK120.out 4
                go_wp2_with (first | (go_at_call 24; (with_reducible refine (word_Word_Pack.calls t115 t116 t117 t118 t119 t123 _ A24.out).mono ?_); rintro e w38 ⟨rfl, hb⟩; have n0_ := Aside0.mk (blk_below (g := gb120) (o := .cells #[.int .i64 t115, .int .i64 t116, .int .i64 t117, .int .i64 t118, .int .i64 t119] 35 (0, 0)) (by (with_reducible repeat (first | refine blk_drewN ?_ _ | refine blk_drew ?_ | refine blk_alloc ?_ _)); exact BK120.out) hb); have n1_ := Aside0.mk (blk_below (g := gb121) (o := .cells #[.int .i64 (wrap64 (Int.tmod a0 4)), .int .i64 (wrap64 (Int.tmod (IntKind.u64.wrap (Int.tdiv a0 4)) 2)), .int .i64 (wrap64 (Int.tmod (IntKind.u64.wrap (Int.tdiv a0 8)) 8192)), .int .i64 (wrap64 (Int.tmod (IntKind.u64.wrap (Int.tdiv a0 65536)) 16777216)), .int .i64 (wrap64 (IntKind.u64.wrap (Int.tdiv a0 1099511627776)))] 35 (0, 0)) (by (with_reducible repeat (first | refine blk_drewN ?_ _ | refine blk_drew ?_ | refine blk_alloc ?_ _)); exact BK121.out) hb); have n2_ := Aside0.mk (below_step (by repeat (first | (with_reducible first | exact HB.out | apply below_alloc | apply pw_below_drewN | apply below_drew1 | refine below_set ?_ GE120.out | refine below_set ?_ GE121.out) | exact HB.out)) hb); clear BK120; clear BK121; clear HB; have BK120 := n0_; have BK121 := n1_; have HB := n2_; clear n0_ n1_ n2_; (try clear hb); (try clear hb2); (try clear hk); (try clear hi)))
                go_ret
                exact ⟨by first | rfl | (simp [errW_none, errW_some] <;> rfl) | (simp [*, errW_none, errW_some] <;> rfl), by repeat (first | (with_reducible first | exact HB.out | apply below_alloc | apply pw_below_drewN | apply below_drew1 | refine below_set ?_ GE120.out | refine below_set ?_ GE121.out) | exact HB.out)⟩
          · rw [if_neg c23] at H
            have c23b0 : ((Int.tmod a0 4) == 3) = false := beq_eq_false_iff_ne.mpr c23
            have c23b1 : ((Int.tmod a0 4) != 3) = true := bne_iff_ne.mpr c23
            by_cases c39 : (Int.tmod a0 4) < 3
            · rw [if_pos c39] at H
              have c39b0 : decide ((Int.tmod a0 4) < 3) = true := decide_eq_true c39
              clear c39
              replace H := Option.bind_eq_some_iff.mp H
              obtain ⟨t125, A400, H⟩ := H
              replace H : (some (t125 == a0)) = some r := H
              have A40 := Aside0.mk A400
              clear A400
              obtain rfl := Option.some.inj H
              have hnb41 := NB120_121.out
              have hnc41 := NB121_120.out
              have hcz42_0 : wc.cell? ⟨gb120, 0, none⟩ = some (.int .i64 t115) := (blk_cell BK120.out 0).trans rfl
              have hcz42_1 : wc.cell? ⟨gb120, 1, none⟩ = some (.int .i64 t116) := (blk_cell BK120.out 1).trans rfl
              have hcz42_2 : wc.cell? ⟨gb120, 2, none⟩ = some (.int .i64 t117) := (blk_cell BK120.out 2).trans rfl
              have hcz42_3 : wc.cell? ⟨gb120, 3, none⟩ = some (.int .i64 t118) := (blk_cell BK120.out 3).trans rfl
              have hcz42_4 : wc.cell? ⟨gb120, 4, none⟩ = some (.int .i64 t119) := (blk_cell BK120.out 4).trans rfl
              have hfz42_0 := blk_frozen BK120.out 0
              have hfz42_1 := blk_frozen BK120.out 1
              have hfz42_2 := blk_frozen BK120.out 2
              have hfz42_3 := blk_frozen BK120.out 3
              have hfz42_4 := blk_frozen BK120.out 4
              go_wp2_with (first | (go_at_call 24; (with_reducible refine (word_Word_Pack.calls t115 t116 t117 t118 t119 t125 _ A40.out).mono ?_); rintro e w43 ⟨rfl, hb⟩; have n0_ := Aside0.mk (blk_below (g := gb120) (o := .cells #[.int .i64 t115, .int .i64 t116, .int .i64 t117, .int .i64 t118, .int .i64 t119] 35 (0, 0)) (by (with_reducible repeat (first | refine blk_drewN ?_ _ | refine blk_drew ?_ | refine blk_alloc ?_ _)); exact BK120.out) hb); have n1_ := Aside0.mk (blk_below (g := gb121) (o := .cells #[.int .i64 (wrap64 (Int.tmod a0 4)), .int .i64 (wrap64 (Int.tmod (IntKind.u64.wrap (Int.tdiv a0 4)) 2)), .int .i64 (wrap64 (Int.tmod (IntKind.u64.wrap (Int.tdiv a0 8)) 8192)), .int .i64 (wrap64 (Int.tmod (IntKind.u64.wrap (Int.tdiv a0 65536)) 16777216)), .int .i64 (wrap64 (IntKind.u64.wrap (Int.tdiv a0 1099511627776)))] 35 (0, 0)) (by (with_reducible repeat (first | refine blk_drewN ?_ _ | refine blk_drew ?_ | refine blk_alloc ?_ _)); exact BK121.out) hb); have n2_ := Aside0.mk (below_step (by repeat (first | (with_reducible first | exact HB.out | apply below_alloc | apply pw_below_drewN | apply below_drew1 | refine below_set ?_ GE120.out | refine below_set ?_ GE121.out) | exact HB.out)) hb); clear BK120; clear BK121; clear HB; have BK120 := n0_; have BK121 := n1_; have HB := n2_; clear n0_ n1_ n2_; (try clear hb); (try clear hb2); (try clear hk); (try clear hi)))
              go_ret
              exact ⟨by first | rfl | (simp [errW_none, errW_some] <;> rfl) | (simp [*, errW_none, errW_some] <;> rfl), by repeat (first | (with_reducible first | exact HB.out | apply below_alloc | apply pw_below_drewN | apply below_drew1 | refine below_set ?_ GE120.out | refine below_set ?_ GE121.out) | exact HB.out)⟩
            · rw [if_neg c39] at H
              have c39b0 : decide ((Int.tmod a0 4) < 3) = false := decide_eq_false c39
              clear c39
              obtain rfl := Option.some.inj H
              go_wp2
              go_ret
              exact ⟨by first | rfl | (simp [errW_none, errW_some] <;> rfl) | (simp [*, errW_none, errW_some] <;> rfl), by repeat (first | (with_reducible first | exact HB.out | apply below_alloc | apply pw_below_drewN | apply below_drew1 | refine below_set ?_ GE120.out | refine below_set ?_ GE121.out) | exact HB.out)⟩
  · replace c3 := Bool.eq_false_iff.mpr c3
    subst c3
    have H1 : (some false) = some r := by rw [if_neg (show ¬ (false = true) by decide)] at H; exact H
    clear H
    have H := H1
    clear H1
    obtain rfl := Option.some.inj H
    go_enter Try.func7, Try.ntmps7
    go_wp2_with (first | ((with_reducible refine gate_callee (f := 23) rfl ?_); refine goesL_ (some 5) rfl rfl Try.func23 (by kernel_rfl) rfl #[] rfl (by (try simp only [List.map_toArray, List.map_cons, List.map_nil]); first | done | rfl | (simp only [List.length_drop, List.length_take]; rfl)) ?_; (with_reducible refine (stackyardlaw02_head.calls  false _ A2.out).mono ?_); rintro e w44 ⟨rfl, hb⟩; refine ⟨_, rfl, ?_⟩; have n0_ := Aside0.mk (below_step (by repeat (first | (with_reducible first | exact HB.out | apply below_alloc | apply pw_below_drewN | apply below_drew1) | exact HB.out)) hb); clear HB; have HB := n0_; clear n0_; (try clear hb); (try clear hb2); (try clear hk); (try clear hi)))
    go_ret
    exact ⟨by first | rfl | (simp [errW_none, errW_some] <;> rfl) | (simp [*, errW_none, errW_some] <;> rfl), by repeat (first | (with_reducible first | exact HB.out | apply below_alloc | apply pw_below_drewN | apply below_drew1) | exact HB.out)⟩

/-- THE ONE PURE STATEMENT of stackyardlaw02_WordUnpacks: yours. -/
def stackyardlaw02_WordUnpacks.Pure : Prop := ∀ (a0 : Int), (Lit.int .u64 a0).wf = true → ∃ k, stackyardlaw02_WordUnpacks.f k a0 = some true
theorem stackyardlaw02_WordUnpacks.walk (P : stackyardlaw02_WordUnpacks.Pure) (a0 : Int) (w : World) (w0 : (Lit.int .u64 a0).wf = true) :
    Calls Try.prog 7 #[.int .u64 a0] w fun e w' => e = .returned (.bool true) ∧ Below w.heap.size w w' := by
  obtain ⟨k, h⟩ := P a0 w0
  refine (stackyardlaw02_WordUnpacks.calls k a0 true w h).mono ?_
  rintro e w' ⟨rfl, hd⟩
  exact ⟨rfl, hd⟩

end Go.Proofs.Ytjohamgpnaafaaa.PWordUnpacks
