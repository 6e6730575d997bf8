/- The engine, part 7: parts of slices and texts, append, copy, texts' runes; all operations together. A lemma file: it claims nothing of the program. -/
import Derived.Test.YtckbckijpdnlaaaOwnE6
set_option linter.unusedVariables false
set_option linter.unusedSimpArgs false
namespace Go.Proofs.Ytckbckijpdnlaaa.Eng
open Go

section
variable {P : Program} {I : Tab} {m0 : Mp} {H0 : AHeap} {w0 : World} {H : AHeap} {m : Mp} {w : World} {a : Act} {o : Oper}

theorem bounds_ok (isS : Bool) (len cap d : Nat) {lo hi lo' hi' : Option Value} {l h : Int} (hl : boundI 0 lo = some l) (hh : boundI len hi = some h) (el : lo' = lo) (eh : hi' = hi)
    (h0 : 0 ≤ l) (h1 : l ≤ h) (h2 : h ≤ (cap : Int)) : (Instr.sliceBounds isS len cap lo' hi' none).run P w = .ok (l.toNat, h.toNat, cap) w := by
  subst el eh
  have e1 : (h.toNat : Int) = h := Int.toNat_of_nonneg (by omega)
  have b1 : ∀ (k : IntKind) (c : BoundsCode), (Instr.sliceBound (.int k h) cap c).run P w = .ok h.toNat w := fun k c => run_sliceBound w k h cap c (by omega) h2
  have b2 : ∀ (k : IntKind) (c : BoundsCode), (Instr.sliceBound (.int k l) h.toNat c).run P w = .ok l.toNat w := fun k c => run_sliceBound w k l h.toNat c h0 (by omega)
  cases lo' with
  | none =>
    simp only [boundI, Option.some.injEq] at hl
    cases hi' with
    | none =>
      simp only [boundI, Option.some.injEq] at hh
      subst hh hl
      simp [Instr.sliceBounds]
    | some v =>
      cases v <;> simp only [boundI, Option.some.injEq] at hh <;> first | (cases hh; done) | skip
      subst hh hl
      simp [Instr.sliceBounds, b1]
  | some u =>
    cases u <;> simp only [boundI, Option.some.injEq] at hl <;> first | (cases hl; done) | skip
    subst hl
    cases hi' with
    | none =>
      simp only [boundI, Option.some.injEq] at hh
      subst hh
      simp only [Int.toNat_natCast] at b2
      simp [Instr.sliceBounds, b2]
    | some v =>
      cases v <;> simp only [boundI, Option.some.injEq] at hh <;> first | (cases hh; done) | skip
      subst hh
      simp [Instr.sliceBounds, b1, b2]
/-- Bounds are numbers or none: the same in memory. -/
theorem bound_same {T : TM} {lo : Option Operand} {d : Nat} {l : Int} (hT : TRel m T a) {lv : Option Value} (hlv : (match lo with | none => some none | some x => (ev T x).map some) = some lv) (hl : boundI d lv = some l) : lo.map a.eval = lv := by
  cases lo with
  | none => cases hlv; rfl
  | some x =>
    simp only [Option.map_eq_some_iff] at hlv
    obtain ⟨v, h1, rfl⟩ := hlv
    have := ev_ok hT h1
    rw [Option.map_some]
    generalize a.eval x = q at this
    cases v <;> simp [boundI] at hl
    cases this
    rfl

theorem aSlice_ok (hI : TOk P I) (hM : Match m H w) {t : TypeId} {x x' v : Value} {lo hi : Option Value} (hx : VRel m x x') (hr : aSlice I t x lo hi none H = some v) :
    ∃ v', (∀ w, (Instr.sliceAt t x' lo hi none).run P w = .ok v' w) ∧ VRel m v v' := by
  unfold aSlice at hr
  simp only at hr
  split at hr
  · rename_i i id e len cp hi'
    split at hr
    · rename_i el hd
      split at hr
      · rename_i j z l h hj hz hl hh
        split at hr
        · rename_i hc
          cases hr
          obtain ⟨c1, c2, c3, c4⟩ := hc
          have hu := hI.slice hi' hd
          have key : ∀ (b : Option Addr) (cap : Nat), len ≤ cap → ∀ w, (Instr.sliceAt t (.slice b len cap) lo hi none).run P w = .ok (sliced b l.toNat h.toNat cap j.size) w := by
            intro b cap hcap w
            have hb := bounds_ok (P := P) (w := w) true len cap 0 hl hh rfl rfl c2 c3 (by omega)
            simp only [Instr.sliceAt, Sem.run_bind, run_underlying hu, Result.andThen_ok, Instr.slice, hb, hI.size hj w, Sem.run_pure]
            rfl
          cases hx with
          | vslc h1 h2 =>
            refine ⟨_, key none 0 (by omega), ?_⟩
            have hl0 : l.toNat = 0 := by omega
            have hh0 : h.toNat = 0 := by omega
            simp only [sliced, hl0, hh0, Option.map_none, ite_self, Nat.sub_self, Nat.add_zero]
            exact .vslc h1 h2
          | eslc h1 h2 =>
            refine ⟨_, key _ 0 (by omega), ?_⟩
            have hl0 : l.toNat = 0 := by omega
            have hh0 : h.toNat = 0 := by omega
            simp only [sliced, hl0, hh0, if_true, Nat.sub_self, Nat.add_zero]
            exact .eslc h1 h2
          | slc h1 h2 h3 h4 =>
            rename_i cap i'
            refine ⟨_, key _ cap h3, ?_⟩
            have hzz := rowZ_ok hM h1 hz
            by_cases q : cap = l.toNat
            · have : h.toNat - l.toNat = 0 := by omega
              simp only [sliced, if_pos q, this, show cap - l.toNat = 0 by omega]
              exact .eslc h1 h2
            · simp only [sliced, if_neg q, Option.map_some, add_none]
              have e1 : i'.off + e * i'.z + l.toNat * j.size = i'.off + (e + l.toNat) * i'.z := by rw [c1, ← hzz, Nat.add_mul]; omega
              rw [e1]
              refine .slc h1 h2 (by omega) ?_
              have e2 : e + l.toNat + (cap - l.toNat) = e + cap := by omega
              rw [e2]
              exact h4
        · cases hr
      · cases hr
    · cases hr
  · rename_i i s hi'
    cases hx
    split at hr
    · rename_i hd
      split at hr
      · rename_i l h hl hh
        split at hr
        · rename_i hc
          cases hr
          have hu := hI.str hi' hd
          refine ⟨_, fun w => ?_, .str _⟩
          have hb := bounds_ok (P := P) (w := w) false s.size s.size 0 hl hh rfl rfl hc.1 hc.2.1 hc.2.2
          simp only [Instr.sliceAt, Sem.run_bind, run_underlying hu, Result.andThen_ok, Instr.slice, hb, Option.isSome_none, Bool.false_eq_true, if_false, Sem.run_pure, pure_bind]
        · cases hr
      · cases hr
    · cases hr
  · cases hr

/-! ### append -/
theorem grown_ge (w : World) (need old : Nat) (e : TypeId) : need ≤ grownCap w need old e := by
  show need ≤ need + _
  exact Nat.le_add_right _ _

/-- A row under a new name, its cells turned behind its end. -/
theorem Run.rename (h : Run m0 H0 w0 H m w) {id : Nat} {i : MI} {b b' : ABlk} (hi : m id = some i) (hb : H[id]? = some b) (ho : b.own = true) (hv : i.void = false) (hb' : BRel m w i b') (ho' : b'.own = true) :
    Run m0 H0 w0 (H.set id .dead ++ [b']) (upd m H.length i) w ∧ Mp.le m (upd m H.length i) := by
  have hk := h.kill id
  have hl : (H.set id ABlk.dead).length = H.length := List.length_set
  have hle := le_upd i h.mt.fresh
  refine ⟨?_, hle⟩
  have := hk.name i b' (by rw [hl]; exact hb'.mono hle) (fun h1 h2 => ⟨?_, ?_⟩)
  · rwa [hl] at this
  · rintro k ⟨q, iq, bq, q1, q2, q3, q4, q5⟩ rfl
    by_cases e : id = q
    · subst e
      rw [List.getElem?_set_self (h.mt.lt hi)] at q2
      cases q2
      cases q3
    · rw [List.getElem?_set_ne e] at q2
      exact e (h.mt.inj id q i iq b bq hi q1 hb q2 ho q3 hv q4 q5.symm)
  · exact h.orig i.blk ⟨id, i, b, hi, hb, ho, hv, rfl⟩

theorem zero_app (vs : List Value) : vs ++ ([] : List Value) = vs := by simp

theorem aAppend_ok (hI : TOk P I) (h : Run m0 H0 w0 H m w) {ts : Array TypeId} {ty : TypeId} {xs ys : List Value} {v : Value} {H' : AHeap} {tc : List Nat} (hL : LRel m xs ys) (hts : ts = #[ts.getD 0 0, ts.getD 0 0]) (hr : aAppend I ts xs H = some (v, H', tc)) :
    ∃ (m' : Mp) (w' : World) (v' : Value), (Builtin.append_ ts ty ys.toArray).run P w = .ok v' w' ∧ Run m0 H0 w0 H' m' w' ∧ Mp.le m m' ∧ VRel m' v v' ∧ Frame m tc w w' := by
  generalize hT : ts.getD 0 0 = t at hts
  subst hts
  simp only [aAppend, List.getElem?_toArray, List.getElem?_cons_zero, List.getElem?_cons_succ] at hr
  split at hr
  · rename_i t1 t2 s x ht1 ht2
    cases ht1; cases ht2
    obtain ⟨s', ys1, rfl, hs, hL1⟩ := hL.cons_inv
    obtain ⟨x', ys2, rfl, hx, hL2⟩ := hL1.cons_inv
    obtain rfl := hL2.nil_inv
    split at hr
    · rename_i i i2 hi hi2
      split at hr
      · rename_i e hd hint
        split at hr
        · rename_i j hj
          have hu := hI.slice hi hd
          obtain ⟨u, inf, _, g2, _, g4, g5, g6⟩ := hI.ok e j hj
          split at hr
          · -- onto nil
            rename_i new hnew
            split at hr
            · rename_i hc
              obtain ⟨c1, c2, c3, c4⟩ := hc
              cases hr
              cases hs
              have hvoid : new = [] → (Builtin.append_ #[t, t] ty #[.slice none 0 0, x']).run P w = .ok (.slice none 0 0) w → ∃ (m' : Mp) (w' : World) (v' : Value), (Builtin.append_ #[t, t] ty #[.slice none 0 0, x']).run P w = .ok v' w' ∧ Run m0 H0 w0 (H ++ [.row (decide (0 < new.length)) j.size new]) m' w' ∧ Mp.le m m' ∧ VRel m' (.slice (some ⟨H.length, 0, none⟩) new.length 0) v' ∧ Frame m [] w w' := fun hn hrun => by
                subst hn
                obtain ⟨r1, r2, r3⟩ := void_row h j.size 0
                exact ⟨_, w, _, hrun, r1, r2, r3, .refl _ _ _⟩
              rcases elsOf_ok h.mt hx hnew with ⟨rfl, rfl⟩ | ⟨A, n, cap, vs, rfl, k1, k2, k3, k4, k5⟩
              · refine hvoid rfl ?_
                simp [Builtin.append_, run_underlying hu, hI.size hj w, Builtin.lenOf, Builtin.firstCells]
              · by_cases hn0 : n = 0
                · subst hn0
                  refine hvoid (List.length_eq_zero_iff.1 k1) ?_
                  simp [Builtin.append_, run_underlying hu, hI.size hj w, Builtin.lenOf, Builtin.firstCells, loadCells, loadCellsFrom]
                · have hrun := run_append_nil (P := P) w t ty e inf j.zero hu g2 g6 A n cap vs (by rw [g4]; exact k4) k5 (by omega) (by omega) (by rw [g5]; rw [k1] at c1; omega)
                  have hel := els_of_flat k2.len (X := (Builtin.zeroCells j.zero.cells (grownCap w n 0 e - n)).toList) k3
                  have hsz : (vs.toArray ++ Builtin.zeroCells j.zero.cells (grownCap w n 0 e - n)).size = grownCap w n 0 e * j.size := by
                    have : n ≤ grownCap w n 0 e := grown_ge _ _ _ _
                    have h2 : j.zero.cells.size = j.size := by simpa using c4
                    simp only [Array.size_append, List.size_toArray, k4, Builtin.zeroCells, Array.size_map, Array.size_range, h2, Nat.sub_mul]
                    have := Nat.mul_le_mul_right j.size this
                    omega
                  have hcapn : n ≤ grownCap w n 0 e := grown_ge _ _ _ _
                  obtain ⟨r1, r2, r3⟩ := new_row h.drew (arr := vs.toArray ++ Builtin.zeroCells j.zero.cells (grownCap w n 0 e - n)) e k2 (by rw [hsz, k1]; exact Nat.mul_le_mul_right _ hcapn)
                    (fun f c hf => by have := hel f c hf; simpa using this) (n := n) (cap := grownCap w n 0 e) hcapn (by rw [hsz]; exact Nat.le_refl _) (decide (0 < new.length)) 0
                  rw [k1] at r1 ⊢
                  exact ⟨_, _, _, hrun, r1, r2, r3, .drewAlloc _ _ _ _⟩
            · cases hr
          · -- onto a row of one's own
            rename_i new id n cp hnew
            split at hr
            · rename_i sr z els hb
              split at hr
              · rename_i hc
                obtain ⟨c0, c1, c2, c3, c4, c5⟩ := hc
                subst c0
                cases hr
                have hz0 : j.zero.cells.size = j.size := by simpa using c5
                have hxs := elsOf_ok h.mt hx hnew
                -- what stands in the row, in memory
                have hgrow : ∀ (i' : MI) (s'' : Value), m id = some i' → s' = s'' → ∀ (olds vs : List Value) (B : Addr) (sCap : Nat), s'' = .slice (some B) n sCap → RowOk j.size els → RowOk j.size new →
                    LRel m (els.take n).flatten olds → olds.length = n * j.size → (∀ (q : Nat) (v : Value), olds[q]? = some v → w.cell? (B.add q) = some v) →
                    ∀ (A : Addr) (cap : Nat), x' = .slice (some A) new.length cap → LRel m new.flatten vs → vs.length = new.length * j.size → (∀ (q : Nat) (v : Value), vs[q]? = some v → w.cell? (A.add q) = some v) → sCap < n + new.length →
                    ∃ (m' : Mp) (w' : World) (v' : Value), (Builtin.append_ #[t, t] ty #[s', x']).run P w = .ok v' w' ∧ Run m0 H0 w0 (H.set id .dead ++ [.row (sr || decide (0 < n + new.length)) j.size (els.take n ++ new)]) m' w' ∧ Mp.le m m' ∧ VRel m' (.slice (some ⟨H.length, 0, none⟩) (n + new.length) 0) v' ∧ Frame m [id] w w' := by
                  intro i' s'' hm es olds vs B sCap hs'' hz1 hz2 ho1 ho2 ho3 A cap hx'' hv1 hv2 hv3 hlt
                  subst es hs'' hx''
                  have hrun := run_append_grow (P := P) w t ty e inf j.zero hu g2 g6 B n sCap olds (by rw [g4]; exact ho2) ho3 A new.length cap vs (by rw [g4]; exact hv2) hv3 hlt (by omega) (growslice_fits hlt (by rw [g5]; omega))
                  have hz3 : RowOk j.size (els.take n ++ new) := (hz1.take n).app hz2
                  have hfl : LRel m (els.take n ++ new).flatten (olds ++ vs) := by rw [List.flatten_append]; exact ho1.app hv1
                  have hel := els_of_flat hz3.len (X := (Builtin.zeroCells j.zero.cells (grownCap w (n + new.length) sCap e - (n + new.length))).toList) hfl
                  have hcapn : n + new.length ≤ grownCap w (n + new.length) sCap e := grown_ge _ _ _ _
                  have hsz : (olds.toArray ++ vs.toArray ++ Builtin.zeroCells j.zero.cells (grownCap w (n + new.length) sCap e - (n + new.length))).size = grownCap w (n + new.length) sCap e * j.size := by
                    have := Nat.mul_le_mul_right j.size hcapn
                    simp only [Array.size_append, List.size_toArray, ho2, hv2, Builtin.zeroCells, Array.size_map, Array.size_range, hz0, Nat.sub_mul, Nat.add_mul] at this ⊢
                    omega
                  have hll : (els.take n ++ new).length = n + new.length := by simp; omega
                  have hkl : (H.set id ABlk.dead).length = H.length := List.length_set
                  obtain ⟨r1, r2, r3⟩ := new_row (h.kill id).drew (arr := olds.toArray ++ vs.toArray ++ Builtin.zeroCells j.zero.cells (grownCap w (n + new.length) sCap e - (n + new.length))) e hz3
                    (by rw [hsz, hll]; exact Nat.mul_le_mul_right _ hcapn) (fun f c hf => by have := hel f c hf; simpa using this) (n := n + new.length) (cap := grownCap w (n + new.length) sCap e) hcapn (by rw [hsz]; exact Nat.le_refl _) (sr || decide (0 < n + new.length)) 0
                  rw [hkl] at r1 r2 r3
                  exact ⟨_, _, _, hrun, r1, r2, r3, .drewAlloc _ _ _ _⟩
                generalize hgs : s' = sg at hs
                cases hs with
                | vslc h1 h2 =>
                  obtain ⟨b0, hb0, hB⟩ := h.mt.has _ _ h1
                  rw [hb] at hb0
                  cases hb0
                  obtain ⟨_, _, _, hB4⟩ := hB
                  rcases hB4 with ⟨_, he, hsr⟩ | ⟨he, _⟩
                  · subst he hsr
                    have hkl : (H.set id ABlk.dead).length = H.length := List.length_set
                    rcases hxs with ⟨rfl, rfl⟩ | ⟨A, n2, cap, vs, rfl, k1, k2, k3, k4, k5⟩
                    · obtain ⟨r1, r2, r3⟩ := void_row (h.kill id) j.size 0
                      rw [hkl] at r1 r2 r3
                      exact ⟨_, w, .slice none 0 0, by simp [Builtin.append_, run_underlying hu, hI.size hj w, Builtin.lenOf, Builtin.firstCells], by simpa using r1, r2, by simpa using r3, .refl _ _ _⟩
                    · by_cases hn0 : n2 = 0
                      · subst hn0
                        have := List.length_eq_zero_iff.1 k1
                        subst this
                        obtain ⟨r1, r2, r3⟩ := void_row (h.kill id) j.size 0
                        rw [hkl] at r1 r2 r3
                        exact ⟨_, w, .slice none 0 0, by simp [Builtin.append_, run_underlying hu, hI.size hj w, Builtin.lenOf, Builtin.firstCells, loadCells, loadCellsFrom], by simpa using r1, r2, by simpa using r3, .refl _ _ _⟩
                      · have hrun := run_append_nil (P := P) w t ty e inf j.zero hu g2 g6 A n2 cap vs (by rw [g4]; exact k4) k5 (by omega) (by omega) (by rw [g5]; rw [k1] at c2; simp at c2; omega)
                        have hel := els_of_flat k2.len (X := (Builtin.zeroCells j.zero.cells (grownCap w n2 0 e - n2)).toList) k3
                        have hcapn : n2 ≤ grownCap w n2 0 e := grown_ge _ _ _ _
                        have hsz : (vs.toArray ++ Builtin.zeroCells j.zero.cells (grownCap w n2 0 e - n2)).size = grownCap w n2 0 e * j.size := by
                          have := Nat.mul_le_mul_right j.size hcapn
                          simp only [Array.size_append, List.size_toArray, k4, Builtin.zeroCells, Array.size_map, Array.size_range, hz0, Nat.sub_mul]
                          omega
                        obtain ⟨r1, r2, r3⟩ := new_row (h.kill id).drew (arr := vs.toArray ++ Builtin.zeroCells j.zero.cells (grownCap w n2 0 e - n2)) e k2 (by rw [hsz, k1]; exact Nat.mul_le_mul_right _ hcapn)
                          (fun f c hf => by have := hel f c hf; simpa using this) (n := n2) (cap := grownCap w n2 0 e) hcapn (by rw [hsz]; exact Nat.le_refl _) (decide (0 < 0 + new.length)) 0
                        rw [hkl] at r1 r2 r3
                        refine ⟨_, _, _, hrun, by simpa [k1] using r1, r2, by simpa [k1] using r3, .drewAlloc _ _ _ _⟩
                  · rw [h2] at he; cases he
                | eslc h1 h2 =>
                  rename_i ob i'
                  obtain ⟨b0, hb0, hB⟩ := h.mt.has _ _ h1
                  rw [hb] at hb0
                  cases hb0
                  have hB' := hB
                  obtain ⟨hB1, hB2, hB3, hB4⟩ := hB
                  rcases hxs with ⟨rfl, rfl⟩ | ⟨A, n2, cap, vs, rfl, k1, k2, k3, k4, k5⟩
                  · rcases hB4 with ⟨hB5, _⟩ | ⟨hB5, arr, T, hB7, hB8, hB9, hB10⟩
                    · rw [h2] at hB5; cases hB5
                    · obtain ⟨r1, r2⟩ := h.rename h1 hb rfl h2 (b' := .row (sr || decide (0 < 0 + 0)) j.size []) ⟨hB1, hB2, RowOk.nil _, .inr ⟨h2, arr, T, hB7, hB8, by simp, by simp⟩⟩ rfl
                      refine ⟨_, w, .slice (some ⟨i'.blk, ob, none⟩) 0 0, by simp [Builtin.append_, run_underlying hu, hI.size hj w, Builtin.lenOf, Builtin.firstCells, storeCells], by simpa using r1, r2, ?_, .refl _ _ _⟩
                      exact .eslc (by simp [upd]) h2
                  · by_cases hn0 : n2 = 0
                    · subst hn0
                      have := List.length_eq_zero_iff.1 k1
                      subst this
                      rcases hB4 with ⟨hB5, _⟩ | ⟨hB5, arr, T, hB7, hB8, hB9, hB10⟩
                      · rw [h2] at hB5; cases hB5
                      · obtain ⟨r1, r2⟩ := h.rename h1 hb rfl h2 (b' := .row (sr || decide (0 < 0 + 0)) j.size []) ⟨hB1, hB2, RowOk.nil _, .inr ⟨h2, arr, T, hB7, hB8, by simp, by simp⟩⟩ rfl
                        refine ⟨_, w, .slice (some ⟨i'.blk, ob, none⟩) 0 0, by simp [Builtin.append_, run_underlying hu, hI.size hj w, Builtin.lenOf, Builtin.firstCells, storeCells, loadCells, loadCellsFrom], by simpa using r1, r2, ?_, .refl _ _ _⟩
                        exact .eslc (by simp [upd]) h2
                    · subst k1
                      subst hgs
                      exact hgrow i' _ h1 rfl [] vs _ 0 rfl hB3 k2 (by simpa using LRel.nil m) (by simp) (by simp) A cap rfl k3 k4 k5 (by omega)
                | slc h1 h2 h3 h4 =>
                  rename_i sCap i'
                  obtain ⟨b0, hb0, hB⟩ := h.mt.has _ _ h1
                  rw [hb] at hb0
                  cases hb0
                  obtain ⟨hB1, hB2, hB3, hB4⟩ := hB
                  rcases hB4 with ⟨hB5, _⟩ | ⟨hB5, arr, T, hB7, hB8, hB9, hB10⟩
                  · rw [h2] at hB5; cases hB5
                  · have hfl : LRel m els.flatten (arr.toList.take (els.length * j.size)) := flat_of_els hB3.len (by simpa using hB9) hB10
                    have hnz : n * j.size ≤ els.length * j.size := Nat.mul_le_mul_right _ c1
                    have htn : (els.take n).flatten = els.flatten.take (n * j.size) := by
                      have e1 : els.flatten = (els.take n).flatten ++ (els.drop n).flatten := by rw [← List.flatten_append, List.take_append_drop]
                      have e2 : (els.take n).flatten.length = n * j.size := by
                        rw [flat_len (hB3.take n).len, List.length_take, Nat.min_eq_left c1]
                      have e3 := congrArg (List.take (n * j.size)) e1
                      rw [List.take_append_of_le_length (Nat.le_of_eq e2.symm), List.take_of_length_le (Nat.le_of_eq e2)] at e3
                      exact e3.symm
                    have hold : LRel m (els.take n).flatten (arr.toList.take (n * j.size)) := by
                      rw [htn]
                      have := hfl.take (n * j.size)
                      rwa [List.take_take, Nat.min_eq_left hnz] at this
                    have hfits : (0 + sCap) * i'.z ≤ i'.sz := by omega
                    rw [hB1, hB8, Nat.zero_add] at hfits
                    have haddr : i'.off + 0 * i'.z = 0 := by simp [hB2]
                    rw [haddr] at hgs ⊢
                    have hin : ∀ (vs : List Value), n + new.length ≤ sCap → LRel m new.flatten vs → vs.length = new.length * j.size → RowOk j.size new →
                        (Builtin.append_ #[t, t] ty #[.slice (some ⟨i'.blk, 0, none⟩) n sCap, x']).run P w = ((storeCells (⟨i'.blk, n * j.size, none⟩ : Addr) vs).run P w).andThen (fun _ w' => .ok (.slice (some ⟨i'.blk, 0, none⟩) (n + new.length) sCap) w') →
                        ∃ (m' : Mp) (w' : World) (v' : Value), (Builtin.append_ #[t, t] ty #[.slice (some ⟨i'.blk, 0, none⟩) n sCap, x']).run P w = .ok v' w' ∧ Run m0 H0 w0 (H.set id .dead ++ [.row (sr || decide (0 < n + new.length)) j.size (els.take n ++ new)]) m' w' ∧ Mp.le m m' ∧ VRel m' (.slice (some ⟨H.length, 0, none⟩) (n + new.length) 0) v' ∧ Frame m [id] w w' := by
                      intro vs hle hv1 hv2 hz2 hrun
                      have hcz := Nat.mul_le_mul_right j.size hle
                      rw [Nat.add_mul] at hcz
                      have hfit2 : n * j.size + vs.length ≤ arr.size := by omega
                      have hones : ∀ u ∈ vs, u.oneCell' = true := by
                        intro u hu'
                        obtain ⟨q, hq, rfl⟩ := List.getElem_of_mem hu'
                        have hq' : q < new.flatten.length := by rw [hv1.1]; exact hq
                        have hr' := hv1.2 q _ _ (List.getElem?_eq_getElem hq') (List.getElem?_eq_getElem hq)
                        rw [hr'.one]
                        obtain ⟨c, hc, hq2⟩ := List.mem_flatten.1 (List.getElem_mem hq')
                        exact (hz2 c hc).2 _ hq2
                      have hst := run_storeCells_at P i'.blk (n * j.size) T vs 0 arr w hB7 (by omega) hones
                      simp only [Nat.add_zero] at hst
                      rw [hst, Result.andThen_ok] at hrun
                      have hz3 : RowOk j.size (els.take n ++ new) := (hB3.take n).app hz2
                      have hll : (els.take n ++ new).length = n + new.length := by simp; omega
                      have hfl2 : LRel m (els.take n ++ new).flatten (arr.toList.take (n * j.size) ++ vs) := by rw [List.flatten_append]; exact hold.app hv1
                      have hel := els_of_flat hz3.len (X := arr.toList.drop (n * j.size + vs.length)) hfl2
                      have hal : n * j.size + vs.length ≤ arr.toList.length := by simpa using hfit2
                      have hsl := seg_len hal
                      let arr2 : Array Value := (arr.toList.take (n * j.size) ++ vs ++ arr.toList.drop (n * j.size + vs.length)).toArray
                      have hs2 : arr2.size = arr.size := by simpa [arr2] using hsl
                      have hBn : BRel m (w.setRow i'.blk arr2) i' (.row (sr || decide (0 < n + new.length)) j.size (els.take n ++ new)) :=
                        ⟨hB1, hB2, hz3, .inr ⟨h2, arr2, T, setRow_heap w _ arr _ T _ hB7, by rw [hs2]; exact hB8, by rw [hll, hs2, Nat.add_mul]; omega, fun f c hf => hel f c hf⟩⟩
                      have hwr := h.write h1 hb rfl h2 hBn (fun k hk => setRow_other w i'.blk k _ hk) (size_setRow _ _ _) rfl rfl rfl rfl
                      have hlt := h.mt.lt h1
                      obtain ⟨r1, r2⟩ := hwr.rename (id := id) h1 (List.getElem?_set_self hlt) rfl h2 hBn rfl
                      rw [List.set_set, List.length_set] at r1
                      rw [List.length_set] at r2
                      refine ⟨_, _, _, hrun, r1, r2, ?_, .row m h1 h2 _ _⟩
                      have := VRel.slc (m := upd m H.length i') (id := H.length) (e := 0) (cp := 0) (cap := sCap) (len := n + new.length) (i := i') (by simp [upd]) h2 hle (by rw [hB2, hB1, hB8]; simpa using hfits)
                      rwa [haddr] at this
                    rcases hxs with ⟨rfl, rfl⟩ | ⟨A, n2, cap, vs, rfl, k1, k2, k3, k4, k5⟩
                    · refine hin [] (by simpa using h3) (by simpa using LRel.nil m) (by simp) (RowOk.nil _) ?_
                      simp [Builtin.append_, run_underlying hu, hI.size hj w, Builtin.lenOf, Builtin.firstCells, h3, add_none]
                    · subst k1
                      by_cases hle : n + new.length ≤ sCap
                      · refine hin vs hle k3 k4 k2 ?_
                        have hf := run_firstCells_some (P := P) w j.size new.length A new.length cap vs k4 k5
                        simp [Builtin.append_, run_underlying hu, hI.size hj w, Builtin.lenOf, hle, hf, add_none]
                      · subst hgs
                        refine hgrow i' _ h1 rfl (arr.toList.take (n * j.size)) vs _ sCap rfl hB3 k2 hold (by rw [List.length_take, Array.length_toList]; omega) (fun q v hq => ?_) A cap rfl k3 k4 k5 (by omega)
                        rw [List.getElem?_take] at hq
                        split at hq
                        · rw [add_none, Nat.zero_add]
                          simp only [World.cell?, hB7]
                          simpa using hq
                        · cases hq
              · cases hr
            · cases hr
          · cases hr
        · cases hr
      · cases hr
    · cases hr
  · cases hr
end
end Go.Proofs.Ytckbckijpdnlaaa.Eng
