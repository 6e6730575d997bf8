/- The engine, part 3: operations, one by one: what each does to what a call knows, and that memory follows. A lemma file: it claims nothing of the program. -/
import Derived.Test.YtckbckijpdnlaaaOwnE2
set_option linter.unusedVariables false
set_option linter.unusedSimpArgs false
namespace Go.Proofs.Ytckbckijpdnlaaa.Eng
open Go

abbrev Res := Option (Value × AHeap × List Nat)

def tval (i : TInfo) (cs : List Value) : Option Value := if i.agg = true then some (.agg cs.toArray) else match cs with
  | [v] => some v
  | _ => none
def aLoad (I : Tab) (t : TypeId) (p : Value) (H : AHeap) : Res :=
  match I t, p with
  | some i, .pointer (some ⟨id, k, s⟩) => match H[id]? with
    | some b => match rd b s k i.size with
      | some cs => match tval i cs with
        | some v => some (v, H, [])
        | none => none
      | none => none
    | none => none
  | _, _ => none
def aStore (I : Tab) (t : TypeId) (p v : Value) (H : AHeap) : Res :=
  match I t, p with
  | some i, .pointer (some ⟨id, k, s⟩) => if v.cells.toList.length = i.size ∧ v.cells.toList.all (·.oneCell') = true then match H[id]? with
    | some b => match wr b s k v.cells.toList with
      | some b' => some (undef, H.set id b', [id])
      | none => none
    | none => none
    else none
  | _, _ => none
def aNew (vs : List Value) (H : AHeap) : Res := some (.pointer (some ⟨H.length, 0, none⟩), H ++ [.cells vs], [])
def aAlloc (I : Tab) (t : TypeId) (H : AHeap) : Res := match I t with
  | some i => if flatV i.zero = true then aNew i.zero.cells.toList H else none
  | none => none

/-- What an operation does, in memory. -/
def Does (P : Program) (o : Oper) (a : Act) (w : World) (v' : Value) (w' : World) : Prop :=
  (execOp a.eval o).run P w = .ok (.value v') w' ∨ ((execOp a.eval o).run P w = .ok .skip w' ∧ v' = undef)
def Good (P : Program) (m0 : Mp) (H0 : AHeap) (w0 : World) (m : Mp) (o : Oper) (a : Act) (w : World) (v : Value) (H' : AHeap) (tc : List Nat) : Prop :=
  ∃ (m' : Mp) (w' : World) (v' : Value), Does P o a w v' w' ∧ Run m0 H0 w0 H' m' w' ∧ Mp.le m m' ∧ VRel m' v v' ∧ Frame m tc w w'

section
variable {P : Program} {I : Tab} {m0 : Mp} {H0 : AHeap} {w0 : World} {H : AHeap} {m : Mp} {w : World} {a : Act} {o : Oper}

theorem Good.still {v v' : Value} (h : Run m0 H0 w0 H m w) (he : (execOp a.eval o).run P w = .ok (.value v') w) (hv : VRel m v v') : Good P m0 H0 w0 m o a w v H [] :=
  ⟨m, w, v', .inl he, h, Mp.le_refl _, hv, .refl _ _ _⟩

theorem tval_ok {i : TInfo} {cs : List Value} {v : Value} (h : tval i cs = some v) : (i.agg = true ∧ v = .agg cs.toArray) ∨ (i.agg = false ∧ cs = [v]) := by
  unfold tval at h
  split at h
  · rename_i e; cases h; exact .inl ⟨e, rfl⟩
  · rename_i e
    split at h
    · cases h; exact .inr ⟨by simpa using e, rfl⟩
    · cases h

theorem run_loadVar_vals (hI : TOk P I) {t : TypeId} {i : TInfo} (hi : I t = some i) {A : Addr} {vs : List Value} (hs : vs.length = i.size)
    (hc : ∀ (j : Nat) (v : Value), vs[j]? = some v → w.cell? (A.add j) = some v) (hA : A.spot = none) {u : Value} (hu : (i.agg = true ∧ u = .agg vs.toArray) ∨ (i.agg = false ∧ vs = [u])) :
    (loadVar t A).run P w = .ok u w := by
  unfold loadVar
  rw [Sem.run_bind, hI.isAgg hi w, Result.andThen_ok]
  rcases hu with ⟨h1, h2⟩ | ⟨h1, h2⟩
  · have := run_loadCells_list (P := P) w A vs hc
    rw [hs] at this
    simp [h1, hI.size hi w, this, h2]
  · subst h2
    have h0 := hc 0 u rfl
    rw [show A.add 0 = A by simp [Addr.add]] at h0
    simp [h1, h0]

theorem aLoad_ok (hI : TOk P I) (h : Run m0 H0 w0 H m w) {t : TypeId} {x : Operand} (ho : o.op = .load t x) {p v : Value} {H' : AHeap} {tc : List Nat} (hp : VRel m p (a.eval x)) (hr : aLoad I t p H = some (v, H', tc)) :
    Good P m0 H0 w0 m o a w v H' tc ∧ H' = H ∧ tc = [] := by
  unfold aLoad at hr
  split at hr
  · rename_i i id k s hi
    split at hr
    · rename_i b hb
      split at hr
      · rename_i cs hcs
        split at hr
        · rename_i u hu
          cases hr
          refine ⟨?_, rfl, rfl⟩
          generalize hq : a.eval x = q at hp
          cases hp with
          | ptr hm hv =>
            obtain ⟨b', hb', hB⟩ := h.mt.has _ _ hm
            rw [hb] at hb'
            cases hb'
            obtain ⟨vs, hL, hc⟩ := rd_vals hB hcs hv
            have hlen : vs.length = i.size := by rw [← hL.1]; exact rd_len hcs
            rcases tval_ok hu with ⟨h1, rfl⟩ | ⟨h1, rfl⟩
            · refine .still (v' := .agg vs.toArray) h ?_ (.ofL hL)
              simp only [execOp, ho, hq, Instr.loadAt, Instr.sureAddr, pure_bind, Sem.run_bind, run_loadVar_vals hI hi hlen hc rfl (.inl ⟨h1, rfl⟩), Result.andThen_ok, Sem.run_pure]
            · obtain ⟨y, ys, rfl, hy, hys⟩ := hL.cons_inv
              obtain rfl := hys.nil_inv
              refine .still (v' := y) h ?_ hy
              simp only [execOp, ho, hq, Instr.loadAt, Instr.sureAddr, pure_bind, Sem.run_bind, run_loadVar_vals hI hi hlen hc rfl (.inr ⟨h1, rfl⟩), Result.andThen_ok, Sem.run_pure]
        · cases hr
      · cases hr
    · cases hr
  · cases hr

theorem seg_get {xs vs : List Value} {k : Nat} (hk : k + vs.length ≤ xs.length) (j : Nat) : (xs.take k ++ vs ++ xs.drop (k + vs.length))[j]? = if j < k then xs[j]? else if j < k + vs.length then vs[j - k]? else xs[j]? := by
  have hl : (xs.take k).length = k := by simp; omega
  by_cases c1 : j < k
  · rw [if_pos c1, List.append_assoc, List.getElem?_append_left (by omega), List.getElem?_take, if_pos c1]
  · rw [if_neg c1, List.append_assoc, List.getElem?_append_right (by omega), hl]
    by_cases c2 : j < k + vs.length
    · rw [if_pos c2, List.getElem?_append_left (by omega)]
    · rw [if_neg c2, List.getElem?_append_right (by omega), List.getElem?_drop]
      congr 1
      omega
theorem seg_len {xs vs : List Value} {k : Nat} (hk : k + vs.length ≤ xs.length) : (xs.take k ++ vs ++ xs.drop (k + vs.length)).length = xs.length := by simp; omega
theorem LRel.seg {xs ys vs us : List Value} {k : Nat} (h : LRel m xs ys) (hv : LRel m vs us) (hk : k + vs.length ≤ xs.length) : LRel m (xs.take k ++ vs ++ xs.drop (k + vs.length)) (ys.take k ++ us ++ ys.drop (k + us.length)) := by
  have e := hv.1
  rw [← e]
  exact ((h.take k).app hv).app (h.drop _)

/-- A store into a block that is the call's own. -/
theorem wr_ok (h : Run m0 H0 w0 H m w) {id k : Nat} {s : Option Nat} {i : MI} {b b' : ABlk} (hm : m id = some i) (hv : i.void = false) (hb : H[id]? = some b) {cs us : List Value} (hw : wr b s k cs = some b')
    (hL : LRel m cs us) (h1 : ∀ u ∈ us, u.oneCell' = true) (h1' : ∀ u ∈ cs, u.oneCell' = true) : ∃ w', (storeCells ⟨i.blk, i.off + s.getD 0 * i.z + k, none⟩ us).run P w = .ok () w' ∧ Run m0 H0 w0 (H.set id b') m w' ∧ Frame m [id] w w' := by
  obtain ⟨b0, hb0, hB⟩ := h.mt.has _ _ hm
  rw [hb] at hb0
  cases hb0
  cases b with
  | cells vs =>
    cases s with
    | some e => simp [wr] at hw
    | none =>
      obtain ⟨g1, g2, g3, arr, T, g5, g6⟩ := hB
      simp only [wr] at hw
      split at hw
      · rename_i hk
        cases hw
        have hst := run_storeCells_at P i.blk k T us 0 arr w g5 (by rw [← hL.1]; have := g6.1; simp at this; omega) h1
        have e1 : i.off + (none : Option Nat).getD 0 * i.z + k = k := by simp [g2]
        rw [e1]
        refine ⟨_, hst, h.write hm hb rfl hv (b' := .cells _) ?_ (fun j hj => setRow_other w i.blk j _ hj) (size_setRow _ _ _) rfl rfl rfl rfl, .row m hm hv _ _⟩
        refine ⟨g1, g2, g3, _, T, setRow_heap w _ arr _ T _ g5, ?_⟩
        simp only [Nat.add_zero]
        exact g6.seg hL hk
      · cases hw
  | row sr z els =>
    cases s with
    | none => simp [wr] at hw
    | some e =>
      obtain ⟨g1, g2, g3, g4⟩ := hB
      rcases g4 with ⟨g5, _⟩ | ⟨g5, arr, T, g7, g8, g9, g10⟩
      · rw [hv] at g5; cases g5
      · simp only [wr] at hw
        split at hw
        · rename_i c hc
          split at hw
          · rename_i hk
            cases hw
            have hcm : c ∈ els := List.mem_of_getElem? hc
            have hcl := (g3 c hcm).1
            have hel : e < els.length := (List.getElem?_eq_some_iff.1 hc).1
            have hfit := mul_fit (z := z) hel
            have e1 : i.off + (some e).getD 0 * i.z + k = e * z + k := by simp [g2, g1]
            rw [e1]
            have hul := hL.1
            have hst := run_storeCells_at P i.blk (e * z + k) T us 0 arr w g7 (by omega) h1
            simp only [Nat.add_zero] at hst
            refine ⟨_, hst, h.write hm hb rfl hv (b' := .row sr z _) ?_ (fun j hj => setRow_other w i.blk j _ hj) (size_setRow _ _ _) rfl rfl rfl rfl, .row m hm hv _ _⟩
            have hsegl : (c.take k ++ cs ++ c.drop (k + cs.length)).length = z := by rw [seg_len hk]; exact hcl
            have hal : e * z + k + us.length ≤ arr.toList.length := by simp; omega
            refine ⟨g1, g2, ?_, .inr ⟨g5, _, T, setRow_heap w _ arr _ T _ g7, ?_, ?_, ?_⟩⟩
            · refine RowOk.set g3 hsegl (fun v hv' => ?_) e
              rcases List.mem_append.1 hv' with hv' | hv'
              · rcases List.mem_append.1 hv' with hv' | hv'
                · exact (g3 c hcm).2 v (List.mem_of_mem_take hv')
                · exact h1' v hv'
              · exact (g3 c hcm).2 v (List.mem_of_mem_drop hv')
            · have := seg_len hal
              simp only [Array.length_toList] at this
              simpa [g8] using this.symm
            · have := seg_len hal
              rw [List.length_set]
              simp only [List.size_toArray]
              rw [this]; simpa using g9
            · intro f d hd
              refine ⟨?_, fun j x y hx hy => ?_⟩
              · have hdl : d.length = z := by
                  by_cases q : e = f
                  · subst q
                    rw [List.getElem?_set_self hel] at hd
                    cases hd
                    exact hsegl
                  · rw [List.getElem?_set_ne q] at hd
                    exact (g3 d (List.mem_of_getElem? hd)).1
                have hfl : f < els.length := by have := (List.getElem?_eq_some_iff.1 hd).1; simpa using this
                have hff := mul_fit (z := z) hfl
                rw [hdl, List.length_take, List.length_drop]
                simp only [seg_len hal]
                simp
                omega
              · obtain ⟨hj, hy⟩ := drop_take_get hy
                simp only at hy
                rw [seg_get hal] at hy
                by_cases hfe : e = f
                · subst hfe
                  rw [List.getElem?_set_self hel] at hd
                  cases hd
                  rw [seg_get hk] at hx
                  by_cases c1 : j < k
                  · rw [if_pos c1] at hx
                    rw [if_pos (by omega)] at hy
                    exact (g10 e c hc).2 j x y hx (by rw [List.getElem?_take, if_pos hj, List.getElem?_drop]; exact hy)
                  · rw [if_neg c1] at hx
                    rw [if_neg (by omega)] at hy
                    by_cases c2 : j < k + cs.length
                    · rw [if_pos c2] at hx
                      rw [if_pos (by omega), show e * z + j - (e * z + k) = j - k by omega] at hy
                      exact hL.2 _ x y hx hy
                    · rw [if_neg c2] at hx
                      rw [if_neg (by omega)] at hy
                      exact (g10 e c hc).2 j x y hx (by rw [List.getElem?_take, if_pos hj, List.getElem?_drop]; exact hy)
                · rw [List.getElem?_set_ne hfe] at hd
                  have hfl : f < els.length := (List.getElem?_eq_some_iff.1 hd).1
                  have : f * z + j < e * z + k ∨ e * z + k + us.length ≤ f * z + j := by
                    rcases Nat.lt_or_gt_of_ne hfe with hlt | hlt
                    · have := mul_fit (z := z) hlt; right; omega
                    · have := mul_fit (z := z) hlt; left; omega
                  have hy' : arr.toList[f * z + j]? = some y := by
                    rcases this with t1 | t1
                    · rwa [if_pos t1] at hy
                    · rwa [if_neg (by omega), if_neg (by omega)] at hy
                  exact (g10 f d hd).2 j x y hx (by rw [List.getElem?_take, if_pos hj, List.getElem?_drop]; exact hy')
          · cases hw
        · cases hw
  | old sr z els => cases s <;> simp [wr] at hw
  | ro vs => cases s <;> simp [wr] at hw
  | iter s' p => cases s <;> simp [wr] at hw
  | dead => cases s <;> simp [wr] at hw

theorem LRel.ones {xs ys : List Value} (h : LRel m xs ys) (hx : xs.all (·.oneCell') = true) : ∀ u ∈ ys, u.oneCell' = true := by
  intro u hu
  obtain ⟨j, hj, rfl⟩ := List.getElem_of_mem hu
  have hj' : j < xs.length := by rw [h.1]; exact hj
  have hr := h.2 j _ _ (List.getElem?_eq_getElem hj') (List.getElem?_eq_getElem hj)
  rw [hr.one]
  exact List.all_eq_true.1 hx _ (List.getElem_mem hj')

theorem aStore_ok (hI : TOk P I) (h : Run m0 H0 w0 H m w) {t : TypeId} {x y : Operand} (ho : o.op = .store t x y) {p u v : Value} {H' : AHeap} {tc : List Nat} (hp : VRel m p (a.eval x)) (hu : VRel m u (a.eval y))
    (hr : aStore I t p u H = some (v, H', tc)) : Good P m0 H0 w0 m o a w v H' tc := by
  unfold aStore at hr
  split at hr
  · rename_i i id k s hi
    split at hr
    · rename_i hc
      split at hr
      · rename_i b hb
        split at hr
        · rename_i b' hb'
          cases hr
          generalize hq : a.eval x = q at hp
          cases hp with
          | ptr hm hv =>
            have hL := LRel.cells hu
            obtain ⟨w', hw, hR, hF⟩ := wr_ok (P := P) h hm hv hb hb' hL (hL.ones hc.2) (fun u hu' => List.all_eq_true.1 hc.2 u hu')
            refine ⟨m, w', undef, .inr ⟨?_, rfl⟩, hR, Mp.le_refl _, undef_ok _, hF⟩
            have hsz : ((a.eval y).cells.size ≠ i.size) = False := by
              simp only [ne_eq, eq_iff_iff, iff_false, Classical.not_not]
              have := hL.1
              simp at this hc
              omega
            simp [execOp, ho, hq, Instr.storeAt, Instr.sureAddr, storeVar, hI.size hi w, hsz, hw]
        · cases hr
      · cases hr
    · cases hr
  · cases hr

theorem new_cells (h : Run m0 H0 w0 H m w) {vs : List Value} {arr : Array Value} (T : TypeId) (hL : LRel m vs arr.toList) :
    Run m0 H0 w0 (H ++ [.cells vs]) (upd m H.length ⟨w.heap.size, 0, 0, arr.size, false⟩) (w.alloc (.cells arr T)) ∧
    Mp.le m (upd m H.length ⟨w.heap.size, 0, 0, arr.size, false⟩) ∧
    VRel (upd m H.length ⟨w.heap.size, 0, 0, arr.size, false⟩) (.pointer (some ⟨H.length, 0, none⟩)) (.pointer (some ⟨w.heap.size, 0, none⟩)) := by
  have hle := le_upd ⟨w.heap.size, 0, 0, arr.size, false⟩ h.mt.fresh
  refine ⟨h.made _ _ rfl _ ⟨rfl, rfl, rfl, arr, T, alloc_new w _, hL.mono hle⟩, hle, ?_⟩
  · exact .ptr (i := ⟨w.heap.size, 0, 0, arr.size, false⟩) (by simp [upd]) rfl

theorem aAlloc_ok (hI : TOk P I) (h : Run m0 H0 w0 H m w) {t : TypeId} (ho : o.op = .alloc t) {v : Value} {H' : AHeap} {tc : List Nat} (hr : aAlloc I t H = some (v, H', tc)) : Good P m0 H0 w0 m o a w v H' tc := by
  unfold aAlloc at hr
  split at hr
  · rename_i i hi
    split at hr
    · rename_i hf
      cases hr
      obtain ⟨h1, h2, h3⟩ := new_cells h t (LRel.cells (flatV_ok m hf))
      refine ⟨_, _, _, .inl ?_, h1, h2, h3, .alloc _ _ _ _⟩
      simp [execOp, ho, Instr.alloc, hI.zeroV hi w, newVar, newRow]
    · cases hr
  · cases hr

theorem aBox_ok (h : Run m0 H0 w0 H m w) {t : TypeId} {x : Operand} (ho : o.op = .box t x) {u v : Value} {H' : AHeap} {tc : List Nat} (hu : VRel m u (a.eval x)) (hr : aNew u.cells.toList H = some (v, H', tc)) : Good P m0 H0 w0 m o a w v H' tc := by
  cases hr
  obtain ⟨h1, h2, h3⟩ := new_cells h t (LRel.cells hu)
  refine ⟨_, _, _, .inl ?_, h1, h2, h3, .alloc _ _ _ _⟩
  simp [execOp, ho, Instr.box, newVar, newRow]
end
end Go.Proofs.Ytckbckijpdnlaaa.Eng
