/- The engine, part 6: rows: make, literals, parts, append, copy; texts' runes. A lemma file: it claims nothing of the program. -/
import Derived.Test.YtckbckijpdnlaaaOwnE5
set_option linter.unusedVariables false
set_option linter.unusedSimpArgs false
namespace Go.Proofs.Ytckbckijpdnlaaa.Eng
open Go

section
variable {P : Program} {I : Tab} {m0 : Mp} {H0 : AHeap} {w0 : World} {H : AHeap} {m : Mp} {w : World} {a : Act} {o : Oper}

theorem flat_len {z : Nat} : ∀ {els : List (List Value)}, (∀ c ∈ els, c.length = z) → els.flatten.length = els.length * z
  | [], _ => by simp
  | c :: els, h => by
    have h1 := h c (by simp)
    have h2 := flat_len (els := els) (fun d hd => h d (by simp [hd]))
    simp only [List.flatten_cons, List.length_append, h1, h2, List.length_cons, Nat.add_mul, Nat.one_mul]
    omega
theorem flat_get {z : Nat} : ∀ {els : List (List Value)}, (∀ c ∈ els, c.length = z) → ∀ {e : Nat} {c : List Value}, els[e]? = some c → (els.flatten.drop (e * z)).take z = c
  | [], _, e, c, h => by simp at h
  | d :: els, hz, e, c, h => by
    have h1 := hz d (by simp)
    cases e with
    | zero =>
      simp at h
      subst h
      simp only [Nat.zero_mul, List.drop_zero, List.flatten_cons]
      rw [List.take_append_of_le_length (by omega), List.take_of_length_le (by omega)]
    | succ e =>
      have := flat_get (els := els) (fun q hq => hz q (by simp [hq])) (e := e) (c := c) (by simpa using h)
      rw [List.flatten_cons, List.drop_append, List.drop_of_length_le (by rw [h1, Nat.add_mul]; omega), List.nil_append, show (e + 1) * z - d.length = e * z by rw [h1, Nat.add_mul]; omega]
      exact this
theorem flat_at {z : Nat} : ∀ {els : List (List Value)}, (∀ c ∈ els, c.length = z) → ∀ {j : Nat} {x : Value}, els.flatten[j]? = some x → ∃ e k c, els[e]? = some c ∧ c[k]? = some x ∧ j = e * z + k
  | [], _, j, x, h => by simp at h
  | d :: els, hz, j, x, h => by
    have h1 := hz d (by simp)
    rw [List.flatten_cons] at h
    by_cases hj : j < d.length
    · rw [List.getElem?_append_left hj] at h
      exact ⟨0, j, d, rfl, h, by omega⟩
    · rw [List.getElem?_append_right (by omega)] at h
      obtain ⟨e, k, c, g1, g2, g3⟩ := flat_at (els := els) (fun q hq => hz q (by simp [hq])) h
      exact ⟨e + 1, k, c, by simpa using g1, g2, by rw [Nat.add_mul]; omega⟩
/-- A row's elements out of its cells, one behind the other. -/
theorem els_of_flat {z : Nat} {els : List (List Value)} (hz : ∀ c ∈ els, c.length = z) {L X : List Value} (h : LRel m els.flatten L) (e : Nat) (c : List Value) (hc : els[e]? = some c) : LRel m c (((L ++ X).drop (e * z)).take z) := by
  have h1 := (h.drop (e * z)).take z
  rw [flat_get hz hc] at h1
  have hl : L.length = els.length * z := by rw [← h.1]; exact flat_len hz
  have he := mul_fit (z := z) (List.getElem?_eq_some_iff.1 hc).1
  rw [List.drop_append_of_le_length (by omega), List.take_append_of_le_length (by rw [List.length_drop]; omega)]
  exact h1
theorem flat_of_els {z : Nat} : ∀ {els : List (List Value)} {A : List Value}, (∀ c ∈ els, c.length = z) → els.length * z ≤ A.length → (∀ e c, els[e]? = some c → LRel m c ((A.drop (e * z)).take z)) → LRel m els.flatten (A.take (els.length * z))
  | [], A, _, _, _ => by simp only [List.flatten_nil, List.length_nil, Nat.zero_mul, List.take_zero]; exact .nil m
  | d :: els, A, hz, hl, h => by
    have h0 := h 0 d rfl
    simp only [Nat.zero_mul, List.drop_zero] at h0
    have h1 := hz d (by simp)
    simp only [List.length_cons, Nat.add_mul, Nat.one_mul] at hl
    have ih := flat_of_els (els := els) (A := A.drop z) (fun q hq => hz q (by simp [hq])) (by rw [List.length_drop]; omega) (fun e c hc => by
      have := h (e + 1) c (by simpa using hc)
      rwa [Nat.add_mul, Nat.one_mul, Nat.add_comm, ← List.drop_drop] at this)
    have := h0.app ih
    rw [List.flatten_cons, List.length_cons, Nat.add_mul, Nat.one_mul]
    rwa [← List.take_add, Nat.add_comm z] at this

theorem row_cell {i : MI} {id z : Nat} {els : List (List Value)} {b : ABlk} (hB : BRel m w i b) (hb : (∃ s, b = .row s z els) ∨ (∃ s, b = .old s z els)) (hv : i.void = false) :
    i.z = z ∧ RowOk z els ∧ ∀ (e : Nat) (c : List Value) (k : Nat) (x : Value), els[e]? = some c → c[k]? = some x → ∃ v, w.cell? ⟨i.blk, i.off + e * z + k, none⟩ = some v ∧ VRel m x v := by
  rcases hb with ⟨s, rfl⟩ | ⟨s, rfl⟩
  · obtain ⟨h1, h2, h3, h4⟩ := hB
    rcases h4 with ⟨h5, _⟩ | ⟨_, arr, T, h7, h8, h9, h10⟩
    · rw [hv] at h5; cases h5
    · refine ⟨h1, h3, fun e c k x he hx => ?_⟩
      obtain ⟨v, hv1, hv2⟩ := (h10 e c he).get hx
      obtain ⟨_, hv1⟩ := drop_take_get hv1
      refine ⟨v, ?_, hv2⟩
      simp only [World.cell?, h7, h2, Nat.zero_add]
      simpa using hv1
  · obtain ⟨h1, h2, h3⟩ := hB
    rcases h3 with ⟨h5, _⟩ | ⟨_, _, h7⟩
    · rw [hv] at h5; cases h5
    · exact ⟨h1, h2, fun e c k x he hx => h7 e c k x he hx⟩

/-- What a slice shows stands in memory. -/
theorem elsOf_ok (hM : Match m H w) {z : Nat} {x x' : Value} {new : List (List Value)} (hx : VRel m x x') (hr : elsOf z x H = some new) :
    (x' = .slice none 0 0 ∧ new = []) ∨ ∃ (A : Addr) (n cap : Nat) (vs : List Value), x' = .slice (some A) n cap ∧ new.length = n ∧ RowOk z new ∧ LRel m new.flatten vs ∧ vs.length = n * z ∧ ∀ (j : Nat) (v : Value), vs[j]? = some v → w.cell? (A.add j) = some v := by
  unfold elsOf at hr
  split at hr
  · cases hx; cases hr; exact .inl ⟨rfl, rfl⟩
  · rename_i id e n cp
    have key : ∀ {els : List (List Value)} {b : ABlk}, H[id]? = some b → ((∃ s, b = .row s z els) ∨ (∃ s, b = .old s z els)) → e + n ≤ els.length → new = (els.drop e).take n →
        (x' = .slice none 0 0 ∧ new = []) ∨ ∃ (A : Addr) (n cap : Nat) (vs : List Value), x' = .slice (some A) n cap ∧ new.length = n ∧ RowOk z new ∧ LRel m new.flatten vs ∧ vs.length = n * z ∧ ∀ (j : Nat) (v : Value), vs[j]? = some v → w.cell? (A.add j) = some v := by
      intro els b hb hbb hle hnew
      subst hnew
      have hnl : ((els.drop e).take n).length = n := by simp; omega
      cases hx with
      | vslc h1 h2 => exact .inl ⟨rfl, by simp⟩
      | eslc h1 h2 =>
        exact .inr ⟨_, 0, 0, [], rfl, by simp, by simpa using RowOk.nil z, by simpa using LRel.nil m, by simp, by simp⟩
      | slc h1 h2 h3 h4 =>
        rename_i cap i
        obtain ⟨b', hb', hB⟩ := hM.has _ _ h1
        rw [hb] at hb'
        cases hb'
        obtain ⟨g1, g2, g3⟩ := row_cell (id := id) hB hbb h2
        have hz : RowOk z ((els.drop e).take n) := (g2.drop e).take n
        obtain ⟨vs, hL, hc⟩ := mem_vals (m := m) (w := w) (cs := ((els.drop e).take n).flatten) (a := ⟨i.blk, i.off + e * i.z, none⟩) (fun j x hj => by
          obtain ⟨f, k, c, q1, q2, q3⟩ := flat_at hz.len hj
          obtain ⟨q4, q1⟩ := drop_take_get q1
          obtain ⟨v, hv1, hv2⟩ := g3 (e + f) c k x q1 q2
          refine ⟨v, ?_, hv2⟩
          rw [add_none, q3, g1, ← hv1, Nat.add_mul]
          congr 2
          omega)
        exact .inr ⟨_, n, cap, vs, rfl, hnl, hz, hL, by rw [← hL.1, flat_len hz.len, hnl], hc⟩
    split at hr
    · rename_i s z' els hb
      split at hr
      · rename_i hc
        cases hr
        obtain ⟨rfl, hc⟩ := hc
        exact key hb (.inl ⟨s, rfl⟩) hc rfl
      · cases hr
    · rename_i s z' els hb
      split at hr
      · rename_i hc
        cases hr
        obtain ⟨rfl, hc⟩ := hc
        exact key hb (.inr ⟨s, rfl⟩) hc rfl
      · cases hr
    · cases hr
  · cases hr

/-! ### new rows -/
theorem new_row (h : Run m0 H0 w0 H m w) {z : Nat} {els : List (List Value)} {arr : Array Value} (T : TypeId) (hz : RowOk z els) (hl : els.length * z ≤ arr.size)
    (hE : ∀ e c, els[e]? = some c → LRel m c ((arr.toList.drop (e * z)).take z)) {n cap : Nat} (hn : n ≤ cap) (hcap : cap * z ≤ arr.size) (s : Bool) (cp : Nat) :
    Run m0 H0 w0 (H ++ [.row s z els]) (upd m H.length ⟨w.heap.size, 0, z, arr.size, false⟩) (w.alloc (.cells arr T)) ∧
    Mp.le m (upd m H.length ⟨w.heap.size, 0, z, arr.size, false⟩) ∧
    VRel (upd m H.length ⟨w.heap.size, 0, z, arr.size, false⟩) (.slice (some ⟨H.length, 0, none⟩) n cp) (.slice (some ⟨w.heap.size, 0, none⟩) n cap) := by
  have hle := le_upd ⟨w.heap.size, 0, z, arr.size, false⟩ h.mt.fresh
  refine ⟨h.made _ _ rfl _ ⟨rfl, rfl, hz, .inr ⟨rfl, arr, T, alloc_new w _, rfl, hl, fun e c hc => (hE e c hc).mono hle⟩⟩, hle, ?_⟩
  have := VRel.slc (m := upd m H.length ⟨w.heap.size, 0, z, arr.size, false⟩) (id := H.length) (e := 0) (cp := cp) (cap := cap) (len := n) (i := ⟨w.heap.size, 0, z, arr.size, false⟩) (by simp [upd]) rfl hn (by simpa using hcap)
  simpa using this
theorem void_row (h : Run m0 H0 w0 H m w) (z cp : Nat) :
    Run m0 H0 w0 (H ++ [.row false z []]) (upd m H.length ⟨0, 0, z, 0, true⟩) w ∧ Mp.le m (upd m H.length ⟨0, 0, z, 0, true⟩) ∧ VRel (upd m H.length ⟨0, 0, z, 0, true⟩) (.slice (some ⟨H.length, 0, none⟩) 0 cp) (.slice none 0 0) :=
  ⟨h.name _ _ ⟨rfl, rfl, RowOk.nil z, .inl ⟨rfl, rfl, rfl⟩⟩ (fun _ hv => by cases hv), le_upd _ h.mt.fresh, .vslc (i := ⟨0, 0, z, 0, true⟩) (by simp [upd]) rfl⟩

theorem fillE_ok {z : Nat} : ∀ {ps qs : List (Nat × Value)} {els r : List (List Value)} {arr : Array Value}, RowOk z els → els.length * z = arr.size →
    (∀ e c, els[e]? = some c → LRel m c ((arr.toList.drop (e * z)).take z)) → PRel m ps qs → fillE z els ps = some r →
    ∃ arr' : Array Value, Instr.fill (fun i => some (i * z, z)) arr qs = some arr' ∧ RowOk z r ∧ r.length = els.length ∧ r.length * z = arr'.size ∧ ∀ e c, r[e]? = some c → LRel m c ((arr'.toList.drop (e * z)).take z)
  | [], _, els, r, arr, hz, hl, hE, hP, hr => by
    obtain rfl := hP.nil_inv
    cases hr
    exact ⟨arr, rfl, hz, rfl, hl, hE⟩
  | (i, v) :: ps, _, els, r, arr, hz, hl, hE, hP, hr => by
    obtain ⟨u, qs, rfl, h1, h2⟩ := hP.cons_inv
    simp only [fillE] at hr
    split at hr
    · rename_i hc
      obtain ⟨hc1, hc2, hc3⟩ := hc
      have hv := LRel.cells h1
      have hvl := hv.1
      have hfit := mul_fit (z := z) hc2
      have hul : u.cells.size = z := by simpa [hc1] using hvl.symm
      have hseg := foldl_seg u.cells.toList 0 (i * z) arr (by simp [hul]; omega)
      simp only [Nat.add_zero] at hseg
      let arr1 := u.cells.zipIdx.foldl (fun cs (c, j) => cs.setIfInBounds (i * z + j) c) arr
      have e1 : arr1.toList = arr.toList.take (i * z) ++ u.cells.toList ++ arr.toList.drop (i * z + u.cells.toList.length) := by
        have e : arr1 = ((u.cells.toList.zipIdx 0).foldl (fun cs (c, j) => cs.setIfInBounds (i * z + j) c) arr) := by
          show u.cells.zipIdx.foldl (fun cs (c, j) => cs.setIfInBounds (i * z + j) c) arr = _
          rw [← Array.foldl_toList, Array.toList_zipIdx]
        rw [e, hseg]
      have hal : i * z + u.cells.toList.length ≤ arr.toList.length := by simp [hul]; omega
      have hs1 : arr1.size = arr.size := by
        have := congrArg List.length e1
        rw [seg_len hal] at this
        simpa using this
      have hz' : RowOk z (els.set i v.cells.toList) := hz.set hc1 (fun u hu => List.all_eq_true.1 hc3 u hu) i
      have hE' : ∀ e c, (els.set i v.cells.toList)[e]? = some c → LRel m c ((arr1.toList.drop (e * z)).take z) := by
        intro e c hc
        have hel : e < els.length := by have := (List.getElem?_eq_some_iff.1 hc).1; simpa using this
        have hfe := mul_fit (z := z) hel
        have hcz := (hz' c (List.mem_of_getElem? hc)).1
        refine ⟨?_, fun j x y hx hy => ?_⟩
        · rw [hcz, List.length_take, List.length_drop, Array.length_toList, hs1]; omega
        · obtain ⟨hj, hy⟩ := drop_take_get hy
          rw [e1, seg_get hal] at hy
          simp only [Array.length_toList, hul] at hy
          by_cases q : i = e
          · subst q
            rw [List.getElem?_set_self hc2] at hc
            cases hc
            rw [if_neg (by omega), if_pos (by omega), show i * z + j - i * z = j by omega] at hy
            exact hv.2 j x y hx hy
          · rw [List.getElem?_set_ne q] at hc
            have hh : e * z + j < i * z ∨ i * z + z ≤ e * z + j := by
              rcases Nat.lt_or_gt_of_ne q with hlt | hlt
              · have := mul_fit (z := z) hlt; right; omega
              · have := mul_fit (z := z) hlt; left; omega
            have hy' : arr.toList[e * z + j]? = some y := by
              rcases hh with t1 | t1
              · rwa [if_pos t1] at hy
              · rwa [if_neg (by omega), if_neg (by omega)] at hy
            exact (hE e c hc).2 j x y hx (by rw [List.getElem?_take, if_pos hj, List.getElem?_drop]; exact hy')
      obtain ⟨arr', g1, g2, g3, g4, g5⟩ := fillE_ok hz' (by rw [List.length_set, hs1]; exact hl) hE' h2 hr
      refine ⟨arr', ?_, g2, by rw [g3, List.length_set], g4, g5⟩
      simp only [Instr.fill]
      have hn2 : (decide (u.cells.size ≠ z) || decide (i * z + u.cells.size > arr.size)) = false := by
        simp only [Bool.or_eq_false_iff, decide_eq_false_iff_not]
        exact ⟨by omega, by omega⟩
      rw [if_neg (by rw [hn2]; simp)]
      exact g1
    · cases hr

theorem flat_ones {v : Value} (h : flatV v = true) : ∀ u ∈ v.cells.toList, u.oneCell' = true := by
  have g : ∀ u : Value, flat1 u = true → u.oneCell' = true := fun u hu => by cases u <;> simp_all [flat1, Value.oneCell']
  intro u hu
  unfold flatV at h
  split at h
  · exact g u (List.all_eq_true.1 h u (by simpa [Value.cells] using hu))
  · rename_i hn
    have : v.cells = #[v] := by cases v <;> first | rfl | (exact absurd rfl (hn _))
    rw [this] at hu
    simp at hu
    subst hu
    exact g _ h
theorem made_els {zero : List Value} {l c z : Nat} (hz : zero.length = z) (hlc : l ≤ c) (hf : LRel m zero zero) (h1 : ∀ v ∈ zero, v.oneCell' = true) :
    RowOk z (List.replicate l zero) ∧ (List.replicate l zero).length * z ≤ (madeCells zero.toArray (c * z)).size ∧
    ∀ e q, (List.replicate l zero)[e]? = some q → LRel m q (((madeCells zero.toArray (c * z)).toList.drop (e * z)).take z) := by
  refine ⟨fun q hq => by rw [List.eq_of_mem_replicate hq]; exact ⟨hz, h1⟩, by rw [List.length_replicate, size_madeCells]; exact Nat.mul_le_mul_right _ hlc, fun e q hq => ?_⟩
  have hq' := List.getElem?_eq_some_iff.1 hq
  have hel : e < l := by simpa using hq'.1
  have : q = zero := List.eq_of_mem_replicate (List.mem_of_getElem? hq)
  subst this
  have hfit := mul_fit (z := z) (show e < c by omega)
  have hml : (madeCells q.toArray (c * z)).toList.length = c * z := by simp [madeCells]
  refine ⟨by rw [List.length_take, List.length_drop, hml]; omega, fun j x y hx hy => ?_⟩
  obtain ⟨hj, hy⟩ := drop_take_get hy
  have hy' : (madeCells q.toArray (c * z))[e * z + j]? = some y := by simpa using hy
  have hjz : (e * z + j) % z = j := by rw [Nat.mul_comm, Nat.mul_add_mod]; exact Nat.mod_eq_of_lt hj
  have hjq : j < q.length := by omega
  simp only [madeCells, Array.getElem?_map, List.size_toArray, hz] at hy'
  rw [Array.getElem?_range, if_pos (by omega)] at hy'
  simp only [Option.map_some, Option.some.injEq, hjz] at hy'
  have hy2 : q[j]? = some y := by
    rw [← hy']
    simp [hjq]
  exact hf.2 j x y hx hy2

theorem aMake_ok (hI : TOk P I) (h : Run m0 H0 w0 H m w) {t : TypeId} {ol oc : Operand} (ho : o.op = .makeSlice t ol oc) {l c v : Value} {H' : AHeap} {tc : List Nat} (hl : VRel m l (a.eval ol)) (hc : VRel m c (a.eval oc))
    (hr : aMake I t l c H = some (v, H', tc)) : Good P m0 H0 w0 m o a w v H' tc := by
  unfold aMake at hr
  split at hr
  · rename_i i kl l kc c hi
    split at hr
    · rename_i e hd
      split at hr
      · rename_i j hj
        split at hr
        · rename_i hh
          cases hr
          obtain ⟨c1, c2, c3, c4, c5, c6⟩ := hh
          generalize hql : a.eval ol = ql at hl
          generalize hqc : a.eval oc = qc at hc
          cases hl; cases hc
          obtain ⟨u, inf, _, g2, _, g4, g5, g6⟩ := hI.ok e j hj
          have hz : j.zero.cells.toList.toArray = j.zero.cells := by simp
          have hf : LRel m j.zero.cells.toList j.zero.cells.toList := LRel.cells (flatV_ok m c1)
          obtain ⟨q1, q2, q3⟩ := made_els (m := m) (l := l.toNat) (c := c.toNat) c2 (by omega) hf (flat_ones c1)
          have hrun := run_make (P := P) w t e inf j.zero (hI.slice hi hd) g2 g6 kl kc l c c3 c4 (by rw [g5]; exact c5) c6
          rw [hz] at q2 q3
          obtain ⟨r1, r2, r3⟩ := new_row h e q1 q2 q3 (n := l.toNat) (cap := c.toNat) (by omega) (by rw [size_madeCells]; exact Nat.le_refl _) true 0
          refine ⟨_, _, _, .inl ?_, r1, r2, r3, .alloc _ _ _ _⟩
          rw [g4] at hrun
          simp [execOp, ho, hql, hqc, hrun]
        · cases hr
      · cases hr
    · cases hr
  · cases hr
theorem run_buildSlice (w : World) {t e : TypeId} {len sz N : Nat} {z : Value} {parts : Array (Nat × Value)} {arr : Array Value} (hu : P.underlying t = some (.slice e)) (hs : (sizeOf e).run P w = .ok sz w) (hz : (zeroValue e).run P w = .ok z w)
    (hN : len * sz = N) (hle : N ≤ 16777216) (hf : Instr.fill (fun i => some (i * sz, sz)) (madeCells z.cells N) parts.toList = some arr) :
    (Instr.buildSlice t len parts).run P w = .ok (.slice (some ⟨w.heap.size, 0, none⟩) len len) (w.alloc (.cells arr e)) := by
  have hn : ¬ (N > 2 ^ 24) := by omega
  simp only [Instr.buildSlice, Sem.run_bind, run_underlying hu, hs, Result.andThen_ok, hN]
  rw [if_neg hn]
  by_cases h0 : N = 0
  · subst h0
    have e0 : (Array.range 0).map ((#[] : Array Value)[· % (#[] : Array Value).size]!) = madeCells z.cells 0 := by simp [madeCells, Array.range_zero']
    simp only [if_true, Sem.run_bind, Sem.run_pure, Result.andThen_ok, e0, hf]
    simp [newRow]
  · have e0 : (Array.range N).map (z.cells[· % z.cells.size]!) = madeCells z.cells N := rfl
    simp only [h0, if_false, Sem.run_bind, hz, Sem.run_pure, Result.andThen_ok, e0, hf]
    simp [newRow]
theorem aBuildSlice_ok (hI : TOk P I) (h : Run m0 H0 w0 H m w) {t : TypeId} {len : Nat} {parts : Array (Nat × Operand)} (ho : o.op = .buildSlice t len parts) {ps : List (Nat × Value)} {v : Value} {H' : AHeap} {tc : List Nat}
    (hP : PRel m ps (parts.map fun (i, x) => (i, a.eval x)).toList) (hr : aBuildSlice I t len ps H = some (v, H', tc)) : Good P m0 H0 w0 m o a w v H' tc := by
  unfold aBuildSlice at hr
  split at hr
  · rename_i i hi
    split at hr
    · rename_i e hd
      split at hr
      · rename_i j hj
        split at hr
        · rename_i hh
          split at hr
          · rename_i els hels
            cases hr
            obtain ⟨c1, c2, c3⟩ := hh
            have hf : LRel m j.zero.cells.toList j.zero.cells.toList := LRel.cells (flatV_ok m c1)
            obtain ⟨q1, q2, q3⟩ := made_els (m := m) (l := len) (c := len) c2 (Nat.le_refl _) hf (flat_ones c1)
            have hz : j.zero.cells.toList.toArray = j.zero.cells := by simp
            rw [hz] at q2 q3
            obtain ⟨arr', g1, g2, g3, g4, g5⟩ := fillE_ok q1 (by rw [List.length_replicate, size_madeCells]) q3 hP hels
            rw [List.length_replicate] at g3
            rw [g3] at g4
            obtain ⟨r1, r2, r3⟩ := new_row h e g2 (by rw [g3]; exact Nat.le_of_eq g4) g5 (n := len) (cap := len) (Nat.le_refl _) (Nat.le_of_eq g4) true 0
            refine ⟨_, _, _, .inl ?_, r1, r2, r3, .alloc _ _ _ _⟩
            have := run_buildSlice (P := P) w (hI.slice hi hd) (hI.size hj w) (hI.zeroV hj w) rfl c3 g1
            simp [execOp, ho, this]
          · cases hr
        · cases hr
      · cases hr
    · cases hr
  · cases hr
end
end Go.Proofs.Ytckbckijpdnlaaa.Eng
