/- The engine, part 11: whole calls, reckoned, with all that they call. A lemma file: it claims nothing of the program. -/
import Derived.Test.YtckbckijpdnlaaaOwnE10
set_option linter.unusedVariables false
set_option linter.unusedSimpArgs false
namespace Go.Proofs.Ytckbckijpdnlaaa.Eng
open Go Go.Lib

/-! ### what a call can reach -/
def idsN : Nat → Value → List Nat
  | 0, _ => []
  | _ + 1, .pointer (some a) => [a.block]
  | _ + 1, .slice (some a) _ _ => [a.block]
  | n + 1, .agg cs => cs.toList.flatMap (idsN n)
  | n + 1, .tuple cs => cs.toList.flatMap (idsN n)
  | n + 1, .iface _ v => idsN n v
  | n + 1, .func _ a b => a.toList.flatMap (idsN n) ++ b.toList.flatMap (idsN n)
  | _, _ => []
def blkIds : Option ABlk → List Nat
  | some (.cells vs) => vs.flatMap (idsN 4)
  | some (.ro vs) => vs.flatMap (idsN 4)
  | some (.row _ _ els) => els.flatMap fun c => c.flatMap (idsN 4)
  | some (.old _ _ els) => els.flatMap fun c => c.flatMap (idsN 4)
  | _ => []
def reach (H : AHeap) : Nat → List Nat → List Nat → List Nat
  | 0, _, R => R
  | n + 1, todo, R => match todo with
    | [] => R
    | i :: rest => if R.contains i = true then reach H n rest R else reach H n (blkIds (H[i]?) ++ rest) (i :: R)
def restr (R : List Nat) : Nat → AHeap → AHeap
  | _, [] => []
  | k, b :: H => (if R.contains k = true then b else .dead) :: restr R (k + 1) H
/-- What was put aside comes back. -/
def join (R : List Nat) : Nat → AHeap → AHeap → AHeap
  | _, [], H1 => H1
  | _, _, [] => []
  | k, b :: H, b1 :: H1 => (if R.contains k = true then b1 else b) :: join R (k + 1) H H1
theorem restr_len (R : List Nat) : ∀ (k : Nat) (H : AHeap), (restr R k H).length = H.length
  | _, [] => rfl
  | k, b :: H => by simp [restr, restr_len R (k + 1) H]
theorem restr_get (R : List Nat) : ∀ (k : Nat) (H : AHeap) (id : Nat), (restr R k H)[id]? = (H[id]?).map fun b => if R.contains (k + id) = true then b else .dead
  | _, [], id => by simp [restr]
  | k, b :: H, 0 => by simp [restr]
  | k, b :: H, id + 1 => by
    simp only [restr, List.getElem?_cons_succ]
    rw [restr_get R (k + 1) H id]
    congr 1
    funext c
    rw [show k + 1 + id = k + (id + 1) by omega]
theorem join_len (R : List Nat) : ∀ (k : Nat) (H H1 : AHeap), H.length ≤ H1.length → (join R k H H1).length = H1.length
  | _, [], _, _ => rfl
  | _, _ :: _, [], h => by simp at h
  | k, b :: H, b1 :: H1, h => by simp [join, join_len R (k + 1) H H1 (by simpa using h)]
theorem join_get (R : List Nat) : ∀ (k : Nat) (H H1 : AHeap), H.length ≤ H1.length → ∀ (id : Nat), (join R k H H1)[id]? = if id < H.length ∧ R.contains (k + id) = false then H[id]? else H1[id]?
  | _, [], _, _, id => by simp [join]
  | _, _ :: _, [], h, _ => by simp at h
  | k, b :: H, b1 :: H1, h, 0 => by
    by_cases hc : k ∈ R <;> simp [join, hc]
  | k, b :: H, b1 :: H1, h, id + 1 => by
    simp only [join, List.getElem?_cons_succ, List.length_cons]
    rw [join_get R (k + 1) H H1 (by simpa using h) id, show k + 1 + id = k + (id + 1) by omega]
    by_cases hc : id < H.length ∧ R.contains (k + (id + 1)) = false
    · rw [if_pos hc, if_pos ⟨by omega, hc.2⟩]
    · rw [if_neg hc, if_neg (fun h => hc ⟨by omega, h.2⟩)]

section
variable {P : Program} {I : Tab} {m0 : Mp} {H0 : AHeap} {w0 : World} {H H1 : AHeap} {m m' : Mp} {w w' : World} {R : List Nat}

theorem Match.restr (h : Match m H w) (R : List Nat) : Match m (restr R 0 H) w := by
  have g : ∀ (q : Nat) (b : ABlk), (Eng.restr R 0 H)[q]? = some b → b.live = true → H[q]? = some b := by
    intro q b hq hl
    rw [restr_get] at hq
    cases hH : H[q]? with
    | none => rw [hH] at hq; cases hq
    | some c =>
      rw [hH] at hq
      simp only [Option.map_some, Option.some.injEq] at hq
      split at hq
      · rw [hq]
      · subst hq; cases hl
  refine ⟨fun id i hi => ?_, fun id id' i i' b b' h1 h2 h3 h4 h5 h6 h7 h8 h9 => h.inj id id' i i' b b' h1 h2 (g _ _ h3 (ABlk.own_live h5)) (g _ _ h4 h6) h5 h6 h7 h8 h9⟩
  obtain ⟨b, hb, hB⟩ := h.has id i hi
  rw [restr_get, hb]
  by_cases hc : R.contains (0 + id) = true
  · exact ⟨b, by simp only [Option.map_some, hc, if_true], hB⟩
  · exact ⟨.dead, by simp only [Option.map_some, hc, if_false]; simp, trivial⟩
theorem owned_restr (h : Match m H w) {k : Nat} (ho : Owned m (restr R 0 H) k) : ∃ id i b, R.contains id = true ∧ m id = some i ∧ H[id]? = some b ∧ b.own = true ∧ i.void = false ∧ i.blk = k := by
  obtain ⟨id, i, b, h1, h2, h3, h4, h5⟩ := ho
  rw [restr_get, Nat.zero_add] at h2
  cases hH : H[id]? with
  | none => rw [hH] at h2; cases h2
  | some c =>
    rw [hH] at h2
    simp only [Option.map_some, Option.some.injEq] at h2
    split at h2
    · rename_i hc; subst h2; exact ⟨id, i, c, hc, h1, hH, h3, h4, h5⟩
    · subst h2; cases h3
/-- A call that was handed a part of what is known: all that was put aside is as it was. -/
theorem Run.join (h : Run m0 H0 w0 H m w) (h1 : Run m (restr R 0 H) w H1 m' w') : Run m0 H0 w0 (join R 0 H H1) m' w' ∧ Frame m (R.filter fun id => ownB (H[id]?)) w w' := by
  have hlen : H.length ≤ H1.length := by have := h1.len; rwa [restr_len] at this
  have hdom : ∀ id, id < H.length → m' id = m id := fun id hid => h1.dom id (by rw [restr_len]; exact hid)
  -- blocks of what was put aside
  have haside : ∀ id i b, id < H.length → R.contains id = false → m id = some i → H[id]? = some b → b.live = true → i.void = false → i.blk < w.heap.size ∧ ¬ Owned m (Eng.restr R 0 H) i.blk := by
    intro id i b hid hc hi hb hl hv
    obtain ⟨b', hb', hB⟩ := h.mt.has id i hi
    rw [hb] at hb'
    cases hb'
    refine ⟨hB.live_lt hl hv, fun ho => ?_⟩
    obtain ⟨q, iq, bq, q1, q2, q3, q4, q5, q6⟩ := owned_restr h.mt ho
    have := h.mt.inj q id iq i bq b q2 hi q3 hb q4 hl q5 hv q6
    subst this
    rw [hc] at q1
    cases q1
  have hg := join_get R 0 H H1 hlen
  simp only [Nat.zero_add] at hg
  have hsz := h1.size
  have hin : ∀ (id : Nat) (b : ABlk), (Eng.join R 0 H H1)[id]? = some b → (id < H.length ∧ R.contains id = false ∧ H[id]? = some b) ∨ (¬ (id < H.length ∧ R.contains id = false) ∧ H1[id]? = some b) := by
    intro id b hb
    rw [hg] at hb
    by_cases hc : id < H.length ∧ R.contains id = false
    · rw [if_pos hc] at hb; exact .inl ⟨hc.1, hc.2, hb⟩
    · rw [if_neg hc] at hb; exact .inr ⟨hc, hb⟩
  -- live blocks of the call's own end lie in new memory, or in what it was handed
  have hlive : ∀ (id : Nat) (i : MI) (b : ABlk), m' id = some i → H1[id]? = some b → b.live = true → i.void = false → ¬ (id < H.length ∧ R.contains id = false) →
      ∀ id2 i2 b2, id2 < H.length → R.contains id2 = false → m id2 = some i2 → H[id2]? = some b2 → b2.live = true → i2.void = false → (b.own = true ∨ b2.own = true) → i.blk ≠ i2.blk := by
    intro id i b hi hb hl hv hn id2 i2 b2 hid2 hc2 hi2 hb2 hl2 hv2 hown e
    obtain ⟨g1, g2⟩ := haside id2 i2 b2 hid2 hc2 hi2 hb2 hl2 hv2
    rcases Nat.lt_or_ge id H.length with hid | hid
    · obtain ⟨b0, r1, r2, r3⟩ := h1.old id b (by rw [restr_len]; exact hid) hb hl
      rw [restr_get, Nat.zero_add] at r1
      cases hH : H[id]? with
      | none => rw [hH] at r1; cases r1
      | some c =>
        rw [hH] at r1
        simp only [Option.map_some, Option.some.injEq] at r1
        split at r1
        · rename_i hc
          subst r1
          rw [hdom id hid] at hi
          rcases hown with ho | ho
          · have := h.mt.inj id id2 i i2 c b2 hi hi2 hH hb2 (r3 ho) hl2 hv hv2 e
            subst this
            rw [hc] at hc2; cases hc2
          · have := h.mt.inj id2 id i2 i b2 c hi2 hi hb2 hH ho r2 hv2 hv e.symm
            subst this
            rw [hc] at hc2; cases hc2
        · subst r1; cases r2
    · rcases h1.new id i b (by rw [restr_len]; exact hid) hi hb hl hv with h' | h'
      · omega
      · rw [e] at h'; exact g2 h'
  refine ⟨⟨⟨fun id i hi => ?_, fun id id' i i' b b' a1 a2 a3 a4 a5 a6 a7 a8 a9 => ?_⟩, Mp.le_trans h.ext h1.ext, fun id hid => ?_, ?_, fun id b hid hb hl => ?_, fun id i b hid hi hb hl hv => ?_, h1.os.trans h.os, h1.tape.trans h.tape, h1.output.trans h.output, Nat.le_trans h.size h1.size, fun k hk hn => ?_⟩, ⟨h1.size, fun k hk hno => ?_⟩⟩
  · by_cases hc : id < H.length ∧ R.contains id = false
    · obtain ⟨b, hb, hB⟩ := h.mt.has id i (by rw [← hdom id hc.1]; exact hi)
      refine ⟨b, by rw [hg, if_pos hc]; exact hb, ?_⟩
      cases hl : b.live with
      | false => cases b <;> first | trivial | cases hl
      | true =>
        refine (hB.mono h1.ext).frame fun hv hlt => ?_
        exact h1.keep _ hlt (haside id i b hc.1 hc.2 (by rw [← hdom id hc.1]; exact hi) hb hl hv).2
    · obtain ⟨b, hb, hB⟩ := h1.mt.has id i hi
      exact ⟨b, by rw [hg, if_neg hc]; exact hb, hB⟩
  · rcases hin id b a3 with ⟨c1, c2, c3⟩ | ⟨c1, c3⟩ <;> rcases hin id' b' a4 with ⟨d1, d2, d3⟩ | ⟨d1, d3⟩
    · exact h.mt.inj id id' i i' b b' (by rw [← hdom id c1]; exact a1) (by rw [← hdom id' d1]; exact a2) c3 d3 a5 a6 a7 a8 a9
    · exact absurd a9.symm (hlive id' i' b' a2 d3 a6 a8 d1 id i b c1 c2 (by rw [← hdom id c1]; exact a1) c3 (ABlk.own_live a5) a7 (.inr a5))
    · exact absurd a9 (hlive id i b a1 c3 (ABlk.own_live a5) a7 c1 id' i' b' d1 d2 (by rw [← hdom id' d1]; exact a2) d3 a6 a8 (.inl a5))
    · exact h1.mt.inj id id' i i' b b' a1 a2 c3 d3 a5 a6 a7 a8 a9
  · rw [hdom id (Nat.lt_of_lt_of_le hid h.len)]; exact h.dom id hid
  · rw [join_len R 0 H H1 hlen]; exact Nat.le_trans h.len hlen
  · rcases hin id b hb with ⟨c1, c2, c3⟩ | ⟨c1, c3⟩
    · exact h.old id b hid c3 hl
    · have hidH : id < H.length := Nat.lt_of_lt_of_le hid h.len
      obtain ⟨b0, r1, r2, r3⟩ := h1.old id b (by rw [restr_len]; exact hidH) c3 hl
      rw [restr_get, Nat.zero_add] at r1
      cases hH : H[id]? with
      | none => rw [hH] at r1; cases r1
      | some c =>
        rw [hH] at r1
        simp only [Option.map_some, Option.some.injEq] at r1
        split at r1
        · subst r1
          obtain ⟨b1, s1, s2, s3⟩ := h.old id c hid hH r2
          exact ⟨b1, s1, s2, fun ho => s3 (r3 ho)⟩
        · subst r1; cases r2
  · rcases hin id b hb with ⟨c1, c2, c3⟩ | ⟨c1, c3⟩
    · exact h.new id i b hid (by rw [← hdom id c1]; exact hi) c3 hl hv
    · rcases Nat.lt_or_ge id H.length with hidH | hidH
      · obtain ⟨b0, r1, r2, r3⟩ := h1.old id b (by rw [restr_len]; exact hidH) c3 hl
        rw [restr_get, Nat.zero_add] at r1
        cases hH : H[id]? with
        | none => rw [hH] at r1; cases r1
        | some c =>
          rw [hH] at r1
          simp only [Option.map_some, Option.some.injEq] at r1
          split at r1
          · subst r1
            exact h.new id i c hid (by rw [← hdom id hidH]; exact hi) hH r2 hv
          · subst r1; cases r2
      · rcases h1.new id i b (by rw [restr_len]; exact hidH) hi c3 hl hv with h' | h'
        · exact .inl (Nat.le_trans h.size h')
        · obtain ⟨q, iq, bq, q1, q2, q3, q4, q5, q6⟩ := owned_restr h.mt h'
          exact h.orig _ ⟨q, iq, bq, q2, q3, q4, q5, q6⟩
  · have hnk : ¬ Owned m (Eng.restr R 0 H) k := fun ho => by
      obtain ⟨q, iq, bq, q1, q2, q3, q4, q5, q6⟩ := owned_restr h.mt ho
      rcases h.orig k ⟨q, iq, bq, q2, q3, q4, q5, q6⟩ with h' | h'
      · omega
      · exact hn h'
    rw [h1.keep k (Nat.lt_of_lt_of_le hk h.size) hnk]
    exact h.keep k hk hn
  · refine h1.keep k hk fun ho => ?_
    obtain ⟨q, iq, bq, q1, q2, q3, q4, q5, q6⟩ := owned_restr h.mt ho
    exact hno q (List.mem_filter.2 ⟨by simpa using q1, by rw [q3]; exact q4⟩) iq q2 q5 q6

/-! ### a call's results -/
def ares (I : Tab) (T : TM) (H : AHeap) : List ResultVar → Option (List Value)
  | [] => some []
  | .tmp t :: r => match T.lookup t, ares I T H r with
    | some v, some vs => some (v :: vs)
    | _, _ => none
  | .cell p t :: r => match T.lookup p, ares I T H r with
    | some u, some vs => match aLoad I t u H with
      | some (v, _, _) => some (v :: vs)
      | none => none
    | _, _ => none
def resOf (ts : Array Value) : ResultVar → Sem Value
  | .tmp t => pure (ts.getD t undef)
  | .cell p t => do loadVar t (← asAddr (ts.getD p undef))
def aresult : List Value → Value
  | [v] => v
  | vs => .tuple vs.toArray
theorem ares_ok (hI : TOk P I) {T : TM} {a : Act} (h : Run m0 H0 w0 H m w) (hT : TRel m T a) : ∀ {rs : List ResultVar} {vs : List Value}, ares I T H rs = some vs →
    ∃ us : List Value, LRel m vs us ∧ (rs.mapM (resOf a.tmps)).run P w = .ok us w
  | [], vs, hr => by cases hr; exact ⟨[], .nil m, by simp⟩
  | .tmp t :: r, vs, hr => by
    simp only [ares] at hr
    split at hr
    · rename_i v ws hv hws
      cases hr
      obtain ⟨us, h1, h2⟩ := ares_ok hI h hT hws
      refine ⟨_, .cons (hT t v hv).2 h1, ?_⟩
      simp only [List.mapM_cons, resOf, Sem.run_bind, Sem.run_pure, Result.andThen_ok, h2]
    · cases hr
  | .cell p t :: r, vs, hr => by
    simp only [ares] at hr
    split at hr
    · rename_i u ws hu hws
      split at hr
      · rename_i v H' tc hv
        cases hr
        obtain ⟨us, h1, h2⟩ := ares_ok hI h hT hws
        have hp := (hT p u hu).2
        unfold aLoad at hv
        split at hv
        · rename_i i id k s hi
          split at hv
          · rename_i b hb
            split at hv
            · rename_i cs hcs
              split at hv
              · rename_i v' hv'
                cases hv
                generalize hq : a.tmps.getD p undef = q at hp
                cases hp with
                | ptr hm hv0 =>
                  obtain ⟨b', hb', hB⟩ := h.mt.has _ _ hm
                  rw [hb] at hb'
                  cases hb'
                  obtain ⟨xs, hL, hc⟩ := rd_vals hB hcs hv0
                  have hlen : xs.length = i.size := by rw [← hL.1]; exact rd_len hcs
                  rcases tval_ok hv' with ⟨g1, rfl⟩ | ⟨g1, rfl⟩
                  · refine ⟨.agg xs.toArray :: us, .cons (.ofL hL) h1, ?_⟩
                    simp only [List.mapM_cons, resOf, hq, Sem.run_bind, asAddr, Sem.run_pure, pure_bind, Result.andThen_ok, run_loadVar_vals hI hi hlen hc rfl (.inl ⟨g1, rfl⟩), h2]
                  · obtain ⟨y, ys, rfl, hy, hys⟩ := hL.cons_inv
                    obtain rfl := hys.nil_inv
                    refine ⟨y :: us, .cons hy h1, ?_⟩
                    simp only [List.mapM_cons, resOf, hq, Sem.run_bind, asAddr, Sem.run_pure, pure_bind, Result.andThen_ok, run_loadVar_vals hI hi hlen hc rfl (.inr ⟨g1, rfl⟩), h2]
              · cases hv
            · cases hv
          · cases hv
        · cases hv
      · cases hr
    · cases hr
theorem aresult_pair {m : Mp} : ∀ {vs us : List Value}, LRel m vs us → ∃ u, VRel m (aresult vs) u ∧ (if h : us.toArray.size = 1 then us.toArray[0] else Value.tuple us.toArray) = u
  | [v], _, h1 => by
    obtain ⟨y, ys, rfl, h3, h4⟩ := h1.cons_inv
    obtain rfl := h4.nil_inv
    exact ⟨y, h3, by simp⟩
  | [], _, h1 => by
    obtain rfl := h1.nil_inv
    exact ⟨.tuple #[], .tuple rfl (fun j p q hp => by simp at hp), by simp⟩
  | v :: v2 :: vs, us, h1 => by
    refine ⟨.tuple us.toArray, ?_, ?_⟩
    · show VRel m (.tuple (v :: v2 :: vs).toArray) _
      exact .tuple (by simpa using h1.1) (fun j p q hp hq => h1.2 j p q (by simpa using hp) (by simpa using hq))
    · have hl := h1.1
      rw [dif_neg]
      simp at hl ⊢
      omega
theorem aresult_ok (hI : TOk P I) {T : TM} {a : Act} (h : Run m0 H0 w0 H m w) (hT : TRel m T a) {fn : Func} {vs : List Value} (hr : ares I T H fn.results.toList = some vs) :
    ∃ u, VRel m (aresult vs) u ∧ (results fn a.tmps).run P w = .ok u w := by
  obtain ⟨us, h1, h2⟩ := ares_ok hI h hT hr
  have hl := h1.1
  have hmap : (fn.results.mapM (resOf a.tmps)).run P w = .ok us.toArray w := by
    rw [Array.mapM_eq_mapM_toList, Sem.run_map, h2]
    rfl
  have hdef : results fn a.tmps = (fn.results.mapM (resOf a.tmps) >>= fun vs => pure (if h : vs.size = 1 then vs[0] else .tuple vs)) := by
    unfold results
    congr 1
  have hres : ∀ u : Value, (if h : us.toArray.size = 1 then us.toArray[0] else .tuple us.toArray) = u → (results fn a.tmps).run P w = .ok u w := by
    intro u hu
    rw [hdef, Sem.run_bind, hmap, Result.andThen_ok, Sem.run_pure, hu]
  obtain ⟨u, g1, g2⟩ := aresult_pair h1
  exact ⟨u, g1, hres u g2⟩

/-! ### calls -/
def args0 : Nat → List Value → TM
  | _, [] => []
  | k, v :: vs => (k, v) :: args0 (k + 1) vs
theorem args0_get {m : Mp} : ∀ (k : Nat) (vs us : List Value), LRel m vs us → ∀ t v, (args0 k vs).lookup t = some v → k ≤ t ∧ ∃ u, us[t - k]? = some u ∧ VRel m v u
  | _, [], _, _, t, v, h => by simp [args0] at h
  | k, x :: vs, us, hL, t, v, h => by
    obtain ⟨y, ys, rfl, h1, h2⟩ := hL.cons_inv
    simp only [args0, List.lookup_cons] at h
    by_cases e : t = k
    · subst e
      simp at h
      subst h
      exact ⟨Nat.le_refl _, y, by simp, h1⟩
    · have hb : (t == k) = false := by simpa using e
      rw [hb] at h
      obtain ⟨g1, u, g2, g3⟩ := args0_get (k + 1) vs ys h2 t v h
      refine ⟨by omega, u, ?_, g3⟩
      rw [show t - k = (t - (k + 1)) + 1 by omega]
      simpa using g2
/-- At a call's begin. -/
theorem ASat.start (h : Match m H w) {vs us : List Value} (hL : LRel m vs us) {n : Nat} (hn : us.length ≤ n) :
    ASat n m H w (args0 0 vs) H { tmps := us.toArray ++ Array.replicate (n - us.toArray.size) undef, defers := [] } w := by
  refine ⟨m, .start h, fun t v ht => ?_, by simp; omega, rfl⟩
  obtain ⟨_, u, h1, h2⟩ := args0_get 0 vs us hL t v ht
  simp only [Nat.sub_zero] at h1
  have hlt : t < us.length := (List.getElem?_eq_some_iff.1 h1).1
  refine ⟨by simp; omega, ?_⟩
  rw [Array.getD_eq_getD_getElem?, Array.getElem?_append_left (by simpa using hlt)]
  simp [h1, h2]

/-- Functions by their numbers. -/
abbrev Funs := FuncId → Option Func
def retE : Exit → Bool
  | .normal => true
  | .ret => true
  | _ => false
def fnOk (fn : Func) : Bool := fn.name != "runtime.NumGoroutine"
def acall (I : Tab) (F : Funs) : Nat → Sums
  | 0 => fun _ _ _ => none
  | n + 1 => fun f args H => match F f with
    | some fn => match fn.body with
      | some c => if fnOk fn = true ∧ args.length ≤ fn.ntmps then
          let R := reach H (n + 1) (args.flatMap (idsN 4)) []
          match aexec I (acall I F n) fn.ntmps n c (args0 0 args) (restr R 0 H) with
          | some (e, T, H1) => if retE e = true then match ares I T H1 fn.results.toList with
              | some vs => some (aresult vs, join R 0 H H1, R.filter fun id => ownB (H[id]?))
              | none => none
              else none
          | none => none
        else none
      | none => none
    | none => none
theorem acall_ok (hI : TOk P I) (hm : P.follows .mixedOrders = true) {F : Funs} (hF : ∀ f fn, F f = some fn → P.funcs[f]? = some fn) : ∀ n, SOk P (acall I F n)
  | 0 => ⟨fun _ _ _ _ _ _ h => (by cases h), fun _ _ _ _ _ _ h => (by cases h)⟩
  | n + 1 => by
    have ih := acall_ok hI hm hF n
    refine ⟨fun f args H v H' tc h => ?_, fun f args H v H' tc h => ?_⟩
    · simp only [acall] at h
      split at h
      · rename_i fn hfn
        split at h
        · rename_i c hc
          split at h
          · rename_i hok
            exact ⟨fn, hF f fn hfn, by simpa [fnOk] using hok.1, by rw [hc]; rfl⟩
          · cases h
        · cases h
      · cases h
    · simp only [acall] at h
      split at h
      · rename_i fn hfn
        split at h
        · rename_i c hc
          split at h
          · rename_i hok
            split at h
            · rename_i e T H1 hex
              split at h
              · rename_i he
                split at h
                · rename_i vs hvs
                  cases h
                  intro m0 H0 w0 m w args' hR hL
                  refine calls_of_wp (hF f fn hfn) hc ?_
                  have hl := hL.1
                  have hst := ASat.start (n := fn.ntmps) (hR.mt.restr (reach H (n + 1) (args.flatMap (idsN 4)) [])) hL (by rw [← hl]; exact hok.2)
                  refine Code.wp_mono (fun e' a' w' hp => ?_) (aexec_ok hI ih hm hex hst)
                  obtain ⟨rfl, hnp, m', h1, h2, h3, h4⟩ := hp
                  obtain ⟨u, h5, h6⟩ := aresult_ok hI h1 h2 hvs
                  obtain ⟨j1, j2⟩ := hR.join h1
                  have key : a'.defers = [] ∧ ∃ v, (results fn a'.tmps).run P w' = .ok v w' ∧ ∃ (m'' : Mp) (v' : Value), Ending.returned v = .returned v' ∧ Run m0 H0 w0 (Eng.join (reach H (n + 1) (args.flatMap (idsN 4)) []) 0 H H1) m'' w' ∧ Mp.le m m'' ∧ VRel m'' (aresult vs) v' ∧ Frame m ((reach H (n + 1) (args.flatMap (idsN 4)) []).filter fun id => ownB (H[id]?)) w w' :=
                    ⟨h4, u, h6, m', u, rfl, j1, h1.ext, h5, j2⟩
                  cases e' with
                  | normal => exact key
                  | ret => exact key
                  | exit id => cases he
                  | goto l => cases hnp
                  | panic ch => cases hnp
                  | outgrown => cases hnp
                · cases h
              · cases h
            · cases h
          · cases h
        · cases h
      · cases h
end
end Go.Proofs.Ytckbckijpdnlaaa.Eng
