/- The engine, part 8: all operations, and calls by what is known of callees. A lemma file: it claims nothing of the program. -/
import Derived.Test.YtckbckijpdnlaaaOwnE7
import Derived.Laws.Build
set_option linter.unusedVariables false
set_option linter.unusedSimpArgs false
namespace Go.Proofs.Ytckbckijpdnlaaa.Eng
open Go Go.Lib

def evs (T : TM) : List Operand → Option (List Value)
  | [] => some []
  | x :: xs => match ev T x, evs T xs with
    | some v, some vs => some (v :: vs)
    | _, _ => none
def evp (T : TM) : List (Nat × Operand) → Option (List (Nat × Value))
  | [] => some []
  | (i, x) :: xs => match ev T x, evp T xs with
    | some v, some vs => some ((i, v) :: vs)
    | _, _ => none
def evo (T : TM) : Option Operand → Option (Option Value)
  | none => some none
  | some x => match ev T x with
    | some v => some (some v)
    | none => none
def aRange (I : Tab) (t : TypeId) (x : Value) (H : AHeap) : Res := match I t, x with
  | some i, .string s => match i.d with
    | .str => some (.pointer (some ⟨H.length, 0, none⟩), H ++ [.iter s 0], [])
    | _ => none
  | _, _ => none
def aNext (x : Value) (H : AHeap) : Res := match x with
  | .pointer (some ⟨id, 0, none⟩) => match H[id]? with
    | some (.iter s pos) => if pos < s.size then some (.tuple #[.bool true, .int .i64 (pos : Int), .int .i32 ((Utf8.decode s pos).1 : Int)], H.set id (.iter s (pos + (Utf8.decode s pos).2)), [id]) else some (.tuple #[.bool false], H, [])
    | _ => none
  | _ => none
def aNil (x : Value) : Option Value := match x with
  | .pointer (some a) => some (.pointer (some a))
  | .iface t v => some (.iface t v)
  | .func (.func f) a b => some (.func (.func f) a b)
  | _ => none
def aMin (xs : List Value) : Option Value := match xs with
  | [.int k x, .int k' y] => some (.int k (if y < x then y else x))
  | _ => none
def aMax (xs : List Value) : Option Value := match xs with
  | [.int k x, .int k' y] => some (.int k (if x < y then y else x))
  | _ => none
def aCopy (I : Tab) (ts : Array TypeId) (xs : List Value) (H : AHeap) : Res := match ts[0]?, xs with
  | some t, [d, s] => match I t with
    | some i => match i.d with
      | .slice e => match I e with
        | some j => match d, elsOf j.size s H with
          | .slice (some ⟨id, e0, none⟩) dn _, some new => match H[id]? with
            | some (.row sr z els) => if z = j.size ∧ e0 + new.length ≤ els.length ∧ new.length ≤ dn then
                some (.int .i64 (new.length : Int), H.set id (.row sr z (els.take e0 ++ new ++ els.drop (e0 + new.length))), [id])
              else none
            | _ => none
          | _, _ => none
        | none => none
      | _ => none
    | none => none
  | _, _ => none
/-- What is known of callees: the value, what the call then knows, which names were turned. -/
abbrev Sums := FuncId → List Value → AHeap → Res

def pure1 (H : AHeap) : Option Value → Res
  | some v => some (v, H, [])
  | none => none
/-- A choice. -/
def selR (c : Option Value) (x y : Res) : Res := match c with
  | some (.bool true) => x
  | some (.bool false) => y
  | _ => none
theorem selR.congr {c c' : Option Value} {x y : Res} (h : c = c') : selR c x y = selR c' x y := by rw [h]
def aop (I : Tab) (G : Sums) (op : Op) (T : TM) (H : AHeap) : Res := match op with
  | .move x => pure1 H (ev T x)
  | .assign x => pure1 H (ev T x)
  | .pick c x y => selR (ev T c) (pure1 H (ev T x)) (pure1 H (ev T y))
  | .alloc t => aAlloc I t H
  | .box t x => match ev T x with
    | some v => aNew v.cells.toList H
    | none => none
  | .build t ps => match evp T ps.toList with
    | some vs => pure1 H (aBuild I t vs)
    | none => none
  | .buildSlice t len ps => match evp T ps.toList with
    | some vs => aBuildSlice I t len vs H
    | none => none
  | .load t x => match ev T x with
    | some p => aLoad I t p H
    | none => none
  | .store t x y => match ev T x, ev T y with
    | some p, some v => aStore I t p v H
    | _, _ => none
  | .nilCheck x => match ev T x with
    | some v => pure1 H (aNil v)
    | none => none
  | .binOp op t x y _ => match ev T x, ev T y with
    | some u, some v => pure1 H (aBin I op t (isC x) (isC y) u v H)
    | _, _ => none
  | .unOp op _ x => match ev T x with
    | some u => pure1 H (aUn op u)
    | none => none
  | .convert s d x => match ev T x with
    | some u => pure1 H (aConv I s d u)
    | none => none
  | .makeSlice t l c => match ev T l, ev T c with
    | some u, some v => aMake I t u v H
    | _, _ => none
  | .slice t x lo hi mx => match ev T x, evo T lo, evo T hi, evo T mx with
    | some u, some l, some h, some none => pure1 H (aSlice I t u l h none H)
    | _, _, _, _ => none
  | .fieldAddr s x f => match ev T x with
    | some u => pure1 H (aFieldAddr I s u f)
    | none => none
  | .field t x f => match ev T x with
    | some u => pure1 H (aField I t u f)
    | none => none
  | .indexAddr t x i => match ev T x, ev T i with
    | some u, some v => pure1 H (aIndexAddr I t u v H)
    | _, _ => none
  | .index t x i => match ev T x, ev T i with
    | some u, some v => pure1 H (aIndex I t u v)
    | _, _ => none
  | .range t x => match ev T x with
    | some u => aRange I t u H
    | none => none
  | .next x true => match ev T x with
    | some u => aNext u H
    | none => none
  | .extract x i => match ev T x with
    | some u => pure1 H (aExtract u i)
    | none => none
  | .call c => match evs T c.args.toList with
    | some vs => match c.callee with
      | .builtin .len => pure1 H (aLen I c.argTypes vs)
      | .builtin .append => if c.argTypes.toList = [c.argTypes.getD 0 0, c.argTypes.getD 0 0] then aAppend I c.argTypes vs H else none
      | .builtin .copy => aCopy I c.argTypes vs H
      | .builtin .min => pure1 H (aMin vs)
      | .builtin .max => pure1 H (aMax vs)
      | .value (.func f) => G f vs H
      | _ => none
    | none => none
  | _ => none

/-- A call ends with what is known. -/
def CallGood (P : Program) (m0 : Mp) (H0 : AHeap) (w0 : World) (m : Mp) (f : FuncId) (args : Array Value) (w : World) (v : Value) (H' : AHeap) (tc : List Nat) : Prop :=
  Calls P f args w fun e w' => ∃ (m' : Mp) (v' : Value), e = .returned v' ∧ Run m0 H0 w0 H' m' w' ∧ Mp.le m m' ∧ VRel m' v v' ∧ Frame m tc w w'
/-- What is known of callees is true. -/
structure SOk (P : Program) (G : Sums) : Prop where
  fn : ∀ f args H v H' tc, G f args H = some (v, H', tc) → ∃ fn, P.funcs[f]? = some fn ∧ fn.name ≠ "runtime.NumGoroutine" ∧ fn.body.isSome = true
  ok : ∀ f args H v H' tc, G f args H = some (v, H', tc) → ∀ m0 H0 w0 m w args', Run m0 H0 w0 H m w → LRel m args args' → CallGood P m0 H0 w0 m f args'.toArray w v H' tc

section
variable {P : Program} {I : Tab} {G : Sums} {m0 : Mp} {H0 : AHeap} {w0 : World} {H : AHeap} {m : Mp} {w : World} {a : Act} {o : Oper} {T : TM}

theorem evs_ok (hT : TRel m T a) : ∀ {xs : List Operand} {vs : List Value}, evs T xs = some vs → LRel m vs (xs.map a.eval)
  | [], vs, h => by cases h; exact .nil m
  | x :: xs, vs, h => by
    simp only [evs] at h
    split at h
    · rename_i v us hv hus
      cases h
      exact .cons (ev_ok hT hv) (evs_ok hT hus)
    · cases h
theorem evp_ok (hT : TRel m T a) : ∀ {xs : List (Nat × Operand)} {vs : List (Nat × Value)}, evp T xs = some vs → PRel m vs (xs.map fun (i, x) => (i, a.eval x))
  | [], vs, h => by cases h; exact ⟨rfl, .nil m⟩
  | (i, x) :: xs, vs, h => by
    simp only [evp] at h
    split at h
    · rename_i v us hv hus
      cases h
      obtain ⟨h1, h2⟩ := evp_ok hT hus
      exact ⟨by simpa using h1, .cons (ev_ok hT hv) h2⟩
    · cases h
theorem aSlice_bounds {t : TypeId} {x v : Value} {lo hi : Option Value} (hr : aSlice I t x lo hi none H = some v) : ∃ d l h, boundI 0 lo = some l ∧ boundI d hi = some h := by
  unfold aSlice at hr
  simp only at hr
  split at hr
  · split at hr
    · split at hr
      · rename_i hl hh
        exact ⟨_, _, _, hl, hh⟩
      · cases hr
    · cases hr
  · split at hr
    · split at hr
      · rename_i hl hh
        exact ⟨_, _, _, hl, hh⟩
      · cases hr
    · cases hr
  · cases hr
theorem List.set_getElem?_self' {α : Type} : ∀ {l : List α} {i : Nat} {x : α}, l[i]? = some x → l.set i x = l
  | [], _, _, h => by simp at h
  | y :: l, 0, x, h => by simp at h; subst h; rfl
  | y :: l, i + 1, x, h => by
    simp only [List.set_cons_succ]
    rw [List.set_getElem?_self' (by simpa using h)]
theorem pure1_ok {v : Value} {H' : AHeap} {tc : List Nat} {o' : Option Value} (h : pure1 H o' = some (v, H', tc)) : o' = some v ∧ H' = H ∧ tc = [] := by
  cases o' with
  | none => cases h
  | some u => cases h; exact ⟨rfl, rfl, rfl⟩
theorem aNext_ok (h : Run m0 H0 w0 H m w) {x : Operand} {ty : TypeId} (ho : o.op = .next x true) {u v : Value} {H' : AHeap} {tc : List Nat} (hu : VRel m u (a.eval x)) (hr : aNext u H = some (v, H', tc)) : Good P m0 H0 w0 m o a w v H' tc := by
  unfold aNext at hr
  split at hr
  · rename_i id
    split at hr
    · rename_i s pos hb
      generalize hq : a.eval x = q at hu
      cases hu with
      | ptr h1 h2 =>
        rename_i i
        obtain ⟨b, hb', hB⟩ := h.mt.has _ _ h1
        rw [hb] at hb'
        cases hb'
        obtain ⟨g1, g2, g3, g4⟩ := hB
        have e1 : i.off + (none : Option Nat).getD 0 * i.z + 0 = 0 := by simp [g2]
        rw [e1] at hq
        split at hr
        · rename_i hpos
          cases hr
          have hrun := run_next_any_at (P := P) w i.blk s pos o.type g4 hpos
          refine ⟨m, _, _, .inl (by simp only [execOp, ho, hq, Sem.run_bind, hrun, Result.andThen_ok, Sem.run_pure]; rfl), ?_, Mp.le_refl _, ?_, ?_⟩
          · refine h.write h1 hb rfl g1 (b' := .iter s _) ⟨g1, g2, g3, iterAt_heap w i.blk s pos _ g4⟩ (fun k hk => ?_) ?_ rfl rfl rfl rfl
            · simp only [World.iterAt]
              rw [Array.getElem?_setIfInBounds_ne (fun e => hk e.symm)]
            · simp [World.iterAt]
          · exact .tuple rfl fun j p q hp hq => by
              rcases j with _ | _ | _ | j
              · simp at hp hq; subst hp hq; exact .bool _
              · simp at hp hq; subst hp hq; exact .int _ _
              · simp at hp hq; subst hp hq; exact .int _ _
              · simp at hp
          · refine ⟨by simp [World.iterAt], fun k _ hk => ?_⟩
            simp only [World.iterAt]
            rw [Array.getElem?_setIfInBounds_ne (fun e => hk id (by simp) i h1 g1 e)]
        · rename_i hpos
          cases hr
          refine .still (v' := .tuple #[.bool false]) h (by simp only [execOp, ho, hq, Sem.run_bind, run_next_end_at (P := P) w i.blk s pos o.type g4 hpos, Result.andThen_ok, Sem.run_pure]) ?_
          exact .tuple rfl fun j p q hp hq => by
            rcases j with _ | j
            · simp at hp hq; subst hp hq; exact .bool _
            · simp at hp
    · cases hr
  · cases hr
theorem aRange_ok (hI : TOk P I) (h : Run m0 H0 w0 H m w) {t : TypeId} {x : Operand} (ho : o.op = .range t x) {u v : Value} {H' : AHeap} {tc : List Nat} (hu : VRel m u (a.eval x)) (hr : aRange I t u H = some (v, H', tc)) : Good P m0 H0 w0 m o a w v H' tc := by
  unfold aRange at hr
  split at hr
  · rename_i i s hi
    split at hr
    · rename_i hd
      cases hr
      generalize hq : a.eval x = q at hu
      cases hu
      have hrun := run_range_string (P := P) w t s (hI.str hi hd)
      refine ⟨_, _, _, .inl (by simp only [execOp, ho, hq, Sem.run_bind, hrun, Result.andThen_ok, Sem.run_pure]; rfl), h.made (.stringIter s 0) ⟨w.heap.size, 0, 0, 0, false⟩ rfl (.iter s 0) ⟨rfl, rfl, rfl, alloc_new w _⟩, le_upd _ h.mt.fresh, ?_, .alloc _ _ _ _⟩
      exact .ptr (i := ⟨w.heap.size, 0, 0, 0, false⟩) (by simp [upd]) rfl
    · cases hr
  · cases hr
theorem aNil_ok {x : Operand} {u u' v : Value} (hu : VRel m u u') (hr : aNil u = some v) (ho : o.op = .nilCheck x) (hx : a.eval x = u') : ∃ v', (∀ w, (execOp a.eval o).run P w = .ok (.value v') w) ∧ VRel m v v' := by
  unfold aNil at hr
  split at hr
  · cases hr
    cases hu with
    | ptr h1 h2 => exact ⟨_, fun w => by simp [execOp, ho, hx], .ptr h1 h2⟩
  · cases hr
    cases hu with
    | iface h1 => exact ⟨_, fun w => by simp [execOp, ho, hx], .iface h1⟩
  · cases hr
    cases hu with
    | func h1 h2 h3 h4 => exact ⟨_, fun w => by simp [execOp, ho, hx], .func h1 h2 h3 h4⟩
  · cases hr
theorem aMin_ok {ts : Array TypeId} {t : TypeId} {xs ys : List Value} {v : Value} (hL : LRel m xs ys) (hr : aMin xs = some v) : (Builtin.min_ ts t ys.toArray).run P w = .ok v w ∧ VRel m v v := by
  unfold aMin at hr
  split at hr
  · obtain ⟨y, ys, rfl, h1, h2⟩ := hL.cons_inv
    obtain ⟨z, zs, rfl, h3, h4⟩ := h2.cons_inv
    obtain rfl := h4.nil_inv
    cases h1; cases h3; cases hr
    exact ⟨run_min_int2 w ts t _ _ _ _, .int _ _⟩
  · cases hr
theorem aMax_ok {ts : Array TypeId} {t : TypeId} {xs ys : List Value} {v : Value} (hL : LRel m xs ys) (hr : aMax xs = some v) : (Builtin.max_ ts t ys.toArray).run P w = .ok v w ∧ VRel m v v := by
  unfold aMax at hr
  split at hr
  · obtain ⟨y, ys, rfl, h1, h2⟩ := hL.cons_inv
    obtain ⟨z, zs, rfl, h3, h4⟩ := h2.cons_inv
    obtain rfl := h4.nil_inv
    cases h1; cases h3; cases hr
    exact ⟨run_max_int2 w ts t _ _ _ _, .int _ _⟩
  · cases hr

theorem aCopy_ok (hI : TOk P I) (h : Run m0 H0 w0 H m w) {ts : Array TypeId} {ty : TypeId} {xs ys : List Value} {v : Value} {H' : AHeap} {tc : List Nat} (hL : LRel m xs ys) (hr : aCopy I ts xs H = some (v, H', tc)) :
    ∃ (m' : Mp) (w' : World) (v' : Value), (Builtin.copy_ ts ty ys.toArray).run P w = .ok v' w' ∧ Run m0 H0 w0 H' m' w' ∧ Mp.le m m' ∧ VRel m' v v' ∧ Frame m tc w w' := by
  unfold aCopy at hr
  split at hr
  · rename_i t d s ht
    obtain ⟨d', ys1, rfl, hd, hL1⟩ := hL.cons_inv
    obtain ⟨s', ys2, rfl, hs, hL2⟩ := hL1.cons_inv
    obtain rfl := hL2.nil_inv
    split at hr
    · rename_i i hi
      split at hr
      · rename_i e hdd
        split at hr
        · rename_i j hj
          split at hr
          · rename_i id e0 dn cp new hnew
            split at hr
            · rename_i sr z els hb
              split at hr
              · rename_i hc
                obtain ⟨c0, c1, c2⟩ := hc
                subst c0
                cases hr
                have hu := hI.slice hi hdd
                -- the cells that are copied
                have hsrc : ∃ vs : List Value, LRel m new.flatten vs ∧ vs.length = new.length * j.size ∧ RowOk j.size new ∧ (∀ dn', new.length ≤ dn' → ∃ n', Builtin.lenOf s' = pure n' ∧ Nat.min n' dn' = new.length) ∧ (Builtin.firstCells j.size new.length s').run P w = .ok vs.toArray w := by
                  rcases elsOf_ok h.mt hs hnew with ⟨rfl, rfl⟩ | ⟨A, n, cap, vs, rfl, k1, k2, k3, k4, k5⟩
                  · exact ⟨[], by simpa using LRel.nil m, by simp, RowOk.nil _, fun dn' _ => ⟨0, rfl, by simp⟩, by simp [Builtin.firstCells]⟩
                  · subst k1
                    exact ⟨vs, k3, k4, k2, fun dn' hle => ⟨new.length, rfl, Nat.min_eq_left hle⟩, run_firstCells_some w j.size new.length A new.length cap vs k4 k5⟩
                obtain ⟨vs, q1, q2, q3, q4, q5⟩ := hsrc
                have hcopy : ∀ (b : Option Addr) (dcap : Nat), (Builtin.copy_ ts ty [Value.slice b dn dcap, s'].toArray).run P w =
                    Result.andThen (((match b with | some a => storeCells a vs | none => pure ()) : Sem Unit).run P w) (fun _ w' => .ok (.int .i64 (new.length : Int)) w') := by
                  intro b dcap
                  obtain ⟨n', e1, e2⟩ := q4 dn c2
                  simp only [Builtin.copy_, ht, List.getElem?_toArray, List.getElem?_cons_zero, List.getElem?_cons_succ, Sem.run_bind, run_underlying hu, Result.andThen_ok, e1, Sem.run_pure, e2, hI.size hj w, q5]
                  cases b <;> simp [goInt]
                generalize hg : d' = dg at hd
                cases hd with
                | vslc h1 h2 =>
                  have hn0 : new = [] := List.length_eq_zero_iff.1 (by omega)
                  subst hn0
                  have hid : H.set id (.row sr j.size (els.take 0 ++ [] ++ els.drop (0 + ([] : List (List Value)).length))) = H := by
                    simp only [List.take_zero, List.length_nil, Nat.add_zero, List.drop_zero, List.append_nil, List.nil_append]
                    exact List.set_getElem?_self' hb
                  rw [hid]
                  exact ⟨m, w, _, by rw [hcopy]; rfl, h, Mp.le_refl _, .int _ _, .refl _ _ _⟩
                | eslc h1 h2 =>
                  have hn0 : new = [] := List.length_eq_zero_iff.1 (by omega)
                  subst hn0
                  have hid : H.set id (.row sr j.size (els.take e0 ++ [] ++ els.drop (e0 + ([] : List (List Value)).length))) = H := by
                    simp only [List.length_nil, Nat.add_zero, List.append_nil, List.take_append_drop]
                    exact List.set_getElem?_self' hb
                  rw [hid]
                  have hvs : vs = [] := List.length_eq_zero_iff.1 (by simpa using q2)
                  subst hvs
                  exact ⟨m, w, _, by rw [hcopy]; simp [storeCells], h, Mp.le_refl _, .int _ _, .refl _ _ _⟩
                | slc h1 h2 h3 h4 =>
                  rename_i dcap i'
                  obtain ⟨b0, hb0, hB⟩ := h.mt.has _ _ h1
                  rw [hb] at hb0
                  cases hb0
                  obtain ⟨hB1, hB2, hB3, hB4⟩ := hB
                  rcases hB4 with ⟨hB5, _⟩ | ⟨hB5, arr, T, hB7, hB8, hB9, hB10⟩
                  · rw [h2] at hB5; cases hB5
                  · have hfl : LRel m els.flatten (arr.toList.take (els.length * j.size)) := flat_of_els hB3.len (by simpa using hB9) hB10
                    have hones : ∀ u ∈ vs, u.oneCell' = true := by
                      intro u hu'
                      obtain ⟨q, hq, rfl⟩ := List.getElem_of_mem hu'
                      have hq' : q < new.flatten.length := by rw [q1.1]; exact hq
                      have hr' := q1.2 q _ _ (List.getElem?_eq_getElem hq') (List.getElem?_eq_getElem hq)
                      rw [hr'.one]
                      obtain ⟨c, hc, hq2⟩ := List.mem_flatten.1 (List.getElem_mem hq')
                      exact (q3 c hc).2 _ hq2
                    have haddr : i'.off + e0 * i'.z = e0 * j.size := by rw [hB2, hB1]; omega
                    have hez := Nat.mul_le_mul_right j.size c1
                    rw [Nat.add_mul] at hez
                    have hfit : e0 * j.size + vs.length ≤ arr.size := by omega
                    have hst := run_storeCells_at P i'.blk (e0 * j.size) T vs 0 arr w hB7 (by omega) hones
                    simp only [Nat.add_zero] at hst
                    have hal : e0 * j.size + vs.length ≤ arr.toList.length := by simpa using hfit
                    have hsl := seg_len hal
                    let arr2 : Array Value := (arr.toList.take (e0 * j.size) ++ vs ++ arr.toList.drop (e0 * j.size + vs.length)).toArray
                    have hs2 : arr2.size = arr.size := by simpa [arr2] using hsl
                    have hnl : (els.take e0 ++ new ++ els.drop (e0 + new.length)).length = els.length := by simp; omega
                    have hz3 : RowOk j.size (els.take e0 ++ new ++ els.drop (e0 + new.length)) := ((hB3.take e0).app q3).app (hB3.drop _)
                    have hfl2 : LRel m (els.take e0 ++ new ++ els.drop (e0 + new.length)).flatten (arr2.toList.take (els.length * j.size)) := by
                      have hfz : ∀ n, n ≤ els.length → (els.take n).flatten = els.flatten.take (n * j.size) := by
                        intro n hn
                        have e1 : els.flatten = (els.take n).flatten ++ (els.drop n).flatten := by rw [← List.flatten_append, List.take_append_drop]
                        have e2 : (els.take n).flatten.length = n * j.size := by rw [flat_len (hB3.take n).len, List.length_take, Nat.min_eq_left hn]
                        have e3 := congrArg (List.take (n * j.size)) e1
                        rw [List.take_append_of_le_length (Nat.le_of_eq e2.symm), List.take_of_length_le (Nat.le_of_eq e2)] at e3
                        exact e3.symm
                      have hdz : ∀ n, n ≤ els.length → (els.drop n).flatten = els.flatten.drop (n * j.size) := by
                        intro n hn
                        have e1 : els.flatten = (els.take n).flatten ++ (els.drop n).flatten := by rw [← List.flatten_append, List.take_append_drop]
                        have e2 : (els.take n).flatten.length = n * j.size := by rw [flat_len (hB3.take n).len, List.length_take, Nat.min_eq_left hn]
                        have e3 := congrArg (List.drop (n * j.size)) e1
                        rw [List.drop_append_of_le_length (Nat.le_of_eq e2.symm), List.drop_of_length_le (Nat.le_of_eq e2), List.nil_append] at e3
                        exact e3.symm
                      have hfn : new.flatten.length = vs.length := q1.1
                      have := hfl.seg q1 (k := e0 * j.size) (by rw [flat_len hB3.len, hfn]; omega)
                      rw [List.flatten_append, List.flatten_append, hfz e0 (by omega), hdz _ c1]
                      rw [hfn, q2] at this
                      rw [Nat.add_mul]
                      refine ⟨?_, fun q x y hx hy => this.2 q x y hx ?_⟩
                      · rw [this.1]
                        rw [show e0 * j.size + new.length * j.size = e0 * j.size + vs.length by omega, seg_len (by rw [List.length_take]; omega), List.length_take, List.length_take]
                        show _ = min _ arr2.toList.length
                        simp only [Array.length_toList, hs2]
                      · rw [List.getElem?_take] at hy
                        split at hy
                        · rename_i hq
                          have hy2 : (arr.toList.take (e0 * j.size) ++ vs ++ arr.toList.drop (e0 * j.size + vs.length))[q]? = some y := by simpa [arr2] using hy
                          rw [seg_get hal] at hy2
                          rw [show e0 * j.size + new.length * j.size = e0 * j.size + vs.length by omega, seg_get (by rw [List.length_take]; omega)]
                          by_cases g1 : q < e0 * j.size
                          · rw [if_pos g1] at hy2 ⊢; rw [List.getElem?_take, if_pos hq]; exact hy2
                          · rw [if_neg g1] at hy2 ⊢
                            by_cases g2 : q < e0 * j.size + vs.length
                            · rw [if_pos g2] at hy2 ⊢; exact hy2
                            · rw [if_neg g2] at hy2 ⊢; rw [List.getElem?_take, if_pos hq]; exact hy2
                        · cases hy
                    have hel := els_of_flat hz3.len (X := arr2.toList.drop (els.length * j.size)) hfl2
                    rw [List.take_append_drop] at hel
                    have hBn : BRel m (w.setRow i'.blk arr2) i' (.row sr j.size (els.take e0 ++ new ++ els.drop (e0 + new.length))) :=
                      ⟨hB1, hB2, hz3, .inr ⟨h2, arr2, T, setRow_heap w _ arr _ T _ hB7, by rw [hs2]; exact hB8, by rw [hnl, hs2]; exact hB9, hel⟩⟩
                    refine ⟨m, _, _, by rw [hcopy, haddr]; simp only; rw [hst]; rfl, h.write h1 hb rfl h2 hBn (fun k hk => setRow_other w i'.blk k _ hk) (size_setRow _ _ _) rfl rfl rfl rfl, Mp.le_refl _, .int _ _, .row m h1 h2 _ _⟩
              · cases hr
            · cases hr
          · cases hr
        · cases hr
      · cases hr
    · cases hr
  · cases hr
/-- All operations but calls of functions. -/
def isCall : Op → Bool
  | .call { callee := .value _, .. } => true
  | _ => false
/-- Operations that turn nothing and make nothing. -/
def freeOp : Op → Bool
  | .move _ => true
  | .assign _ => true
  | .pick _ _ _ => true
  | .build _ _ => true
  | .load _ _ => true
  | .nilCheck _ => true
  | .binOp _ _ _ _ _ => true
  | .unOp _ _ _ => true
  | .convert _ _ _ => true
  | .slice _ _ _ _ _ => true
  | .fieldAddr _ _ _ => true
  | .field _ _ _ => true
  | .indexAddr _ _ _ => true
  | .index _ _ _ => true
  | .extract _ _ => true
  | .call { callee := .builtin .len, .. } => true
  | .call { callee := .builtin .min, .. } => true
  | .call { callee := .builtin .max, .. } => true
  | _ => false
/-- The block that an operation looks into. -/
def loadId (op : Op) (T : TM) : Option Nat := match op with
  | .load _ x => match ev T x with
    | some (.pointer (some ⟨id, _, _⟩)) => some id
    | _ => none
  | _ => none
theorem aop_free (hI : TOk P I) (h : Run m0 H0 w0 H m w) (hT : TRel m T a) {v : Value} {H' : AHeap} {tc : List Nat} (hf : freeOp o.op = true) (hr : aop I G o.op T H = some (v, H', tc)) :
    H' = H ∧ tc = [] ∧ ∃ v', VRel m v v' ∧ ∀ w', (∀ id, loadId o.op T = some id → ∀ i, m id = some i → w'.heap[i.blk]? = w.heap[i.blk]?) → (execOp a.eval o).run P w' = .ok (.value v') w' := by
  generalize hop : o.op = op at hr hf
  unfold aop at hr
  split at hr
  case h_1 =>
    obtain ⟨h1, rfl, rfl⟩ := pure1_ok hr
    exact ⟨rfl, rfl, _, ev_ok hT h1, fun w' _ => by simp [execOp, hop]⟩
  case h_2 =>
    obtain ⟨h1, rfl, rfl⟩ := pure1_ok hr
    exact ⟨rfl, rfl, _, ev_ok hT h1, fun w' _ => by simp [execOp, hop]⟩
  case h_3 c x y =>
    unfold selR at hr
    split at hr
    · rename_i hcv
      obtain ⟨h1, rfl, rfl⟩ := pure1_ok hr
      have := ev_ok hT hcv
      generalize hq : a.eval c = q at this
      cases this
      exact ⟨rfl, rfl, _, ev_ok hT h1, fun w' _ => by simp [execOp, hop, hq, asBool]⟩
    · rename_i hcv
      obtain ⟨h1, rfl, rfl⟩ := pure1_ok hr
      have := ev_ok hT hcv
      generalize hq : a.eval c = q at this
      cases this
      exact ⟨rfl, rfl, _, ev_ok hT h1, fun w' _ => by simp [execOp, hop, hq, asBool]⟩
    · cases hr
  case h_4 => cases hf
  case h_5 => cases hf
  case h_6 t ps =>
    split at hr
    · rename_i vs hvs
      obtain ⟨h1, rfl, rfl⟩ := pure1_ok hr
      have hp := evp_ok hT hvs
      obtain ⟨v', h2, h3⟩ := aBuild_ok (parts := ps.map fun (i, x) => (i, a.eval x)) hI (by simpa using hp) h1
      exact ⟨rfl, rfl, _, h3, fun w' _ => by simp [execOp, hop, h2 w']⟩
    · cases hr
  case h_7 => cases hf
  case h_8 t x =>
    split at hr
    · rename_i p hp
      unfold aLoad at hr
      split at hr
      · rename_i i id k s hi
        split at hr
        · rename_i b hb
          split at hr
          · rename_i cs hcs
            split at hr
            · rename_i u hu
              cases hr
              have hv := ev_ok hT hp
              generalize hq : a.eval x = q at hv
              cases hv with
              | ptr hm hv =>
                rename_i i'
                obtain ⟨b', hb', hB⟩ := h.mt.has _ _ hm
                rw [hb] at hb'
                cases hb'
                obtain ⟨vs, hL, hc⟩ := rd_vals hB hcs hv
                have hlen : vs.length = i.size := by rw [← hL.1]; exact rd_len hcs
                have hc' : ∀ w' : World, (∀ id', loadId (.load t x) T = some id' → ∀ j, m id' = some j → w'.heap[j.blk]? = w.heap[j.blk]?) → ∀ (j : Nat) (v : Value), vs[j]? = some v → w'.cell? ((⟨i'.blk, i'.off + s.getD 0 * i'.z + k, none⟩ : Addr).add j) = some v := by
                  intro w' hw' j v hj
                  have e := hw' id (by simp [loadId, hp]) i' hm
                  have := hc j v hj
                  rw [add_none] at this ⊢
                  rw [World.cell?_of_block (w := w) (a := ⟨i'.blk, i'.off + s.getD 0 * i'.z + k + j, none⟩) e]
                  exact this
                rcases tval_ok hu with ⟨h1, rfl⟩ | ⟨h1, rfl⟩
                · refine ⟨rfl, rfl, .agg vs.toArray, .ofL hL, fun w' hw' => ?_⟩
                  simp only [execOp, hop, hq, Instr.loadAt, Instr.sureAddr, pure_bind, Sem.run_bind, run_loadVar_vals hI hi hlen (hc' w' hw') rfl (.inl ⟨h1, rfl⟩), Result.andThen_ok, Sem.run_pure]
                · obtain ⟨y, ys, rfl, hy, hys⟩ := hL.cons_inv
                  obtain rfl := hys.nil_inv
                  refine ⟨rfl, rfl, y, hy, fun w' hw' => ?_⟩
                  simp only [execOp, hop, hq, Instr.loadAt, Instr.sureAddr, pure_bind, Sem.run_bind, run_loadVar_vals hI hi hlen (hc' w' hw') rfl (.inr ⟨h1, rfl⟩), Result.andThen_ok, Sem.run_pure]
            · cases hr
          · cases hr
        · cases hr
      · cases hr
    · cases hr
  case h_9 => cases hf
  case h_10 =>
    split at hr
    · rename_i u hu
      obtain ⟨h1, rfl, rfl⟩ := pure1_ok hr
      obtain ⟨v', h2, h3⟩ := aNil_ok (P := P) (o := o) (a := a) (ev_ok hT hu) h1 hop rfl
      exact ⟨rfl, rfl, _, h3, fun w' _ => h2 w'⟩
    · cases hr
  case h_11 op t x y yt =>
    split at hr
    · rename_i u z hu hz
      obtain ⟨h1, rfl, rfl⟩ := pure1_ok hr
      have key := fun w' => aBin_ok (w := w') hI h.mt (ev_ok hT hu) (ev_ok hT hz) h1
      refine ⟨rfl, rfl, v, (key w).2, fun w' _ => ?_⟩
      have h2 := (key w').1
      simp only [execOp, hop, Sem.run_bind] at h2 ⊢
      rw [h2]
      rfl
    · cases hr
  case h_12 =>
    split at hr
    · rename_i u hu
      obtain ⟨h1, rfl, rfl⟩ := pure1_ok hr
      have key := fun w' => aUn_ok (P := P) (w := w') (ev_ok hT hu) h1
      exact ⟨rfl, rfl, v, (key w).2, fun w' _ => by simp [execOp, hop, (key w').1]⟩
    · cases hr
  case h_13 =>
    split at hr
    · rename_i u hu
      obtain ⟨h1, rfl, rfl⟩ := pure1_ok hr
      have key := fun w' => aConv_ok (w := w') hI (ev_ok hT hu) h1
      exact ⟨rfl, rfl, v, (key w).2, fun w' _ => by simp [execOp, hop, (key w').1]⟩
    · cases hr
  case h_14 => cases hf
  case h_15 t x lo hi mx =>
    split at hr
    · rename_i u l hh hu hl hhi hmx
      obtain ⟨h1, rfl, rfl⟩ := pure1_ok hr
      cases mx with
      | some _ => simp only [evo] at hmx; split at hmx <;> cases hmx
      | none =>
        have key : ∀ (b : Option Operand) (bv : Option Value), evo T b = some bv → (∀ d i, boundI d bv = some i → b.map a.eval = bv) := by
          intro b bv hb d i hbi
          cases b with
          | none => cases hb; rfl
          | some y =>
            simp only [evo] at hb
            split at hb
            · rename_i yv hyv
              cases hb
              have := ev_ok hT hyv
              rw [Option.map_some]
              generalize a.eval y = q at this
              cases yv <;> simp [boundI] at hbi
              cases this
              rfl
            · cases hb
        obtain ⟨_, _, _, e1, e2⟩ := aSlice_bounds h1
        obtain ⟨v', h2, h3⟩ := aSlice_ok (P := P) hI h.mt (ev_ok hT hu) h1
        refine ⟨rfl, rfl, _, h3, fun w' _ => ?_⟩
        simp only [execOp, hop, key lo l hl _ _ e1, key hi hh hhi _ _ e2, Option.map_none, Sem.run_bind, h2 w', Result.andThen_ok, Sem.run_pure]
    · cases hr
  case h_16 =>
    split at hr
    · rename_i u hu
      obtain ⟨h1, rfl, rfl⟩ := pure1_ok hr
      obtain ⟨v', h2, h3⟩ := aFieldAddr_ok hI (ev_ok hT hu) h1
      exact ⟨rfl, rfl, _, h3, fun w' _ => by simp [execOp, hop, h2 w']⟩
    · cases hr
  case h_17 =>
    split at hr
    · rename_i u hu
      obtain ⟨h1, rfl, rfl⟩ := pure1_ok hr
      obtain ⟨v', h2, h3⟩ := aField_ok hI (ev_ok hT hu) h1
      exact ⟨rfl, rfl, _, h3, fun w' _ => by simp [execOp, hop, h2 w']⟩
    · cases hr
  case h_18 =>
    split at hr
    · rename_i u z hu hz
      obtain ⟨h1, rfl, rfl⟩ := pure1_ok hr
      obtain ⟨v', h2, h3⟩ := aIndexAddr_ok hI h.mt (ev_ok hT hu) (ev_ok hT hz) h1
      exact ⟨rfl, rfl, _, h3, fun w' _ => by simp [execOp, hop, h2 w']⟩
    · cases hr
  case h_19 =>
    split at hr
    · rename_i u z hu hz
      obtain ⟨h1, rfl, rfl⟩ := pure1_ok hr
      have key := fun w' => aIndex_ok (w := w') hI (ev_ok hT hu) (ev_ok hT hz) h1
      exact ⟨rfl, rfl, v, (key w).2, fun w' _ => by simp [execOp, hop, (key w').1]⟩
    · cases hr
  case h_20 => cases hf
  case h_21 => cases hf
  case h_22 =>
    split at hr
    · rename_i u hu
      obtain ⟨h1, rfl, rfl⟩ := pure1_ok hr
      obtain ⟨v', h2, h3⟩ := aExtract_ok (P := P) (ev_ok hT hu) h1
      exact ⟨rfl, rfl, _, h3, fun w' _ => by simp [execOp, hop, h2 w']⟩
    · cases hr
  case h_23 c =>
    split at hr
    · rename_i vs hvs
      have hL := evs_ok hT hvs
      have hargs : c.args.map a.eval = (c.args.toList.map a.eval).toArray := by apply Array.ext'; simp
      split at hr
      · rename_i hcal
        obtain ⟨h1, rfl, rfl⟩ := pure1_ok hr
        have key := fun w' => aLen_ok (w := w') (ty := o.type) hI hL h1
        exact ⟨rfl, rfl, v, (key w).2, fun w' _ => by simp only [execOp, hop, resolve, hcal, pure_bind, invoke, builtin, hargs, Sem.run_bind, (key w').1, Result.andThen_ok, Sem.run_pure]⟩
      · rename_i hcal
        cases c with
        | mk callee args ats => simp only at hcal; subst hcal; cases hf
      · rename_i hcal
        cases c with
        | mk callee args ats => simp only at hcal; subst hcal; cases hf
      · rename_i hcal
        obtain ⟨h1, rfl, rfl⟩ := pure1_ok hr
        have key := fun w' => aMin_ok (P := P) (w := w') (ts := c.argTypes) (t := o.type) hL h1
        exact ⟨rfl, rfl, v, (key w).2, fun w' _ => by simp only [execOp, hop, resolve, hcal, pure_bind, invoke, builtin, hargs, Sem.run_bind, (key w').1, Result.andThen_ok, Sem.run_pure]⟩
      · rename_i hcal
        obtain ⟨h1, rfl, rfl⟩ := pure1_ok hr
        have key := fun w' => aMax_ok (P := P) (w := w') (ts := c.argTypes) (t := o.type) hL h1
        exact ⟨rfl, rfl, v, (key w).2, fun w' _ => by simp only [execOp, hop, resolve, hcal, pure_bind, invoke, builtin, hargs, Sem.run_bind, (key w').1, Result.andThen_ok, Sem.run_pure]⟩
      · rename_i hcal
        cases c with
        | mk callee args ats => simp only at hcal; subst hcal; cases hf
      · cases hr
    · cases hr
  case h_24 => cases hr
theorem aop_good (hI : TOk P I) (h : Run m0 H0 w0 H m w) (hT : TRel m T a) {v : Value} {H' : AHeap} {tc : List Nat} (hc : isCall o.op = false) (hr : aop I G o.op T H = some (v, H', tc)) : Good P m0 H0 w0 m o a w v H' tc := by
  by_cases hf : freeOp o.op = true
  · obtain ⟨rfl, rfl, v', h1, h2⟩ := aop_free hI h hT hf hr
    exact .still h (h2 w fun _ _ _ _ => rfl) h1
  have hf : freeOp o.op = false := by simpa using hf
  generalize hop : o.op = op at hr hc hf
  unfold aop at hr
  split at hr
  case h_4 => exact aAlloc_ok hI h hop hr
  case h_5 =>
    split at hr
    · rename_i u hu
      exact aBox_ok h hop (ev_ok hT hu) hr
    · cases hr
  case h_7 t len ps =>
    split at hr
    · rename_i vs hvs
      have hp := evp_ok hT hvs
      exact aBuildSlice_ok hI h hop (by simpa using hp) hr
    · cases hr
  case h_9 =>
    split at hr
    · rename_i p u hp hu
      exact aStore_ok hI h hop (ev_ok hT hp) (ev_ok hT hu) hr
    · cases hr
  case h_14 =>
    split at hr
    · rename_i u z hu hz
      exact aMake_ok hI h hop (ev_ok hT hu) (ev_ok hT hz) hr
    · cases hr
  case h_20 =>
    split at hr
    · rename_i u hu
      exact aRange_ok hI h hop (ev_ok hT hu) hr
    · cases hr
  case h_21 =>
    split at hr
    · rename_i u hu
      exact aNext_ok (ty := 0) h hop (ev_ok hT hu) hr
    · cases hr
  case h_23 c =>
    split at hr
    · rename_i vs hvs
      have hL := evs_ok hT hvs
      have hargs : c.args.map a.eval = (c.args.toList.map a.eval).toArray := by apply Array.ext'; simp
      split at hr
      · rename_i hcal
        cases c with
        | mk callee args ats => simp only at hcal; subst hcal; cases hf
      · rename_i hcal
        split at hr
        · rename_i hts
          obtain ⟨m', w', v', h1, h2, h3, h4, h5⟩ := aAppend_ok (ty := o.type) hI h hL (by
            apply Array.ext'
            exact hts) hr
          exact ⟨m', w', v', .inl (by simp only [execOp, hop, resolve, hcal, pure_bind, invoke, builtin, hargs, Sem.run_bind, h1, Result.andThen_ok, Sem.run_pure]), h2, h3, h4, h5⟩
        · cases hr
      · rename_i hcal
        obtain ⟨m', w', v', h1, h2, h3, h4, h5⟩ := aCopy_ok (P := P) (ty := o.type) hI h hL hr
        exact ⟨m', w', v', .inl (by simp only [execOp, hop, resolve, hcal, pure_bind, invoke, builtin, hargs, Sem.run_bind, h1, Result.andThen_ok, Sem.run_pure]), h2, h3, h4, h5⟩
      · rename_i hcal
        cases c with
        | mk callee args ats => simp only at hcal; subst hcal; cases hf
      · rename_i hcal
        cases c with
        | mk callee args ats => simp only at hcal; subst hcal; cases hf
      · rename_i f hcal
        cases c with
        | mk callee args ats =>
          simp only at hcal
          subst hcal
          simp [isCall] at hc
      · cases hr
    · cases hr
  case h_24 => cases hr
  all_goals (cases hf)
end
end Go.Proofs.Ytckbckijpdnlaaa.Eng
