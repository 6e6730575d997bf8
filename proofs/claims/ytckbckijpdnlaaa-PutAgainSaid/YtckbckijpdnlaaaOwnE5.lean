/- The engine, part 5: operations that make or turn memory: literals, make, append, copy, parts of slices, texts' runes. A lemma file: it claims nothing of the program. -/
import Derived.Test.YtckbckijpdnlaaaOwnE4
import Derived.Lib.OthersKept
set_option linter.unusedVariables false
set_option linter.unusedSimpArgs false
namespace Go.Proofs.Ytckbckijpdnlaaa.Eng
open Go

def fillL (place : Nat → Option (Nat × Nat)) : List Value → List (Nat × Value) → Option (List Value)
  | cells, [] => some cells
  | cells, (i, v) :: rest => match place i with
    | some (off, size) => if v.cells.toList.length = size ∧ off + size ≤ cells.length then fillL place (cells.take off ++ v.cells.toList ++ cells.drop (off + v.cells.toList.length)) rest else none
    | none => none
def places (I : Tab) : List (Nat × TypeId) → Option (List (Nat × Nat))
  | [] => some []
  | (off, t) :: fs => match I t, places I fs with
    | some j, some r => some ((off, j.size) :: r)
    | _, _ => none
def aBuild (I : Tab) (t : TypeId) (parts : List (Nat × Value)) : Option Value := match I t with
  | some i => if flatV i.zero = true then match i.d with
    | .struct fs => match places I fs with
      | some ps => match fillL (fun j => ps[j]?) i.zero.cells.toList parts with
        | some cs => some (.agg cs.toArray)
        | none => none
      | none => none
    | _ => none
    else none
  | none => none
def fillE (z : Nat) : List (List Value) → List (Nat × Value) → Option (List (List Value))
  | els, [] => some els
  | els, (i, v) :: rest => if v.cells.toList.length = z ∧ i < els.length ∧ v.cells.toList.all (·.oneCell') = true then fillE z (els.set i v.cells.toList) rest else none
def aBuildSlice (I : Tab) (t : TypeId) (len : Nat) (parts : List (Nat × Value)) (H : AHeap) : Res := match I t with
  | some i => match i.d with
    | .slice e => match I e with
      | some j => if flatV j.zero = true ∧ j.zero.cells.toList.length = j.size ∧ len * j.size ≤ 16777216 then match fillE j.size (List.replicate len j.zero.cells.toList) parts with
        | some els => some (.slice (some ⟨H.length, 0, none⟩) len 0, H ++ [.row true j.size els], [])
        | none => none
        else none
      | none => none
    | _ => none
  | none => none
def aMake (I : Tab) (t : TypeId) (l c : Value) (H : AHeap) : Res := match I t, l, c with
  | some i, .int _ l, .int _ c => match i.d with
    | .slice e => match I e with
      | some j => if flatV j.zero = true ∧ j.zero.cells.toList.length = j.size ∧ 0 ≤ l ∧ l ≤ c ∧ (j.bytes : Int) * c ≤ 281474976710656 ∧ c ≤ 9223372036854775807 then
          some (.slice (some ⟨H.length, 0, none⟩) l.toNat 0, H ++ [.row true j.size (List.replicate l.toNat j.zero.cells.toList)], [])
        else none
      | none => none
    | _ => none
  | _, _, _ => none
/-- The elements that a slice shows. -/
def elsOf (z : Nat) (x : Value) (H : AHeap) : Option (List (List Value)) := match x with
  | .slice none 0 0 => some []
  | .slice (some ⟨id, e, none⟩) n _ => match H[id]? with
    | some (.row _ z' els) => if z' = z ∧ e + n ≤ els.length then some ((els.drop e).take n) else none
    | some (.old _ z' els) => if z' = z ∧ e + n ≤ els.length then some ((els.drop e).take n) else none
    | _ => none
  | _ => none
def isIntT (i : TInfo) : Bool := match i.d with
  | .int _ => true
  | _ => false
def aAppend (I : Tab) (ts : Array TypeId) (xs : List Value) (H : AHeap) : Res := match ts[0]?, ts[1]?, xs with
  | some t, some t2, [s, x] => match I t, I t2 with
    | some i, some i2 => match i.d, isIntT i2 with
      | .slice e, false => match I e with
        | some j => match elsOf j.size x H, s with
          | some new, .slice none 0 0 => if new.length * j.bytes ≤ 140737488355328 ∧ new.length ≤ 9223372036854775807 ∧ flatV j.zero = true ∧ j.zero.cells.toList.length = j.size then
              some (.slice (some ⟨H.length, 0, none⟩) new.length 0, H ++ [.row (decide (0 < new.length)) j.size new], [])
            else none
          | some new, .slice (some ⟨id, 0, none⟩) n _ => match H[id]? with
            | some (.row sr z els) => if z = j.size ∧ n ≤ els.length ∧ (n + new.length) * j.bytes ≤ 140737488355328 ∧ n + new.length ≤ 9223372036854775807 ∧ flatV j.zero = true ∧ j.zero.cells.toList.length = j.size then
                some (.slice (some ⟨H.length, 0, none⟩) (n + new.length) 0, H.set id .dead ++ [.row (sr || decide (0 < n + new.length)) z (els.take n ++ new)], [id])
              else none
            | _ => none
          | _, _ => none
        | none => none
      | _, _ => none
    | _, _ => none
  | _, _, _ => none

section
variable {P : Program} {I : Tab} {m0 : Mp} {H0 : AHeap} {w0 : World} {H : AHeap} {m : Mp} {w : World} {a : Act} {o : Oper}

/-- Two rows of numbered values. -/
def PRel (m : Mp) (xs ys : List (Nat × Value)) : Prop := xs.map (·.1) = ys.map (·.1) ∧ LRel m (xs.map (·.2)) (ys.map (·.2))
theorem PRel.nil_inv {ys : List (Nat × Value)} (h : PRel m [] ys) : ys = [] := by
  have := h.1
  cases ys with
  | nil => rfl
  | cons _ _ => simp at this
theorem PRel.cons_inv {i : Nat} {x : Value} {xs ys : List (Nat × Value)} (h : PRel m ((i, x) :: xs) ys) : ∃ y ys', ys = (i, y) :: ys' ∧ VRel m x y ∧ PRel m xs ys' := by
  cases ys with
  | nil => have := h.1; simp at this
  | cons y ys =>
    obtain ⟨j, y⟩ := y
    have h1 := h.1
    simp at h1
    obtain ⟨y', ys', h2, h3, h4⟩ := LRel.cons_inv (by simpa using h.2)
    cases h2
    obtain ⟨rfl, h5⟩ := h1
    exact ⟨y, ys, rfl, h3, by simpa using h5, h4⟩

theorem foldl_seg (vs : List Value) : ∀ (s off : Nat) (arr : Array Value), off + s + vs.length ≤ arr.size →
    ((vs.zipIdx s).foldl (fun cs (c, j) => cs.setIfInBounds (off + j) c) arr).toList = arr.toList.take (off + s) ++ vs ++ arr.toList.drop (off + s + vs.length) := by
  induction vs with
  | nil => intro s off arr h; simp
  | cons v vs ih =>
    intro s off arr h
    simp only [List.length_cons] at h
    simp only [List.zipIdx_cons, List.foldl_cons]
    rw [ih (s + 1) off _ (by simp; omega)]
    have := list_seg_step arr.toList (off + s) v vs (by simp; omega)
    simp only [Array.toList_setIfInBounds]
    rw [show off + (s + 1) = off + s + 1 by omega]
    simpa [Nat.add_assoc] using this

theorem fill_ok {place : Nat → Option (Nat × Nat)} : ∀ {ps qs : List (Nat × Value)} {cells r : List Value} {arr : Array Value}, LRel m cells arr.toList → PRel m ps qs → fillL place cells ps = some r →
    ∃ arr' : Array Value, Instr.fill place arr qs = some arr' ∧ LRel m r arr'.toList
  | [], _, cells, r, arr, hL, hP, hr => by
    obtain rfl := hP.nil_inv
    cases hr
    exact ⟨arr, rfl, hL⟩
  | (i, v) :: ps, _, cells, r, arr, hL, hP, hr => by
    obtain ⟨u, qs, rfl, h1, h2⟩ := hP.cons_inv
    simp only [fillL] at hr
    split at hr
    · rename_i off size hp
      split at hr
      · rename_i hc
        have hv := LRel.cells h1
        have hvl := hv.1
        have hLl := hL.1
        simp only [Array.length_toList] at hvl hLl hc
        have hn : ¬ (u.cells.size ≠ size ∨ off + u.cells.size > arr.size) := by omega
        have hseg := foldl_seg u.cells.toList 0 off arr (by simp; omega)
        simp only [Nat.add_zero] at hseg
        have hk : off + v.cells.toList.length ≤ cells.length := by simp; omega
        have hL' : LRel m (cells.take off ++ v.cells.toList ++ cells.drop (off + v.cells.toList.length)) ((u.cells.zipIdx.foldl (fun cs (c, j) => cs.setIfInBounds (off + j) c) arr).toList) := by
          have e : (u.cells.zipIdx.foldl (fun cs (c, j) => cs.setIfInBounds (off + j) c) arr) = ((u.cells.toList.zipIdx 0).foldl (fun cs (c, j) => cs.setIfInBounds (off + j) c) arr) := by
            rw [← Array.foldl_toList, Array.toList_zipIdx]
          rw [e, hseg]
          exact hL.seg hv hk
        obtain ⟨arr', h3, h4⟩ := fill_ok hL' h2 hr
        refine ⟨arr', ?_, h4⟩
        simp only [Instr.fill, hp]
        have hn2 : (decide (u.cells.size ≠ size) || decide (off + u.cells.size > arr.size)) = false := by
          simp only [Bool.or_eq_false_iff, decide_eq_false_iff_not]
          exact ⟨by omega, by omega⟩
        rw [if_neg (by rw [hn2]; simp)]
        exact h3
      · cases hr
    · cases hr

theorem run_mapM_list {α β : Type} (f : α → Sem β) (g : α → β) (w : World) : ∀ (xs : List α), (∀ x ∈ xs, (f x).run P w = .ok (g x) w) → (xs.mapM f).run P w = .ok (xs.map g) w
  | [], _ => by simp
  | x :: xs, h => by
    have h0 := h x (by simp)
    have ih := run_mapM_list f g w xs (fun y hy => h y (by simp [hy]))
    simp [List.mapM_cons, h0, ih]
theorem places_ok (hI : TOk P I) : ∀ {fs : List Field} {ps : List (Nat × Nat)}, places I (fs.map fun f => (f.offset, f.type)) = some ps →
    ∀ f ∈ fs, ∃ j, I f.type = some j
  | [], _, _, f, hf => by simp at hf
  | g :: fs, ps, h, f, hf => by
    simp only [List.map_cons, places] at h
    split at h
    · rename_i j r hj hr
      rcases List.mem_cons.1 hf with rfl | hf
      · exact ⟨j, hj⟩
      · exact places_ok hI hr f hf
    · cases h
theorem places_eq (hI : TOk P I) (sz : TypeId → Nat) (hsz : ∀ t j, I t = some j → sz t = j.size) : ∀ {fs : List Field} {ps : List (Nat × Nat)}, places I (fs.map fun f => (f.offset, f.type)) = some ps →
    ps = fs.map fun f => (f.offset, sz f.type)
  | [], _, h => by simp [places] at h; simp [h]
  | g :: fs, ps, h => by
    simp only [List.map_cons, places] at h
    split at h
    · rename_i j r hj hr
      cases h
      rw [places_eq hI sz hsz hr, List.map_cons, hsz _ _ hj]
    · cases h

theorem aBuild_ok (hI : TOk P I) {t : TypeId} {parts : Array (Nat × Value)} {ps : List (Nat × Value)} {v : Value} (hP : PRel m ps parts.toList) (hr : aBuild I t ps = some v) :
    ∃ v', (∀ w, (Instr.build t parts).run P w = .ok v' w) ∧ VRel m v v' := by
  unfold aBuild at hr
  split at hr
  · rename_i i hi
    split at hr
    · rename_i hf
      split at hr
      · rename_i fs hd
        split at hr
        · rename_i pl hpl
          split at hr
          · rename_i cs hcs
            cases hr
            obtain ⟨fields, hu, he⟩ := hI.struct hi hd
            subst he
            obtain ⟨arr', h1, h2⟩ := fill_ok (LRel.cells (flatV_ok m hf)) hP hcs
            have hsz : ∀ t j, I t = some j → P.cellsOf t = j.size := by
              intro t j hj
              obtain ⟨_, inf, _, h3, _, h4, _⟩ := hI.ok t j hj
              simp [Program.cellsOf, h3, h4]
            have hpe := places_eq hI P.cellsOf hsz hpl
            have hmap : ∀ w, (fields.mapM fun f => do pure (f.offset, ← sizeOf f.type) : Sem (Array (Nat × Nat))).run P w = .ok (pl.toArray) w := by
              intro w
              rw [Array.mapM_eq_mapM_toList, Sem.run_map, run_mapM_list _ (fun f : Field => (f.offset, P.cellsOf f.type)) w fields.toList ?_]
              · simp [hpe]
              · intro f hf'
                obtain ⟨j, hj⟩ := places_ok hI hpl f hf'
                simp [hI.size hj w, hsz _ _ hj]
            refine ⟨.agg arr', fun w => ?_, by have := VRel.ofL h2; simpa using this⟩
            have hg : (fun x : Nat => pl.toArray[x]?) = fun x => pl[x]? := by funext x; simp
            simp only [Instr.build, Sem.run_bind, hI.zeroV hi w, Result.andThen_ok, run_underlying hu, hmap, hg, h1, Sem.run_pure]
          · cases hr
        · cases hr
      · cases hr
    · cases hr
  · cases hr
end
end Go.Proofs.Ytckbckijpdnlaaa.Eng
