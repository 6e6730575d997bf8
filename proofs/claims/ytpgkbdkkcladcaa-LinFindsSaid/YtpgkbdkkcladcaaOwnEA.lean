/- Parts E0, E1, E2, E3, E4, E5, E6, E7, E8 of the engine, in one text. A lemma file: it claims nothing of the program. -/
import Derived.Laws.CopyRow
import Derived.Below
import Derived.Laws.Rows
import Derived.WalkKit
import Derived.Laws.Append
import Derived.Laws.MakeOwn
import Derived.Laws.StructEq
import Derived.Laws.Small
import Derived.Laws.RangeString
import Derived.Calls
import Derived.Laws.Slices
import Derived.Laws.Entries
import Derived.Laws.Unary
import Derived.Lib.OthersKept
import Derived.Laws.Build
set_option linter.unusedVariables false
set_option linter.unusedSimpArgs false
/- The engine, part 0: what memory bears all the time (here: nothing). A lemma file: it claims nothing of the program. -/
namespace Go.Proofs.Ytpgkbdkkcladcaa.Eng
open Go
abbrev Base (w : World) : Prop := True
abbrev NB (k : Nat) : Prop := True
theorem base_keep {w w' : World} (h : Base w) (hs : w.heap.size ≤ w'.heap.size) (hk : ∀ k, k < w.heap.size → ¬ NB k → w'.heap[k]? = w.heap[k]?) : Base w' := trivial
theorem nb_new {w : World} {k : Nat} (h : Base w) (hk : w.heap.size ≤ k) : NB k := trivial
end Go.Proofs.Ytpgkbdkkcladcaa.Eng
/- The engine, part 1: values and blocks as a call knows them (by numbers of its own), and as they lie in memory. A lemma file: it claims nothing of the program. -/
namespace Go.Proofs.Ytpgkbdkkcladcaa.Eng
open Go

/-- Where a block that the call knows lies: its real block, the first cell, the cells of an element, the cells of the block; 'void': a row of no elements that lies nowhere. -/
structure MI where
  blk : Nat
  off : Nat
  z : Nat
  sz : Nat
  void : Bool

abbrev Mp := Nat → Option MI
def Mp.le (m m' : Mp) : Prop := ∀ id i, m id = some i → m' id = some i
theorem Mp.le_refl (m : Mp) : Mp.le m m := fun _ _ h => h
theorem Mp.le_trans {a b c : Mp} (h : Mp.le a b) (k : Mp.le b c) : Mp.le a c := fun _ _ x => k _ _ (h _ _ x)
def upd (m : Mp) (n : Nat) (i : MI) : Mp := fun j => if j = n then some i else m j
theorem le_upd {m : Mp} {n : Nat} (i : MI) (h : m n = none) : Mp.le m (upd m n i) := fun id j hj => by
  unfold upd
  by_cases e : id = n
  · subst e; rw [h] at hj; cases hj
  · rw [if_neg e]; exact hj

inductive VRel (m : Mp) : Value → Value → Prop where
  | bool (b : Bool) : VRel m (.bool b) (.bool b)
  | int (k : IntKind) (n : Int) : VRel m (.int k n) (.int k n)
  | str (s : ByteArray) : VRel m (.string s) (.string s)
  | nilp : VRel m (.pointer none) (.pointer none)
  | nils : VRel m (.slice none 0 0) (.slice none 0 0)
  | nili : VRel m .nilIface .nilIface
  | nilf : VRel m .nilFunc .nilFunc
  | ptr {id k : Nat} {s : Option Nat} {i : MI} (h : m id = some i) (hv : i.void = false) :
      VRel m (.pointer (some ⟨id, k, s⟩)) (.pointer (some ⟨i.blk, i.off + s.getD 0 * i.z + k, none⟩))
  | slc {id e cp cap len : Nat} {i : MI} (h : m id = some i) (hv : i.void = false) (hl : len ≤ cap) (hc : i.off + (e + cap) * i.z ≤ i.sz) :
      VRel m (.slice (some ⟨id, e, none⟩) len cp) (.slice (some ⟨i.blk, i.off + e * i.z, none⟩) len cap)
  | vslc {id cp : Nat} {i : MI} (h : m id = some i) (hv : i.void = true) : VRel m (.slice (some ⟨id, 0, none⟩) 0 cp) (.slice none 0 0)
  | eslc {id e cp o : Nat} {i : MI} (h : m id = some i) (hv : i.void = false) : VRel m (.slice (some ⟨id, e, none⟩) 0 cp) (.slice (some ⟨i.blk, o, none⟩) 0 0)
  | agg {cs cs' : Array Value} (hs : cs.size = cs'.size) (h : ∀ (j : Nat) (a b : Value), cs[j]? = some a → cs'[j]? = some b → VRel m a b) : VRel m (.agg cs) (.agg cs')
  | tuple {cs cs' : Array Value} (hs : cs.size = cs'.size) (h : ∀ (j : Nat) (a b : Value), cs[j]? = some a → cs'[j]? = some b → VRel m a b) : VRel m (.tuple cs) (.tuple cs')
  | iface {t : TypeId} {v v' : Value} (h : VRel m v v') : VRel m (.iface t v) (.iface t v')
  | func {fn : Fn} {a a' b b' : Array Value} (hs : a.size = a'.size) (h : ∀ (j : Nat) (x y : Value), a[j]? = some x → a'[j]? = some y → VRel m x y)
      (hs2 : b.size = b'.size) (h2 : ∀ (j : Nat) (x y : Value), b[j]? = some x → b'[j]? = some y → VRel m x y) : VRel m (.func fn a b) (.func fn a' b')

theorem VRel.mono {m m' : Mp} (hm : Mp.le m m') {a b : Value} (h : VRel m a b) : VRel m' a b := by
  induction h with
  | bool b => exact .bool b
  | int k n => exact .int k n
  | str s => exact .str s
  | nilp => exact .nilp
  | nils => exact .nils
  | nili => exact .nili
  | nilf => exact .nilf
  | ptr h hv => exact .ptr (hm _ _ h) hv
  | slc h hv hl hc => exact .slc (hm _ _ h) hv hl hc
  | vslc h hv => exact .vslc (hm _ _ h) hv
  | eslc h hv => exact .eslc (hm _ _ h) hv
  | agg hs _ ih => exact .agg hs ih
  | tuple hs _ ih => exact .tuple hs ih
  | iface _ ih => exact .iface ih
  | func hs _ hs2 _ ih ih2 => exact .func hs ih hs2 ih2
theorem VRel.one {m : Mp} {a b : Value} (h : VRel m a b) : b.oneCell' = a.oneCell' := by cases h <;> rfl

/-- Two rows of values. -/
def LRel (m : Mp) (xs ys : List Value) : Prop := xs.length = ys.length ∧ ∀ (j : Nat) (a b : Value), xs[j]? = some a → ys[j]? = some b → VRel m a b
theorem LRel.mono {m m' : Mp} (hm : Mp.le m m') {xs ys : List Value} (h : LRel m xs ys) : LRel m' xs ys := ⟨h.1, fun j a b ha hb => (h.2 j a b ha hb).mono hm⟩
theorem LRel.nil (m : Mp) : LRel m [] [] := ⟨rfl, fun j a b h => by simp at h⟩
theorem LRel.cons {m : Mp} {x y : Value} {xs ys : List Value} (h : VRel m x y) (hs : LRel m xs ys) : LRel m (x :: xs) (y :: ys) :=
  ⟨by simp [hs.1], fun j a b ha hb => by
    cases j with
    | zero => simp at ha hb; subst ha; subst hb; exact h
    | succ j => simp at ha hb; exact hs.2 j a b ha hb⟩
theorem LRel.cons_inv {m : Mp} {x : Value} {xs ys : List Value} (h : LRel m (x :: xs) ys) : ∃ y ys', ys = y :: ys' ∧ VRel m x y ∧ LRel m xs ys' := by
  cases ys with
  | nil => have := h.1; simp at this
  | cons y ys => exact ⟨y, ys, rfl, h.2 0 x y rfl rfl, by have := h.1; simpa using this, fun j a b ha hb => h.2 (j + 1) a b (by simpa using ha) (by simpa using hb)⟩
theorem LRel.nil_inv {m : Mp} {ys : List Value} (h : LRel m [] ys) : ys = [] := by
  have := h.1
  cases ys with
  | nil => rfl
  | cons _ _ => simp at this
theorem LRel.app {m : Mp} {a b c d : List Value} (h : LRel m a b) (k : LRel m c d) : LRel m (a ++ c) (b ++ d) := by
  refine ⟨by simp [h.1, k.1], fun j x y hx hy => ?_⟩
  have hl := h.1
  by_cases hj : j < a.length
  · rw [List.getElem?_append_left hj] at hx
    rw [List.getElem?_append_left (by omega)] at hy
    exact h.2 j x y hx hy
  · rw [List.getElem?_append_right (by omega)] at hx
    rw [List.getElem?_append_right (by omega)] at hy
    rw [← hl] at hy
    exact k.2 _ x y hx hy
theorem LRel.get {m : Mp} {xs ys : List Value} (h : LRel m xs ys) {j : Nat} {a : Value} (ha : xs[j]? = some a) : ∃ b, ys[j]? = some b ∧ VRel m a b := by
  have hj : j < xs.length := (List.getElem?_eq_some_iff.1 ha).1
  have hj' : j < ys.length := h.1 ▸ hj
  exact ⟨ys[j], List.getElem?_eq_getElem hj', h.2 j a _ ha (List.getElem?_eq_getElem hj')⟩
theorem LRel.take {m : Mp} {xs ys : List Value} (h : LRel m xs ys) (n : Nat) : LRel m (xs.take n) (ys.take n) :=
  ⟨by simp [h.1], fun j a b ha hb => by
    rw [List.getElem?_take] at ha hb
    split at ha
    · rename_i hj; rw [if_pos hj] at hb; exact h.2 j a b ha hb
    · cases ha⟩
theorem LRel.drop {m : Mp} {xs ys : List Value} (h : LRel m xs ys) (n : Nat) : LRel m (xs.drop n) (ys.drop n) :=
  ⟨by simp [h.1], fun j a b ha hb => by rw [List.getElem?_drop] at ha hb; exact h.2 _ a b ha hb⟩
theorem LRel.single {m : Mp} {x y : Value} (h : VRel m x y) : LRel m [x] [y] := .cons h (.nil m)
theorem LRel.cells {m : Mp} {a b : Value} (h : VRel m a b) : LRel m a.cells.toList b.cells.toList := by
  cases h with
  | agg hs h => exact ⟨by simpa [Value.cells] using hs, fun j x y hx hy => h j x y (by simpa [Value.cells] using hx) (by simpa [Value.cells] using hy)⟩
  | bool b => exact .single (.bool b)
  | int k n => exact .single (.int k n)
  | str s => exact .single (.str s)
  | nilp => exact .single .nilp
  | nils => exact .single .nils
  | nili => exact .single .nili
  | nilf => exact .single .nilf
  | ptr h hv => exact .single (.ptr h hv)
  | slc h hv hl hc => exact .single (.slc h hv hl hc)
  | vslc h hv => exact .single (.vslc h hv)
  | eslc h hv => exact .single (.eslc h hv)
  | tuple hs h => exact .single (.tuple hs h)
  | iface h => exact .single (.iface h)
  | func hs h hs2 h2 => exact .single (.func hs h hs2 h2)
theorem VRel.ofL {m : Mp} {xs ys : List Value} (h : LRel m xs ys) : VRel m (.agg xs.toArray) (.agg ys.toArray) :=
  .agg (by simpa using h.1) (fun j a b ha hb => h.2 j a b (by simpa using ha) (by simpa using hb))

/-- A block as the call knows it. -/
inductive ABlk where
  | cells (vs : List Value)
  | ro (vs : List Value)
  | row (s : Bool) (z : Nat) (els : List (List Value))
  | old (s : Bool) (z : Nat) (els : List (List Value))
  | iter (s : ByteArray) (pos : Nat)
  | dead
def ABlk.live : ABlk → Bool
  | .dead => false
  | _ => true
def ABlk.own : ABlk → Bool
  | .cells _ => true
  | .row _ _ _ => true
  | .iter _ _ => true
  | _ => false

/-- Elements of so many cells each. -/
def RowOk (z : Nat) (els : List (List Value)) : Prop := ∀ c ∈ els, c.length = z ∧ ∀ v ∈ c, v.oneCell' = true
theorem RowOk.len {z : Nat} {els : List (List Value)} (h : RowOk z els) : ∀ c ∈ els, c.length = z := fun c hc => (h c hc).1
theorem RowOk.nil (z : Nat) : RowOk z [] := fun c hc => by simp at hc
theorem RowOk.app {z : Nat} {a b : List (List Value)} (h : RowOk z a) (k : RowOk z b) : RowOk z (a ++ b) := fun c hc => (List.mem_append.1 hc).elim (h c) (k c)
theorem RowOk.take {z : Nat} {a : List (List Value)} (h : RowOk z a) (n : Nat) : RowOk z (a.take n) := fun c hc => h c (List.mem_of_mem_take hc)
theorem RowOk.drop {z : Nat} {a : List (List Value)} (h : RowOk z a) (n : Nat) : RowOk z (a.drop n) := fun c hc => h c (List.mem_of_mem_drop hc)
theorem RowOk.set {z : Nat} {a : List (List Value)} (h : RowOk z a) {c : List Value} (hc : c.length = z) (h1 : ∀ v ∈ c, v.oneCell' = true) (i : Nat) : RowOk z (a.set i c) := fun d hd => (List.mem_or_eq_of_mem_set hd).elim (h d) (fun e => by rw [e]; exact ⟨hc, h1⟩)

def BRel (m : Mp) (w : World) (i : MI) : ABlk → Prop
  | .cells vs => i.void = false ∧ i.off = 0 ∧ i.z = 0 ∧ ∃ (cs : Array Value) (T : TypeId), w.heap[i.blk]? = some (.cells cs T (0, 0)) ∧ LRel m vs cs.toList
  | .ro vs => i.void = false ∧ i.off = 0 ∧ i.z = 0 ∧ ∃ (cs : Array Value) (T : TypeId), w.heap[i.blk]? = some (.cells cs T (0, 0)) ∧ LRel m vs cs.toList
  | .row s z els => i.z = z ∧ i.off = 0 ∧ RowOk z els ∧ ((i.void = true ∧ els = [] ∧ s = false) ∨ (i.void = false ∧
      ∃ (cs : Array Value) (T : TypeId), w.heap[i.blk]? = some (.cells cs T (0, 0)) ∧ i.sz = cs.size ∧ els.length * z ≤ cs.size ∧
        ∀ (e : Nat) (c : List Value), els[e]? = some c → LRel m c ((cs.toList.drop (e * z)).take z)))
  | .old s z els => i.z = z ∧ RowOk z els ∧ ((i.void = true ∧ els = [] ∧ s = false) ∨ (i.void = false ∧ i.blk < w.heap.size ∧
      ∀ (e : Nat) (c : List Value) (k : Nat) (v : Value), els[e]? = some c → c[k]? = some v → ∃ b, w.cell? ⟨i.blk, i.off + e * z + k, none⟩ = some b ∧ VRel m v b))
  | .iter s p => i.void = false ∧ i.off = 0 ∧ i.z = 0 ∧ w.heap[i.blk]? = some (.stringIter s p)
  | .dead => True

theorem alloc_heap (w : World) (o : Obj) (k : Nat) (h : k < w.heap.size) : (w.alloc o).heap[k]? = w.heap[k]? := by
  show (w.heap.push o)[k]? = w.heap[k]?
  rw [Array.getElem?_push, if_neg (Nat.ne_of_lt h)]
theorem alloc_new (w : World) (o : Obj) : (w.alloc o).heap[w.heap.size]? = some o := by
  show (w.heap.push o)[w.heap.size]? = some o
  simp
theorem ABlk.own_live {b : ABlk} (h : b.own = true) : b.live = true := by cases b <;> first | rfl | cases h
theorem heap_lt {w : World} {k : Nat} {o : Obj} (h : w.heap[k]? = some o) : k < w.heap.size := (Array.getElem?_eq_some_iff.1 h).1

theorem BRel.mono {m m' : Mp} {w : World} {i : MI} {b : ABlk} (hm : Mp.le m m') (h : BRel m w i b) : BRel m' w i b := by
  cases b with
  | cells vs =>
    obtain ⟨h1, h2, h3, cs, T, h5, h6⟩ := h
    exact ⟨h1, h2, h3, cs, T, h5, h6.mono hm⟩
  | ro vs =>
    obtain ⟨h1, h2, h3, cs, T, h5, h6⟩ := h
    exact ⟨h1, h2, h3, cs, T, h5, h6.mono hm⟩
  | row s z els =>
    obtain ⟨h1, h2, h3, h4⟩ := h
    refine ⟨h1, h2, h3, h4.imp id ?_⟩
    rintro ⟨h5, cs, T, h7, h8, h9, h10⟩
    exact ⟨h5, cs, T, h7, h8, h9, fun e c he => (h10 e c he).mono hm⟩
  | old s z els =>
    obtain ⟨h1, h2, h3⟩ := h
    refine ⟨h1, h2, h3.imp id ?_⟩
    rintro ⟨h5, h6, h7⟩
    exact ⟨h5, h6, fun e c k v he hk => by obtain ⟨b, hb, hr⟩ := h7 e c k v he hk; exact ⟨b, hb, hr.mono hm⟩⟩
  | iter s p => exact h
  | dead => exact h

/-- What a block is rests on that block of memory alone. -/
theorem BRel.frame {m : Mp} {w w' : World} {i : MI} {b : ABlk} (h : BRel m w i b) (hk : i.void = false → i.blk < w.heap.size → w'.heap[i.blk]? = w.heap[i.blk]?) : BRel m w' i b := by
  have hlt : i.void = false → i.blk < w.heap.size → i.blk < w'.heap.size := fun h1 h2 => by
    have := hk h1 h2
    rw [Array.getElem?_eq_getElem h2] at this
    exact heap_lt this
  cases b with
  | cells vs =>
    obtain ⟨h1, h2, h3, cs, T, h5, h6⟩ := h
    exact ⟨h1, h2, h3, cs, T, (hk h1 (heap_lt h5)).trans h5, h6⟩
  | ro vs =>
    obtain ⟨h1, h2, h3, cs, T, h5, h6⟩ := h
    exact ⟨h1, h2, h3, cs, T, (hk h1 (heap_lt h5)).trans h5, h6⟩
  | row s z els =>
    obtain ⟨h1, h2, h3, h4⟩ := h
    refine ⟨h1, h2, h3, h4.imp id ?_⟩
    rintro ⟨h5, cs, T, h7, h8⟩
    exact ⟨h5, cs, T, (hk h5 (heap_lt h7)).trans h7, h8⟩
  | old s z els =>
    obtain ⟨h1, h2, h3⟩ := h
    refine ⟨h1, h2, h3.imp id ?_⟩
    rintro ⟨h5, h6, h7⟩
    refine ⟨h5, hlt h5 h6, fun e c k v he hv => ?_⟩
    obtain ⟨b, hb, hr⟩ := h7 e c k v he hv
    exact ⟨b, (World.cell?_of_block (w := w) (a := ⟨i.blk, i.off + e * z + k, none⟩) (hk h5 h6)).trans hb, hr⟩
  | iter s p =>
    obtain ⟨h1, h2, h3, h5⟩ := h
    exact ⟨h1, h2, h3, (hk h1 (heap_lt h5)).trans h5⟩
  | dead => trivial

theorem BRel.live_lt {m : Mp} {w : World} {i : MI} {b : ABlk} (h : BRel m w i b) (ho : b.live = true) (hv : i.void = false) : i.blk < w.heap.size := by
  cases b with
  | cells vs => obtain ⟨h1, h2, h3, cs, T, h5, h6⟩ := h; exact heap_lt h5
  | ro vs => obtain ⟨h1, h2, h3, cs, T, h5, h6⟩ := h; exact heap_lt h5
  | row s z els =>
    obtain ⟨h1, h2, h3, h4⟩ := h
    rcases h4 with ⟨h5, _⟩ | ⟨h5, cs, T, h7, _⟩
    · rw [hv] at h5; cases h5
    · exact heap_lt h7
  | old s z els =>
    obtain ⟨h1, h2, h4⟩ := h
    rcases h4 with ⟨h5, _⟩ | ⟨h5, h6, _⟩
    · rw [hv] at h5; cases h5
    · exact h6
  | iter s p => obtain ⟨h1, h2, h3, h5⟩ := h; exact heap_lt h5
  | dead => cases ho
theorem BRel.own_lt {m : Mp} {w : World} {i : MI} {b : ABlk} (h : BRel m w i b) (ho : b.own = true) (hv : i.void = false) : i.blk < w.heap.size := h.live_lt (ABlk.own_live ho) hv

abbrev AHeap := List ABlk

/-- Which real blocks the call owns. -/
def Owned (m : Mp) (H : AHeap) (k : Nat) : Prop := ∃ id i b, m id = some i ∧ H[id]? = some b ∧ b.own = true ∧ i.void = false ∧ i.blk = k

structure Match (m : Mp) (H : AHeap) (w : World) : Prop where
  has : ∀ id i, m id = some i → ∃ b, H[id]? = some b ∧ BRel m w i b
  inj : ∀ id id' i i' b b', m id = some i → m id' = some i' → H[id]? = some b → H[id']? = some b' → b.own = true → b'.live = true → i.void = false → i'.void = false → i.blk = i'.blk → id = id'
  base : Base w
  ownb : ∀ id i b, m id = some i → H[id]? = some b → b.own = true → i.void = false → NB i.blk

theorem Match.lt {m : Mp} {H : AHeap} {w : World} (h : Match m H w) {id : Nat} {i : MI} (hi : m id = some i) : id < H.length := by
  obtain ⟨b, hb, _⟩ := h.has id i hi
  exact (List.getElem?_eq_some_iff.1 hb).1
theorem Match.fresh {m : Mp} {H : AHeap} {w : World} (h : Match m H w) : m H.length = none := by
  cases e : m H.length with
  | none => rfl
  | some i => exact absurd (h.lt e) (Nat.lt_irrefl _)
theorem Match.owned_lt {m : Mp} {H : AHeap} {w : World} (h : Match m H w) {k : Nat} (ho : Owned m H k) : k < w.heap.size := by
  obtain ⟨id, i, b, h1, h2, h3, h4, rfl⟩ := ho
  obtain ⟨b', hb', hr⟩ := h.has id i h1
  rw [h2] at hb'
  cases hb'
  exact hr.own_lt h3 h4

/-- How a call stands: what it knows, against how it began. -/
structure Run (m0 : Mp) (H0 : AHeap) (w0 : World) (H : AHeap) (m : Mp) (w : World) : Prop where
  mt : Match m H w
  ext : Mp.le m0 m
  dom : ∀ id, id < H0.length → m id = m0 id
  len : H0.length ≤ H.length
  old : ∀ id b, id < H0.length → H[id]? = some b → b.live = true → ∃ b0, H0[id]? = some b0 ∧ b0.live = true ∧ (b.own = true → b0.own = true)
  new : ∀ id i b, H0.length ≤ id → m id = some i → H[id]? = some b → b.live = true → i.void = false → w0.heap.size ≤ i.blk ∨ Owned m0 H0 i.blk
  os : w.os = w0.os
  tape : w.tape = w0.tape
  output : w.output = w0.output
  size : w0.heap.size ≤ w.heap.size
  keep : ∀ k, k < w0.heap.size → ¬ Owned m0 H0 k → w.heap[k]? = w0.heap[k]?

section
variable {m0 : Mp} {H0 : AHeap} {w0 : World} {H : AHeap} {m : Mp} {w w' : World}

theorem Run.start (h : Match m0 H0 w0) : Run m0 H0 w0 H0 m0 w0 :=
  ⟨h, Mp.le_refl _, fun _ _ => rfl, Nat.le_refl _, fun id b _ hb hl => ⟨b, hb, hl, fun h => h⟩, fun id i b hn hi _ _ _ => absurd (h.lt hi) (by omega), rfl, rfl, rfl, Nat.le_refl _, fun _ _ _ => rfl⟩
theorem Run.orig (h : Run m0 H0 w0 H m w) (k : Nat) (hk : Owned m H k) : w0.heap.size ≤ k ∨ Owned m0 H0 k := by
  obtain ⟨id, i, b, h1, h2, h3, h4, rfl⟩ := hk
  rcases Nat.lt_or_ge id H0.length with hl | hl
  · obtain ⟨b0, g1, g2, g3⟩ := h.old id b hl h2 (ABlk.own_live h3)
    exact .inr ⟨id, i, b0, by rw [← h.dom id hl]; exact h1, g1, g3 h3, h4, rfl⟩
  · exact h.new id i b hl h1 h2 (ABlk.own_live h3) h4

/-- Behind what turns no memory. -/
theorem Run.same (h : Run m0 H0 w0 H m w) (hh : w'.heap = w.heap) (ho : w'.os = w.os) (ht : w'.tape = w.tape) (hp : w'.output = w.output) : Run m0 H0 w0 H m w' where
  mt := ⟨fun id i hi => by obtain ⟨b, hb, hr⟩ := h.mt.has id i hi; exact ⟨b, hb, hr.frame (fun _ _ => by rw [hh])⟩, h.mt.inj, base_keep h.mt.base (by rw [hh]; exact Nat.le_refl _) (fun k _ _ => by rw [hh]), h.mt.ownb⟩
  ext := h.ext
  dom := h.dom
  len := h.len
  old := h.old
  new := h.new
  os := ho.trans h.os
  tape := ht.trans h.tape
  output := hp.trans h.output
  size := by rw [hh]; exact h.size
  keep := fun k hk hn => by rw [hh]; exact h.keep k hk hn
theorem Run.drew (h : Run m0 H0 w0 H m w) : Run m0 H0 w0 H m w.drew := h.same rfl rfl rfl rfl

theorem owned_set {id : Nat} {i : MI} {b b' : ABlk} (hi : m id = some i) (hb : H[id]? = some b) (ho : b.own = true) {k : Nat} (h : Owned m (H.set id b') k) : Owned m H k := by
  obtain ⟨j, i', c, h1, h2, h3, h4, h5⟩ := h
  by_cases e : id = j
  · subst e
    rw [hi] at h1
    cases h1
    exact ⟨id, i, b, hi, hb, ho, h4, h5⟩
  · rw [List.getElem?_set_ne e] at h2
    exact ⟨j, i', c, h1, h2, h3, h4, h5⟩

/-- One own block is turned. -/
theorem Run.write (h : Run m0 H0 w0 H m w) {id : Nat} {i : MI} {b b' : ABlk} (hi : m id = some i) (hb : H[id]? = some b) (ho : b.own = true) (hv : i.void = false)
    (hb' : BRel m w' i b') (hh : ∀ k, k ≠ i.blk → w'.heap[k]? = w.heap[k]?) (hz : w'.heap.size = w.heap.size) (hos : w'.os = w.os) (ht : w'.tape = w.tape) (hp : w'.output = w.output) (ho' : b'.own = true) :
    Run m0 H0 w0 (H.set id b') m w' := by
  have hlt : id < H.length := h.mt.lt hi
  have hown : Owned m H i.blk := ⟨id, i, b, hi, hb, ho, hv, rfl⟩
  have g : ∀ (q : Nat) (bq : ABlk), (H.set id b')[q]? = some bq → ∃ c, H[q]? = some c ∧ (bq.own = true → c.own = true) ∧ (bq.live = true → c.live = true) := by
    intro q bq hq2
    by_cases e : id = q
    · subst e; exact ⟨b, hb, fun _ => ho, fun _ => ABlk.own_live ho⟩
    · rw [List.getElem?_set_ne e] at hq2; exact ⟨bq, hq2, fun h => h, fun h => h⟩
  refine ⟨⟨fun j i' hj => ?_, fun j j' i1 i2 b1 b2 h1 h2 h3 h4 h5 h6 h7 h8 h9 => ?_, base_keep h.mt.base (by rw [hz]; exact Nat.le_refl _) (fun k _ hn => hh k fun e => hn (by rw [e]; exact h.mt.ownb id i b hi hb ho hv)), fun j i' bj hj hbj hoj hvj => by obtain ⟨c, hc, hco, _⟩ := g j bj hbj; exact h.mt.ownb j i' c hj hc (hco hoj) hvj⟩, h.ext, h.dom, by rw [List.length_set]; exact h.len, fun q bq hq hbq hl => ?_, fun q iq bq hq hiq hbq hl hvq => ?_, hos.trans h.os, ht.trans h.tape, hp.trans h.output, by rw [hz]; exact h.size, fun k hk hn => ?_⟩
  · by_cases e : id = j
    · subst e
      rw [hi] at hj
      cases hj
      exact ⟨b', List.getElem?_set_self hlt, hb'⟩
    · obtain ⟨c, hc, hr⟩ := h.mt.has j i' hj
      refine ⟨c, by rw [List.getElem?_set_ne e]; exact hc, ?_⟩
      cases hco : c.live with
      | true => exact hr.frame fun hv' _ => hh _ fun e' => e (h.mt.inj id j i i' b c hi hj hb hc ho hco hv hv' e'.symm)
      | false => cases c <;> first | trivial | cases hco
  · obtain ⟨c1, g1, g2, _⟩ := g j b1 h3
    obtain ⟨c2, g3, _, g4⟩ := g j' b2 h4
    exact h.mt.inj j j' i1 i2 c1 c2 h1 h2 g1 g3 (g2 h5) (g4 h6) h7 h8 h9
  · by_cases e : id = q
    · subst e
      obtain ⟨b0, r1, r2, r3⟩ := h.old id b hq hb (ABlk.own_live ho)
      exact ⟨b0, r1, r2, fun _ => r3 ho⟩
    · rw [List.getElem?_set_ne e] at hbq
      exact h.old q bq hq hbq hl
  · by_cases e : id = q
    · subst e
      rw [hi] at hiq
      cases hiq
      exact h.new id i b hq hi hb (ABlk.own_live ho) hv
    · rw [List.getElem?_set_ne e] at hbq
      exact h.new q iq bq hq hiq hbq hl hvq
  · have : k ≠ i.blk := by
      rintro rfl
      rcases h.orig _ hown with h' | h'
      · omega
      · exact hn h'
    rw [hh k this]
    exact h.keep k hk hn

/-- A block is let go. -/
theorem Run.kill (h : Run m0 H0 w0 H m w) (id : Nat) : Run m0 H0 w0 (H.set id .dead) m w := by
  have g : ∀ (q : Nat) (bq : ABlk), (H.set id .dead)[q]? = some bq → bq.live = true → H[q]? = some bq := by
    intro q bq hq ho
    by_cases e : id = q
    · subst e
      rw [List.getElem?_set] at hq
      simp at hq
      obtain ⟨_, rfl⟩ := hq
      cases ho
    · rwa [List.getElem?_set_ne e] at hq
  refine ⟨⟨fun j i' hj => ?_, fun j j' i1 i2 b1 b2 h1 h2 h3 h4 h5 h6 h7 h8 h9 => h.mt.inj j j' i1 i2 b1 b2 h1 h2 (g _ _ h3 (ABlk.own_live h5)) (g _ _ h4 h6) h5 h6 h7 h8 h9, h.mt.base, fun j i' bj hj hbj hoj hvj => h.mt.ownb j i' bj hj (g _ _ hbj (ABlk.own_live hoj)) hoj hvj⟩, h.ext, h.dom, by rw [List.length_set]; exact h.len, fun q bq hq hbq hl => h.old q bq hq (g _ _ hbq hl) hl, fun q iq bq hq hiq hbq hl hvq => h.new q iq bq hq hiq (g _ _ hbq hl) hl hvq, h.os, h.tape, h.output, h.size, h.keep⟩
  obtain ⟨c, hc, hr⟩ := h.mt.has j i' hj
  by_cases e : id = j
  · subst e
    exact ⟨.dead, List.getElem?_set_self (h.mt.lt hj), trivial⟩
  · exact ⟨c, by rw [List.getElem?_set_ne e]; exact hc, hr⟩

/-- Blocks that are not dead, in memory. -/
def Lives (m : Mp) (H : AHeap) (k : Nat) : Prop := ∃ id i b, m id = some i ∧ H[id]? = some b ∧ b.live = true ∧ i.void = false ∧ i.blk = k
theorem Match.lives_lt {m : Mp} {H : AHeap} {w : World} (h : Match m H w) {k : Nat} (ho : Lives m H k) : k < w.heap.size := by
  obtain ⟨id, i, b, h1, h2, h3, h4, rfl⟩ := ho
  obtain ⟨b', hb', hr⟩ := h.has id i h1
  rw [h2] at hb'
  cases hb'
  exact hr.live_lt h3 h4
/-- A block that is known anew: one of memory's that is new, or a row that lies nowhere, or one of the call's own whose other name is dead. -/
theorem Run.name (h : Run m0 H0 w0 H m w) (i : MI) (b : ABlk) (hb : BRel (upd m H.length i) w i b)
    (hnew : b.live = true → i.void = false → (∀ k, Lives m H k → k ≠ i.blk) ∧ (w0.heap.size ≤ i.blk ∨ Owned m0 H0 i.blk)) (hnb : b.own = true → i.void = false → NB i.blk) : Run m0 H0 w0 (H ++ [b]) (upd m H.length i) w := by
  have hf := h.mt.fresh
  have hle := le_upd i hf
  have hg : ∀ q, q ≠ H.length → (H ++ [b])[q]? = H[q]? := by
    intro q hq
    rcases Nat.lt_or_ge q H.length with hl | hl
    · rw [List.getElem?_append_left hl]
    · rw [List.getElem?_eq_none hl, List.getElem?_eq_none (by simp; omega)]
  have hs : (H ++ [b])[H.length]? = some b := by simp
  have hold : ∀ q iq, upd m H.length i q = some iq → q ≠ H.length → m q = some iq := by
    intro q iq hq hn
    unfold upd at hq
    rwa [if_neg hn] at hq
  have hnw : ∀ iq, upd m H.length i H.length = some iq → iq = i := by
    intro iq hq
    unfold upd at hq
    rw [if_pos rfl] at hq
    exact (Option.some.inj hq).symm
  refine ⟨⟨fun j i' hj => ?_, fun j j' i1 i2 b1 b2 h1 h2 h3 h4 h5 h6 h7 h8 h9 => ?_, h.mt.base, fun j i' bj hj hbj hoj hvj => ?_⟩, Mp.le_trans h.ext hle, fun q hq => ?_, by have := h.len; simp; omega, fun q bq hq hbq hl => ?_, fun q iq bq hq hiq hbq hl hvq => ?_, h.os, h.tape, h.output, h.size, h.keep⟩
  · by_cases e : j = H.length
    · subst e
      cases hnw _ hj
      exact ⟨b, hs, hb⟩
    · obtain ⟨c, hc, hr⟩ := h.mt.has j i' (hold _ _ hj e)
      exact ⟨c, by rw [hg j e]; exact hc, hr.mono hle⟩
  · by_cases e : j = H.length <;> by_cases e' : j' = H.length
    · rw [e, e']
    · subst e
      rw [hs] at h3
      cases h3
      cases hnw _ h1
      have := (hnew (ABlk.own_live h5) h7).1 i2.blk ⟨j', i2, b2, hold _ _ h2 e', by rwa [hg j' e'] at h4, h6, h8, rfl⟩
      exact absurd h9.symm this
    · subst e'
      rw [hs] at h4
      cases h4
      cases hnw _ h2
      have := (hnew h6 h8).1 i1.blk ⟨j, i1, b1, hold _ _ h1 e, by rwa [hg j e] at h3, ABlk.own_live h5, h7, rfl⟩
      exact absurd h9 this
    · exact h.mt.inj j j' i1 i2 b1 b2 (hold _ _ h1 e) (hold _ _ h2 e') (by rwa [hg j e] at h3) (by rwa [hg j' e'] at h4) h5 h6 h7 h8 h9
  · by_cases e : j = H.length
    · subst e
      cases hnw _ hj
      rw [hs] at hbj
      cases hbj
      exact hnb hoj hvj
    · exact h.mt.ownb j i' bj (hold _ _ hj e) (by rwa [hg j e] at hbj) hoj hvj
  · unfold upd
    rw [if_neg (by have := h.len; omega)]
    exact h.dom q hq
  · have e : q ≠ H.length := by have := h.len; omega
    rw [hg q e] at hbq
    exact h.old q bq hq hbq hl
  · by_cases e : q = H.length
    · subst e
      rw [hs] at hbq
      cases hbq
      cases hnw _ hiq
      exact (hnew hl hvq).2
    · rw [hg q e] at hbq
      exact h.new q iq bq hq (hold _ _ hiq e) hbq hl hvq

/-- Memory grows by one block. -/
theorem Run.grow (h : Run m0 H0 w0 H m w) (o : Obj) : Run m0 H0 w0 H m (w.alloc o) where
  mt := ⟨fun id i hi => by obtain ⟨b, hb, hr⟩ := h.mt.has id i hi; exact ⟨b, hb, hr.frame (fun _ hl => alloc_heap w o _ hl)⟩, h.mt.inj, base_keep h.mt.base (by simp) (fun k hk _ => alloc_heap w o k hk), h.mt.ownb⟩
  ext := h.ext
  dom := h.dom
  len := h.len
  old := h.old
  new := h.new
  os := h.os
  tape := h.tape
  output := h.output
  size := by have := h.size; simp; omega
  keep := fun k hk hn => by rw [alloc_heap w o k (by have := h.size; omega)]; exact h.keep k hk hn

theorem Run.made (h : Run m0 H0 w0 H m w) (o : Obj) (i : MI) (hi : i.blk = w.heap.size) (b : ABlk) (hb : BRel (upd m H.length i) (w.alloc o) i b) :
    Run m0 H0 w0 (H ++ [b]) (upd m H.length i) (w.alloc o) :=
  (h.grow o).name i b hb (fun _ _ => ⟨fun k hk e => by have := h.mt.lives_lt hk; omega, .inl (by rw [hi]; exact h.size)⟩) (fun _ _ => nb_new h.mt.base (by omega))
/-- What a step leaves of memory: all blocks but those of some names; it only grows. -/
structure Frame (m : Mp) (tc : List Nat) (w w' : World) : Prop where
  size : w.heap.size ≤ w'.heap.size
  keep : ∀ k, k < w.heap.size → (∀ id ∈ tc, ∀ i, m id = some i → i.void = false → i.blk ≠ k) → w'.heap[k]? = w.heap[k]?
theorem Frame.refl (m : Mp) (tc : List Nat) (w : World) : Frame m tc w w := ⟨Nat.le_refl _, fun _ _ _ => rfl⟩
theorem Frame.same (m : Mp) (tc : List Nat) (h : w'.heap = w.heap) : Frame m tc w w' := ⟨by rw [h]; exact Nat.le_refl _, fun _ _ _ => by rw [h]⟩
theorem Frame.alloc (m : Mp) (tc : List Nat) (w : World) (o : Obj) : Frame m tc w (w.alloc o) := ⟨by simp, fun k hk _ => alloc_heap w o k hk⟩
theorem Frame.drewAlloc (m : Mp) (tc : List Nat) (w : World) (o : Obj) : Frame m tc w (w.drew.alloc o) := ⟨by simp, fun k hk _ => alloc_heap w.drew o k hk⟩
theorem Frame.row (m : Mp) {id : Nat} {i : MI} (hi : m id = some i) (hv : i.void = false) (w : World) (arr : Array Value) : Frame m [id] w (w.setRow i.blk arr) :=
  ⟨by simp, fun k _ h => setRow_other w i.blk k arr (fun e => h id (by simp) i hi hv e.symm)⟩
end
end Go.Proofs.Ytpgkbdkkcladcaa.Eng
/- The engine, part 2: what an operation does to what a call knows, and that memory follows. A lemma file: it claims nothing of the program. -/
namespace Go.Proofs.Ytpgkbdkkcladcaa.Eng
open Go

/-- What a type is. -/
inductive TD where
  | int (k : IntKind)
  | bool
  | str
  | slice (e : TypeId)
  | struct (fs : List (Nat × TypeId))
  | array (n : Nat) (e : TypeId)
  | ptr (e : TypeId)
  | iface
  | other
def tdOf : TypeDesc → TD
  | .int k => .int k
  | .bool => .bool
  | .string => .str
  | .slice e => .slice e
  | .struct fs => .struct (fs.toList.map fun f => (f.offset, f.type))
  | .array n e => .array n e
  | .pointer e => .ptr e
  | .interface _ => .iface
  | _ => .other
/-- What a cell of a struct that is compared holds. -/
inductive CK where
  | i (k : IntKind)
  | b
  | s
structure TInfo where
  d : TD
  size : Nat
  bytes : Nat
  zero : Value
  eqs : Option (List CK)
def TInfo.agg (i : TInfo) : Bool := match i.d with
  | .struct _ => true
  | .array _ _ => true
  | _ => false

abbrev Tab := TypeId → Option TInfo

/-- Values of numbers, bools, texts alone. -/
def scal : Value → Bool
  | .bool _ => true
  | .int _ _ => true
  | .string _ => true
  | _ => false
def eqV : CK → Value → Value → Option Bool
  | .b, .bool a, .bool b => some (a == b)
  | .i q, .int k a, .int k' b => if k = q ∧ k' = q then some (a == b) else none
  | .s, .string a, .string b => some (a.toList == b.toList)
  | _, _, _ => none
def eqL : List CK → List Value → List Value → Option Bool
  | [], [], [] => some true
  | c :: cs, x :: xs, y :: ys => match eqV c x y, eqL cs xs ys with
    | some p, some q => some (p && q)
    | _, _ => none
  | _, _, _ => none

structure TOk (P : Program) (I : Tab) : Prop where
  ok : ∀ t i, I t = some i → ∃ u inf, P.underlying t = some u ∧ P.info? t = some inf ∧ tdOf u = i.d ∧ inf.size = i.size ∧ inf.bytes = i.bytes ∧ inf.zero = some i.zero
  eq : ∀ t i cs, I t = some i → i.eqs = some cs → P.eqGuardType P.depth t = false ∧ ∀ (xs ys : List Value) (b : Bool) (w : World), xs.length = i.size → eqL cs xs ys = some b → (Op.equalIn 10000 t (.agg xs.toArray) (.agg ys.toArray)).run P w = .ok b w

section
variable {P : Program} {I : Tab}
theorem TOk.size (h : TOk P I) {t : TypeId} {i : TInfo} (hi : I t = some i) (w : World) : (sizeOf t).run P w = .ok i.size w := by
  obtain ⟨u, inf, _, h2, _, h4, _⟩ := h.ok t i hi
  simp [sizeOf, typeInfo, h2, h4]
theorem TOk.zeroV (h : TOk P I) {t : TypeId} {i : TInfo} (hi : I t = some i) (w : World) : (zeroValue t).run P w = .ok i.zero w := by
  obtain ⟨u, inf, _, h2, _, _, _, h6⟩ := h.ok t i hi
  simp [zeroValue, typeInfo, h2, h6]
theorem TOk.isAgg (h : TOk P I) {t : TypeId} {i : TInfo} (hi : I t = some i) (w : World) : (isAgg t).run P w = .ok i.agg w := by
  obtain ⟨u, inf, h1, _, h3, _⟩ := h.ok t i hi
  unfold Go.isAgg TInfo.agg
  rw [← h3, Sem.run_bind, run_underlying h1 w, Result.andThen_ok]
  cases u <;> rfl
theorem TOk.und (h : TOk P I) {t : TypeId} {i : TInfo} (hi : I t = some i) : ∃ u, P.underlying t = some u ∧ tdOf u = i.d := by
  obtain ⟨u, inf, h1, _, h3, _⟩ := h.ok t i hi
  exact ⟨u, h1, h3⟩
theorem td_slice {u : TypeDesc} {e : TypeId} (h : tdOf u = .slice e) : u = .slice e := by cases u <;> simp_all [tdOf]
theorem td_array {u : TypeDesc} {n : Nat} {e : TypeId} (h : tdOf u = .array n e) : u = .array n e := by cases u <;> simp_all [tdOf]
theorem td_str {u : TypeDesc} (h : tdOf u = .str) : u = .string := by cases u <;> simp_all [tdOf]
theorem td_bool {u : TypeDesc} (h : tdOf u = .bool) : u = .bool := by cases u <;> simp_all [tdOf]
theorem td_int {u : TypeDesc} {k : IntKind} (h : tdOf u = .int k) : u = .int k := by cases u <;> simp_all [tdOf]
theorem td_ptr {u : TypeDesc} {e : TypeId} (h : tdOf u = .ptr e) : u = .pointer e := by cases u <;> simp_all [tdOf]
theorem td_struct {u : TypeDesc} {fs : List (Nat × TypeId)} (h : tdOf u = .struct fs) : ∃ fields : Array Field, u = .struct fields ∧ fs = fields.toList.map fun f => (f.offset, f.type) := by
  cases u <;> simp_all [tdOf]
theorem TOk.struct (h : TOk P I) {t : TypeId} {i : TInfo} {fs : List (Nat × TypeId)} (hi : I t = some i) (hd : i.d = .struct fs) : ∃ fields : Array Field, P.underlying t = some (.struct fields) ∧ fs = fields.toList.map fun f => (f.offset, f.type) := by
  obtain ⟨u, h1, h3⟩ := h.und hi
  obtain ⟨fields, rfl, he⟩ := td_struct (h3.trans hd)
  exact ⟨fields, h1, he⟩
theorem TOk.slice (h : TOk P I) {t e : TypeId} {i : TInfo} (hi : I t = some i) (hd : i.d = .slice e) : P.underlying t = some (.slice e) := by
  obtain ⟨u, h1, h3⟩ := h.und hi
  rw [h1, td_slice (h3.trans hd)]
theorem TOk.array (h : TOk P I) {t e : TypeId} {n : Nat} {i : TInfo} (hi : I t = some i) (hd : i.d = .array n e) : P.underlying t = some (.array n e) := by
  obtain ⟨u, h1, h3⟩ := h.und hi
  rw [h1, td_array (h3.trans hd)]
theorem TOk.str (h : TOk P I) {t : TypeId} {i : TInfo} (hi : I t = some i) (hd : i.d = .str) : P.underlying t = some .string := by
  obtain ⟨u, h1, h3⟩ := h.und hi
  rw [h1, td_str (h3.trans hd)]
theorem TOk.int (h : TOk P I) {t : TypeId} {k : IntKind} {i : TInfo} (hi : I t = some i) (hd : i.d = .int k) : P.underlying t = some (.int k) := by
  obtain ⟨u, h1, h3⟩ := h.und hi
  rw [h1, td_int (h3.trans hd)]
theorem TOk.bool (h : TOk P I) {t : TypeId} {i : TInfo} (hi : I t = some i) (hd : i.d = .bool) : P.underlying t = some .bool := by
  obtain ⟨u, h1, h3⟩ := h.und hi
  rw [h1, td_bool (h3.trans hd)]
theorem TOk.ptr (h : TOk P I) {t e : TypeId} {i : TInfo} (hi : I t = some i) (hd : i.d = .ptr e) : P.underlying t = some (.pointer e) := by
  obtain ⟨u, h1, h3⟩ := h.und hi
  rw [h1, td_ptr (h3.trans hd)]
end

/-! ### operands -/
abbrev TM := List (Nat × Value)
def flat1 : Value → Bool
  | .bool _ => true
  | .int _ _ => true
  | .string _ => true
  | .pointer none => true
  | .slice none 0 0 => true
  | .nilIface => true
  | .nilFunc => true
  | _ => false
def flatV : Value → Bool
  | .agg cs => cs.toList.all flat1
  | v => flat1 v
theorem flat1_ok (m : Mp) {v : Value} (h : flat1 v = true) : VRel m v v := by
  unfold flat1 at h
  split at h
  · exact .bool _
  · exact .int _ _
  · exact .str _
  · exact .nilp
  · exact .nils
  · exact .nili
  · exact .nilf
  · cases h
theorem flatL_ok (m : Mp) {l : List Value} (h : l.all flat1 = true) : LRel m l l :=
  ⟨rfl, fun j a b ha hb => by
    rw [ha] at hb
    cases hb
    exact flat1_ok m (List.all_eq_true.1 h a (List.mem_of_getElem? ha))⟩
theorem flatV_ok (m : Mp) {v : Value} (h : flatV v = true) : VRel m v v := by
  unfold flatV at h
  split at h
  · have := VRel.ofL (flatL_ok m h)
    simpa using this
  · exact flat1_ok m h

def ev (T : TM) : Operand → Option Value
  | .tmp t => T.lookup t
  | .const v => if flatV v = true then some v else none
  | .func f => some (.func (.func f) #[] #[])
  | .global _ => none
def TRel (m : Mp) (T : TM) (a : Act) : Prop := ∀ t v, T.lookup t = some v → t < a.tmps.size ∧ VRel m v (a.tmps.getD t undef)
theorem TRel.mono {m m' : Mp} (hm : Mp.le m m') {T : TM} {a : Act} (h : TRel m T a) : TRel m' T a := fun t v ht => ⟨(h t v ht).1, (h t v ht).2.mono hm⟩
theorem ev_ok {m : Mp} {T : TM} {a : Act} (h : TRel m T a) {x : Operand} {v : Value} (he : ev T x = some v) : VRel m v (a.eval x) := by
  cases x with
  | tmp t => exact (h t v he).2
  | const c =>
    simp only [ev] at he
    split at he
    · rename_i hf
      cases he
      exact flatV_ok m hf
    · cases he
  | func f =>
    simp only [ev, Option.some.injEq] at he
    subst he
    exact .func rfl (fun j x y hx => by simp at hx) rfl (fun j x y hx => by simp at hx)
  | global g => cases he
def put (T : TM) (dst : Option Tmp) (v : Value) : TM := match dst with
  | some d => (d, v) :: T
  | none => T
theorem put_ok {m : Mp} {T : TM} {a : Act} (h : TRel m T a) {dst : Option Tmp} {v v' : Value} (hv : VRel m v v') (hd : ∀ d, dst = some d → d < a.tmps.size) : TRel m (put T dst v) (a.put dst v') := by
  cases dst with
  | none => exact h
  | some d =>
    have hlt := hd d rfl
    intro t u ht
    simp only [put, List.lookup_cons] at ht
    show t < (a.tmps.setIfInBounds d v').size ∧ VRel m u ((a.tmps.setIfInBounds d v').getD t undef)
    rw [Array.size_setIfInBounds]
    by_cases e : t = d
    · subst e
      simp only [beq_self_eq_true] at ht
      cases ht
      refine ⟨hlt, ?_⟩
      simp [Array.getD_eq_getD_getElem?, hlt, hv]
    · have hb : (t == d) = false := by simpa using e
      rw [hb] at ht
      obtain ⟨h1, h2⟩ := h t u ht
      refine ⟨h1, ?_⟩
      rw [Array.getD_eq_getD_getElem?, Array.getElem?_setIfInBounds_ne (fun h => e h.symm)]
      rw [Array.getD_eq_getD_getElem?] at h2
      exact h2
theorem undef_ok (m : Mp) : VRel m undef undef := .tuple rfl fun j a b ha => by simp at ha

/-! ### reading and writing -/
def rd : ABlk → Option Nat → Nat → Nat → Option (List Value)
  | .cells vs, none, k, n => if k + n ≤ vs.length then some ((vs.drop k).take n) else none
  | .ro vs, none, k, n => if k + n ≤ vs.length then some ((vs.drop k).take n) else none
  | .row _ _ els, some e, k, n => match els[e]? with
    | some c => if k + n ≤ c.length then some ((c.drop k).take n) else none
    | none => none
  | .old _ _ els, some e, k, n => match els[e]? with
    | some c => if k + n ≤ c.length then some ((c.drop k).take n) else none
    | none => none
  | _, _, _, _ => none
def wr : ABlk → Option Nat → Nat → List Value → Option ABlk
  | .cells vs, none, k, cs => if k + cs.length ≤ vs.length then some (.cells (vs.take k ++ cs ++ vs.drop (k + cs.length))) else none
  | .row s z els, some e, k, cs => match els[e]? with
    | some c => if k + cs.length ≤ c.length then some (.row s z (els.set e (c.take k ++ cs ++ c.drop (k + cs.length)))) else none
    | none => none
  | _, _, _, _ => none

section
variable {m : Mp} {w : World}
theorem mul_fit {e n z : Nat} (h : e < n) : e * z + z ≤ n * z := by
  have := Nat.mul_le_mul_right z (show e + 1 ≤ n from h)
  rwa [Nat.add_mul, Nat.one_mul] at this
theorem drop_take_get {α : Type} {l : List α} {k n j : Nat} {a : α} (h : ((l.drop k).take n)[j]? = some a) : j < n ∧ l[k + j]? = some a := by
  rw [List.getElem?_take] at h
  split at h
  · rename_i hj
    rw [List.getElem?_drop] at h
    exact ⟨hj, h⟩
  · cases h
/-- What is read of a block as it is known stands in memory. -/
theorem rd_cell {i : MI} {b : ABlk} (h : BRel m w i b) {s : Option Nat} {k n : Nat} {cs : List Value} (hr : rd b s k n = some cs) :
    i.void = false → ∀ (j : Nat) (a : Value), cs[j]? = some a → ∃ v, w.cell? ⟨i.blk, i.off + s.getD 0 * i.z + k + j, none⟩ = some v ∧ VRel m a v := by
  intro hv j a ha
  cases b with
  | cells vs =>
    cases s with
    | some e => simp [rd] at hr
    | none =>
      obtain ⟨_, h2, h3, arr, T, h5, h6⟩ := h
      simp only [rd] at hr
      split at hr
      · cases hr
        obtain ⟨hj, ha⟩ := drop_take_get ha
        obtain ⟨v, hv1, hv2⟩ := h6.get ha
        refine ⟨v, ?_, hv2⟩
        simp only [World.cell?, h5]
        rw [h2]
        simpa using hv1
      · cases hr
  | ro vs =>
    cases s with
    | some e => simp [rd] at hr
    | none =>
      obtain ⟨_, h2, h3, arr, T, h5, h6⟩ := h
      simp only [rd] at hr
      split at hr
      · cases hr
        obtain ⟨hj, ha⟩ := drop_take_get ha
        obtain ⟨v, hv1, hv2⟩ := h6.get ha
        refine ⟨v, ?_, hv2⟩
        simp only [World.cell?, h5]
        rw [h2]
        simpa using hv1
      · cases hr
  | row sr z els =>
    cases s with
    | none => simp [rd] at hr
    | some e =>
      obtain ⟨h1, h2, h3, h4⟩ := h
      rcases h4 with ⟨h5, _⟩ | ⟨_, arr, T, h7, h8, h9, h10⟩
      · rw [hv] at h5; cases h5
      · simp only [rd] at hr
        split at hr
        · rename_i c hc
          split at hr
          · cases hr
            obtain ⟨hj, ha⟩ := drop_take_get ha
            obtain ⟨v, hv1, hv2⟩ := (h10 e c hc).get ha
            obtain ⟨hj2, hv1⟩ := drop_take_get hv1
            refine ⟨v, ?_, hv2⟩
            simp only [World.cell?, h7, h2, h1]
            have : e * z + (k + j) = 0 + (some e).getD 0 * z + k + j := by simp; omega
            rw [this] at hv1
            simpa using hv1
          · cases hr
        · cases hr
  | old sr z els =>
    cases s with
    | none => simp [rd] at hr
    | some e =>
      obtain ⟨h1, h2, h3⟩ := h
      rcases h3 with ⟨h5, _⟩ | ⟨_, _, h7⟩
      · rw [hv] at h5; cases h5
      · simp only [rd] at hr
        split at hr
        · rename_i c hc
          split at hr
          · cases hr
            obtain ⟨hj, ha⟩ := drop_take_get ha
            obtain ⟨v, hv1, hv2⟩ := h7 e c (k + j) a hc ha
            refine ⟨v, ?_, hv2⟩
            rw [h1]
            have : i.off + e * z + (k + j) = i.off + (some e).getD 0 * z + k + j := by simp; omega
            rw [← this]
            exact hv1
          · cases hr
        · cases hr
  | iter s' p => cases s <;> simp [rd] at hr
  | dead => cases s <;> simp [rd] at hr
theorem rd_len {b : ABlk} {s : Option Nat} {k n : Nat} {cs : List Value} (hr : rd b s k n = some cs) : cs.length = n := by
  have g : ∀ {l : List Value}, (if k + n ≤ l.length then some ((l.drop k).take n) else none) = some cs → cs.length = n := by
    intro l h
    split at h
    · cases h; simp; omega
    · cases h
  cases b <;> cases s <;> simp only [rd] at hr <;> first | cases hr | exact g hr | (split at hr; exact g hr; cases hr)
/-- Cells in memory that a row of values knows, as values. -/
theorem mem_vals {cs : List Value} {a : Addr} (h : ∀ (j : Nat) (x : Value), cs[j]? = some x → ∃ v, w.cell? (a.add j) = some v ∧ VRel m x v) :
    ∃ vs : List Value, LRel m cs vs ∧ ∀ (j : Nat) (v : Value), vs[j]? = some v → w.cell? (a.add j) = some v := by
  refine ⟨(List.range cs.length).map fun j => (w.cell? (a.add j)).getD undef, ⟨by simp, fun j x v hx hv => ?_⟩, fun j v hv => ?_⟩
  · obtain ⟨u, hu, hr⟩ := h j x hx
    have hj : j < cs.length := (List.getElem?_eq_some_iff.1 hx).1
    rw [List.getElem?_map, List.getElem?_range hj] at hv
    simp only [Option.map_some, hu, Option.getD_some, Option.some.injEq] at hv
    rw [← hv]; exact hr
  · have hj : j < cs.length := by
      have := (List.getElem?_eq_some_iff.1 hv).1
      simpa using this
    obtain ⟨u, hu, hr⟩ := h j cs[j] (List.getElem?_eq_getElem hj)
    rw [List.getElem?_map, List.getElem?_range hj] at hv
    simp only [Option.map_some, hu, Option.getD_some, Option.some.injEq] at hv
    rw [← hv]; exact hu
theorem add_none (b o n : Nat) : (⟨b, o, none⟩ : Addr).add n = ⟨b, o + n, none⟩ := by unfold Addr.add; split <;> simp_all
theorem rd_vals {i : MI} {b : ABlk} (h : BRel m w i b) {s : Option Nat} {k n : Nat} {cs : List Value} (hr : rd b s k n = some cs) (hv : i.void = false) :
    ∃ vs : List Value, LRel m cs vs ∧ ∀ (j : Nat) (v : Value), vs[j]? = some v → w.cell? ((⟨i.blk, i.off + s.getD 0 * i.z + k, none⟩ : Addr).add j) = some v :=
  mem_vals fun j x hx => by rw [add_none]; exact rd_cell h hr hv j x hx
end
end Go.Proofs.Ytpgkbdkkcladcaa.Eng
/- The engine, part 3: operations, one by one: what each does to what a call knows, and that memory follows. A lemma file: it claims nothing of the program. -/
namespace Go.Proofs.Ytpgkbdkkcladcaa.Eng
open Go

abbrev Res := Option (Value × AHeap × List Nat)

def tval (i : TInfo) (cs : List Value) : Option Value := if i.agg = true then some (.agg cs.toArray) else match cs with
  | [v] => some v
  | _ => none
def aLoad (I : Tab) (t : TypeId) (p : Value) (H : AHeap) : Res :=
  match I t, p with
  | some i, .pointer (some ⟨id, k, s⟩) => match H[id]? with
    | some b => match rd b s k i.size with
      | some cs => match tval i cs with
        | some v => some (v, H, [])
        | none => none
      | none => none
    | none => none
  | _, _ => none
def aStore (I : Tab) (t : TypeId) (p v : Value) (H : AHeap) : Res :=
  match I t, p with
  | some i, .pointer (some ⟨id, k, s⟩) => if v.cells.toList.length = i.size ∧ v.cells.toList.all (·.oneCell') = true then match H[id]? with
    | some b => match wr b s k v.cells.toList with
      | some b' => some (undef, H.set id b', [id])
      | none => none
    | none => none
    else none
  | _, _ => none
def aNew (vs : List Value) (H : AHeap) : Res := some (.pointer (some ⟨H.length, 0, none⟩), H ++ [.cells vs], [])
def aAlloc (I : Tab) (t : TypeId) (H : AHeap) : Res := match I t with
  | some i => if flatV i.zero = true then aNew i.zero.cells.toList H else none
  | none => none

/-- What an operation does, in memory. -/
def Does (P : Program) (o : Oper) (a : Act) (w : World) (v' : Value) (w' : World) : Prop :=
  (execOp a.eval o).run P w = .ok (.value v') w' ∨ ((execOp a.eval o).run P w = .ok .skip w' ∧ v' = undef)
def Good (P : Program) (m0 : Mp) (H0 : AHeap) (w0 : World) (m : Mp) (o : Oper) (a : Act) (w : World) (v : Value) (H' : AHeap) (tc : List Nat) : Prop :=
  ∃ (m' : Mp) (w' : World) (v' : Value), Does P o a w v' w' ∧ Run m0 H0 w0 H' m' w' ∧ Mp.le m m' ∧ VRel m' v v' ∧ Frame m tc w w'

section
variable {P : Program} {I : Tab} {m0 : Mp} {H0 : AHeap} {w0 : World} {H : AHeap} {m : Mp} {w : World} {a : Act} {o : Oper}

theorem Good.still {v v' : Value} (h : Run m0 H0 w0 H m w) (he : (execOp a.eval o).run P w = .ok (.value v') w) (hv : VRel m v v') : Good P m0 H0 w0 m o a w v H [] :=
  ⟨m, w, v', .inl he, h, Mp.le_refl _, hv, .refl _ _ _⟩

theorem tval_ok {i : TInfo} {cs : List Value} {v : Value} (h : tval i cs = some v) : (i.agg = true ∧ v = .agg cs.toArray) ∨ (i.agg = false ∧ cs = [v]) := by
  unfold tval at h
  split at h
  · rename_i e; cases h; exact .inl ⟨e, rfl⟩
  · rename_i e
    split at h
    · cases h; exact .inr ⟨by simpa using e, rfl⟩
    · cases h

theorem run_loadVar_vals (hI : TOk P I) {t : TypeId} {i : TInfo} (hi : I t = some i) {A : Addr} {vs : List Value} (hs : vs.length = i.size)
    (hc : ∀ (j : Nat) (v : Value), vs[j]? = some v → w.cell? (A.add j) = some v) (hA : A.spot = none) {u : Value} (hu : (i.agg = true ∧ u = .agg vs.toArray) ∨ (i.agg = false ∧ vs = [u])) :
    (loadVar t A).run P w = .ok u w := by
  unfold loadVar
  rw [Sem.run_bind, hI.isAgg hi w, Result.andThen_ok]
  rcases hu with ⟨h1, h2⟩ | ⟨h1, h2⟩
  · have := run_loadCells_list (P := P) w A vs hc
    rw [hs] at this
    simp [h1, hI.size hi w, this, h2]
  · subst h2
    have h0 := hc 0 u rfl
    rw [show A.add 0 = A by simp [Addr.add]] at h0
    simp [h1, h0]

theorem aLoad_ok (hI : TOk P I) (h : Run m0 H0 w0 H m w) {t : TypeId} {x : Operand} (ho : o.op = .load t x) {p v : Value} {H' : AHeap} {tc : List Nat} (hp : VRel m p (a.eval x)) (hr : aLoad I t p H = some (v, H', tc)) :
    Good P m0 H0 w0 m o a w v H' tc ∧ H' = H ∧ tc = [] := by
  unfold aLoad at hr
  split at hr
  · rename_i i id k s hi
    split at hr
    · rename_i b hb
      split at hr
      · rename_i cs hcs
        split at hr
        · rename_i u hu
          cases hr
          refine ⟨?_, rfl, rfl⟩
          generalize hq : a.eval x = q at hp
          cases hp with
          | ptr hm hv =>
            obtain ⟨b', hb', hB⟩ := h.mt.has _ _ hm
            rw [hb] at hb'
            cases hb'
            obtain ⟨vs, hL, hc⟩ := rd_vals hB hcs hv
            have hlen : vs.length = i.size := by rw [← hL.1]; exact rd_len hcs
            rcases tval_ok hu with ⟨h1, rfl⟩ | ⟨h1, rfl⟩
            · refine .still (v' := .agg vs.toArray) h ?_ (.ofL hL)
              simp only [execOp, ho, hq, Instr.loadAt, Instr.sureAddr, pure_bind, Sem.run_bind, run_loadVar_vals hI hi hlen hc rfl (.inl ⟨h1, rfl⟩), Result.andThen_ok, Sem.run_pure]
            · obtain ⟨y, ys, rfl, hy, hys⟩ := hL.cons_inv
              obtain rfl := hys.nil_inv
              refine .still (v' := y) h ?_ hy
              simp only [execOp, ho, hq, Instr.loadAt, Instr.sureAddr, pure_bind, Sem.run_bind, run_loadVar_vals hI hi hlen hc rfl (.inr ⟨h1, rfl⟩), Result.andThen_ok, Sem.run_pure]
        · cases hr
      · cases hr
    · cases hr
  · cases hr

theorem seg_get {xs vs : List Value} {k : Nat} (hk : k + vs.length ≤ xs.length) (j : Nat) : (xs.take k ++ vs ++ xs.drop (k + vs.length))[j]? = if j < k then xs[j]? else if j < k + vs.length then vs[j - k]? else xs[j]? := by
  have hl : (xs.take k).length = k := by simp; omega
  by_cases c1 : j < k
  · rw [if_pos c1, List.append_assoc, List.getElem?_append_left (by omega), List.getElem?_take, if_pos c1]
  · rw [if_neg c1, List.append_assoc, List.getElem?_append_right (by omega), hl]
    by_cases c2 : j < k + vs.length
    · rw [if_pos c2, List.getElem?_append_left (by omega)]
    · rw [if_neg c2, List.getElem?_append_right (by omega), List.getElem?_drop]
      congr 1
      omega
theorem seg_len {xs vs : List Value} {k : Nat} (hk : k + vs.length ≤ xs.length) : (xs.take k ++ vs ++ xs.drop (k + vs.length)).length = xs.length := by simp; omega
theorem LRel.seg {xs ys vs us : List Value} {k : Nat} (h : LRel m xs ys) (hv : LRel m vs us) (hk : k + vs.length ≤ xs.length) : LRel m (xs.take k ++ vs ++ xs.drop (k + vs.length)) (ys.take k ++ us ++ ys.drop (k + us.length)) := by
  have e := hv.1
  rw [← e]
  exact ((h.take k).app hv).app (h.drop _)

/-- A store into a block that is the call's own. -/
theorem wr_ok (h : Run m0 H0 w0 H m w) {id k : Nat} {s : Option Nat} {i : MI} {b b' : ABlk} (hm : m id = some i) (hv : i.void = false) (hb : H[id]? = some b) {cs us : List Value} (hw : wr b s k cs = some b')
    (hL : LRel m cs us) (h1 : ∀ u ∈ us, u.oneCell' = true) (h1' : ∀ u ∈ cs, u.oneCell' = true) : ∃ w', (storeCells ⟨i.blk, i.off + s.getD 0 * i.z + k, none⟩ us).run P w = .ok () w' ∧ Run m0 H0 w0 (H.set id b') m w' ∧ Frame m [id] w w' := by
  obtain ⟨b0, hb0, hB⟩ := h.mt.has _ _ hm
  rw [hb] at hb0
  cases hb0
  cases b with
  | cells vs =>
    cases s with
    | some e => simp [wr] at hw
    | none =>
      obtain ⟨g1, g2, g3, arr, T, g5, g6⟩ := hB
      simp only [wr] at hw
      split at hw
      · rename_i hk
        cases hw
        have hst := run_storeCells_at P i.blk k T us 0 arr w g5 (by rw [← hL.1]; have := g6.1; simp at this; omega) h1
        have e1 : i.off + (none : Option Nat).getD 0 * i.z + k = k := by simp [g2]
        rw [e1]
        refine ⟨_, hst, h.write hm hb rfl hv (b' := .cells _) ?_ (fun j hj => setRow_other w i.blk j _ hj) (size_setRow _ _ _) rfl rfl rfl rfl, .row m hm hv _ _⟩
        refine ⟨g1, g2, g3, _, T, setRow_heap w _ arr _ T _ g5, ?_⟩
        simp only [Nat.add_zero]
        exact g6.seg hL hk
      · cases hw
  | row sr z els =>
    cases s with
    | none => simp [wr] at hw
    | some e =>
      obtain ⟨g1, g2, g3, g4⟩ := hB
      rcases g4 with ⟨g5, _⟩ | ⟨g5, arr, T, g7, g8, g9, g10⟩
      · rw [hv] at g5; cases g5
      · simp only [wr] at hw
        split at hw
        · rename_i c hc
          split at hw
          · rename_i hk
            cases hw
            have hcm : c ∈ els := List.mem_of_getElem? hc
            have hcl := (g3 c hcm).1
            have hel : e < els.length := (List.getElem?_eq_some_iff.1 hc).1
            have hfit := mul_fit (z := z) hel
            have e1 : i.off + (some e).getD 0 * i.z + k = e * z + k := by simp [g2, g1]
            rw [e1]
            have hul := hL.1
            have hst := run_storeCells_at P i.blk (e * z + k) T us 0 arr w g7 (by omega) h1
            simp only [Nat.add_zero] at hst
            refine ⟨_, hst, h.write hm hb rfl hv (b' := .row sr z _) ?_ (fun j hj => setRow_other w i.blk j _ hj) (size_setRow _ _ _) rfl rfl rfl rfl, .row m hm hv _ _⟩
            have hsegl : (c.take k ++ cs ++ c.drop (k + cs.length)).length = z := by rw [seg_len hk]; exact hcl
            have hal : e * z + k + us.length ≤ arr.toList.length := by simp; omega
            refine ⟨g1, g2, ?_, .inr ⟨g5, _, T, setRow_heap w _ arr _ T _ g7, ?_, ?_, ?_⟩⟩
            · refine RowOk.set g3 hsegl (fun v hv' => ?_) e
              rcases List.mem_append.1 hv' with hv' | hv'
              · rcases List.mem_append.1 hv' with hv' | hv'
                · exact (g3 c hcm).2 v (List.mem_of_mem_take hv')
                · exact h1' v hv'
              · exact (g3 c hcm).2 v (List.mem_of_mem_drop hv')
            · have := seg_len hal
              simp only [Array.length_toList] at this
              simpa [g8] using this.symm
            · have := seg_len hal
              rw [List.length_set]
              simp only [List.size_toArray]
              rw [this]; simpa using g9
            · intro f d hd
              refine ⟨?_, fun j x y hx hy => ?_⟩
              · have hdl : d.length = z := by
                  by_cases q : e = f
                  · subst q
                    rw [List.getElem?_set_self hel] at hd
                    cases hd
                    exact hsegl
                  · rw [List.getElem?_set_ne q] at hd
                    exact (g3 d (List.mem_of_getElem? hd)).1
                have hfl : f < els.length := by have := (List.getElem?_eq_some_iff.1 hd).1; simpa using this
                have hff := mul_fit (z := z) hfl
                rw [hdl, List.length_take, List.length_drop]
                simp only [seg_len hal]
                simp
                omega
              · obtain ⟨hj, hy⟩ := drop_take_get hy
                simp only at hy
                rw [seg_get hal] at hy
                by_cases hfe : e = f
                · subst hfe
                  rw [List.getElem?_set_self hel] at hd
                  cases hd
                  rw [seg_get hk] at hx
                  by_cases c1 : j < k
                  · rw [if_pos c1] at hx
                    rw [if_pos (by omega)] at hy
                    exact (g10 e c hc).2 j x y hx (by rw [List.getElem?_take, if_pos hj, List.getElem?_drop]; exact hy)
                  · rw [if_neg c1] at hx
                    rw [if_neg (by omega)] at hy
                    by_cases c2 : j < k + cs.length
                    · rw [if_pos c2] at hx
                      rw [if_pos (by omega), show e * z + j - (e * z + k) = j - k by omega] at hy
                      exact hL.2 _ x y hx hy
                    · rw [if_neg c2] at hx
                      rw [if_neg (by omega)] at hy
                      exact (g10 e c hc).2 j x y hx (by rw [List.getElem?_take, if_pos hj, List.getElem?_drop]; exact hy)
                · rw [List.getElem?_set_ne hfe] at hd
                  have hfl : f < els.length := (List.getElem?_eq_some_iff.1 hd).1
                  have : f * z + j < e * z + k ∨ e * z + k + us.length ≤ f * z + j := by
                    rcases Nat.lt_or_gt_of_ne hfe with hlt | hlt
                    · have := mul_fit (z := z) hlt; right; omega
                    · have := mul_fit (z := z) hlt; left; omega
                  have hy' : arr.toList[f * z + j]? = some y := by
                    rcases this with t1 | t1
                    · rwa [if_pos t1] at hy
                    · rwa [if_neg (by omega), if_neg (by omega)] at hy
                  exact (g10 f d hd).2 j x y hx (by rw [List.getElem?_take, if_pos hj, List.getElem?_drop]; exact hy')
          · cases hw
        · cases hw
  | old sr z els => cases s <;> simp [wr] at hw
  | ro vs => cases s <;> simp [wr] at hw
  | iter s' p => cases s <;> simp [wr] at hw
  | dead => cases s <;> simp [wr] at hw

theorem LRel.ones {xs ys : List Value} (h : LRel m xs ys) (hx : xs.all (·.oneCell') = true) : ∀ u ∈ ys, u.oneCell' = true := by
  intro u hu
  obtain ⟨j, hj, rfl⟩ := List.getElem_of_mem hu
  have hj' : j < xs.length := by rw [h.1]; exact hj
  have hr := h.2 j _ _ (List.getElem?_eq_getElem hj') (List.getElem?_eq_getElem hj)
  rw [hr.one]
  exact List.all_eq_true.1 hx _ (List.getElem_mem hj')

theorem aStore_ok (hI : TOk P I) (h : Run m0 H0 w0 H m w) {t : TypeId} {x y : Operand} (ho : o.op = .store t x y) {p u v : Value} {H' : AHeap} {tc : List Nat} (hp : VRel m p (a.eval x)) (hu : VRel m u (a.eval y))
    (hr : aStore I t p u H = some (v, H', tc)) : Good P m0 H0 w0 m o a w v H' tc := by
  unfold aStore at hr
  split at hr
  · rename_i i id k s hi
    split at hr
    · rename_i hc
      split at hr
      · rename_i b hb
        split at hr
        · rename_i b' hb'
          cases hr
          generalize hq : a.eval x = q at hp
          cases hp with
          | ptr hm hv =>
            have hL := LRel.cells hu
            obtain ⟨w', hw, hR, hF⟩ := wr_ok (P := P) h hm hv hb hb' hL (hL.ones hc.2) (fun u hu' => List.all_eq_true.1 hc.2 u hu')
            refine ⟨m, w', undef, .inr ⟨?_, rfl⟩, hR, Mp.le_refl _, undef_ok _, hF⟩
            have hsz : ((a.eval y).cells.size ≠ i.size) = False := by
              simp only [ne_eq, eq_iff_iff, iff_false, Classical.not_not]
              have := hL.1
              simp at this hc
              omega
            simp [execOp, ho, hq, Instr.storeAt, Instr.sureAddr, storeVar, hI.size hi w, hsz, hw]
        · cases hr
      · cases hr
    · cases hr
  · cases hr

theorem new_cells (h : Run m0 H0 w0 H m w) {vs : List Value} {arr : Array Value} (T : TypeId) (hL : LRel m vs arr.toList) :
    Run m0 H0 w0 (H ++ [.cells vs]) (upd m H.length ⟨w.heap.size, 0, 0, arr.size, false⟩) (w.alloc (.cells arr T)) ∧
    Mp.le m (upd m H.length ⟨w.heap.size, 0, 0, arr.size, false⟩) ∧
    VRel (upd m H.length ⟨w.heap.size, 0, 0, arr.size, false⟩) (.pointer (some ⟨H.length, 0, none⟩)) (.pointer (some ⟨w.heap.size, 0, none⟩)) := by
  have hle := le_upd ⟨w.heap.size, 0, 0, arr.size, false⟩ h.mt.fresh
  refine ⟨h.made _ _ rfl _ ⟨rfl, rfl, rfl, arr, T, alloc_new w _, hL.mono hle⟩, hle, ?_⟩
  · exact .ptr (i := ⟨w.heap.size, 0, 0, arr.size, false⟩) (by simp [upd]) rfl

theorem aAlloc_ok (hI : TOk P I) (h : Run m0 H0 w0 H m w) {t : TypeId} (ho : o.op = .alloc t) {v : Value} {H' : AHeap} {tc : List Nat} (hr : aAlloc I t H = some (v, H', tc)) : Good P m0 H0 w0 m o a w v H' tc := by
  unfold aAlloc at hr
  split at hr
  · rename_i i hi
    split at hr
    · rename_i hf
      cases hr
      obtain ⟨h1, h2, h3⟩ := new_cells h t (LRel.cells (flatV_ok m hf))
      refine ⟨_, _, _, .inl ?_, h1, h2, h3, .alloc _ _ _ _⟩
      simp [execOp, ho, Instr.alloc, hI.zeroV hi w, newVar, newRow]
    · cases hr
  · cases hr

theorem aBox_ok (h : Run m0 H0 w0 H m w) {t : TypeId} {x : Operand} (ho : o.op = .box t x) {u v : Value} {H' : AHeap} {tc : List Nat} (hu : VRel m u (a.eval x)) (hr : aNew u.cells.toList H = some (v, H', tc)) : Good P m0 H0 w0 m o a w v H' tc := by
  cases hr
  obtain ⟨h1, h2, h3⟩ := new_cells h t (LRel.cells hu)
  refine ⟨_, _, _, .inl ?_, h1, h2, h3, .alloc _ _ _ _⟩
  simp [execOp, ho, Instr.box, newVar, newRow]
end
end Go.Proofs.Ytpgkbdkkcladcaa.Eng
/- The engine, part 4: operations that turn no memory. A lemma file: it claims nothing of the program. -/
namespace Go.Proofs.Ytpgkbdkkcladcaa.Eng
open Go

def isC : Operand → Bool
  | .const _ => true
  | _ => false
/-- Two numbers. -/
def aInt (op : BinOp) (k : IntKind) (x y : Int) : Option Value := match op with
  | .add => some (.int k (k.wrap (x + y)))
  | .sub => some (.int k (k.wrap (x - y)))
  | .mul => some (.int k (k.wrap (x * y)))
  | .quo => if y = 0 then none else some (.int k (k.wrap (x.tdiv y)))
  | .rem => if y = 0 then none else some (.int k (x.tmod y))
  | .and => some (.int k (bits .and k x y))
  | .or => some (.int k (bits .or k x y))
  | .xor => some (.int k (bits .xor k x y))
  | .andNot => some (.int k (bits .andNot k x y))
  | .eql => some (.bool (x == y))
  | .neq => some (.bool (x != y))
  | .lss => some (.bool (decide (x < y)))
  | .leq => some (.bool (decide (x ≤ y)))
  | .gtr => some (.bool (decide (y < x)))
  | .geq => some (.bool (decide (y ≤ x)))
  | _ => none
def aShift (op : BinOp) (k : IntKind) (x y : Int) : Option Value := if y < 0 then none else match op with
  | .shl => some (.int k (k.wrap (x * 2 ^ (min y.toNat k.bits))))
  | .shr => some (.int k (x.fdiv (2 ^ (min y.toNat k.bits))))
  | _ => none
def aStr (op : BinOp) (x y : ByteArray) : Option Value := match op with
  | .add => if x.size + y.size ≤ 9223372036854775807 then some (.string (x ++ y)) else none
  | .eql => some (.bool (x.toList == y.toList))
  | .neq => some (.bool (!(x.toList == y.toList)))
  | _ => none
def neg? (op : BinOp) (b : Bool) : Option Value := match op with
  | .eql => some (.bool b)
  | .neq => some (.bool (!b))
  | _ => none
def sureB : Option ABlk → Bool
  | some (.row s _ els) => s || !els.isEmpty
  | some (.old s _ els) => s || !els.isEmpty
  | _ => false
def aBin (I : Tab) (op : BinOp) (t : TypeId) (cx cy : Bool) (x y : Value) (H : AHeap) : Option Value :=
  match x, y with
  | .int k a, .int k' b => match op with
    | .shl => aShift .shl k a b
    | .shr => aShift .shr k a b
    | _ => if k = k' then aInt op k a b else none
  | .string a, .string b => aStr op a b
  | .bool a, .bool b => match I t with
    | some i => match i.d with
      | .bool => neg? op (a == b)
      | _ => none
    | none => none
  | .pointer p, .pointer q => match I t with
    | some i => match i.d with
      | .ptr _ => match p, q with
        | none, none => neg? op true
        | none, some _ => neg? op false
        | some _, none => neg? op false
        | _, _ => none
      | _ => none
    | none => none
  | .slice p _ _, .slice q _ _ => match I t with
    | some i => match i.d with
      | .slice _ => match p, q with
        | none, none => neg? op true
        | some ⟨id, _, _⟩, none => if sureB (H[id]?) = true then neg? op false else none
        | _, _ => none
      | _ => none
    | none => none
  | .nilIface, .nilIface => if (cx || cy) = true then match I t with
    | some i => match i.d with
      | .iface => neg? op true
      | _ => none
    | none => none
    else none
  | .iface _ _, .nilIface => match I t with
    | some i => match i.d with
      | .iface => neg? op false
      | _ => none
    | none => none
  | .agg xs, .agg ys => match I t with
    | some i => match i.eqs with
      | some cs => if xs.toList.length = i.size then match eqL cs xs.toList ys.toList with
        | some b => neg? op b
        | none => none
        else none
      | none => none
    | none => none
  | _, _ => none
def aUn (op : UnOp) (x : Value) : Option Value := match op, x with
  | .not, .bool b => some (.bool (!b))
  | .neg, .int k n => some (.int k (k.wrap (0 - n)))
  | _, _ => none
def aConv (I : Tab) (src dst : TypeId) (x : Value) : Option Value := match I src, I dst, x with
  | some _, some j, .int _ n => match j.d with
    | .int k => some (.int k (k.wrap n))
    | _ => none
  | some _, some j, .string s => match j.d with
    | .str => some (.string s)
    | _ => none
  | _, _, _ => none
def aFieldAddr (I : Tab) (s : TypeId) (x : Value) (f : Nat) : Option Value := match I s, x with
  | some i, .pointer (some ⟨id, k, e⟩) => match i.d with
    | .struct fs => match fs[f]? with
      | some (off, ft) => match I ft with
        | some j => if j.size = 0 then none else some (.pointer (some ⟨id, k + off, e⟩))
        | none => none
      | none => none
    | _ => none
  | _, _ => none
def aPart (j : TInfo) (cs : List Value) (off : Nat) : Option Value := if off + j.size ≤ cs.length then tval j ((cs.drop off).take j.size) else none
def aField (I : Tab) (t : TypeId) (x : Value) (f : Nat) : Option Value := match I t, x with
  | some i, .agg cs => match i.d with
    | .struct fs => match fs[f]? with
      | some (off, ft) => match I ft with
        | some j => aPart j cs.toList off
        | none => none
      | none => none
    | _ => none
  | _, _ => none
def rowZ : Option ABlk → Option Nat
  | some (.row _ z _) => some z
  | some (.old _ z _) => some z
  | _ => none
def aIndexAddr (I : Tab) (t : TypeId) (x ix : Value) (H : AHeap) : Option Value := match I t, x, ix with
  | some i, .slice (some ⟨id, e, none⟩) len _, .int _ n => match i.d with
    | .slice el => match I el, rowZ (H[id]?) with
      | some j, some z => if j.size = z ∧ 0 ≤ n ∧ n < (len : Int) then some (.pointer (some ⟨id, 0, some (e + n.toNat)⟩)) else none
      | _, _ => none
    | _ => none
  | some i, .pointer (some ⟨id, k, s⟩), .int _ n => match i.d with
    | .array len el => match I el with
      | some j => if 0 ≤ n ∧ n < (len : Int) then some (.pointer (some ⟨id, k + n.toNat * j.size, s⟩)) else none
      | none => none
    | _ => none
  | _, _, _ => none
def aIndex (I : Tab) (t : TypeId) (x ix : Value) : Option Value := match I t, x, ix with
  | some i, .string s, .int _ n => match i.d with
    | .str => if 0 ≤ n then match s[n.toNat]? with
      | some b => some (.int .u8 (b.toNat : Int))
      | none => none
      else none
    | _ => none
  | _, _, _ => none
def boundI (d : Nat) : Option Value → Option Int
  | none => some (d : Int)
  | some (.int _ n) => some n
  | _ => none
def aSlice (I : Tab) (t : TypeId) (x : Value) (lo hi mx : Option Value) (H : AHeap) : Option Value := match mx with
  | some _ => none
  | none => match I t, x with
    | some i, .slice (some ⟨id, e, none⟩) len _ => match i.d with
      | .slice el => match I el, rowZ (H[id]?), boundI 0 lo, boundI len hi with
        | some j, some z, some l, some h => if j.size = z ∧ 0 ≤ l ∧ l ≤ h ∧ h ≤ (len : Int) then some (.slice (some ⟨id, e + l.toNat, none⟩) (h.toNat - l.toNat) 0) else none
        | _, _, _, _ => none
      | _ => none
    | some i, .slice none 0 0 => match i.d with
      | .slice el => match I el, boundI 0 lo, boundI 0 hi with
        | some _, some l, some h => if l = 0 ∧ h = 0 then some (.slice none 0 0) else none
        | _, _, _ => none
      | _ => none
    | some i, .string s => match i.d with
      | .str => match boundI 0 lo, boundI s.size hi with
        | some l, some h => if 0 ≤ l ∧ l ≤ h ∧ h ≤ (s.size : Int) then some (.string (s.extract l.toNat h.toNat)) else none
        | _, _ => none
      | _ => none
    | _, _ => none
def aLen (I : Tab) (ts : Array TypeId) (xs : List Value) : Option Value := match ts[0]?, xs with
  | some t, x :: _ => match I t with
    | some i => match i.d, x with
      | .str, .string s => some (.int .i64 (s.size : Int))
      | .slice _, .slice _ n _ => some (.int .i64 (n : Int))
      | .array n _, _ => some (.int .i64 (n : Int))
      | _, _ => none
    | none => none
  | _, _ => none
def aCap (I : Tab) (ts : Array TypeId) (xs : List Value) : Option Value := match ts[0]?, xs with
  | some t, x :: _ => match I t with
    | some i => match i.d, x with
      | .slice _, .slice none 0 0 => some (.int .i64 0)
      | _, _ => none
    | none => none
  | _, _ => none
def aExtract (x : Value) (i : Nat) : Option Value := match x with
  | .tuple vs => vs[i]?
  | _ => none

section
variable {P : Program} {I : Tab} {m : Mp} {H : AHeap} {w : World}

theorem aInt_ok {op : BinOp} {t : TypeId} {k : IntKind} {x y : Int} {v : Value} (hr : aInt op k x y = some v) : (binOp op t (.int k x) (.int k y)).run P w = .ok v w ∧ VRel m v v := by
  cases op <;> simp only [aInt] at hr <;> first
    | (cases hr; done)
    | (cases hr; refine ⟨by simp [binOp, Op.intArith, Op.intCmp, Op.intBits, bits], ?_⟩; first | exact .int _ _ | exact .bool _)
    | (split at hr <;> cases hr; rename_i hy; refine ⟨by simp [binOp, Op.intDiv, hy], .int _ _⟩)
theorem aShift_ok {op : BinOp} {t : TypeId} {k k' : IntKind} {x y : Int} {v : Value} (hop : op = .shl ∨ op = .shr) (hr : aShift op k x y = some v) : (binOp op t (.int k x) (.int k' y)).run P w = .ok v w ∧ VRel m v v := by
  unfold aShift at hr
  split at hr
  · cases hr
  · rename_i hy
    rcases hop with rfl | rfl
    · cases hr; exact ⟨by simp [binOp, Op.shift, hy], .int _ _⟩
    · cases hr; exact ⟨by simp [binOp, Op.shift, hy], .int _ _⟩
theorem aStr_ok {op : BinOp} {t : TypeId} {x y : ByteArray} {v : Value} (hr : aStr op x y = some v) : (binOp op t (.string x) (.string y)).run P w = .ok v w ∧ VRel m v v := by
  cases op <;> simp only [aStr] at hr <;> first
    | (cases hr; done)
    | (split at hr <;> cases hr; rename_i hy; refine ⟨?_, .str _⟩; have hy' : ¬ (9223372036854775807 : Int) < (x.size : Int) + (y.size : Int) := by omega
       simp [binOp, Op.stringOp, hy'])
    | (cases hr; refine ⟨by simp [binOp, Op.stringOp], .bool _⟩)
theorem neg_ok {op : BinOp} {t : TypeId} {x y : Value} {b : Bool} {v : Value} (hr : neg? op b = some v) (he : (Op.equalIn 10000 t x y).run P w = .ok b w)
    (h1 : binOp .eql t x y = do pure (.bool (← Op.equal t x y))) (h2 : binOp .neq t x y = do pure (.bool (!(← Op.equal t x y)))) : (binOp op t x y).run P w = .ok v w ∧ VRel m v v := by
  have he' : (Op.equal t x y).run P w = .ok b w := he
  cases op <;> simp only [neg?] at hr <;> cases hr
  · exact ⟨by rw [h1]; simp [he'], .bool _⟩
  · exact ⟨by rw [h2]; simp [he'], .bool _⟩
theorem eqp (d : Nat) {t el : TypeId} (hu : P.underlying t = some (.pointer el)) :
    (Op.equalIn (d + 1) t (.pointer none) (.pointer none)).run P w = .ok true w ∧ (∀ a, (Op.equalIn (d + 1) t (.pointer none) (.pointer (some a))).run P w = .ok false w) ∧ (∀ a, (Op.equalIn (d + 1) t (.pointer (some a)) (.pointer none)).run P w = .ok false w) :=
  ⟨by simp [Op.equalIn, run_underlying hu], fun a => by simp [Op.equalIn, run_underlying hu], fun a => by simp [Op.equalIn, run_underlying hu]⟩
theorem eqs (d : Nat) {t el : TypeId} (hu : P.underlying t = some (.slice el)) :
    (∀ n c, (Op.equalIn (d + 1) t (.slice none 0 0) (.slice none n c)).run P w = .ok true w) ∧ (∀ a n c, (Op.equalIn (d + 1) t (.slice (some a) n c) (.slice none 0 0)).run P w = .ok false w) :=
  ⟨fun n c => by simp [Op.equalIn, run_underlying hu], fun a n c => by simp [Op.equalIn, run_underlying hu]⟩
theorem eqi (d : Nat) {t : TypeId} {ms : Array (String × TypeId)} (hu : P.underlying t = some (.interface ms)) :
    (Op.equalIn (d + 1) t .nilIface .nilIface).run P w = .ok true w ∧ (∀ s v, (Op.equalIn (d + 1) t (.iface s v) .nilIface).run P w = .ok false w) :=
  ⟨by simp [Op.equalIn, run_underlying hu], fun s v => by simp [Op.equalIn, run_underlying hu]⟩
theorem eqV_ok {c : CK} {x y x' y' : Value} {b : Bool} (h : eqV c x y = some b) (hx : VRel m x x') (hy : VRel m y y') : eqV c x' y' = some b := by
  cases c <;> cases hx <;> cases hy <;> simp_all [eqV]
theorem eqL_ok : ∀ {cs : List CK} {xs ys xs' ys' : List Value} {b : Bool}, eqL cs xs ys = some b → LRel m xs xs' → LRel m ys ys' → eqL cs xs' ys' = some b
  | [], [], [], _, _, _, h, hx, hy => by obtain rfl := hx.nil_inv; obtain rfl := hy.nil_inv; exact h
  | [], [], _ :: _, _, _, _, h, _, _ => by simp [eqL] at h
  | [], _ :: _, _, _, _, _, h, _, _ => by simp [eqL] at h
  | _ :: _, [], _, _, _, _, h, _, _ => by simp [eqL] at h
  | _ :: _, _ :: _, [], _, _, _, h, _, _ => by simp [eqL] at h
  | c :: cs, x :: xs, y :: ys, _, _, b, h, hx, hy => by
    obtain ⟨x', xs', rfl, h1, h2⟩ := hx.cons_inv
    obtain ⟨y', ys', rfl, h3, h4⟩ := hy.cons_inv
    simp only [eqL] at h ⊢
    split at h
    · rename_i p q hp hq
      rw [eqV_ok hp h1 h3, eqL_ok hq h2 h4]
      exact h
    · cases h

theorem aBin_ok (hI : TOk P I) {w1 : World} (hM : Match m H w1) {op : BinOp} {t : TypeId} {ox oy : Operand} {x y x' y' v : Value} (hx : VRel m x x') (hy : VRel m y y') (hr : aBin I op t (isC ox) (isC oy) x y H = some v) :
    ((do eqGuard op t ox oy x' y'; binOp op t x' y') : Sem Value).run P w = .ok v w ∧ VRel m v v := by
  unfold aBin at hr
  split at hr
  · cases hx; cases hy
    rw [eqGuard_at_int]
    simp only [pure_bind]
    split at hr
    · exact aShift_ok (.inl rfl) hr
    · exact aShift_ok (.inr rfl) hr
    · split at hr
      · rename_i hk; subst hk; exact aInt_ok hr
      · cases hr
  · cases hx; cases hy
    rw [eqGuard_at_string]
    simp only [pure_bind]
    exact aStr_ok hr
  · cases hx; cases hy
    rw [eqGuard_at_bool]
    simp only [pure_bind]
    split at hr
    · rename_i i hi
      split at hr
      · rename_i hd
        exact neg_ok hr (run_equalIn_bool w 9999 t _ _ (hI.bool hi hd)) rfl rfl
      · cases hr
    · cases hr
  · split at hr
    · rename_i i hi
      split at hr
      · rename_i el hd
        have hu := hI.ptr hi hd
        split at hr
        · cases hx; cases hy
          rw [eqGuard_at_pointer]
          simp only [pure_bind]
          exact neg_ok hr (eqp 9999 hu).1 rfl rfl
        · cases hx; cases hy
          rw [eqGuard_at_pointer]
          simp only [pure_bind]
          exact neg_ok hr ((eqp 9999 hu).2.1 _) rfl rfl
        · cases hx; cases hy
          rw [eqGuard_at_pointer]
          simp only [pure_bind]
          exact neg_ok hr ((eqp 9999 hu).2.2 _) rfl rfl
        · cases hr
      · cases hr
    · cases hr
  · split at hr
    · rename_i i hi
      split at hr
      · rename_i el hd
        have hu := hI.slice hi hd
        split at hr
        · cases hx; cases hy
          rw [eqGuard_at_slice]
          simp only [pure_bind]
          exact neg_ok hr ((eqs 9999 hu).1 _ _) rfl rfl
        · split at hr
          · rename_i hs
            cases hy
            cases hx with
            | slc h1 h2 h3 h4 =>
              rw [eqGuard_at_slice]
              simp only [pure_bind]
              exact neg_ok hr ((eqs 9999 hu).2 _ _ _) rfl rfl
            | eslc h1 h2 =>
              rw [eqGuard_at_slice]
              simp only [pure_bind]
              exact neg_ok hr ((eqs 9999 hu).2 _ _ _) rfl rfl
            | vslc h1 h2 =>
              obtain ⟨b, hb, hB⟩ := hM.has _ _ h1
              rw [hb] at hs
              cases b <;> simp [sureB] at hs
              · obtain ⟨_, _, _, h5⟩ := hB
                rcases h5 with ⟨_, h7, h6⟩ | ⟨h6, _⟩
                · rcases hs with hs | hs
                  · rw [h6] at hs; cases hs
                  · exact absurd h7 hs
                · rw [h2] at h6; cases h6
              · obtain ⟨_, _, h5⟩ := hB
                rcases h5 with ⟨_, h7, h6⟩ | ⟨h6, _⟩
                · rcases hs with hs | hs
                  · rw [h6] at hs; cases hs
                  · exact absurd h7 hs
                · rw [h2] at h6; cases h6
          · cases hr
        · cases hr
      · cases hr
    · cases hr
  · cases hx; cases hy
    split at hr
    · rename_i hc
      have hg : eqGuard op t ox oy .nilIface .nilIface = pure () := by
        simp only [Bool.or_eq_true] at hc
        rcases hc with hc | hc
        · cases ox <;> simp [isC] at hc
          exact eqGuard_nil_constL _ _ _ _
        · cases oy <;> simp [isC] at hc
          exact eqGuard_nil_constR _ _ _ _
      rw [hg]
      simp only [pure_bind]
      split at hr
      · rename_i i hi
        split at hr
        · rename_i hd
          obtain ⟨u, h1, h3⟩ := hI.und hi
          rw [hd] at h3
          have : ∃ ms, u = .interface ms := by cases u <;> simp_all [tdOf]
          obtain ⟨ms, rfl⟩ := this
          exact neg_ok hr (eqi 9999 h1).1 rfl rfl
        · cases hr
      · cases hr
    · cases hr
  · cases hx; cases hy
    rw [eqGuard_at_iface]
    simp only [pure_bind]
    split at hr
    · rename_i i hi
      split at hr
      · rename_i hd
        obtain ⟨u, h1, h3⟩ := hI.und hi
        rw [hd] at h3
        have : ∃ ms, u = .interface ms := by cases u <;> simp_all [tdOf]
        obtain ⟨ms, rfl⟩ := this
        exact neg_ok hr ((eqi 9999 h1).2 _ _) rfl rfl
      · cases hr
    · cases hr
  · rename_i xs ys
    cases hx with
    | agg hs1 hh1 =>
      cases hy with
      | agg hs2 hh2 =>
        rename_i xs' ys'
        split at hr
        · rename_i i hi
          split at hr
          · rename_i cs hc1
            split at hr
            · rename_i hc
              split at hr
              · rename_i b hb
                obtain ⟨g1, g2⟩ := hI.eq t i cs hi hc1
                have hL1 : LRel m xs.toList xs'.toList := ⟨by simpa using hs1, fun j p q hp hq => hh1 j p q (by simpa using hp) (by simpa using hq)⟩
                have hL2 : LRel m ys.toList ys'.toList := ⟨by simpa using hs2, fun j p q hp hq => hh2 j p q (by simpa using hp) (by simpa using hq)⟩
                have := g2 xs'.toList ys'.toList b w (by rw [← hL1.1]; exact hc) (eqL_ok hb hL1 hL2)
                simp only [Array.toArray_toList] at this
                rw [Sem.run_bind, run_eqGuard_agg w op t ox oy xs' ys' g1, Result.andThen_ok]
                exact neg_ok hr this rfl rfl
              · cases hr
            · cases hr
          · cases hr
        · cases hr
  · cases hr

theorem aUn_ok {op : UnOp} {x x' v : Value} (hx : VRel m x x') (hr : aUn op x = some v) : (Op.unary op x').run P w = .ok v w ∧ VRel m v v := by
  unfold aUn at hr
  split at hr
  · cases hx; cases hr; exact ⟨by simp [Op.unary], .bool _⟩
  · cases hx; cases hr; exact ⟨by simp [Op.unary, Op.intArith], .int _ _⟩
  · cases hr
theorem aConv_ok (hI : TOk P I) {src dst : TypeId} {x x' v : Value} (hx : VRel m x x') (hr : aConv I src dst x = some v) : (convert src dst x').run P w = .ok v w ∧ VRel m v v := by
  unfold aConv at hr
  split at hr
  · rename_i i j k n hi hj
    cases hx
    split at hr
    · rename_i k' hd
      cases hr
      obtain ⟨u, h1, _⟩ := hI.und hi
      exact ⟨by simp [convert, run_underlying h1, run_underlying (hI.int hj hd), Conv.intToInt], .int _ _⟩
    · cases hr
  · rename_i i j s hi hj
    cases hx
    split at hr
    · rename_i hd
      cases hr
      obtain ⟨u, h1, _⟩ := hI.und hi
      refine ⟨?_, .str _⟩
      simp only [convert, Sem.run_bind, run_underlying h1, Result.andThen_ok, run_underlying (hI.str hj hd)]
      cases u <;> rfl
    · cases hr
  · cases hr
theorem aFieldAddr_ok (hI : TOk P I) {s : TypeId} {x x' v : Value} {f : Nat} (hx : VRel m x x') (hr : aFieldAddr I s x f = some v) : ∃ v', (∀ w, (Instr.fieldAt s x' f).run P w = .ok v' w) ∧ VRel m v v' := by
  unfold aFieldAddr at hr
  split at hr
  · rename_i i id k e hi
    split at hr
    · rename_i fs hd
      split at hr
      · rename_i off ft hf
        split at hr
        · rename_i j hj
          split at hr
          · cases hr
          · rename_i hz
            cases hr
            cases hx with
            | ptr h1 h2 =>
              rename_i i'
              obtain ⟨fields, hu, he⟩ := hI.struct hi hd
              rw [he, List.getElem?_map] at hf
              cases hq : fields.toList[f]? with
              | none => rw [hq] at hf; simp at hf
              | some fd =>
                rw [hq] at hf
                simp at hf
                obtain ⟨rfl, rfl⟩ := hf
                have hq' : fields[f]? = some fd := by simpa using hq
                refine ⟨.pointer (some ⟨i'.blk, i'.off + e.getD 0 * i'.z + k + fd.offset, none⟩), ?_, ?_⟩
                · intro w; simp [Instr.fieldAt, run_underlying hu, hq', Instr.sureAddr, fieldPlace, hI.size hj w, hz, add_none]
                · have := VRel.ptr (k := k + fd.offset) (s := e) h1 h2
                  rwa [← Nat.add_assoc] at this
        · cases hr
      · cases hr
    · cases hr
  · cases hr
theorem part_ok (hI : TOk P I) {t : TypeId} {j : TInfo} (hj : I t = some j) {cs : List Value} {arr : Array Value} {off : Nat} {v : Value} (hL : LRel m cs arr.toList) (hr : aPart j cs off = some v) : ∃ v', (∀ w, (part t arr off).run P w = .ok v' w) ∧ VRel m v v' := by
  unfold aPart at hr
  split at hr
  · rename_i hle
    have hL' := (hL.drop off).take j.size
    have hl2 := hL.1
    simp only [Array.length_toList] at hl2
    rcases tval_ok hr with ⟨h1, rfl⟩ | ⟨h1, h2⟩
    · refine ⟨.agg ((arr.toList.drop off).take j.size).toArray, fun w => ?_, .ofL hL'⟩
      simp only [part, Sem.run_bind, hI.isAgg hj w, Result.andThen_ok, h1, if_true, hI.size hj w, Sem.run_pure]
      congr 2
      apply Array.ext'
      simp [Array.toList_extract, List.extract_eq_take_drop]
    · rw [h2] at hL'
      obtain ⟨y, ys, h3, h4, h5⟩ := hL'.cons_inv
      have hy : arr.toList[off]? = some y := by
        have : ((arr.toList.drop off).take j.size)[0]? = some y := by rw [h3]; rfl
        obtain ⟨_, h⟩ := drop_take_get this
        simpa using h
      have hy' : arr[off]? = some y := by simpa using hy
      refine ⟨y, fun w => ?_, h4⟩
      simp [part, hI.isAgg hj w, h1, hy']
  · cases hr
theorem aField_ok (hI : TOk P I) {t : TypeId} {x x' v : Value} {f : Nat} (hx : VRel m x x') (hr : aField I t x f = some v) : ∃ v', (∀ w, (Instr.field t x' f).run P w = .ok v' w) ∧ VRel m v v' := by
  unfold aField at hr
  split at hr
  · rename_i i cs hi
    split at hr
    · rename_i fs hd
      split at hr
      · rename_i off ft hf
        split at hr
        · rename_i j hj
          cases hx with
          | agg hs hh =>
            rename_i cs'
            have hL : LRel m cs.toList cs'.toList := ⟨by simpa using hs, fun j p q hp hq => hh j p q (by simpa using hp) (by simpa using hq)⟩
            obtain ⟨v', h1, h2⟩ := part_ok hI hj hL hr
            obtain ⟨fields, hu, he⟩ := hI.struct hi hd
            rw [he, List.getElem?_map] at hf
            cases hq : fields.toList[f]? with
            | none => rw [hq] at hf; simp at hf
            | some fd =>
              rw [hq] at hf
              simp at hf
              obtain ⟨rfl, rfl⟩ := hf
              have hq' : fields[f]? = some fd := by simpa using hq
              exact ⟨v', fun w => by simp [Instr.field, run_underlying hu, hq', asAgg, h1], h2⟩
        · cases hr
      · cases hr
    · cases hr
  · cases hr
theorem rowZ_ok {i : MI} {id z : Nat} (hM : Match m H w) (hm : m id = some i) (hz : rowZ (H[id]?) = some z) : i.z = z := by
  obtain ⟨b, hb, hB⟩ := hM.has _ _ hm
  rw [hb] at hz
  cases b <;> simp [rowZ] at hz
  · subst hz; exact hB.1
  · subst hz; exact hB.1
theorem aIndexAddr_ok (hI : TOk P I) (hM : Match m H w) {t : TypeId} {x x' ix ix' v : Value} (hx : VRel m x x') (hix : VRel m ix ix') (hr : aIndexAddr I t x ix H = some v) :
    ∃ v', (∀ w, (Instr.indexAt t x' ix').run P w = .ok v' w) ∧ VRel m v v' := by
  unfold aIndexAddr at hr
  split at hr
  · rename_i i id e len cp k n hi
    cases hix
    split at hr
    · rename_i el hd
      split at hr
      · rename_i j z hj hz
        split at hr
        · rename_i hc
          cases hr
          obtain ⟨c1, c2, c3⟩ := hc
          cases hx with
          | slc h1 h2 h3 h4 =>
            rename_i cap i'
            have hzz := rowZ_ok hM h1 hz
            refine ⟨.pointer (some ⟨i'.blk, i'.off + (e + n.toNat) * i'.z, none⟩), ?_, ?_⟩
            · intro w
              have : i'.off + e * i'.z + n.toNat * j.size = i'.off + (e + n.toNat) * i'.z := by rw [c1, ← hzz, Nat.add_mul]; omega
              simp [Instr.indexAt, asIntOf, run_underlying (hI.slice hi hd), c2, c3, hI.size hj w, add_none, this]
            · exact VRel.ptr (k := 0) (s := some (e + n.toNat)) h1 h2
          | vslc h1 h2 => simp at c3; omega
          | eslc h1 h2 => simp at c3; omega
        · cases hr
      · cases hr
    · cases hr
  · rename_i i id k s kk n hi
    cases hix
    split at hr
    · rename_i len el hd
      split at hr
      · rename_i j hj
        split at hr
        · rename_i hc
          cases hr
          cases hx with
          | ptr h1 h2 =>
            rename_i i'
            refine ⟨.pointer (some ⟨i'.blk, i'.off + s.getD 0 * i'.z + k + n.toNat * j.size, none⟩), ?_, ?_⟩
            · intro w; simp [Instr.indexAt, asIntOf, run_underlying (hI.array hi hd), Instr.sureAddr, hc.1, hc.2, hI.size hj w, add_none]
            · have := VRel.ptr (k := k + n.toNat * j.size) (s := s) h1 h2
              rwa [← Nat.add_assoc] at this
        · cases hr
      · cases hr
    · cases hr
  · cases hr
theorem aIndex_ok (hI : TOk P I) {t : TypeId} {x x' ix ix' v : Value} (hx : VRel m x x') (hix : VRel m ix ix') (hr : aIndex I t x ix = some v) : (Instr.index t x' ix').run P w = .ok v w ∧ VRel m v v := by
  unfold aIndex at hr
  split at hr
  · rename_i i s k n hi
    cases hix; cases hx
    split at hr
    · rename_i hd
      split at hr
      · rename_i h0
        split at hr
        · rename_i b hb
          cases hr
          refine ⟨?_, .int _ _⟩
          simp only [Instr.index, asIntOf, pure_bind, Sem.run_bind, run_underlying (hI.str hi hd), Result.andThen_ok, h0, if_true, hb, Sem.run_pure]
        · cases hr
      · cases hr
    · cases hr
  · cases hr
theorem aCap_ok (hI : TOk P I) {ts : Array TypeId} {ty : TypeId} {xs ys : List Value} {v : Value} (hL : LRel m xs ys) (hr : aCap I ts xs = some v) : (Builtin.cap_ ts ty ys.toArray).run P w = .ok v w ∧ VRel m v v := by
  unfold aCap at hr
  split at hr
  · rename_i t x rest ht
    obtain ⟨y, ys, rfl, h1, h2⟩ := hL.cons_inv
    split at hr
    · rename_i i hi
      split at hr
      · rename_i el hd
        cases hr
        have hu := hI.slice hi hd
        cases h1
        exact ⟨by simp [Builtin.cap_, ht, run_underlying hu, goInt], .int _ _⟩
      · cases hr
    · cases hr
  · cases hr
theorem aLen_ok (hI : TOk P I) {ts : Array TypeId} {ty : TypeId} {xs ys : List Value} {v : Value} (hL : LRel m xs ys) (hr : aLen I ts xs = some v) : (Builtin.len_ ts ty ys.toArray).run P w = .ok v w ∧ VRel m v v := by
  unfold aLen at hr
  split at hr
  · rename_i t x rest ht
    obtain ⟨y, ys, rfl, h1, h2⟩ := hL.cons_inv
    split at hr
    · rename_i i hi
      split at hr
      · rename_i hd
        cases h1; cases hr
        exact ⟨by simp [Builtin.len_, ht, run_underlying (hI.str hi hd), goInt], .int _ _⟩
      · rename_i el b n c hd
        cases hr
        have hu := hI.slice hi hd
        cases h1
        · exact ⟨by simp [Builtin.len_, ht, run_underlying hu, goInt], .int _ _⟩
        · exact ⟨by simp [Builtin.len_, ht, run_underlying hu, goInt], .int _ _⟩
        · exact ⟨by simp [Builtin.len_, ht, run_underlying hu, goInt], .int _ _⟩
        · exact ⟨by simp [Builtin.len_, ht, run_underlying hu, goInt], .int _ _⟩
      · rename_i n el _ hd
        cases hr
        refine ⟨?_, .int _ _⟩
        simp only [Builtin.len_, ht, List.getElem?_toArray, List.getElem?_cons_zero, Sem.run_bind, run_underlying (hI.array hi hd), Result.andThen_ok]
        cases y <;> rfl
      · cases hr
    · cases hr
  · cases hr
theorem aExtract_ok {x x' v : Value} {i : Nat} (hx : VRel m x x') (hr : aExtract x i = some v) : ∃ v', (∀ w, (Instr.extract x' i).run P w = .ok v' w) ∧ VRel m v v' := by
  unfold aExtract at hr
  split at hr
  · rename_i vs
    cases hx with
    | tuple hs hh =>
      rename_i vs'
      have hi : i < vs'.size := by rw [← hs]; exact (Array.getElem?_eq_some_iff.1 hr).1
      have hv' : vs'[i]? = some vs'[i] := Array.getElem?_eq_getElem hi
      exact ⟨vs'[i], fun w => by simp [Instr.extract, hv'], hh i v _ hr hv'⟩
  · cases hr
end
end Go.Proofs.Ytpgkbdkkcladcaa.Eng
/- The engine, part 5: operations that make or turn memory: literals, make, append, copy, parts of slices, texts' runes. A lemma file: it claims nothing of the program. -/
namespace Go.Proofs.Ytpgkbdkkcladcaa.Eng
open Go

def fillL (place : Nat → Option (Nat × Nat)) : List Value → List (Nat × Value) → Option (List Value)
  | cells, [] => some cells
  | cells, (i, v) :: rest => match place i with
    | some (off, size) => if v.cells.toList.length = size ∧ off + size ≤ cells.length then fillL place (cells.take off ++ v.cells.toList ++ cells.drop (off + v.cells.toList.length)) rest else none
    | none => none
def places (I : Tab) : List (Nat × TypeId) → Option (List (Nat × Nat))
  | [] => some []
  | (off, t) :: fs => match I t, places I fs with
    | some j, some r => some ((off, j.size) :: r)
    | _, _ => none
def aBuild (I : Tab) (t : TypeId) (parts : List (Nat × Value)) : Option Value := match I t with
  | some i => if flatV i.zero = true then match i.d with
    | .struct fs => match places I fs with
      | some ps => match fillL (fun j => ps[j]?) i.zero.cells.toList parts with
        | some cs => some (.agg cs.toArray)
        | none => none
      | none => none
    | _ => none
    else none
  | none => none
def fillE (z : Nat) : List (List Value) → List (Nat × Value) → Option (List (List Value))
  | els, [] => some els
  | els, (i, v) :: rest => if v.cells.toList.length = z ∧ i < els.length ∧ v.cells.toList.all (·.oneCell') = true then fillE z (els.set i v.cells.toList) rest else none
def aBuildSlice (I : Tab) (t : TypeId) (len : Nat) (parts : List (Nat × Value)) (H : AHeap) : Res := match I t with
  | some i => match i.d with
    | .slice e => match I e with
      | some j => if flatV j.zero = true ∧ j.zero.cells.toList.length = j.size ∧ len * j.size ≤ 16777216 then match fillE j.size (List.replicate len j.zero.cells.toList) parts with
        | some els => some (.slice (some ⟨H.length, 0, none⟩) len 0, H ++ [.row true j.size els], [])
        | none => none
        else none
      | none => none
    | _ => none
  | none => none
def aMake (I : Tab) (t : TypeId) (l c : Value) (H : AHeap) : Res := match I t, l, c with
  | some i, .int _ l, .int _ c => match i.d with
    | .slice e => match I e with
      | some j => if flatV j.zero = true ∧ j.zero.cells.toList.length = j.size ∧ 0 ≤ l ∧ l ≤ c ∧ (j.bytes : Int) * c ≤ 281474976710656 ∧ c ≤ 9223372036854775807 then
          some (.slice (some ⟨H.length, 0, none⟩) l.toNat 0, H ++ [.row true j.size (List.replicate l.toNat j.zero.cells.toList)], [])
        else none
      | none => none
    | _ => none
  | _, _, _ => none
/-- The elements that a slice shows. -/
def elsOf (z : Nat) (x : Value) (H : AHeap) : Option (List (List Value)) := match x with
  | .slice none 0 0 => some []
  | .slice (some ⟨id, e, none⟩) n _ => match H[id]? with
    | some (.row _ z' els) => if z' = z ∧ e + n ≤ els.length then some ((els.drop e).take n) else none
    | some (.old _ z' els) => if z' = z ∧ e + n ≤ els.length then some ((els.drop e).take n) else none
    | _ => none
  | _ => none
def isIntT (i : TInfo) : Bool := match i.d with
  | .int _ => true
  | _ => false
def aAppend (I : Tab) (ts : Array TypeId) (xs : List Value) (H : AHeap) : Res := match ts[0]?, ts[1]?, xs with
  | some t, some t2, [s, x] => match I t, I t2 with
    | some i, some i2 => match i.d, isIntT i2 with
      | .slice e, false => match I e with
        | some j => match elsOf j.size x H, s with
          | some new, .slice none 0 0 => if new.length * j.bytes ≤ 140737488355328 ∧ new.length ≤ 9223372036854775807 ∧ flatV j.zero = true ∧ j.zero.cells.toList.length = j.size then
              some (.slice (some ⟨H.length, 0, none⟩) new.length 0, H ++ [.row (decide (0 < new.length)) j.size new], [])
            else none
          | some new, .slice (some ⟨id, 0, none⟩) n _ => match H[id]? with
            | some (.row sr z els) => if z = j.size ∧ n ≤ els.length ∧ (n + new.length) * j.bytes ≤ 140737488355328 ∧ n + new.length ≤ 9223372036854775807 ∧ flatV j.zero = true ∧ j.zero.cells.toList.length = j.size then
                some (.slice (some ⟨H.length, 0, none⟩) (n + new.length) 0, H.set id .dead ++ [.row (sr || decide (0 < n + new.length)) z (els.take n ++ new)], [id])
              else none
            | _ => none
          | _, _ => none
        | none => none
      | _, _ => none
    | _, _ => none
  | _, _, _ => none

/-- So many noughts, put onto nil. -/
def aAppendZ (I : Tab) (ts : Array TypeId) (xs : List Value) (H : AHeap) : Res := match ts.toList, xs with
  | [t, t2], [.slice none 0 0, .int k n] => match I t, I t2 with
    | some i, some i2 => match i.d, i2.d with
      | .slice e, .int _ => match I e with
        | some j => if 0 < n ∧ n.toNat * j.bytes ≤ 140737488355328 ∧ n ≤ 9223372036854775807 ∧ flatV j.zero = true ∧ j.zero.cells.toList.length = j.size then
            some (.slice (some ⟨H.length, 0, none⟩) n.toNat 0, H ++ [.row true j.size (List.replicate n.toNat j.zero.cells.toList)], [])
          else none
        | none => none
      | _, _ => none
    | _, _ => none
  | _, _ => none
section
variable {P : Program} {I : Tab} {m0 : Mp} {H0 : AHeap} {w0 : World} {H : AHeap} {m : Mp} {w : World} {a : Act} {o : Oper}

/-- Two rows of numbered values. -/
def PRel (m : Mp) (xs ys : List (Nat × Value)) : Prop := xs.map (·.1) = ys.map (·.1) ∧ LRel m (xs.map (·.2)) (ys.map (·.2))
theorem PRel.nil_inv {ys : List (Nat × Value)} (h : PRel m [] ys) : ys = [] := by
  have := h.1
  cases ys with
  | nil => rfl
  | cons _ _ => simp at this
theorem PRel.cons_inv {i : Nat} {x : Value} {xs ys : List (Nat × Value)} (h : PRel m ((i, x) :: xs) ys) : ∃ y ys', ys = (i, y) :: ys' ∧ VRel m x y ∧ PRel m xs ys' := by
  cases ys with
  | nil => have := h.1; simp at this
  | cons y ys =>
    obtain ⟨j, y⟩ := y
    have h1 := h.1
    simp at h1
    obtain ⟨y', ys', h2, h3, h4⟩ := LRel.cons_inv (by simpa using h.2)
    cases h2
    obtain ⟨rfl, h5⟩ := h1
    exact ⟨y, ys, rfl, h3, by simpa using h5, h4⟩

theorem foldl_seg (vs : List Value) : ∀ (s off : Nat) (arr : Array Value), off + s + vs.length ≤ arr.size →
    ((vs.zipIdx s).foldl (fun cs (c, j) => cs.setIfInBounds (off + j) c) arr).toList = arr.toList.take (off + s) ++ vs ++ arr.toList.drop (off + s + vs.length) := by
  induction vs with
  | nil => intro s off arr h; simp
  | cons v vs ih =>
    intro s off arr h
    simp only [List.length_cons] at h
    simp only [List.zipIdx_cons, List.foldl_cons]
    rw [ih (s + 1) off _ (by simp; omega)]
    have := list_seg_step arr.toList (off + s) v vs (by simp; omega)
    simp only [Array.toList_setIfInBounds]
    rw [show off + (s + 1) = off + s + 1 by omega]
    simpa [Nat.add_assoc] using this

theorem fill_ok {place : Nat → Option (Nat × Nat)} : ∀ {ps qs : List (Nat × Value)} {cells r : List Value} {arr : Array Value}, LRel m cells arr.toList → PRel m ps qs → fillL place cells ps = some r →
    ∃ arr' : Array Value, Instr.fill place arr qs = some arr' ∧ LRel m r arr'.toList
  | [], _, cells, r, arr, hL, hP, hr => by
    obtain rfl := hP.nil_inv
    cases hr
    exact ⟨arr, rfl, hL⟩
  | (i, v) :: ps, _, cells, r, arr, hL, hP, hr => by
    obtain ⟨u, qs, rfl, h1, h2⟩ := hP.cons_inv
    simp only [fillL] at hr
    split at hr
    · rename_i off size hp
      split at hr
      · rename_i hc
        have hv := LRel.cells h1
        have hvl := hv.1
        have hLl := hL.1
        simp only [Array.length_toList] at hvl hLl hc
        have hn : ¬ (u.cells.size ≠ size ∨ off + u.cells.size > arr.size) := by omega
        have hseg := foldl_seg u.cells.toList 0 off arr (by simp; omega)
        simp only [Nat.add_zero] at hseg
        have hk : off + v.cells.toList.length ≤ cells.length := by simp; omega
        have hL' : LRel m (cells.take off ++ v.cells.toList ++ cells.drop (off + v.cells.toList.length)) ((u.cells.zipIdx.foldl (fun cs (c, j) => cs.setIfInBounds (off + j) c) arr).toList) := by
          have e : (u.cells.zipIdx.foldl (fun cs (c, j) => cs.setIfInBounds (off + j) c) arr) = ((u.cells.toList.zipIdx 0).foldl (fun cs (c, j) => cs.setIfInBounds (off + j) c) arr) := by
            rw [← Array.foldl_toList, Array.toList_zipIdx]
          rw [e, hseg]
          exact hL.seg hv hk
        obtain ⟨arr', h3, h4⟩ := fill_ok hL' h2 hr
        refine ⟨arr', ?_, h4⟩
        simp only [Instr.fill, hp]
        have hn2 : (decide (u.cells.size ≠ size) || decide (off + u.cells.size > arr.size)) = false := by
          simp only [Bool.or_eq_false_iff, decide_eq_false_iff_not]
          exact ⟨by omega, by omega⟩
        rw [if_neg (by rw [hn2]; simp)]
        exact h3
      · cases hr
    · cases hr

theorem run_mapM_list {α β : Type} (f : α → Sem β) (g : α → β) (w : World) : ∀ (xs : List α), (∀ x ∈ xs, (f x).run P w = .ok (g x) w) → (xs.mapM f).run P w = .ok (xs.map g) w
  | [], _ => by simp
  | x :: xs, h => by
    have h0 := h x (by simp)
    have ih := run_mapM_list f g w xs (fun y hy => h y (by simp [hy]))
    simp [List.mapM_cons, h0, ih]
theorem places_ok (hI : TOk P I) : ∀ {fs : List Field} {ps : List (Nat × Nat)}, places I (fs.map fun f => (f.offset, f.type)) = some ps →
    ∀ f ∈ fs, ∃ j, I f.type = some j
  | [], _, _, f, hf => by simp at hf
  | g :: fs, ps, h, f, hf => by
    simp only [List.map_cons, places] at h
    split at h
    · rename_i j r hj hr
      rcases List.mem_cons.1 hf with rfl | hf
      · exact ⟨j, hj⟩
      · exact places_ok hI hr f hf
    · cases h
theorem places_eq (hI : TOk P I) (sz : TypeId → Nat) (hsz : ∀ t j, I t = some j → sz t = j.size) : ∀ {fs : List Field} {ps : List (Nat × Nat)}, places I (fs.map fun f => (f.offset, f.type)) = some ps →
    ps = fs.map fun f => (f.offset, sz f.type)
  | [], _, h => by simp [places] at h; simp [h]
  | g :: fs, ps, h => by
    simp only [List.map_cons, places] at h
    split at h
    · rename_i j r hj hr
      cases h
      rw [places_eq hI sz hsz hr, List.map_cons, hsz _ _ hj]
    · cases h

theorem aBuild_ok (hI : TOk P I) {t : TypeId} {parts : Array (Nat × Value)} {ps : List (Nat × Value)} {v : Value} (hP : PRel m ps parts.toList) (hr : aBuild I t ps = some v) :
    ∃ v', (∀ w, (Instr.build t parts).run P w = .ok v' w) ∧ VRel m v v' := by
  unfold aBuild at hr
  split at hr
  · rename_i i hi
    split at hr
    · rename_i hf
      split at hr
      · rename_i fs hd
        split at hr
        · rename_i pl hpl
          split at hr
          · rename_i cs hcs
            cases hr
            obtain ⟨fields, hu, he⟩ := hI.struct hi hd
            subst he
            obtain ⟨arr', h1, h2⟩ := fill_ok (LRel.cells (flatV_ok m hf)) hP hcs
            have hsz : ∀ t j, I t = some j → P.cellsOf t = j.size := by
              intro t j hj
              obtain ⟨_, inf, _, h3, _, h4, _⟩ := hI.ok t j hj
              simp [Program.cellsOf, h3, h4]
            have hpe := places_eq hI P.cellsOf hsz hpl
            have hmap : ∀ w, (fields.mapM fun f => do pure (f.offset, ← sizeOf f.type) : Sem (Array (Nat × Nat))).run P w = .ok (pl.toArray) w := by
              intro w
              rw [Array.mapM_eq_mapM_toList, Sem.run_map, run_mapM_list _ (fun f : Field => (f.offset, P.cellsOf f.type)) w fields.toList ?_]
              · simp [hpe]
              · intro f hf'
                obtain ⟨j, hj⟩ := places_ok hI hpl f hf'
                simp [hI.size hj w, hsz _ _ hj]
            refine ⟨.agg arr', fun w => ?_, by have := VRel.ofL h2; simpa using this⟩
            have hg : (fun x : Nat => pl.toArray[x]?) = fun x => pl[x]? := by funext x; simp
            simp only [Instr.build, Sem.run_bind, hI.zeroV hi w, Result.andThen_ok, run_underlying hu, hmap, hg, h1, Sem.run_pure]
          · cases hr
        · cases hr
      · cases hr
    · cases hr
  · cases hr
end
end Go.Proofs.Ytpgkbdkkcladcaa.Eng
/- The engine, part 6: rows: make, literals, parts, append, copy; texts' runes. A lemma file: it claims nothing of the program. -/
namespace Go.Proofs.Ytpgkbdkkcladcaa.Eng
open Go

section
variable {P : Program} {I : Tab} {m0 : Mp} {H0 : AHeap} {w0 : World} {H : AHeap} {m : Mp} {w : World} {a : Act} {o : Oper}

theorem flat_len {z : Nat} : ∀ {els : List (List Value)}, (∀ c ∈ els, c.length = z) → els.flatten.length = els.length * z
  | [], _ => by simp
  | c :: els, h => by
    have h1 := h c (by simp)
    have h2 := flat_len (els := els) (fun d hd => h d (by simp [hd]))
    simp only [List.flatten_cons, List.length_append, h1, h2, List.length_cons, Nat.add_mul, Nat.one_mul]
    omega
theorem flat_get {z : Nat} : ∀ {els : List (List Value)}, (∀ c ∈ els, c.length = z) → ∀ {e : Nat} {c : List Value}, els[e]? = some c → (els.flatten.drop (e * z)).take z = c
  | [], _, e, c, h => by simp at h
  | d :: els, hz, e, c, h => by
    have h1 := hz d (by simp)
    cases e with
    | zero =>
      simp at h
      subst h
      simp only [Nat.zero_mul, List.drop_zero, List.flatten_cons]
      rw [List.take_append_of_le_length (by omega), List.take_of_length_le (by omega)]
    | succ e =>
      have := flat_get (els := els) (fun q hq => hz q (by simp [hq])) (e := e) (c := c) (by simpa using h)
      rw [List.flatten_cons, List.drop_append, List.drop_of_length_le (by rw [h1, Nat.add_mul]; omega), List.nil_append, show (e + 1) * z - d.length = e * z by rw [h1, Nat.add_mul]; omega]
      exact this
theorem flat_at {z : Nat} : ∀ {els : List (List Value)}, (∀ c ∈ els, c.length = z) → ∀ {j : Nat} {x : Value}, els.flatten[j]? = some x → ∃ e k c, els[e]? = some c ∧ c[k]? = some x ∧ j = e * z + k
  | [], _, j, x, h => by simp at h
  | d :: els, hz, j, x, h => by
    have h1 := hz d (by simp)
    rw [List.flatten_cons] at h
    by_cases hj : j < d.length
    · rw [List.getElem?_append_left hj] at h
      exact ⟨0, j, d, rfl, h, by omega⟩
    · rw [List.getElem?_append_right (by omega)] at h
      obtain ⟨e, k, c, g1, g2, g3⟩ := flat_at (els := els) (fun q hq => hz q (by simp [hq])) h
      exact ⟨e + 1, k, c, by simpa using g1, g2, by rw [Nat.add_mul]; omega⟩
/-- A row's elements out of its cells, one behind the other. -/
theorem els_of_flat {z : Nat} {els : List (List Value)} (hz : ∀ c ∈ els, c.length = z) {L X : List Value} (h : LRel m els.flatten L) (e : Nat) (c : List Value) (hc : els[e]? = some c) : LRel m c (((L ++ X).drop (e * z)).take z) := by
  have h1 := (h.drop (e * z)).take z
  rw [flat_get hz hc] at h1
  have hl : L.length = els.length * z := by rw [← h.1]; exact flat_len hz
  have he := mul_fit (z := z) (List.getElem?_eq_some_iff.1 hc).1
  rw [List.drop_append_of_le_length (by omega), List.take_append_of_le_length (by rw [List.length_drop]; omega)]
  exact h1
theorem flat_of_els {z : Nat} : ∀ {els : List (List Value)} {A : List Value}, (∀ c ∈ els, c.length = z) → els.length * z ≤ A.length → (∀ e c, els[e]? = some c → LRel m c ((A.drop (e * z)).take z)) → LRel m els.flatten (A.take (els.length * z))
  | [], A, _, _, _ => by simp only [List.flatten_nil, List.length_nil, Nat.zero_mul, List.take_zero]; exact .nil m
  | d :: els, A, hz, hl, h => by
    have h0 := h 0 d rfl
    simp only [Nat.zero_mul, List.drop_zero] at h0
    have h1 := hz d (by simp)
    simp only [List.length_cons, Nat.add_mul, Nat.one_mul] at hl
    have ih := flat_of_els (els := els) (A := A.drop z) (fun q hq => hz q (by simp [hq])) (by rw [List.length_drop]; omega) (fun e c hc => by
      have := h (e + 1) c (by simpa using hc)
      rwa [Nat.add_mul, Nat.one_mul, Nat.add_comm, ← List.drop_drop] at this)
    have := h0.app ih
    rw [List.flatten_cons, List.length_cons, Nat.add_mul, Nat.one_mul]
    rwa [← List.take_add, Nat.add_comm z] at this

theorem row_cell {i : MI} {id z : Nat} {els : List (List Value)} {b : ABlk} (hB : BRel m w i b) (hb : (∃ s, b = .row s z els) ∨ (∃ s, b = .old s z els)) (hv : i.void = false) :
    i.z = z ∧ RowOk z els ∧ ∀ (e : Nat) (c : List Value) (k : Nat) (x : Value), els[e]? = some c → c[k]? = some x → ∃ v, w.cell? ⟨i.blk, i.off + e * z + k, none⟩ = some v ∧ VRel m x v := by
  rcases hb with ⟨s, rfl⟩ | ⟨s, rfl⟩
  · obtain ⟨h1, h2, h3, h4⟩ := hB
    rcases h4 with ⟨h5, _⟩ | ⟨_, arr, T, h7, h8, h9, h10⟩
    · rw [hv] at h5; cases h5
    · refine ⟨h1, h3, fun e c k x he hx => ?_⟩
      obtain ⟨v, hv1, hv2⟩ := (h10 e c he).get hx
      obtain ⟨_, hv1⟩ := drop_take_get hv1
      refine ⟨v, ?_, hv2⟩
      simp only [World.cell?, h7, h2, Nat.zero_add]
      simpa using hv1
  · obtain ⟨h1, h2, h3⟩ := hB
    rcases h3 with ⟨h5, _⟩ | ⟨_, _, h7⟩
    · rw [hv] at h5; cases h5
    · exact ⟨h1, h2, fun e c k x he hx => h7 e c k x he hx⟩

/-- What a slice shows stands in memory. -/
theorem elsOf_ok (hM : Match m H w) {z : Nat} {x x' : Value} {new : List (List Value)} (hx : VRel m x x') (hr : elsOf z x H = some new) :
    (x' = .slice none 0 0 ∧ new = []) ∨ ∃ (A : Addr) (n cap : Nat) (vs : List Value), x' = .slice (some A) n cap ∧ new.length = n ∧ RowOk z new ∧ LRel m new.flatten vs ∧ vs.length = n * z ∧ ∀ (j : Nat) (v : Value), vs[j]? = some v → w.cell? (A.add j) = some v := by
  unfold elsOf at hr
  split at hr
  · cases hx; cases hr; exact .inl ⟨rfl, rfl⟩
  · rename_i id e n cp
    have key : ∀ {els : List (List Value)} {b : ABlk}, H[id]? = some b → ((∃ s, b = .row s z els) ∨ (∃ s, b = .old s z els)) → e + n ≤ els.length → new = (els.drop e).take n →
        (x' = .slice none 0 0 ∧ new = []) ∨ ∃ (A : Addr) (n cap : Nat) (vs : List Value), x' = .slice (some A) n cap ∧ new.length = n ∧ RowOk z new ∧ LRel m new.flatten vs ∧ vs.length = n * z ∧ ∀ (j : Nat) (v : Value), vs[j]? = some v → w.cell? (A.add j) = some v := by
      intro els b hb hbb hle hnew
      subst hnew
      have hnl : ((els.drop e).take n).length = n := by simp; omega
      cases hx with
      | vslc h1 h2 => exact .inl ⟨rfl, by simp⟩
      | eslc h1 h2 =>
        exact .inr ⟨_, 0, 0, [], rfl, by simp, by simpa using RowOk.nil z, by simpa using LRel.nil m, by simp, by simp⟩
      | slc h1 h2 h3 h4 =>
        rename_i cap i
        obtain ⟨b', hb', hB⟩ := hM.has _ _ h1
        rw [hb] at hb'
        cases hb'
        obtain ⟨g1, g2, g3⟩ := row_cell (id := id) hB hbb h2
        have hz : RowOk z ((els.drop e).take n) := (g2.drop e).take n
        obtain ⟨vs, hL, hc⟩ := mem_vals (m := m) (w := w) (cs := ((els.drop e).take n).flatten) (a := ⟨i.blk, i.off + e * i.z, none⟩) (fun j x hj => by
          obtain ⟨f, k, c, q1, q2, q3⟩ := flat_at hz.len hj
          obtain ⟨q4, q1⟩ := drop_take_get q1
          obtain ⟨v, hv1, hv2⟩ := g3 (e + f) c k x q1 q2
          refine ⟨v, ?_, hv2⟩
          rw [add_none, q3, g1, ← hv1, Nat.add_mul]
          congr 2
          omega)
        exact .inr ⟨_, n, cap, vs, rfl, hnl, hz, hL, by rw [← hL.1, flat_len hz.len, hnl], hc⟩
    split at hr
    · rename_i s z' els hb
      split at hr
      · rename_i hc
        cases hr
        obtain ⟨rfl, hc⟩ := hc
        exact key hb (.inl ⟨s, rfl⟩) hc rfl
      · cases hr
    · rename_i s z' els hb
      split at hr
      · rename_i hc
        cases hr
        obtain ⟨rfl, hc⟩ := hc
        exact key hb (.inr ⟨s, rfl⟩) hc rfl
      · cases hr
    · cases hr
  · cases hr

/-! ### new rows -/
theorem new_row (h : Run m0 H0 w0 H m w) {z : Nat} {els : List (List Value)} {arr : Array Value} (T : TypeId) (hz : RowOk z els) (hl : els.length * z ≤ arr.size)
    (hE : ∀ e c, els[e]? = some c → LRel m c ((arr.toList.drop (e * z)).take z)) {n cap : Nat} (hn : n ≤ cap) (hcap : cap * z ≤ arr.size) (s : Bool) (cp : Nat) :
    Run m0 H0 w0 (H ++ [.row s z els]) (upd m H.length ⟨w.heap.size, 0, z, arr.size, false⟩) (w.alloc (.cells arr T)) ∧
    Mp.le m (upd m H.length ⟨w.heap.size, 0, z, arr.size, false⟩) ∧
    VRel (upd m H.length ⟨w.heap.size, 0, z, arr.size, false⟩) (.slice (some ⟨H.length, 0, none⟩) n cp) (.slice (some ⟨w.heap.size, 0, none⟩) n cap) := by
  have hle := le_upd ⟨w.heap.size, 0, z, arr.size, false⟩ h.mt.fresh
  refine ⟨h.made _ _ rfl _ ⟨rfl, rfl, hz, .inr ⟨rfl, arr, T, alloc_new w _, rfl, hl, fun e c hc => (hE e c hc).mono hle⟩⟩, hle, ?_⟩
  have := VRel.slc (m := upd m H.length ⟨w.heap.size, 0, z, arr.size, false⟩) (id := H.length) (e := 0) (cp := cp) (cap := cap) (len := n) (i := ⟨w.heap.size, 0, z, arr.size, false⟩) (by simp [upd]) rfl hn (by simpa using hcap)
  simpa using this
theorem void_row (h : Run m0 H0 w0 H m w) (z cp : Nat) :
    Run m0 H0 w0 (H ++ [.row false z []]) (upd m H.length ⟨0, 0, z, 0, true⟩) w ∧ Mp.le m (upd m H.length ⟨0, 0, z, 0, true⟩) ∧ VRel (upd m H.length ⟨0, 0, z, 0, true⟩) (.slice (some ⟨H.length, 0, none⟩) 0 cp) (.slice none 0 0) :=
  ⟨h.name _ _ ⟨rfl, rfl, RowOk.nil z, .inl ⟨rfl, rfl, rfl⟩⟩ (fun _ hv => by cases hv) (fun _ hv => by cases hv), le_upd _ h.mt.fresh, .vslc (i := ⟨0, 0, z, 0, true⟩) (by simp [upd]) rfl⟩

theorem fillE_ok {z : Nat} : ∀ {ps qs : List (Nat × Value)} {els r : List (List Value)} {arr : Array Value}, RowOk z els → els.length * z = arr.size →
    (∀ e c, els[e]? = some c → LRel m c ((arr.toList.drop (e * z)).take z)) → PRel m ps qs → fillE z els ps = some r →
    ∃ arr' : Array Value, Instr.fill (fun i => some (i * z, z)) arr qs = some arr' ∧ RowOk z r ∧ r.length = els.length ∧ r.length * z = arr'.size ∧ ∀ e c, r[e]? = some c → LRel m c ((arr'.toList.drop (e * z)).take z)
  | [], _, els, r, arr, hz, hl, hE, hP, hr => by
    obtain rfl := hP.nil_inv
    cases hr
    exact ⟨arr, rfl, hz, rfl, hl, hE⟩
  | (i, v) :: ps, _, els, r, arr, hz, hl, hE, hP, hr => by
    obtain ⟨u, qs, rfl, h1, h2⟩ := hP.cons_inv
    simp only [fillE] at hr
    split at hr
    · rename_i hc
      obtain ⟨hc1, hc2, hc3⟩ := hc
      have hv := LRel.cells h1
      have hvl := hv.1
      have hfit := mul_fit (z := z) hc2
      have hul : u.cells.size = z := by simpa [hc1] using hvl.symm
      have hseg := foldl_seg u.cells.toList 0 (i * z) arr (by simp [hul]; omega)
      simp only [Nat.add_zero] at hseg
      let arr1 := u.cells.zipIdx.foldl (fun cs (c, j) => cs.setIfInBounds (i * z + j) c) arr
      have e1 : arr1.toList = arr.toList.take (i * z) ++ u.cells.toList ++ arr.toList.drop (i * z + u.cells.toList.length) := by
        have e : arr1 = ((u.cells.toList.zipIdx 0).foldl (fun cs (c, j) => cs.setIfInBounds (i * z + j) c) arr) := by
          show u.cells.zipIdx.foldl (fun cs (c, j) => cs.setIfInBounds (i * z + j) c) arr = _
          rw [← Array.foldl_toList, Array.toList_zipIdx]
        rw [e, hseg]
      have hal : i * z + u.cells.toList.length ≤ arr.toList.length := by simp [hul]; omega
      have hs1 : arr1.size = arr.size := by
        have := congrArg List.length e1
        rw [seg_len hal] at this
        simpa using this
      have hz' : RowOk z (els.set i v.cells.toList) := hz.set hc1 (fun u hu => List.all_eq_true.1 hc3 u hu) i
      have hE' : ∀ e c, (els.set i v.cells.toList)[e]? = some c → LRel m c ((arr1.toList.drop (e * z)).take z) := by
        intro e c hc
        have hel : e < els.length := by have := (List.getElem?_eq_some_iff.1 hc).1; simpa using this
        have hfe := mul_fit (z := z) hel
        have hcz := (hz' c (List.mem_of_getElem? hc)).1
        refine ⟨?_, fun j x y hx hy => ?_⟩
        · rw [hcz, List.length_take, List.length_drop, Array.length_toList, hs1]; omega
        · obtain ⟨hj, hy⟩ := drop_take_get hy
          rw [e1, seg_get hal] at hy
          simp only [Array.length_toList, hul] at hy
          by_cases q : i = e
          · subst q
            rw [List.getElem?_set_self hc2] at hc
            cases hc
            rw [if_neg (by omega), if_pos (by omega), show i * z + j - i * z = j by omega] at hy
            exact hv.2 j x y hx hy
          · rw [List.getElem?_set_ne q] at hc
            have hh : e * z + j < i * z ∨ i * z + z ≤ e * z + j := by
              rcases Nat.lt_or_gt_of_ne q with hlt | hlt
              · have := mul_fit (z := z) hlt; right; omega
              · have := mul_fit (z := z) hlt; left; omega
            have hy' : arr.toList[e * z + j]? = some y := by
              rcases hh with t1 | t1
              · rwa [if_pos t1] at hy
              · rwa [if_neg (by omega), if_neg (by omega)] at hy
            exact (hE e c hc).2 j x y hx (by rw [List.getElem?_take, if_pos hj, List.getElem?_drop]; exact hy')
      obtain ⟨arr', g1, g2, g3, g4, g5⟩ := fillE_ok hz' (by rw [List.length_set, hs1]; exact hl) hE' h2 hr
      refine ⟨arr', ?_, g2, by rw [g3, List.length_set], g4, g5⟩
      simp only [Instr.fill]
      have hn2 : (decide (u.cells.size ≠ z) || decide (i * z + u.cells.size > arr.size)) = false := by
        simp only [Bool.or_eq_false_iff, decide_eq_false_iff_not]
        exact ⟨by omega, by omega⟩
      rw [if_neg (by rw [hn2]; simp)]
      exact g1
    · cases hr

theorem flat_ones {v : Value} (h : flatV v = true) : ∀ u ∈ v.cells.toList, u.oneCell' = true := by
  have g : ∀ u : Value, flat1 u = true → u.oneCell' = true := fun u hu => by cases u <;> simp_all [flat1, Value.oneCell']
  intro u hu
  unfold flatV at h
  split at h
  · exact g u (List.all_eq_true.1 h u (by simpa [Value.cells] using hu))
  · rename_i hn
    have : v.cells = #[v] := by cases v <;> first | rfl | (exact absurd rfl (hn _))
    rw [this] at hu
    simp at hu
    subst hu
    exact g _ h
theorem made_els {zero : List Value} {l c z : Nat} (hz : zero.length = z) (hlc : l ≤ c) (hf : LRel m zero zero) (h1 : ∀ v ∈ zero, v.oneCell' = true) :
    RowOk z (List.replicate l zero) ∧ (List.replicate l zero).length * z ≤ (madeCells zero.toArray (c * z)).size ∧
    ∀ e q, (List.replicate l zero)[e]? = some q → LRel m q (((madeCells zero.toArray (c * z)).toList.drop (e * z)).take z) := by
  refine ⟨fun q hq => by rw [List.eq_of_mem_replicate hq]; exact ⟨hz, h1⟩, by rw [List.length_replicate, size_madeCells]; exact Nat.mul_le_mul_right _ hlc, fun e q hq => ?_⟩
  have hq' := List.getElem?_eq_some_iff.1 hq
  have hel : e < l := by simpa using hq'.1
  have : q = zero := List.eq_of_mem_replicate (List.mem_of_getElem? hq)
  subst this
  have hfit := mul_fit (z := z) (show e < c by omega)
  have hml : (madeCells q.toArray (c * z)).toList.length = c * z := by simp [madeCells]
  refine ⟨by rw [List.length_take, List.length_drop, hml]; omega, fun j x y hx hy => ?_⟩
  obtain ⟨hj, hy⟩ := drop_take_get hy
  have hy' : (madeCells q.toArray (c * z))[e * z + j]? = some y := by simpa using hy
  have hjz : (e * z + j) % z = j := by rw [Nat.mul_comm, Nat.mul_add_mod]; exact Nat.mod_eq_of_lt hj
  have hjq : j < q.length := by omega
  simp only [madeCells, Array.getElem?_map, List.size_toArray, hz] at hy'
  rw [Array.getElem?_range, if_pos (by omega)] at hy'
  simp only [Option.map_some, Option.some.injEq, hjz] at hy'
  have hy2 : q[j]? = some y := by
    rw [← hy']
    simp [hjq]
  exact hf.2 j x y hx hy2

theorem aMake_ok (hI : TOk P I) (h : Run m0 H0 w0 H m w) {t : TypeId} {ol oc : Operand} (ho : o.op = .makeSlice t ol oc) {l c v : Value} {H' : AHeap} {tc : List Nat} (hl : VRel m l (a.eval ol)) (hc : VRel m c (a.eval oc))
    (hr : aMake I t l c H = some (v, H', tc)) : Good P m0 H0 w0 m o a w v H' tc := by
  unfold aMake at hr
  split at hr
  · rename_i i kl l kc c hi
    split at hr
    · rename_i e hd
      split at hr
      · rename_i j hj
        split at hr
        · rename_i hh
          cases hr
          obtain ⟨c1, c2, c3, c4, c5, c6⟩ := hh
          generalize hql : a.eval ol = ql at hl
          generalize hqc : a.eval oc = qc at hc
          cases hl; cases hc
          obtain ⟨u, inf, _, g2, _, g4, g5, g6⟩ := hI.ok e j hj
          have hz : j.zero.cells.toList.toArray = j.zero.cells := by simp
          have hf : LRel m j.zero.cells.toList j.zero.cells.toList := LRel.cells (flatV_ok m c1)
          obtain ⟨q1, q2, q3⟩ := made_els (m := m) (l := l.toNat) (c := c.toNat) c2 (by omega) hf (flat_ones c1)
          have hrun := run_make (P := P) w t e inf j.zero (hI.slice hi hd) g2 g6 kl kc l c c3 c4 (by rw [g5]; exact c5) c6
          rw [hz] at q2 q3
          obtain ⟨r1, r2, r3⟩ := new_row h e q1 q2 q3 (n := l.toNat) (cap := c.toNat) (by omega) (by rw [size_madeCells]; exact Nat.le_refl _) true 0
          refine ⟨_, _, _, .inl ?_, r1, r2, r3, .alloc _ _ _ _⟩
          rw [g4] at hrun
          simp [execOp, ho, hql, hqc, hrun]
        · cases hr
      · cases hr
    · cases hr
  · cases hr
theorem run_buildSlice (w : World) {t e : TypeId} {len sz N : Nat} {z : Value} {parts : Array (Nat × Value)} {arr : Array Value} (hu : P.underlying t = some (.slice e)) (hs : (sizeOf e).run P w = .ok sz w) (hz : (zeroValue e).run P w = .ok z w)
    (hN : len * sz = N) (hle : N ≤ 16777216) (hf : Instr.fill (fun i => some (i * sz, sz)) (madeCells z.cells N) parts.toList = some arr) :
    (Instr.buildSlice t len parts).run P w = .ok (.slice (some ⟨w.heap.size, 0, none⟩) len len) (w.alloc (.cells arr e)) := by
  have hn : ¬ (N > 2 ^ 24) := by omega
  simp only [Instr.buildSlice, Sem.run_bind, run_underlying hu, hs, Result.andThen_ok, hN]
  rw [if_neg hn]
  by_cases h0 : N = 0
  · subst h0
    have e0 : (Array.range 0).map ((#[] : Array Value)[· % (#[] : Array Value).size]!) = madeCells z.cells 0 := by simp [madeCells, Array.range_zero']
    simp only [if_true, Sem.run_bind, Sem.run_pure, Result.andThen_ok, e0, hf]
    simp [newRow]
  · have e0 : (Array.range N).map (z.cells[· % z.cells.size]!) = madeCells z.cells N := rfl
    simp only [h0, if_false, Sem.run_bind, hz, Sem.run_pure, Result.andThen_ok, e0, hf]
    simp [newRow]
theorem aBuildSlice_ok (hI : TOk P I) (h : Run m0 H0 w0 H m w) {t : TypeId} {len : Nat} {parts : Array (Nat × Operand)} (ho : o.op = .buildSlice t len parts) {ps : List (Nat × Value)} {v : Value} {H' : AHeap} {tc : List Nat}
    (hP : PRel m ps (parts.map fun (i, x) => (i, a.eval x)).toList) (hr : aBuildSlice I t len ps H = some (v, H', tc)) : Good P m0 H0 w0 m o a w v H' tc := by
  unfold aBuildSlice at hr
  split at hr
  · rename_i i hi
    split at hr
    · rename_i e hd
      split at hr
      · rename_i j hj
        split at hr
        · rename_i hh
          split at hr
          · rename_i els hels
            cases hr
            obtain ⟨c1, c2, c3⟩ := hh
            have hf : LRel m j.zero.cells.toList j.zero.cells.toList := LRel.cells (flatV_ok m c1)
            obtain ⟨q1, q2, q3⟩ := made_els (m := m) (l := len) (c := len) c2 (Nat.le_refl _) hf (flat_ones c1)
            have hz : j.zero.cells.toList.toArray = j.zero.cells := by simp
            rw [hz] at q2 q3
            obtain ⟨arr', g1, g2, g3, g4, g5⟩ := fillE_ok q1 (by rw [List.length_replicate, size_madeCells]) q3 hP hels
            rw [List.length_replicate] at g3
            rw [g3] at g4
            obtain ⟨r1, r2, r3⟩ := new_row h e g2 (by rw [g3]; exact Nat.le_of_eq g4) g5 (n := len) (cap := len) (Nat.le_refl _) (Nat.le_of_eq g4) true 0
            refine ⟨_, _, _, .inl ?_, r1, r2, r3, .alloc _ _ _ _⟩
            have := run_buildSlice (P := P) w (hI.slice hi hd) (hI.size hj w) (hI.zeroV hj w) rfl c3 g1
            simp [execOp, ho, this]
          · cases hr
        · cases hr
      · cases hr
    · cases hr
  · cases hr
end
end Go.Proofs.Ytpgkbdkkcladcaa.Eng
/- The engine, part 7: parts of slices and texts, append, copy, texts' runes; all operations together. A lemma file: it claims nothing of the program. -/
namespace Go.Proofs.Ytpgkbdkkcladcaa.Eng
open Go

section
variable {P : Program} {I : Tab} {m0 : Mp} {H0 : AHeap} {w0 : World} {H : AHeap} {m : Mp} {w : World} {a : Act} {o : Oper}

theorem bounds_ok (isS : Bool) (len cap d : Nat) {lo hi lo' hi' : Option Value} {l h : Int} (hl : boundI 0 lo = some l) (hh : boundI len hi = some h) (el : lo' = lo) (eh : hi' = hi)
    (h0 : 0 ≤ l) (h1 : l ≤ h) (h2 : h ≤ (cap : Int)) : (Instr.sliceBounds isS len cap lo' hi' none).run P w = .ok (l.toNat, h.toNat, cap) w := by
  subst el eh
  have e1 : (h.toNat : Int) = h := Int.toNat_of_nonneg (by omega)
  have b1 : ∀ (k : IntKind) (c : BoundsCode), (Instr.sliceBound (.int k h) cap c).run P w = .ok h.toNat w := fun k c => run_sliceBound w k h cap c (by omega) h2
  have b2 : ∀ (k : IntKind) (c : BoundsCode), (Instr.sliceBound (.int k l) h.toNat c).run P w = .ok l.toNat w := fun k c => run_sliceBound w k l h.toNat c h0 (by omega)
  cases lo' with
  | none =>
    simp only [boundI, Option.some.injEq] at hl
    cases hi' with
    | none =>
      simp only [boundI, Option.some.injEq] at hh
      subst hh hl
      simp [Instr.sliceBounds]
    | some v =>
      cases v <;> simp only [boundI, Option.some.injEq] at hh <;> first | (cases hh; done) | skip
      subst hh hl
      simp [Instr.sliceBounds, b1]
  | some u =>
    cases u <;> simp only [boundI, Option.some.injEq] at hl <;> first | (cases hl; done) | skip
    subst hl
    cases hi' with
    | none =>
      simp only [boundI, Option.some.injEq] at hh
      subst hh
      simp only [Int.toNat_natCast] at b2
      simp [Instr.sliceBounds, b2]
    | some v =>
      cases v <;> simp only [boundI, Option.some.injEq] at hh <;> first | (cases hh; done) | skip
      subst hh
      simp [Instr.sliceBounds, b1, b2]
/-- Bounds are numbers or none: the same in memory. -/
theorem bound_same {T : TM} {lo : Option Operand} {d : Nat} {l : Int} (hT : TRel m T a) {lv : Option Value} (hlv : (match lo with | none => some none | some x => (ev T x).map some) = some lv) (hl : boundI d lv = some l) : lo.map a.eval = lv := by
  cases lo with
  | none => cases hlv; rfl
  | some x =>
    simp only [Option.map_eq_some_iff] at hlv
    obtain ⟨v, h1, rfl⟩ := hlv
    have := ev_ok hT h1
    rw [Option.map_some]
    generalize a.eval x = q at this
    cases v <;> simp [boundI] at hl
    cases this
    rfl

theorem aSlice_ok (hI : TOk P I) (hM : Match m H w) {t : TypeId} {x x' v : Value} {lo hi : Option Value} (hx : VRel m x x') (hr : aSlice I t x lo hi none H = some v) :
    ∃ v', (∀ w, (Instr.sliceAt t x' lo hi none).run P w = .ok v' w) ∧ VRel m v v' := by
  unfold aSlice at hr
  simp only at hr
  split at hr
  · rename_i i id e len cp hi'
    split at hr
    · rename_i el hd
      split at hr
      · rename_i j z l h hj hz hl hh
        split at hr
        · rename_i hc
          cases hr
          obtain ⟨c1, c2, c3, c4⟩ := hc
          have hu := hI.slice hi' hd
          have key : ∀ (b : Option Addr) (cap : Nat), len ≤ cap → ∀ w, (Instr.sliceAt t (.slice b len cap) lo hi none).run P w = .ok (sliced b l.toNat h.toNat cap j.size) w := by
            intro b cap hcap w
            have hb := bounds_ok (P := P) (w := w) true len cap 0 hl hh rfl rfl c2 c3 (by omega)
            simp only [Instr.sliceAt, Sem.run_bind, run_underlying hu, Result.andThen_ok, Instr.slice, hb, hI.size hj w, Sem.run_pure]
            rfl
          cases hx with
          | vslc h1 h2 =>
            refine ⟨_, key none 0 (by omega), ?_⟩
            have hl0 : l.toNat = 0 := by omega
            have hh0 : h.toNat = 0 := by omega
            simp only [sliced, hl0, hh0, Option.map_none, ite_self, Nat.sub_self, Nat.add_zero]
            exact .vslc h1 h2
          | eslc h1 h2 =>
            refine ⟨_, key _ 0 (by omega), ?_⟩
            have hl0 : l.toNat = 0 := by omega
            have hh0 : h.toNat = 0 := by omega
            simp only [sliced, hl0, hh0, if_true, Nat.sub_self, Nat.add_zero]
            exact .eslc h1 h2
          | slc h1 h2 h3 h4 =>
            rename_i cap i'
            refine ⟨_, key _ cap h3, ?_⟩
            have hzz := rowZ_ok hM h1 hz
            by_cases q : cap = l.toNat
            · have : h.toNat - l.toNat = 0 := by omega
              simp only [sliced, if_pos q, this, show cap - l.toNat = 0 by omega]
              exact .eslc h1 h2
            · simp only [sliced, if_neg q, Option.map_some, add_none]
              have e1 : i'.off + e * i'.z + l.toNat * j.size = i'.off + (e + l.toNat) * i'.z := by rw [c1, ← hzz, Nat.add_mul]; omega
              rw [e1]
              refine .slc h1 h2 (by omega) ?_
              have e2 : e + l.toNat + (cap - l.toNat) = e + cap := by omega
              rw [e2]
              exact h4
        · cases hr
      · cases hr
    · cases hr
  · rename_i i hi'
    split at hr
    · rename_i el hd
      split at hr
      · rename_i j l h hj hl hh
        split at hr
        · rename_i hc
          cases hr
          cases hx
          have hu := hI.slice hi' hd
          refine ⟨.slice none 0 0, fun w => ?_, .nils⟩
          have hb := bounds_ok (P := P) (w := w) true 0 0 0 hl hh rfl rfl (by omega) (by omega) (by omega)
          have hl0 : l.toNat = 0 := by omega
          have hh0 : h.toNat = 0 := by omega
          simp only [Instr.sliceAt, Sem.run_bind, run_underlying hu, Result.andThen_ok, Instr.slice, hb, hI.size hj w, Sem.run_pure, hl0, hh0]
          rfl
        · cases hr
      · cases hr
    · cases hr
  · rename_i i s hi'
    cases hx
    split at hr
    · rename_i hd
      split at hr
      · rename_i l h hl hh
        split at hr
        · rename_i hc
          cases hr
          have hu := hI.str hi' hd
          refine ⟨_, fun w => ?_, .str _⟩
          have hb := bounds_ok (P := P) (w := w) false s.size s.size 0 hl hh rfl rfl hc.1 hc.2.1 hc.2.2
          simp only [Instr.sliceAt, Sem.run_bind, run_underlying hu, Result.andThen_ok, Instr.slice, hb, Option.isSome_none, Bool.false_eq_true, if_false, Sem.run_pure, pure_bind]
        · cases hr
      · cases hr
    · cases hr
  · cases hr

/-! ### append -/
theorem grown_ge (w : World) (need old : Nat) (e : TypeId) : need ≤ grownCap w need old e := by
  show need ≤ need + _
  exact Nat.le_add_right _ _

/-- A row under a new name, its cells turned behind its end. -/
theorem Run.rename (h : Run m0 H0 w0 H m w) {id : Nat} {i : MI} {b b' : ABlk} (hi : m id = some i) (hb : H[id]? = some b) (ho : b.own = true) (hv : i.void = false) (hb' : BRel m w i b') (ho' : b'.own = true) :
    Run m0 H0 w0 (H.set id .dead ++ [b']) (upd m H.length i) w ∧ Mp.le m (upd m H.length i) := by
  have hk := h.kill id
  have hl : (H.set id ABlk.dead).length = H.length := List.length_set
  have hle := le_upd i h.mt.fresh
  refine ⟨?_, hle⟩
  have := hk.name i b' (by rw [hl]; exact hb'.mono hle) (fun h1 h2 => ⟨?_, ?_⟩) (fun _ _ => h.mt.ownb id i b hi hb ho hv)
  · rwa [hl] at this
  · rintro k ⟨q, iq, bq, q1, q2, q3, q4, q5⟩ rfl
    by_cases e : id = q
    · subst e
      rw [List.getElem?_set_self (h.mt.lt hi)] at q2
      cases q2
      cases q3
    · rw [List.getElem?_set_ne e] at q2
      exact e (h.mt.inj id q i iq b bq hi q1 hb q2 ho q3 hv q4 q5.symm)
  · exact h.orig i.blk ⟨id, i, b, hi, hb, ho, hv, rfl⟩

theorem zero_app (vs : List Value) : vs ++ ([] : List Value) = vs := by simp

theorem wrap64_in {x : Int} (h1 : 0 ≤ x) (h2 : x ≤ 9223372036854775807) : IntKind.i64.wrap x = x := by
  simp only [IntKind.wrap, IntKind.bits, IntKind.signed]
  simp
  split <;> omega
theorem run_append_zeros {P : Program} (w : World) (t u ty e : TypeId) (k kx : IntKind) (i : TypeInfo) (z : Value) (ht : P.underlying t = some (.slice e)) (hu : P.underlying u = some (.int k)) (hi : P.info? e = some i) (hz : i.zero = some z) (hzs : z.cells.size = i.size)
    (n : Nat) (h0 : 0 < n) (h63 : (n : Int) ≤ 9223372036854775807) (h48 : n * i.bytes ≤ 281474976710656) :
    (Builtin.append_ #[t, u] ty #[.slice none 0 0, .int kx (n : Int)]).run P w =
      .ok (.slice (some ⟨w.heap.size, 0, none⟩) n (grownCap w n 0 e)) (w.drew.alloc (.cells (Builtin.zeroCells z.cells n ++ Builtin.zeroCells z.cells (grownCap w n 0 e - n)) e)) := by
  have hn : n ≠ 0 := by omega
  have hw : IntKind.i64.wrap (n : Int) = (n : Int) := wrap64_in (by omega) h63
  have h63' : ¬ (9223372036854775807 < (n : Int)) := by omega
  have h48'' : ¬ (281474976710656 < (n : Int) * (i.bytes : Int)) := by
    have : ((n * i.bytes : Nat) : Int) ≤ 281474976710656 := by omega
    rw [Int.natCast_mul] at this; omega
  have h48' : ¬ (281474976710656 < Builtin.nextslicecap n 0 * i.bytes) := by rw [nextslicecap_zero h0]; omega
  have hz0 : i.size = 0 → Builtin.zeroCells z.cells n = #[] := fun q => by unfold Builtin.zeroCells; rw [hzs, q]; simp
  have hng : ¬ ((n : Int) < 0) := by omega
  by_cases q : i.size = 0
  · rw [hz0 q]
    simp [Builtin.append_, run_underlying ht, run_underlying hu, sizeOf, typeInfo, zeroValue, hi, hz, asInt, asIntOf, hw, hn, hng, h63', h48', h48'', Question.forced, run_firstCells_none, newRow, grownCap, q]
  · simp [Builtin.append_, run_underlying ht, run_underlying hu, sizeOf, typeInfo, zeroValue, hi, hz, asInt, asIntOf, hw, hn, hng, h63', h48', h48'', Question.forced, run_firstCells_none, newRow, grownCap]
    intro hh
    exact absurd hh (Nat.mul_ne_zero hn q)
theorem aAppendZ_ok (hI : TOk P I) (h : Run m0 H0 w0 H m w) {ts : Array TypeId} {ty : TypeId} {xs ys : List Value} {v : Value} {H' : AHeap} {tc : List Nat} (hL : LRel m xs ys) (hr : aAppendZ I ts xs H = some (v, H', tc)) :
    ∃ (m' : Mp) (w' : World) (v' : Value), (Builtin.append_ ts ty ys.toArray).run P w = .ok v' w' ∧ Run m0 H0 w0 H' m' w' ∧ Mp.le m m' ∧ VRel m' v v' ∧ Frame m tc w w' := by
  unfold aAppendZ at hr
  split at hr
  · rename_i t t2 k n hts
    have e0 : ts = #[t, t2] := by apply Array.ext'; exact hts
    subst e0
    obtain ⟨s', ys1, rfl, hs, hL1⟩ := hL.cons_inv
    obtain ⟨x', ys2, rfl, hx, hL2⟩ := hL1.cons_inv
    obtain rfl := hL2.nil_inv
    cases hs; cases hx
    split at hr
    · rename_i i i2 hi hi2
      split at hr
      · rename_i e kk hd hd2
        split at hr
        · rename_i j hj
          split at hr
          · rename_i hc
            cases hr
            obtain ⟨c0, c1, c2, c3, c4⟩ := hc
            obtain ⟨N, rfl⟩ := Int.eq_ofNat_of_zero_le (Int.le_of_lt c0)
            rw [Int.toNat_natCast] at c1 ⊢
            have hu := hI.slice hi hd
            have hu2 := hI.int hi2 hd2
            obtain ⟨u, inf, _, g2, _, g4, g5, g6⟩ := hI.ok e j hj
            have c4' : j.zero.cells.size = j.size := by simpa using c4
            have hrun := run_append_zeros (P := P) w t t2 ty e kk k inf j.zero hu hu2 g2 g6 (by rw [g4]; exact c4') N (by omega) c2 (by rw [g5]; omega)
            have hf : LRel m j.zero.cells.toList j.zero.cells.toList := LRel.cells (flatV_ok m c3)
            obtain ⟨q1, q2, q3⟩ := made_els (m := m) (l := N) (c := N) c4 (Nat.le_refl _) hf (flat_ones c3)
            have hz : j.zero.cells.toList.toArray = j.zero.cells := by simp
            rw [hz] at q2 q3
            have em : madeCells j.zero.cells (N * j.size) = Builtin.zeroCells j.zero.cells N := by unfold madeCells Builtin.zeroCells; rw [c4']
            rw [em] at q2 q3
            have hsz : (Builtin.zeroCells j.zero.cells N).size = N * j.size := by rw [← em, size_madeCells]
            have hfl := flat_of_els q1.len (by simpa using q2) q3
            rw [List.length_replicate, List.take_of_length_le (by rw [Array.length_toList, hsz]; exact Nat.le_refl _)] at hfl
            have hel := els_of_flat q1.len (X := (Builtin.zeroCells j.zero.cells (grownCap w N 0 e - N)).toList) hfl
            have hcapn : N ≤ grownCap w N 0 e := grown_ge _ _ _ _
            have hsz2 : (Builtin.zeroCells j.zero.cells N ++ Builtin.zeroCells j.zero.cells (grownCap w N 0 e - N)).size = grownCap w N 0 e * j.size := by
              simp only [Array.size_append, Builtin.zeroCells, Array.size_map, Array.size_range, c4', Nat.sub_mul]
              have := Nat.mul_le_mul_right j.size hcapn
              omega
            obtain ⟨r1, r2, r3⟩ := new_row h.drew (arr := Builtin.zeroCells j.zero.cells N ++ Builtin.zeroCells j.zero.cells (grownCap w N 0 e - N)) e q1 (by rw [hsz2, List.length_replicate]; exact Nat.mul_le_mul_right _ hcapn)
              (fun f c hf => by have := hel f c hf; simpa using this) (n := N) (cap := grownCap w N 0 e) hcapn (by rw [hsz2]; exact Nat.le_refl _) true 0
            exact ⟨_, _, _, hrun, r1, r2, r3, .drewAlloc _ _ _ _⟩
          · cases hr
        · cases hr
      · cases hr
    · cases hr
  · cases hr
theorem aAppend_ok (hI : TOk P I) (h : Run m0 H0 w0 H m w) {ts : Array TypeId} {ty : TypeId} {xs ys : List Value} {v : Value} {H' : AHeap} {tc : List Nat} (hL : LRel m xs ys) (hts : ts = #[ts.getD 0 0, ts.getD 0 0]) (hr : aAppend I ts xs H = some (v, H', tc)) :
    ∃ (m' : Mp) (w' : World) (v' : Value), (Builtin.append_ ts ty ys.toArray).run P w = .ok v' w' ∧ Run m0 H0 w0 H' m' w' ∧ Mp.le m m' ∧ VRel m' v v' ∧ Frame m tc w w' := by
  generalize hT : ts.getD 0 0 = t at hts
  subst hts
  simp only [aAppend, List.getElem?_toArray, List.getElem?_cons_zero, List.getElem?_cons_succ] at hr
  split at hr
  · rename_i t1 t2 s x ht1 ht2
    cases ht1; cases ht2
    obtain ⟨s', ys1, rfl, hs, hL1⟩ := hL.cons_inv
    obtain ⟨x', ys2, rfl, hx, hL2⟩ := hL1.cons_inv
    obtain rfl := hL2.nil_inv
    split at hr
    · rename_i i i2 hi hi2
      split at hr
      · rename_i e hd hint
        split at hr
        · rename_i j hj
          have hu := hI.slice hi hd
          obtain ⟨u, inf, _, g2, _, g4, g5, g6⟩ := hI.ok e j hj
          split at hr
          · -- onto nil
            rename_i new hnew
            split at hr
            · rename_i hc
              obtain ⟨c1, c2, c3, c4⟩ := hc
              cases hr
              cases hs
              have hvoid : new = [] → (Builtin.append_ #[t, t] ty #[.slice none 0 0, x']).run P w = .ok (.slice none 0 0) w → ∃ (m' : Mp) (w' : World) (v' : Value), (Builtin.append_ #[t, t] ty #[.slice none 0 0, x']).run P w = .ok v' w' ∧ Run m0 H0 w0 (H ++ [.row (decide (0 < new.length)) j.size new]) m' w' ∧ Mp.le m m' ∧ VRel m' (.slice (some ⟨H.length, 0, none⟩) new.length 0) v' ∧ Frame m [] w w' := fun hn hrun => by
                subst hn
                obtain ⟨r1, r2, r3⟩ := void_row h j.size 0
                exact ⟨_, w, _, hrun, r1, r2, r3, .refl _ _ _⟩
              rcases elsOf_ok h.mt hx hnew with ⟨rfl, rfl⟩ | ⟨A, n, cap, vs, rfl, k1, k2, k3, k4, k5⟩
              · refine hvoid rfl ?_
                simp [Builtin.append_, run_underlying hu, hI.size hj w, Builtin.lenOf, Builtin.firstCells]
              · by_cases hn0 : n = 0
                · subst hn0
                  refine hvoid (List.length_eq_zero_iff.1 k1) ?_
                  simp [Builtin.append_, run_underlying hu, hI.size hj w, Builtin.lenOf, Builtin.firstCells, loadCells, loadCellsFrom]
                · have hrun := run_append_nil (P := P) w t ty e inf j.zero hu g2 g6 A n cap vs (by rw [g4]; exact k4) k5 (by omega) (by omega) (by rw [g5]; rw [k1] at c1; omega)
                  have hel := els_of_flat k2.len (X := (Builtin.zeroCells j.zero.cells (grownCap w n 0 e - n)).toList) k3
                  have hsz : (vs.toArray ++ Builtin.zeroCells j.zero.cells (grownCap w n 0 e - n)).size = grownCap w n 0 e * j.size := by
                    have : n ≤ grownCap w n 0 e := grown_ge _ _ _ _
                    have h2 : j.zero.cells.size = j.size := by simpa using c4
                    simp only [Array.size_append, List.size_toArray, k4, Builtin.zeroCells, Array.size_map, Array.size_range, h2, Nat.sub_mul]
                    have := Nat.mul_le_mul_right j.size this
                    omega
                  have hcapn : n ≤ grownCap w n 0 e := grown_ge _ _ _ _
                  obtain ⟨r1, r2, r3⟩ := new_row h.drew (arr := vs.toArray ++ Builtin.zeroCells j.zero.cells (grownCap w n 0 e - n)) e k2 (by rw [hsz, k1]; exact Nat.mul_le_mul_right _ hcapn)
                    (fun f c hf => by have := hel f c hf; simpa using this) (n := n) (cap := grownCap w n 0 e) hcapn (by rw [hsz]; exact Nat.le_refl _) (decide (0 < new.length)) 0
                  rw [k1] at r1 ⊢
                  exact ⟨_, _, _, hrun, r1, r2, r3, .drewAlloc _ _ _ _⟩
            · cases hr
          · -- onto a row of one's own
            rename_i new id n cp hnew
            split at hr
            · rename_i sr z els hb
              split at hr
              · rename_i hc
                obtain ⟨c0, c1, c2, c3, c4, c5⟩ := hc
                subst c0
                cases hr
                have hz0 : j.zero.cells.size = j.size := by simpa using c5
                have hxs := elsOf_ok h.mt hx hnew
                -- what stands in the row, in memory
                have hgrow : ∀ (i' : MI) (s'' : Value), m id = some i' → s' = s'' → ∀ (olds vs : List Value) (B : Addr) (sCap : Nat), s'' = .slice (some B) n sCap → RowOk j.size els → RowOk j.size new →
                    LRel m (els.take n).flatten olds → olds.length = n * j.size → (∀ (q : Nat) (v : Value), olds[q]? = some v → w.cell? (B.add q) = some v) →
                    ∀ (A : Addr) (cap : Nat), x' = .slice (some A) new.length cap → LRel m new.flatten vs → vs.length = new.length * j.size → (∀ (q : Nat) (v : Value), vs[q]? = some v → w.cell? (A.add q) = some v) → sCap < n + new.length →
                    ∃ (m' : Mp) (w' : World) (v' : Value), (Builtin.append_ #[t, t] ty #[s', x']).run P w = .ok v' w' ∧ Run m0 H0 w0 (H.set id .dead ++ [.row (sr || decide (0 < n + new.length)) j.size (els.take n ++ new)]) m' w' ∧ Mp.le m m' ∧ VRel m' (.slice (some ⟨H.length, 0, none⟩) (n + new.length) 0) v' ∧ Frame m [id] w w' := by
                  intro i' s'' hm es olds vs B sCap hs'' hz1 hz2 ho1 ho2 ho3 A cap hx'' hv1 hv2 hv3 hlt
                  subst es hs'' hx''
                  have hrun := run_append_grow (P := P) w t ty e inf j.zero hu g2 g6 B n sCap olds (by rw [g4]; exact ho2) ho3 A new.length cap vs (by rw [g4]; exact hv2) hv3 hlt (by omega) (growslice_fits hlt (by rw [g5]; omega))
                  have hz3 : RowOk j.size (els.take n ++ new) := (hz1.take n).app hz2
                  have hfl : LRel m (els.take n ++ new).flatten (olds ++ vs) := by rw [List.flatten_append]; exact ho1.app hv1
                  have hel := els_of_flat hz3.len (X := (Builtin.zeroCells j.zero.cells (grownCap w (n + new.length) sCap e - (n + new.length))).toList) hfl
                  have hcapn : n + new.length ≤ grownCap w (n + new.length) sCap e := grown_ge _ _ _ _
                  have hsz : (olds.toArray ++ vs.toArray ++ Builtin.zeroCells j.zero.cells (grownCap w (n + new.length) sCap e - (n + new.length))).size = grownCap w (n + new.length) sCap e * j.size := by
                    have := Nat.mul_le_mul_right j.size hcapn
                    simp only [Array.size_append, List.size_toArray, ho2, hv2, Builtin.zeroCells, Array.size_map, Array.size_range, hz0, Nat.sub_mul, Nat.add_mul] at this ⊢
                    omega
                  have hll : (els.take n ++ new).length = n + new.length := by simp; omega
                  have hkl : (H.set id ABlk.dead).length = H.length := List.length_set
                  obtain ⟨r1, r2, r3⟩ := new_row (h.kill id).drew (arr := olds.toArray ++ vs.toArray ++ Builtin.zeroCells j.zero.cells (grownCap w (n + new.length) sCap e - (n + new.length))) e hz3
                    (by rw [hsz, hll]; exact Nat.mul_le_mul_right _ hcapn) (fun f c hf => by have := hel f c hf; simpa using this) (n := n + new.length) (cap := grownCap w (n + new.length) sCap e) hcapn (by rw [hsz]; exact Nat.le_refl _) (sr || decide (0 < n + new.length)) 0
                  rw [hkl] at r1 r2 r3
                  exact ⟨_, _, _, hrun, r1, r2, r3, .drewAlloc _ _ _ _⟩
                generalize hgs : s' = sg at hs
                cases hs with
                | vslc h1 h2 =>
                  obtain ⟨b0, hb0, hB⟩ := h.mt.has _ _ h1
                  rw [hb] at hb0
                  cases hb0
                  obtain ⟨_, _, _, hB4⟩ := hB
                  rcases hB4 with ⟨_, he, hsr⟩ | ⟨he, _⟩
                  · subst he hsr
                    have hkl : (H.set id ABlk.dead).length = H.length := List.length_set
                    rcases hxs with ⟨rfl, rfl⟩ | ⟨A, n2, cap, vs, rfl, k1, k2, k3, k4, k5⟩
                    · obtain ⟨r1, r2, r3⟩ := void_row (h.kill id) j.size 0
                      rw [hkl] at r1 r2 r3
                      exact ⟨_, w, .slice none 0 0, by simp [Builtin.append_, run_underlying hu, hI.size hj w, Builtin.lenOf, Builtin.firstCells], by simpa using r1, r2, by simpa using r3, .refl _ _ _⟩
                    · by_cases hn0 : n2 = 0
                      · subst hn0
                        have := List.length_eq_zero_iff.1 k1
                        subst this
                        obtain ⟨r1, r2, r3⟩ := void_row (h.kill id) j.size 0
                        rw [hkl] at r1 r2 r3
                        exact ⟨_, w, .slice none 0 0, by simp [Builtin.append_, run_underlying hu, hI.size hj w, Builtin.lenOf, Builtin.firstCells, loadCells, loadCellsFrom], by simpa using r1, r2, by simpa using r3, .refl _ _ _⟩
                      · have hrun := run_append_nil (P := P) w t ty e inf j.zero hu g2 g6 A n2 cap vs (by rw [g4]; exact k4) k5 (by omega) (by omega) (by rw [g5]; rw [k1] at c2; simp at c2; omega)
                        have hel := els_of_flat k2.len (X := (Builtin.zeroCells j.zero.cells (grownCap w n2 0 e - n2)).toList) k3
                        have hcapn : n2 ≤ grownCap w n2 0 e := grown_ge _ _ _ _
                        have hsz : (vs.toArray ++ Builtin.zeroCells j.zero.cells (grownCap w n2 0 e - n2)).size = grownCap w n2 0 e * j.size := by
                          have := Nat.mul_le_mul_right j.size hcapn
                          simp only [Array.size_append, List.size_toArray, k4, Builtin.zeroCells, Array.size_map, Array.size_range, hz0, Nat.sub_mul]
                          omega
                        obtain ⟨r1, r2, r3⟩ := new_row (h.kill id).drew (arr := vs.toArray ++ Builtin.zeroCells j.zero.cells (grownCap w n2 0 e - n2)) e k2 (by rw [hsz, k1]; exact Nat.mul_le_mul_right _ hcapn)
                          (fun f c hf => by have := hel f c hf; simpa using this) (n := n2) (cap := grownCap w n2 0 e) hcapn (by rw [hsz]; exact Nat.le_refl _) (decide (0 < 0 + new.length)) 0
                        rw [hkl] at r1 r2 r3
                        refine ⟨_, _, _, hrun, by simpa [k1] using r1, r2, by simpa [k1] using r3, .drewAlloc _ _ _ _⟩
                  · rw [h2] at he; cases he
                | eslc h1 h2 =>
                  rename_i ob i'
                  obtain ⟨b0, hb0, hB⟩ := h.mt.has _ _ h1
                  rw [hb] at hb0
                  cases hb0
                  have hB' := hB
                  obtain ⟨hB1, hB2, hB3, hB4⟩ := hB
                  rcases hxs with ⟨rfl, rfl⟩ | ⟨A, n2, cap, vs, rfl, k1, k2, k3, k4, k5⟩
                  · rcases hB4 with ⟨hB5, _⟩ | ⟨hB5, arr, T, hB7, hB8, hB9, hB10⟩
                    · rw [h2] at hB5; cases hB5
                    · obtain ⟨r1, r2⟩ := h.rename h1 hb rfl h2 (b' := .row (sr || decide (0 < 0 + 0)) j.size []) ⟨hB1, hB2, RowOk.nil _, .inr ⟨h2, arr, T, hB7, hB8, by simp, by simp⟩⟩ rfl
                      refine ⟨_, w, .slice (some ⟨i'.blk, ob, none⟩) 0 0, by simp [Builtin.append_, run_underlying hu, hI.size hj w, Builtin.lenOf, Builtin.firstCells, storeCells], by simpa using r1, r2, ?_, .refl _ _ _⟩
                      exact .eslc (by simp [upd]) h2
                  · by_cases hn0 : n2 = 0
                    · subst hn0
                      have := List.length_eq_zero_iff.1 k1
                      subst this
                      rcases hB4 with ⟨hB5, _⟩ | ⟨hB5, arr, T, hB7, hB8, hB9, hB10⟩
                      · rw [h2] at hB5; cases hB5
                      · obtain ⟨r1, r2⟩ := h.rename h1 hb rfl h2 (b' := .row (sr || decide (0 < 0 + 0)) j.size []) ⟨hB1, hB2, RowOk.nil _, .inr ⟨h2, arr, T, hB7, hB8, by simp, by simp⟩⟩ rfl
                        refine ⟨_, w, .slice (some ⟨i'.blk, ob, none⟩) 0 0, by simp [Builtin.append_, run_underlying hu, hI.size hj w, Builtin.lenOf, Builtin.firstCells, storeCells, loadCells, loadCellsFrom], by simpa using r1, r2, ?_, .refl _ _ _⟩
                        exact .eslc (by simp [upd]) h2
                    · subst k1
                      subst hgs
                      exact hgrow i' _ h1 rfl [] vs _ 0 rfl hB3 k2 (by simpa using LRel.nil m) (by simp) (by simp) A cap rfl k3 k4 k5 (by omega)
                | slc h1 h2 h3 h4 =>
                  rename_i sCap i'
                  obtain ⟨b0, hb0, hB⟩ := h.mt.has _ _ h1
                  rw [hb] at hb0
                  cases hb0
                  obtain ⟨hB1, hB2, hB3, hB4⟩ := hB
                  rcases hB4 with ⟨hB5, _⟩ | ⟨hB5, arr, T, hB7, hB8, hB9, hB10⟩
                  · rw [h2] at hB5; cases hB5
                  · have hfl : LRel m els.flatten (arr.toList.take (els.length * j.size)) := flat_of_els hB3.len (by simpa using hB9) hB10
                    have hnz : n * j.size ≤ els.length * j.size := Nat.mul_le_mul_right _ c1
                    have htn : (els.take n).flatten = els.flatten.take (n * j.size) := by
                      have e1 : els.flatten = (els.take n).flatten ++ (els.drop n).flatten := by rw [← List.flatten_append, List.take_append_drop]
                      have e2 : (els.take n).flatten.length = n * j.size := by
                        rw [flat_len (hB3.take n).len, List.length_take, Nat.min_eq_left c1]
                      have e3 := congrArg (List.take (n * j.size)) e1
                      rw [List.take_append_of_le_length (Nat.le_of_eq e2.symm), List.take_of_length_le (Nat.le_of_eq e2)] at e3
                      exact e3.symm
                    have hold : LRel m (els.take n).flatten (arr.toList.take (n * j.size)) := by
                      rw [htn]
                      have := hfl.take (n * j.size)
                      rwa [List.take_take, Nat.min_eq_left hnz] at this
                    have hfits : (0 + sCap) * i'.z ≤ i'.sz := by omega
                    rw [hB1, hB8, Nat.zero_add] at hfits
                    have haddr : i'.off + 0 * i'.z = 0 := by simp [hB2]
                    rw [haddr] at hgs ⊢
                    have hin : ∀ (vs : List Value), n + new.length ≤ sCap → LRel m new.flatten vs → vs.length = new.length * j.size → RowOk j.size new →
                        (Builtin.append_ #[t, t] ty #[.slice (some ⟨i'.blk, 0, none⟩) n sCap, x']).run P w = ((storeCells (⟨i'.blk, n * j.size, none⟩ : Addr) vs).run P w).andThen (fun _ w' => .ok (.slice (some ⟨i'.blk, 0, none⟩) (n + new.length) sCap) w') →
                        ∃ (m' : Mp) (w' : World) (v' : Value), (Builtin.append_ #[t, t] ty #[.slice (some ⟨i'.blk, 0, none⟩) n sCap, x']).run P w = .ok v' w' ∧ Run m0 H0 w0 (H.set id .dead ++ [.row (sr || decide (0 < n + new.length)) j.size (els.take n ++ new)]) m' w' ∧ Mp.le m m' ∧ VRel m' (.slice (some ⟨H.length, 0, none⟩) (n + new.length) 0) v' ∧ Frame m [id] w w' := by
                      intro vs hle hv1 hv2 hz2 hrun
                      have hcz := Nat.mul_le_mul_right j.size hle
                      rw [Nat.add_mul] at hcz
                      have hfit2 : n * j.size + vs.length ≤ arr.size := by omega
                      have hones : ∀ u ∈ vs, u.oneCell' = true := by
                        intro u hu'
                        obtain ⟨q, hq, rfl⟩ := List.getElem_of_mem hu'
                        have hq' : q < new.flatten.length := by rw [hv1.1]; exact hq
                        have hr' := hv1.2 q _ _ (List.getElem?_eq_getElem hq') (List.getElem?_eq_getElem hq)
                        rw [hr'.one]
                        obtain ⟨c, hc, hq2⟩ := List.mem_flatten.1 (List.getElem_mem hq')
                        exact (hz2 c hc).2 _ hq2
                      have hst := run_storeCells_at P i'.blk (n * j.size) T vs 0 arr w hB7 (by omega) hones
                      simp only [Nat.add_zero] at hst
                      rw [hst, Result.andThen_ok] at hrun
                      have hz3 : RowOk j.size (els.take n ++ new) := (hB3.take n).app hz2
                      have hll : (els.take n ++ new).length = n + new.length := by simp; omega
                      have hfl2 : LRel m (els.take n ++ new).flatten (arr.toList.take (n * j.size) ++ vs) := by rw [List.flatten_append]; exact hold.app hv1
                      have hel := els_of_flat hz3.len (X := arr.toList.drop (n * j.size + vs.length)) hfl2
                      have hal : n * j.size + vs.length ≤ arr.toList.length := by simpa using hfit2
                      have hsl := seg_len hal
                      let arr2 : Array Value := (arr.toList.take (n * j.size) ++ vs ++ arr.toList.drop (n * j.size + vs.length)).toArray
                      have hs2 : arr2.size = arr.size := by simpa [arr2] using hsl
                      have hBn : BRel m (w.setRow i'.blk arr2) i' (.row (sr || decide (0 < n + new.length)) j.size (els.take n ++ new)) :=
                        ⟨hB1, hB2, hz3, .inr ⟨h2, arr2, T, setRow_heap w _ arr _ T _ hB7, by rw [hs2]; exact hB8, by rw [hll, hs2, Nat.add_mul]; omega, fun f c hf => hel f c hf⟩⟩
                      have hwr := h.write h1 hb rfl h2 hBn (fun k hk => setRow_other w i'.blk k _ hk) (size_setRow _ _ _) rfl rfl rfl rfl
                      have hlt := h.mt.lt h1
                      obtain ⟨r1, r2⟩ := hwr.rename (id := id) h1 (List.getElem?_set_self hlt) rfl h2 hBn rfl
                      rw [List.set_set, List.length_set] at r1
                      rw [List.length_set] at r2
                      refine ⟨_, _, _, hrun, r1, r2, ?_, .row m h1 h2 _ _⟩
                      have := VRel.slc (m := upd m H.length i') (id := H.length) (e := 0) (cp := 0) (cap := sCap) (len := n + new.length) (i := i') (by simp [upd]) h2 hle (by rw [hB2, hB1, hB8]; simpa using hfits)
                      rwa [haddr] at this
                    rcases hxs with ⟨rfl, rfl⟩ | ⟨A, n2, cap, vs, rfl, k1, k2, k3, k4, k5⟩
                    · refine hin [] (by simpa using h3) (by simpa using LRel.nil m) (by simp) (RowOk.nil _) ?_
                      simp [Builtin.append_, run_underlying hu, hI.size hj w, Builtin.lenOf, Builtin.firstCells, h3, add_none]
                    · subst k1
                      by_cases hle : n + new.length ≤ sCap
                      · refine hin vs hle k3 k4 k2 ?_
                        have hf := run_firstCells_some (P := P) w j.size new.length A new.length cap vs k4 k5
                        simp [Builtin.append_, run_underlying hu, hI.size hj w, Builtin.lenOf, hle, hf, add_none]
                      · subst hgs
                        refine hgrow i' _ h1 rfl (arr.toList.take (n * j.size)) vs _ sCap rfl hB3 k2 hold (by rw [List.length_take, Array.length_toList]; omega) (fun q v hq => ?_) A cap rfl k3 k4 k5 (by omega)
                        rw [List.getElem?_take] at hq
                        split at hq
                        · rw [add_none, Nat.zero_add]
                          simp only [World.cell?, hB7]
                          simpa using hq
                        · cases hq
              · cases hr
            · cases hr
          · cases hr
        · cases hr
      · cases hr
    · cases hr
  · cases hr
end
end Go.Proofs.Ytpgkbdkkcladcaa.Eng
/- The engine, part 8: all operations, and calls by what is known of callees. A lemma file: it claims nothing of the program. -/
namespace Go.Proofs.Ytpgkbdkkcladcaa.Eng
open Go Go.Lib

def evs (T : TM) : List Operand → Option (List Value)
  | [] => some []
  | x :: xs => match ev T x, evs T xs with
    | some v, some vs => some (v :: vs)
    | _, _ => none
def evp (T : TM) : List (Nat × Operand) → Option (List (Nat × Value))
  | [] => some []
  | (i, x) :: xs => match ev T x, evp T xs with
    | some v, some vs => some ((i, v) :: vs)
    | _, _ => none
def evo (T : TM) : Option Operand → Option (Option Value)
  | none => some none
  | some x => match ev T x with
    | some v => some (some v)
    | none => none
def aRange (I : Tab) (t : TypeId) (x : Value) (H : AHeap) : Res := match I t, x with
  | some i, .string s => match i.d with
    | .str => some (.pointer (some ⟨H.length, 0, none⟩), H ++ [.iter s 0], [])
    | _ => none
  | _, _ => none
def aNext (x : Value) (H : AHeap) : Res := match x with
  | .pointer (some ⟨id, 0, none⟩) => match H[id]? with
    | some (.iter s pos) => if pos < s.size then some (.tuple #[.bool true, .int .i64 (pos : Int), .int .i32 ((Utf8.decode s pos).1 : Int)], H.set id (.iter s (pos + (Utf8.decode s pos).2)), [id]) else some (.tuple #[.bool false], H, [])
    | _ => none
  | _ => none
def aNil (x : Value) : Option Value := match x with
  | .pointer (some a) => some (.pointer (some a))
  | .iface t v => some (.iface t v)
  | .func (.func f) a b => some (.func (.func f) a b)
  | _ => none
def aMin (xs : List Value) : Option Value := match xs with
  | [.int k x, .int k' y] => some (.int k (if y < x then y else x))
  | _ => none
def aMax (xs : List Value) : Option Value := match xs with
  | [.int k x, .int k' y] => some (.int k (if x < y then y else x))
  | _ => none
def aCopy (I : Tab) (ts : Array TypeId) (xs : List Value) (H : AHeap) : Res := match ts[0]?, xs with
  | some t, [d, s] => match I t with
    | some i => match i.d with
      | .slice e => match I e with
        | some j => match d, elsOf j.size s H with
          | .slice (some ⟨id, e0, none⟩) dn _, some new => match H[id]? with
            | some (.row sr z els) => if z = j.size ∧ e0 + new.length ≤ els.length ∧ new.length ≤ dn then
                some (.int .i64 (new.length : Int), H.set id (.row sr z (els.take e0 ++ new ++ els.drop (e0 + new.length))), [id])
              else none
            | _ => none
          | _, _ => none
        | none => none
      | _ => none
    | none => none
  | _, _ => none
/-- What is known of callees: the value, what the call then knows, which names were turned. -/
abbrev Sums := FuncId → List Value → AHeap → Res

def pure1 (H : AHeap) : Option Value → Res
  | some v => some (v, H, [])
  | none => none
/-- A choice. -/
def selR (c : Option Value) (x y : Res) : Res := match c with
  | some (.bool true) => x
  | some (.bool false) => y
  | _ => none
theorem selR.congr {c c' : Option Value} {x y : Res} (h : c = c') : selR c x y = selR c' x y := by rw [h]
def aop (I : Tab) (G : Sums) (op : Op) (T : TM) (H : AHeap) : Res := match op with
  | .move x => pure1 H (ev T x)
  | .assign x => pure1 H (ev T x)
  | .pick c x y => selR (ev T c) (pure1 H (ev T x)) (pure1 H (ev T y))
  | .alloc t => aAlloc I t H
  | .box t x => match ev T x with
    | some v => aNew v.cells.toList H
    | none => none
  | .build t ps => match evp T ps.toList with
    | some vs => pure1 H (aBuild I t vs)
    | none => none
  | .buildSlice t len ps => match evp T ps.toList with
    | some vs => aBuildSlice I t len vs H
    | none => none
  | .load t x => match ev T x with
    | some p => aLoad I t p H
    | none => none
  | .store t x y => match ev T x, ev T y with
    | some p, some v => aStore I t p v H
    | _, _ => none
  | .nilCheck x => match ev T x with
    | some v => pure1 H (aNil v)
    | none => none
  | .binOp op t x y _ => match ev T x, ev T y with
    | some u, some v => pure1 H (aBin I op t (isC x) (isC y) u v H)
    | _, _ => none
  | .unOp op _ x => match ev T x with
    | some u => pure1 H (aUn op u)
    | none => none
  | .convert s d x => match ev T x with
    | some u => pure1 H (aConv I s d u)
    | none => none
  | .makeSlice t l c => match ev T l, ev T c with
    | some u, some v => aMake I t u v H
    | _, _ => none
  | .slice t x lo hi mx => match ev T x, evo T lo, evo T hi, evo T mx with
    | some u, some l, some h, some none => pure1 H (aSlice I t u l h none H)
    | _, _, _, _ => none
  | .fieldAddr s x f => match ev T x with
    | some u => pure1 H (aFieldAddr I s u f)
    | none => none
  | .field t x f => match ev T x with
    | some u => pure1 H (aField I t u f)
    | none => none
  | .indexAddr t x i => match ev T x, ev T i with
    | some u, some v => pure1 H (aIndexAddr I t u v H)
    | _, _ => none
  | .index t x i => match ev T x, ev T i with
    | some u, some v => pure1 H (aIndex I t u v)
    | _, _ => none
  | .range t x => match ev T x with
    | some u => aRange I t u H
    | none => none
  | .next x true => match ev T x with
    | some u => aNext u H
    | none => none
  | .extract x i => match ev T x with
    | some u => pure1 H (aExtract u i)
    | none => none
  | .call c => match evs T c.args.toList with
    | some vs => match c.callee with
      | .builtin .len => pure1 H (aLen I c.argTypes vs)
      | .builtin .append => if c.argTypes.toList = [c.argTypes.getD 0 0, c.argTypes.getD 0 0] then aAppend I c.argTypes vs H else aAppendZ I c.argTypes vs H
      | .builtin .copy => aCopy I c.argTypes vs H
      | .builtin .min => pure1 H (aMin vs)
      | .builtin .max => pure1 H (aMax vs)
      | .builtin .cap => pure1 H (aCap I c.argTypes vs)
      | .value (.func f) => G f vs H
      | _ => none
    | none => none
  | _ => none

/-- A call ends with what is known. -/
def CallGood (P : Program) (m0 : Mp) (H0 : AHeap) (w0 : World) (m : Mp) (f : FuncId) (args : Array Value) (w : World) (v : Value) (H' : AHeap) (tc : List Nat) : Prop :=
  Calls P f args w fun e w' => ∃ (m' : Mp) (v' : Value), e = .returned v' ∧ Run m0 H0 w0 H' m' w' ∧ Mp.le m m' ∧ VRel m' v v' ∧ Frame m tc w w'
/-- What is known of callees is true. -/
structure SOk (P : Program) (G : Sums) : Prop where
  fn : ∀ f args H v H' tc, G f args H = some (v, H', tc) → ∃ fn, P.funcs[f]? = some fn ∧ fn.name ≠ "runtime.NumGoroutine" ∧ fn.body.isSome = true
  ok : ∀ f args H v H' tc, G f args H = some (v, H', tc) → ∀ m0 H0 w0 m w args', Run m0 H0 w0 H m w → LRel m args args' → CallGood P m0 H0 w0 m f args'.toArray w v H' tc

section
variable {P : Program} {I : Tab} {G : Sums} {m0 : Mp} {H0 : AHeap} {w0 : World} {H : AHeap} {m : Mp} {w : World} {a : Act} {o : Oper} {T : TM}

theorem evs_ok (hT : TRel m T a) : ∀ {xs : List Operand} {vs : List Value}, evs T xs = some vs → LRel m vs (xs.map a.eval)
  | [], vs, h => by cases h; exact .nil m
  | x :: xs, vs, h => by
    simp only [evs] at h
    split at h
    · rename_i v us hv hus
      cases h
      exact .cons (ev_ok hT hv) (evs_ok hT hus)
    · cases h
theorem evp_ok (hT : TRel m T a) : ∀ {xs : List (Nat × Operand)} {vs : List (Nat × Value)}, evp T xs = some vs → PRel m vs (xs.map fun (i, x) => (i, a.eval x))
  | [], vs, h => by cases h; exact ⟨rfl, .nil m⟩
  | (i, x) :: xs, vs, h => by
    simp only [evp] at h
    split at h
    · rename_i v us hv hus
      cases h
      obtain ⟨h1, h2⟩ := evp_ok hT hus
      exact ⟨by simpa using h1, .cons (ev_ok hT hv) h2⟩
    · cases h
theorem aSlice_bounds {t : TypeId} {x v : Value} {lo hi : Option Value} (hr : aSlice I t x lo hi none H = some v) : ∃ d l h, boundI 0 lo = some l ∧ boundI d hi = some h := by
  unfold aSlice at hr
  simp only at hr
  split at hr
  · split at hr
    · split at hr
      · rename_i hl hh
        exact ⟨_, _, _, hl, hh⟩
      · cases hr
    · cases hr
  · split at hr
    · split at hr
      · rename_i hl hh
        exact ⟨_, _, _, hl, hh⟩
      · cases hr
    · cases hr
  · split at hr
    · split at hr
      · rename_i hl hh
        exact ⟨_, _, _, hl, hh⟩
      · cases hr
    · cases hr
  · cases hr
theorem List.set_getElem?_self' {α : Type} : ∀ {l : List α} {i : Nat} {x : α}, l[i]? = some x → l.set i x = l
  | [], _, _, h => by simp at h
  | y :: l, 0, x, h => by simp at h; subst h; rfl
  | y :: l, i + 1, x, h => by
    simp only [List.set_cons_succ]
    rw [List.set_getElem?_self' (by simpa using h)]
theorem pure1_ok {v : Value} {H' : AHeap} {tc : List Nat} {o' : Option Value} (h : pure1 H o' = some (v, H', tc)) : o' = some v ∧ H' = H ∧ tc = [] := by
  cases o' with
  | none => cases h
  | some u => cases h; exact ⟨rfl, rfl, rfl⟩
theorem aNext_ok (h : Run m0 H0 w0 H m w) {x : Operand} {ty : TypeId} (ho : o.op = .next x true) {u v : Value} {H' : AHeap} {tc : List Nat} (hu : VRel m u (a.eval x)) (hr : aNext u H = some (v, H', tc)) : Good P m0 H0 w0 m o a w v H' tc := by
  unfold aNext at hr
  split at hr
  · rename_i id
    split at hr
    · rename_i s pos hb
      generalize hq : a.eval x = q at hu
      cases hu with
      | ptr h1 h2 =>
        rename_i i
        obtain ⟨b, hb', hB⟩ := h.mt.has _ _ h1
        rw [hb] at hb'
        cases hb'
        obtain ⟨g1, g2, g3, g4⟩ := hB
        have e1 : i.off + (none : Option Nat).getD 0 * i.z + 0 = 0 := by simp [g2]
        rw [e1] at hq
        split at hr
        · rename_i hpos
          cases hr
          have hrun := run_next_any_at (P := P) w i.blk s pos o.type g4 hpos
          refine ⟨m, _, _, .inl (by simp only [execOp, ho, hq, Sem.run_bind, hrun, Result.andThen_ok, Sem.run_pure]; rfl), ?_, Mp.le_refl _, ?_, ?_⟩
          · refine h.write h1 hb rfl g1 (b' := .iter s _) ⟨g1, g2, g3, iterAt_heap w i.blk s pos _ g4⟩ (fun k hk => ?_) ?_ rfl rfl rfl rfl
            · simp only [World.iterAt]
              rw [Array.getElem?_setIfInBounds_ne (fun e => hk e.symm)]
            · simp [World.iterAt]
          · exact .tuple rfl fun j p q hp hq => by
              rcases j with _ | _ | _ | j
              · simp at hp hq; subst hp hq; exact .bool _
              · simp at hp hq; subst hp hq; exact .int _ _
              · simp at hp hq; subst hp hq; exact .int _ _
              · simp at hp
          · refine ⟨by simp [World.iterAt], fun k _ hk => ?_⟩
            simp only [World.iterAt]
            rw [Array.getElem?_setIfInBounds_ne (fun e => hk id (by simp) i h1 g1 e)]
        · rename_i hpos
          cases hr
          refine .still (v' := .tuple #[.bool false]) h (by simp only [execOp, ho, hq, Sem.run_bind, run_next_end_at (P := P) w i.blk s pos o.type g4 hpos, Result.andThen_ok, Sem.run_pure]) ?_
          exact .tuple rfl fun j p q hp hq => by
            rcases j with _ | j
            · simp at hp hq; subst hp hq; exact .bool _
            · simp at hp
    · cases hr
  · cases hr
theorem aRange_ok (hI : TOk P I) (h : Run m0 H0 w0 H m w) {t : TypeId} {x : Operand} (ho : o.op = .range t x) {u v : Value} {H' : AHeap} {tc : List Nat} (hu : VRel m u (a.eval x)) (hr : aRange I t u H = some (v, H', tc)) : Good P m0 H0 w0 m o a w v H' tc := by
  unfold aRange at hr
  split at hr
  · rename_i i s hi
    split at hr
    · rename_i hd
      cases hr
      generalize hq : a.eval x = q at hu
      cases hu
      have hrun := run_range_string (P := P) w t s (hI.str hi hd)
      refine ⟨_, _, _, .inl (by simp only [execOp, ho, hq, Sem.run_bind, hrun, Result.andThen_ok, Sem.run_pure]; rfl), h.made (.stringIter s 0) ⟨w.heap.size, 0, 0, 0, false⟩ rfl (.iter s 0) ⟨rfl, rfl, rfl, alloc_new w _⟩, le_upd _ h.mt.fresh, ?_, .alloc _ _ _ _⟩
      exact .ptr (i := ⟨w.heap.size, 0, 0, 0, false⟩) (by simp [upd]) rfl
    · cases hr
  · cases hr
theorem aNil_ok {x : Operand} {u u' v : Value} (hu : VRel m u u') (hr : aNil u = some v) (ho : o.op = .nilCheck x) (hx : a.eval x = u') : ∃ v', (∀ w, (execOp a.eval o).run P w = .ok (.value v') w) ∧ VRel m v v' := by
  unfold aNil at hr
  split at hr
  · cases hr
    cases hu with
    | ptr h1 h2 => exact ⟨_, fun w => by simp [execOp, ho, hx], .ptr h1 h2⟩
  · cases hr
    cases hu with
    | iface h1 => exact ⟨_, fun w => by simp [execOp, ho, hx], .iface h1⟩
  · cases hr
    cases hu with
    | func h1 h2 h3 h4 => exact ⟨_, fun w => by simp [execOp, ho, hx], .func h1 h2 h3 h4⟩
  · cases hr
theorem aMin_ok {ts : Array TypeId} {t : TypeId} {xs ys : List Value} {v : Value} (hL : LRel m xs ys) (hr : aMin xs = some v) : (Builtin.min_ ts t ys.toArray).run P w = .ok v w ∧ VRel m v v := by
  unfold aMin at hr
  split at hr
  · obtain ⟨y, ys, rfl, h1, h2⟩ := hL.cons_inv
    obtain ⟨z, zs, rfl, h3, h4⟩ := h2.cons_inv
    obtain rfl := h4.nil_inv
    cases h1; cases h3; cases hr
    exact ⟨run_min_int2 w ts t _ _ _ _, .int _ _⟩
  · cases hr
theorem aMax_ok {ts : Array TypeId} {t : TypeId} {xs ys : List Value} {v : Value} (hL : LRel m xs ys) (hr : aMax xs = some v) : (Builtin.max_ ts t ys.toArray).run P w = .ok v w ∧ VRel m v v := by
  unfold aMax at hr
  split at hr
  · obtain ⟨y, ys, rfl, h1, h2⟩ := hL.cons_inv
    obtain ⟨z, zs, rfl, h3, h4⟩ := h2.cons_inv
    obtain rfl := h4.nil_inv
    cases h1; cases h3; cases hr
    exact ⟨run_max_int2 w ts t _ _ _ _, .int _ _⟩
  · cases hr

theorem aCopy_ok (hI : TOk P I) (h : Run m0 H0 w0 H m w) {ts : Array TypeId} {ty : TypeId} {xs ys : List Value} {v : Value} {H' : AHeap} {tc : List Nat} (hL : LRel m xs ys) (hr : aCopy I ts xs H = some (v, H', tc)) :
    ∃ (m' : Mp) (w' : World) (v' : Value), (Builtin.copy_ ts ty ys.toArray).run P w = .ok v' w' ∧ Run m0 H0 w0 H' m' w' ∧ Mp.le m m' ∧ VRel m' v v' ∧ Frame m tc w w' := by
  unfold aCopy at hr
  split at hr
  · rename_i t d s ht
    obtain ⟨d', ys1, rfl, hd, hL1⟩ := hL.cons_inv
    obtain ⟨s', ys2, rfl, hs, hL2⟩ := hL1.cons_inv
    obtain rfl := hL2.nil_inv
    split at hr
    · rename_i i hi
      split at hr
      · rename_i e hdd
        split at hr
        · rename_i j hj
          split at hr
          · rename_i id e0 dn cp new hnew
            split at hr
            · rename_i sr z els hb
              split at hr
              · rename_i hc
                obtain ⟨c0, c1, c2⟩ := hc
                subst c0
                cases hr
                have hu := hI.slice hi hdd
                -- the cells that are copied
                have hsrc : ∃ vs : List Value, LRel m new.flatten vs ∧ vs.length = new.length * j.size ∧ RowOk j.size new ∧ (∀ dn', new.length ≤ dn' → ∃ n', Builtin.lenOf s' = pure n' ∧ Nat.min n' dn' = new.length) ∧ (Builtin.firstCells j.size new.length s').run P w = .ok vs.toArray w := by
                  rcases elsOf_ok h.mt hs hnew with ⟨rfl, rfl⟩ | ⟨A, n, cap, vs, rfl, k1, k2, k3, k4, k5⟩
                  · exact ⟨[], by simpa using LRel.nil m, by simp, RowOk.nil _, fun dn' _ => ⟨0, rfl, by simp⟩, by simp [Builtin.firstCells]⟩
                  · subst k1
                    exact ⟨vs, k3, k4, k2, fun dn' hle => ⟨new.length, rfl, Nat.min_eq_left hle⟩, run_firstCells_some w j.size new.length A new.length cap vs k4 k5⟩
                obtain ⟨vs, q1, q2, q3, q4, q5⟩ := hsrc
                have hcopy : ∀ (b : Option Addr) (dcap : Nat), (Builtin.copy_ ts ty [Value.slice b dn dcap, s'].toArray).run P w =
                    Result.andThen (((match b with | some a => storeCells a vs | none => pure ()) : Sem Unit).run P w) (fun _ w' => .ok (.int .i64 (new.length : Int)) w') := by
                  intro b dcap
                  obtain ⟨n', e1, e2⟩ := q4 dn c2
                  simp only [Builtin.copy_, ht, List.getElem?_toArray, List.getElem?_cons_zero, List.getElem?_cons_succ, Sem.run_bind, run_underlying hu, Result.andThen_ok, e1, Sem.run_pure, e2, hI.size hj w, q5]
                  cases b <;> simp [goInt]
                generalize hg : d' = dg at hd
                cases hd with
                | vslc h1 h2 =>
                  have hn0 : new = [] := List.length_eq_zero_iff.1 (by omega)
                  subst hn0
                  have hid : H.set id (.row sr j.size (els.take 0 ++ [] ++ els.drop (0 + ([] : List (List Value)).length))) = H := by
                    simp only [List.take_zero, List.length_nil, Nat.add_zero, List.drop_zero, List.append_nil, List.nil_append]
                    exact List.set_getElem?_self' hb
                  rw [hid]
                  exact ⟨m, w, _, by rw [hcopy]; rfl, h, Mp.le_refl _, .int _ _, .refl _ _ _⟩
                | eslc h1 h2 =>
                  have hn0 : new = [] := List.length_eq_zero_iff.1 (by omega)
                  subst hn0
                  have hid : H.set id (.row sr j.size (els.take e0 ++ [] ++ els.drop (e0 + ([] : List (List Value)).length))) = H := by
                    simp only [List.length_nil, Nat.add_zero, List.append_nil, List.take_append_drop]
                    exact List.set_getElem?_self' hb
                  rw [hid]
                  have hvs : vs = [] := List.length_eq_zero_iff.1 (by simpa using q2)
                  subst hvs
                  exact ⟨m, w, _, by rw [hcopy]; simp [storeCells], h, Mp.le_refl _, .int _ _, .refl _ _ _⟩
                | slc h1 h2 h3 h4 =>
                  rename_i dcap i'
                  obtain ⟨b0, hb0, hB⟩ := h.mt.has _ _ h1
                  rw [hb] at hb0
                  cases hb0
                  obtain ⟨hB1, hB2, hB3, hB4⟩ := hB
                  rcases hB4 with ⟨hB5, _⟩ | ⟨hB5, arr, T, hB7, hB8, hB9, hB10⟩
                  · rw [h2] at hB5; cases hB5
                  · have hfl : LRel m els.flatten (arr.toList.take (els.length * j.size)) := flat_of_els hB3.len (by simpa using hB9) hB10
                    have hones : ∀ u ∈ vs, u.oneCell' = true := by
                      intro u hu'
                      obtain ⟨q, hq, rfl⟩ := List.getElem_of_mem hu'
                      have hq' : q < new.flatten.length := by rw [q1.1]; exact hq
                      have hr' := q1.2 q _ _ (List.getElem?_eq_getElem hq') (List.getElem?_eq_getElem hq)
                      rw [hr'.one]
                      obtain ⟨c, hc, hq2⟩ := List.mem_flatten.1 (List.getElem_mem hq')
                      exact (q3 c hc).2 _ hq2
                    have haddr : i'.off + e0 * i'.z = e0 * j.size := by rw [hB2, hB1]; omega
                    have hez := Nat.mul_le_mul_right j.size c1
                    rw [Nat.add_mul] at hez
                    have hfit : e0 * j.size + vs.length ≤ arr.size := by omega
                    have hst := run_storeCells_at P i'.blk (e0 * j.size) T vs 0 arr w hB7 (by omega) hones
                    simp only [Nat.add_zero] at hst
                    have hal : e0 * j.size + vs.length ≤ arr.toList.length := by simpa using hfit
                    have hsl := seg_len hal
                    let arr2 : Array Value := (arr.toList.take (e0 * j.size) ++ vs ++ arr.toList.drop (e0 * j.size + vs.length)).toArray
                    have hs2 : arr2.size = arr.size := by simpa [arr2] using hsl
                    have hnl : (els.take e0 ++ new ++ els.drop (e0 + new.length)).length = els.length := by simp; omega
                    have hz3 : RowOk j.size (els.take e0 ++ new ++ els.drop (e0 + new.length)) := ((hB3.take e0).app q3).app (hB3.drop _)
                    have hfl2 : LRel m (els.take e0 ++ new ++ els.drop (e0 + new.length)).flatten (arr2.toList.take (els.length * j.size)) := by
                      have hfz : ∀ n, n ≤ els.length → (els.take n).flatten = els.flatten.take (n * j.size) := by
                        intro n hn
                        have e1 : els.flatten = (els.take n).flatten ++ (els.drop n).flatten := by rw [← List.flatten_append, List.take_append_drop]
                        have e2 : (els.take n).flatten.length = n * j.size := by rw [flat_len (hB3.take n).len, List.length_take, Nat.min_eq_left hn]
                        have e3 := congrArg (List.take (n * j.size)) e1
                        rw [List.take_append_of_le_length (Nat.le_of_eq e2.symm), List.take_of_length_le (Nat.le_of_eq e2)] at e3
                        exact e3.symm
                      have hdz : ∀ n, n ≤ els.length → (els.drop n).flatten = els.flatten.drop (n * j.size) := by
                        intro n hn
                        have e1 : els.flatten = (els.take n).flatten ++ (els.drop n).flatten := by rw [← List.flatten_append, List.take_append_drop]
                        have e2 : (els.take n).flatten.length = n * j.size := by rw [flat_len (hB3.take n).len, List.length_take, Nat.min_eq_left hn]
                        have e3 := congrArg (List.drop (n * j.size)) e1
                        rw [List.drop_append_of_le_length (Nat.le_of_eq e2.symm), List.drop_of_length_le (Nat.le_of_eq e2), List.nil_append] at e3
                        exact e3.symm
                      have hfn : new.flatten.length = vs.length := q1.1
                      have := hfl.seg q1 (k := e0 * j.size) (by rw [flat_len hB3.len, hfn]; omega)
                      rw [List.flatten_append, List.flatten_append, hfz e0 (by omega), hdz _ c1]
                      rw [hfn, q2] at this
                      rw [Nat.add_mul]
                      refine ⟨?_, fun q x y hx hy => this.2 q x y hx ?_⟩
                      · rw [this.1]
                        rw [show e0 * j.size + new.length * j.size = e0 * j.size + vs.length by omega, seg_len (by rw [List.length_take]; omega), List.length_take, List.length_take]
                        show _ = min _ arr2.toList.length
                        simp only [Array.length_toList, hs2]
                      · rw [List.getElem?_take] at hy
                        split at hy
                        · rename_i hq
                          have hy2 : (arr.toList.take (e0 * j.size) ++ vs ++ arr.toList.drop (e0 * j.size + vs.length))[q]? = some y := by simpa [arr2] using hy
                          rw [seg_get hal] at hy2
                          rw [show e0 * j.size + new.length * j.size = e0 * j.size + vs.length by omega, seg_get (by rw [List.length_take]; omega)]
                          by_cases g1 : q < e0 * j.size
                          · rw [if_pos g1] at hy2 ⊢; rw [List.getElem?_take, if_pos hq]; exact hy2
                          · rw [if_neg g1] at hy2 ⊢
                            by_cases g2 : q < e0 * j.size + vs.length
                            · rw [if_pos g2] at hy2 ⊢; exact hy2
                            · rw [if_neg g2] at hy2 ⊢; rw [List.getElem?_take, if_pos hq]; exact hy2
                        · cases hy
                    have hel := els_of_flat hz3.len (X := arr2.toList.drop (els.length * j.size)) hfl2
                    rw [List.take_append_drop] at hel
                    have hBn : BRel m (w.setRow i'.blk arr2) i' (.row sr j.size (els.take e0 ++ new ++ els.drop (e0 + new.length))) :=
                      ⟨hB1, hB2, hz3, .inr ⟨h2, arr2, T, setRow_heap w _ arr _ T _ hB7, by rw [hs2]; exact hB8, by rw [hnl, hs2]; exact hB9, hel⟩⟩
                    refine ⟨m, _, _, by rw [hcopy, haddr]; simp only; rw [hst]; rfl, h.write h1 hb rfl h2 hBn (fun k hk => setRow_other w i'.blk k _ hk) (size_setRow _ _ _) rfl rfl rfl rfl, Mp.le_refl _, .int _ _, .row m h1 h2 _ _⟩
              · cases hr
            · cases hr
          · cases hr
        · cases hr
      · cases hr
    · cases hr
  · cases hr
/-- All operations but calls of functions. -/
def isCall : Op → Bool
  | .call { callee := .value _, .. } => true
  | _ => false
/-- Operations that turn nothing and make nothing. -/
def freeOp : Op → Bool
  | .move _ => true
  | .assign _ => true
  | .pick _ _ _ => true
  | .build _ _ => true
  | .load _ _ => true
  | .nilCheck _ => true
  | .binOp _ _ _ _ _ => true
  | .unOp _ _ _ => true
  | .convert _ _ _ => true
  | .slice _ _ _ _ _ => true
  | .fieldAddr _ _ _ => true
  | .field _ _ _ => true
  | .indexAddr _ _ _ => true
  | .index _ _ _ => true
  | .extract _ _ => true
  | .call { callee := .builtin .len, .. } => true
  | .call { callee := .builtin .min, .. } => true
  | .call { callee := .builtin .max, .. } => true
  | .call { callee := .builtin .cap, .. } => true
  | _ => false
/-- The block that an operation looks into. -/
def loadId (op : Op) (T : TM) : Option Nat := match op with
  | .load _ x => match ev T x with
    | some (.pointer (some ⟨id, _, _⟩)) => some id
    | _ => none
  | _ => none
theorem aop_free (hI : TOk P I) (h : Run m0 H0 w0 H m w) (hT : TRel m T a) {v : Value} {H' : AHeap} {tc : List Nat} (hf : freeOp o.op = true) (hr : aop I G o.op T H = some (v, H', tc)) :
    H' = H ∧ tc = [] ∧ ∃ v', VRel m v v' ∧ ∀ w', (∀ id, loadId o.op T = some id → ∀ i, m id = some i → w'.heap[i.blk]? = w.heap[i.blk]?) → (execOp a.eval o).run P w' = .ok (.value v') w' := by
  generalize hop : o.op = op at hr hf
  unfold aop at hr
  split at hr
  case h_1 =>
    obtain ⟨h1, rfl, rfl⟩ := pure1_ok hr
    exact ⟨rfl, rfl, _, ev_ok hT h1, fun w' _ => by simp [execOp, hop]⟩
  case h_2 =>
    obtain ⟨h1, rfl, rfl⟩ := pure1_ok hr
    exact ⟨rfl, rfl, _, ev_ok hT h1, fun w' _ => by simp [execOp, hop]⟩
  case h_3 c x y =>
    unfold selR at hr
    split at hr
    · rename_i hcv
      obtain ⟨h1, rfl, rfl⟩ := pure1_ok hr
      have := ev_ok hT hcv
      generalize hq : a.eval c = q at this
      cases this
      exact ⟨rfl, rfl, _, ev_ok hT h1, fun w' _ => by simp [execOp, hop, hq, asBool]⟩
    · rename_i hcv
      obtain ⟨h1, rfl, rfl⟩ := pure1_ok hr
      have := ev_ok hT hcv
      generalize hq : a.eval c = q at this
      cases this
      exact ⟨rfl, rfl, _, ev_ok hT h1, fun w' _ => by simp [execOp, hop, hq, asBool]⟩
    · cases hr
  case h_4 => cases hf
  case h_5 => cases hf
  case h_6 t ps =>
    split at hr
    · rename_i vs hvs
      obtain ⟨h1, rfl, rfl⟩ := pure1_ok hr
      have hp := evp_ok hT hvs
      obtain ⟨v', h2, h3⟩ := aBuild_ok (parts := ps.map fun (i, x) => (i, a.eval x)) hI (by simpa using hp) h1
      exact ⟨rfl, rfl, _, h3, fun w' _ => by simp [execOp, hop, h2 w']⟩
    · cases hr
  case h_7 => cases hf
  case h_8 t x =>
    split at hr
    · rename_i p hp
      unfold aLoad at hr
      split at hr
      · rename_i i id k s hi
        split at hr
        · rename_i b hb
          split at hr
          · rename_i cs hcs
            split at hr
            · rename_i u hu
              cases hr
              have hv := ev_ok hT hp
              generalize hq : a.eval x = q at hv
              cases hv with
              | ptr hm hv =>
                rename_i i'
                obtain ⟨b', hb', hB⟩ := h.mt.has _ _ hm
                rw [hb] at hb'
                cases hb'
                obtain ⟨vs, hL, hc⟩ := rd_vals hB hcs hv
                have hlen : vs.length = i.size := by rw [← hL.1]; exact rd_len hcs
                have hc' : ∀ w' : World, (∀ id', loadId (.load t x) T = some id' → ∀ j, m id' = some j → w'.heap[j.blk]? = w.heap[j.blk]?) → ∀ (j : Nat) (v : Value), vs[j]? = some v → w'.cell? ((⟨i'.blk, i'.off + s.getD 0 * i'.z + k, none⟩ : Addr).add j) = some v := by
                  intro w' hw' j v hj
                  have e := hw' id (by simp [loadId, hp]) i' hm
                  have := hc j v hj
                  rw [add_none] at this ⊢
                  rw [World.cell?_of_block (w := w) (a := ⟨i'.blk, i'.off + s.getD 0 * i'.z + k + j, none⟩) e]
                  exact this
                rcases tval_ok hu with ⟨h1, rfl⟩ | ⟨h1, rfl⟩
                · refine ⟨rfl, rfl, .agg vs.toArray, .ofL hL, fun w' hw' => ?_⟩
                  simp only [execOp, hop, hq, Instr.loadAt, Instr.sureAddr, pure_bind, Sem.run_bind, run_loadVar_vals hI hi hlen (hc' w' hw') rfl (.inl ⟨h1, rfl⟩), Result.andThen_ok, Sem.run_pure]
                · obtain ⟨y, ys, rfl, hy, hys⟩ := hL.cons_inv
                  obtain rfl := hys.nil_inv
                  refine ⟨rfl, rfl, y, hy, fun w' hw' => ?_⟩
                  simp only [execOp, hop, hq, Instr.loadAt, Instr.sureAddr, pure_bind, Sem.run_bind, run_loadVar_vals hI hi hlen (hc' w' hw') rfl (.inr ⟨h1, rfl⟩), Result.andThen_ok, Sem.run_pure]
            · cases hr
          · cases hr
        · cases hr
      · cases hr
    · cases hr
  case h_9 => cases hf
  case h_10 =>
    split at hr
    · rename_i u hu
      obtain ⟨h1, rfl, rfl⟩ := pure1_ok hr
      obtain ⟨v', h2, h3⟩ := aNil_ok (P := P) (o := o) (a := a) (ev_ok hT hu) h1 hop rfl
      exact ⟨rfl, rfl, _, h3, fun w' _ => h2 w'⟩
    · cases hr
  case h_11 op t x y yt =>
    split at hr
    · rename_i u z hu hz
      obtain ⟨h1, rfl, rfl⟩ := pure1_ok hr
      have key := fun w' => aBin_ok (w := w') hI h.mt (ev_ok hT hu) (ev_ok hT hz) h1
      refine ⟨rfl, rfl, v, (key w).2, fun w' _ => ?_⟩
      have h2 := (key w').1
      simp only [execOp, hop, Sem.run_bind] at h2 ⊢
      rw [h2]
      rfl
    · cases hr
  case h_12 =>
    split at hr
    · rename_i u hu
      obtain ⟨h1, rfl, rfl⟩ := pure1_ok hr
      have key := fun w' => aUn_ok (P := P) (w := w') (ev_ok hT hu) h1
      exact ⟨rfl, rfl, v, (key w).2, fun w' _ => by simp [execOp, hop, (key w').1]⟩
    · cases hr
  case h_13 =>
    split at hr
    · rename_i u hu
      obtain ⟨h1, rfl, rfl⟩ := pure1_ok hr
      have key := fun w' => aConv_ok (w := w') hI (ev_ok hT hu) h1
      exact ⟨rfl, rfl, v, (key w).2, fun w' _ => by simp [execOp, hop, (key w').1]⟩
    · cases hr
  case h_14 => cases hf
  case h_15 t x lo hi mx =>
    split at hr
    · rename_i u l hh hu hl hhi hmx
      obtain ⟨h1, rfl, rfl⟩ := pure1_ok hr
      cases mx with
      | some _ => simp only [evo] at hmx; split at hmx <;> cases hmx
      | none =>
        have key : ∀ (b : Option Operand) (bv : Option Value), evo T b = some bv → (∀ d i, boundI d bv = some i → b.map a.eval = bv) := by
          intro b bv hb d i hbi
          cases b with
          | none => cases hb; rfl
          | some y =>
            simp only [evo] at hb
            split at hb
            · rename_i yv hyv
              cases hb
              have := ev_ok hT hyv
              rw [Option.map_some]
              generalize a.eval y = q at this
              cases yv <;> simp [boundI] at hbi
              cases this
              rfl
            · cases hb
        obtain ⟨_, _, _, e1, e2⟩ := aSlice_bounds h1
        obtain ⟨v', h2, h3⟩ := aSlice_ok (P := P) hI h.mt (ev_ok hT hu) h1
        refine ⟨rfl, rfl, _, h3, fun w' _ => ?_⟩
        simp only [execOp, hop, key lo l hl _ _ e1, key hi hh hhi _ _ e2, Option.map_none, Sem.run_bind, h2 w', Result.andThen_ok, Sem.run_pure]
    · cases hr
  case h_16 =>
    split at hr
    · rename_i u hu
      obtain ⟨h1, rfl, rfl⟩ := pure1_ok hr
      obtain ⟨v', h2, h3⟩ := aFieldAddr_ok hI (ev_ok hT hu) h1
      exact ⟨rfl, rfl, _, h3, fun w' _ => by simp [execOp, hop, h2 w']⟩
    · cases hr
  case h_17 =>
    split at hr
    · rename_i u hu
      obtain ⟨h1, rfl, rfl⟩ := pure1_ok hr
      obtain ⟨v', h2, h3⟩ := aField_ok hI (ev_ok hT hu) h1
      exact ⟨rfl, rfl, _, h3, fun w' _ => by simp [execOp, hop, h2 w']⟩
    · cases hr
  case h_18 =>
    split at hr
    · rename_i u z hu hz
      obtain ⟨h1, rfl, rfl⟩ := pure1_ok hr
      obtain ⟨v', h2, h3⟩ := aIndexAddr_ok hI h.mt (ev_ok hT hu) (ev_ok hT hz) h1
      exact ⟨rfl, rfl, _, h3, fun w' _ => by simp [execOp, hop, h2 w']⟩
    · cases hr
  case h_19 =>
    split at hr
    · rename_i u z hu hz
      obtain ⟨h1, rfl, rfl⟩ := pure1_ok hr
      have key := fun w' => aIndex_ok (w := w') hI (ev_ok hT hu) (ev_ok hT hz) h1
      exact ⟨rfl, rfl, v, (key w).2, fun w' _ => by simp [execOp, hop, (key w').1]⟩
    · cases hr
  case h_20 => cases hf
  case h_21 => cases hf
  case h_22 =>
    split at hr
    · rename_i u hu
      obtain ⟨h1, rfl, rfl⟩ := pure1_ok hr
      obtain ⟨v', h2, h3⟩ := aExtract_ok (P := P) (ev_ok hT hu) h1
      exact ⟨rfl, rfl, _, h3, fun w' _ => by simp [execOp, hop, h2 w']⟩
    · cases hr
  case h_23 c =>
    split at hr
    · rename_i vs hvs
      have hL := evs_ok hT hvs
      have hargs : c.args.map a.eval = (c.args.toList.map a.eval).toArray := by apply Array.ext'; simp
      split at hr
      · rename_i hcal
        obtain ⟨h1, rfl, rfl⟩ := pure1_ok hr
        have key := fun w' => aLen_ok (w := w') (ty := o.type) hI hL h1
        exact ⟨rfl, rfl, v, (key w).2, fun w' _ => by simp only [execOp, hop, resolve, hcal, pure_bind, invoke, builtin, hargs, Sem.run_bind, (key w').1, Result.andThen_ok, Sem.run_pure]⟩
      · rename_i hcal
        cases c with
        | mk callee args ats => simp only at hcal; subst hcal; cases hf
      · rename_i hcal
        cases c with
        | mk callee args ats => simp only at hcal; subst hcal; cases hf
      · rename_i hcal
        obtain ⟨h1, rfl, rfl⟩ := pure1_ok hr
        have key := fun w' => aMin_ok (P := P) (w := w') (ts := c.argTypes) (t := o.type) hL h1
        exact ⟨rfl, rfl, v, (key w).2, fun w' _ => by simp only [execOp, hop, resolve, hcal, pure_bind, invoke, builtin, hargs, Sem.run_bind, (key w').1, Result.andThen_ok, Sem.run_pure]⟩
      · rename_i hcal
        obtain ⟨h1, rfl, rfl⟩ := pure1_ok hr
        have key := fun w' => aMax_ok (P := P) (w := w') (ts := c.argTypes) (t := o.type) hL h1
        exact ⟨rfl, rfl, v, (key w).2, fun w' _ => by simp only [execOp, hop, resolve, hcal, pure_bind, invoke, builtin, hargs, Sem.run_bind, (key w').1, Result.andThen_ok, Sem.run_pure]⟩
      · rename_i hcal
        obtain ⟨h1, rfl, rfl⟩ := pure1_ok hr
        have key := fun w' => aCap_ok (w := w') (ty := o.type) hI hL h1
        exact ⟨rfl, rfl, v, (key w).2, fun w' _ => by simp only [execOp, hop, resolve, hcal, pure_bind, invoke, builtin, hargs, Sem.run_bind, (key w').1, Result.andThen_ok, Sem.run_pure]⟩
      · rename_i hcal
        cases c with
        | mk callee args ats => simp only at hcal; subst hcal; cases hf
      · cases hr
    · cases hr
  case h_24 => cases hr
theorem aop_good (hI : TOk P I) (h : Run m0 H0 w0 H m w) (hT : TRel m T a) {v : Value} {H' : AHeap} {tc : List Nat} (hc : isCall o.op = false) (hr : aop I G o.op T H = some (v, H', tc)) : Good P m0 H0 w0 m o a w v H' tc := by
  by_cases hf : freeOp o.op = true
  · obtain ⟨rfl, rfl, v', h1, h2⟩ := aop_free hI h hT hf hr
    exact .still h (h2 w fun _ _ _ _ => rfl) h1
  have hf : freeOp o.op = false := by simpa using hf
  generalize hop : o.op = op at hr hc hf
  unfold aop at hr
  split at hr
  case h_4 => exact aAlloc_ok hI h hop hr
  case h_5 =>
    split at hr
    · rename_i u hu
      exact aBox_ok h hop (ev_ok hT hu) hr
    · cases hr
  case h_7 t len ps =>
    split at hr
    · rename_i vs hvs
      have hp := evp_ok hT hvs
      exact aBuildSlice_ok hI h hop (by simpa using hp) hr
    · cases hr
  case h_9 =>
    split at hr
    · rename_i p u hp hu
      exact aStore_ok hI h hop (ev_ok hT hp) (ev_ok hT hu) hr
    · cases hr
  case h_14 =>
    split at hr
    · rename_i u z hu hz
      exact aMake_ok hI h hop (ev_ok hT hu) (ev_ok hT hz) hr
    · cases hr
  case h_20 =>
    split at hr
    · rename_i u hu
      exact aRange_ok hI h hop (ev_ok hT hu) hr
    · cases hr
  case h_21 =>
    split at hr
    · rename_i u hu
      exact aNext_ok (ty := 0) h hop (ev_ok hT hu) hr
    · cases hr
  case h_23 c =>
    split at hr
    · rename_i vs hvs
      have hL := evs_ok hT hvs
      have hargs : c.args.map a.eval = (c.args.toList.map a.eval).toArray := by apply Array.ext'; simp
      split at hr
      · rename_i hcal
        cases c with
        | mk callee args ats => simp only at hcal; subst hcal; cases hf
      · rename_i hcal
        split at hr
        · rename_i hts
          obtain ⟨m', w', v', h1, h2, h3, h4, h5⟩ := aAppend_ok (ty := o.type) hI h hL (by
            apply Array.ext'
            exact hts) hr
          exact ⟨m', w', v', .inl (by simp only [execOp, hop, resolve, hcal, pure_bind, invoke, builtin, hargs, Sem.run_bind, h1, Result.andThen_ok, Sem.run_pure]), h2, h3, h4, h5⟩
        · obtain ⟨m', w', v', h1, h2, h3, h4, h5⟩ := aAppendZ_ok (ty := o.type) hI h hL hr
          exact ⟨m', w', v', .inl (by simp only [execOp, hop, resolve, hcal, pure_bind, invoke, builtin, hargs, Sem.run_bind, h1, Result.andThen_ok, Sem.run_pure]), h2, h3, h4, h5⟩
      · rename_i hcal
        obtain ⟨m', w', v', h1, h2, h3, h4, h5⟩ := aCopy_ok (P := P) (ty := o.type) hI h hL hr
        exact ⟨m', w', v', .inl (by simp only [execOp, hop, resolve, hcal, pure_bind, invoke, builtin, hargs, Sem.run_bind, h1, Result.andThen_ok, Sem.run_pure]), h2, h3, h4, h5⟩
      · rename_i hcal
        cases c with
        | mk callee args ats => simp only at hcal; subst hcal; cases hf
      · rename_i hcal
        cases c with
        | mk callee args ats => simp only at hcal; subst hcal; cases hf
      · rename_i hcal
        cases c with
        | mk callee args ats => simp only at hcal; subst hcal; cases hf
      · rename_i f hcal
        cases c with
        | mk callee args ats =>
          simp only at hcal
          subst hcal
          simp [isCall] at hc
      · cases hr
    · cases hr
  case h_24 => cases hr
  all_goals (cases hf)
end
end Go.Proofs.Ytpgkbdkkcladcaa.Eng
