/- The engine, part 1: values and blocks as a call knows them (by numbers of its own), and as they lie in memory. A lemma file: it claims nothing of the program. -/
import Derived.Laws.CopyRow
import Derived.Laws.Rows
import Derived.Below
import Derived.WalkKit
set_option linter.unusedVariables false
set_option linter.unusedSimpArgs false
namespace Go.Proofs.Ytckbckijpdnlaaa.Eng
open Go

/-- Where a block that the call knows lies: its real block, the first cell, the cells of an element, the cells of the block; 'void': a row of no elements that lies nowhere. -/
structure MI where
  blk : Nat
  off : Nat
  z : Nat
  sz : Nat
  void : Bool

abbrev Mp := Nat → Option MI
def Mp.le (m m' : Mp) : Prop := ∀ id i, m id = some i → m' id = some i
theorem Mp.le_refl (m : Mp) : Mp.le m m := fun _ _ h => h
theorem Mp.le_trans {a b c : Mp} (h : Mp.le a b) (k : Mp.le b c) : Mp.le a c := fun _ _ x => k _ _ (h _ _ x)
def upd (m : Mp) (n : Nat) (i : MI) : Mp := fun j => if j = n then some i else m j
theorem le_upd {m : Mp} {n : Nat} (i : MI) (h : m n = none) : Mp.le m (upd m n i) := fun id j hj => by
  unfold upd
  by_cases e : id = n
  · subst e; rw [h] at hj; cases hj
  · rw [if_neg e]; exact hj

inductive VRel (m : Mp) : Value → Value → Prop where
  | bool (b : Bool) : VRel m (.bool b) (.bool b)
  | int (k : IntKind) (n : Int) : VRel m (.int k n) (.int k n)
  | str (s : ByteArray) : VRel m (.string s) (.string s)
  | nilp : VRel m (.pointer none) (.pointer none)
  | nils : VRel m (.slice none 0 0) (.slice none 0 0)
  | nili : VRel m .nilIface .nilIface
  | nilf : VRel m .nilFunc .nilFunc
  | ptr {id k : Nat} {s : Option Nat} {i : MI} (h : m id = some i) (hv : i.void = false) :
      VRel m (.pointer (some ⟨id, k, s⟩)) (.pointer (some ⟨i.blk, i.off + s.getD 0 * i.z + k, none⟩))
  | slc {id e cp cap len : Nat} {i : MI} (h : m id = some i) (hv : i.void = false) (hl : len ≤ cap) (hc : i.off + (e + cap) * i.z ≤ i.sz) :
      VRel m (.slice (some ⟨id, e, none⟩) len cp) (.slice (some ⟨i.blk, i.off + e * i.z, none⟩) len cap)
  | vslc {id cp : Nat} {i : MI} (h : m id = some i) (hv : i.void = true) : VRel m (.slice (some ⟨id, 0, none⟩) 0 cp) (.slice none 0 0)
  | eslc {id e cp o : Nat} {i : MI} (h : m id = some i) (hv : i.void = false) : VRel m (.slice (some ⟨id, e, none⟩) 0 cp) (.slice (some ⟨i.blk, o, none⟩) 0 0)
  | agg {cs cs' : Array Value} (hs : cs.size = cs'.size) (h : ∀ (j : Nat) (a b : Value), cs[j]? = some a → cs'[j]? = some b → VRel m a b) : VRel m (.agg cs) (.agg cs')
  | tuple {cs cs' : Array Value} (hs : cs.size = cs'.size) (h : ∀ (j : Nat) (a b : Value), cs[j]? = some a → cs'[j]? = some b → VRel m a b) : VRel m (.tuple cs) (.tuple cs')
  | iface {t : TypeId} {v v' : Value} (h : VRel m v v') : VRel m (.iface t v) (.iface t v')
  | func {fn : Fn} {a a' b b' : Array Value} (hs : a.size = a'.size) (h : ∀ (j : Nat) (x y : Value), a[j]? = some x → a'[j]? = some y → VRel m x y)
      (hs2 : b.size = b'.size) (h2 : ∀ (j : Nat) (x y : Value), b[j]? = some x → b'[j]? = some y → VRel m x y) : VRel m (.func fn a b) (.func fn a' b')

theorem VRel.mono {m m' : Mp} (hm : Mp.le m m') {a b : Value} (h : VRel m a b) : VRel m' a b := by
  induction h with
  | bool b => exact .bool b
  | int k n => exact .int k n
  | str s => exact .str s
  | nilp => exact .nilp
  | nils => exact .nils
  | nili => exact .nili
  | nilf => exact .nilf
  | ptr h hv => exact .ptr (hm _ _ h) hv
  | slc h hv hl hc => exact .slc (hm _ _ h) hv hl hc
  | vslc h hv => exact .vslc (hm _ _ h) hv
  | eslc h hv => exact .eslc (hm _ _ h) hv
  | agg hs _ ih => exact .agg hs ih
  | tuple hs _ ih => exact .tuple hs ih
  | iface _ ih => exact .iface ih
  | func hs _ hs2 _ ih ih2 => exact .func hs ih hs2 ih2
theorem VRel.one {m : Mp} {a b : Value} (h : VRel m a b) : b.oneCell' = a.oneCell' := by cases h <;> rfl

/-- Two rows of values. -/
def LRel (m : Mp) (xs ys : List Value) : Prop := xs.length = ys.length ∧ ∀ (j : Nat) (a b : Value), xs[j]? = some a → ys[j]? = some b → VRel m a b
theorem LRel.mono {m m' : Mp} (hm : Mp.le m m') {xs ys : List Value} (h : LRel m xs ys) : LRel m' xs ys := ⟨h.1, fun j a b ha hb => (h.2 j a b ha hb).mono hm⟩
theorem LRel.nil (m : Mp) : LRel m [] [] := ⟨rfl, fun j a b h => by simp at h⟩
theorem LRel.cons {m : Mp} {x y : Value} {xs ys : List Value} (h : VRel m x y) (hs : LRel m xs ys) : LRel m (x :: xs) (y :: ys) :=
  ⟨by simp [hs.1], fun j a b ha hb => by
    cases j with
    | zero => simp at ha hb; subst ha; subst hb; exact h
    | succ j => simp at ha hb; exact hs.2 j a b ha hb⟩
theorem LRel.cons_inv {m : Mp} {x : Value} {xs ys : List Value} (h : LRel m (x :: xs) ys) : ∃ y ys', ys = y :: ys' ∧ VRel m x y ∧ LRel m xs ys' := by
  cases ys with
  | nil => have := h.1; simp at this
  | cons y ys => exact ⟨y, ys, rfl, h.2 0 x y rfl rfl, by have := h.1; simpa using this, fun j a b ha hb => h.2 (j + 1) a b (by simpa using ha) (by simpa using hb)⟩
theorem LRel.nil_inv {m : Mp} {ys : List Value} (h : LRel m [] ys) : ys = [] := by
  have := h.1
  cases ys with
  | nil => rfl
  | cons _ _ => simp at this
theorem LRel.app {m : Mp} {a b c d : List Value} (h : LRel m a b) (k : LRel m c d) : LRel m (a ++ c) (b ++ d) := by
  refine ⟨by simp [h.1, k.1], fun j x y hx hy => ?_⟩
  have hl := h.1
  by_cases hj : j < a.length
  · rw [List.getElem?_append_left hj] at hx
    rw [List.getElem?_append_left (by omega)] at hy
    exact h.2 j x y hx hy
  · rw [List.getElem?_append_right (by omega)] at hx
    rw [List.getElem?_append_right (by omega)] at hy
    rw [← hl] at hy
    exact k.2 _ x y hx hy
theorem LRel.get {m : Mp} {xs ys : List Value} (h : LRel m xs ys) {j : Nat} {a : Value} (ha : xs[j]? = some a) : ∃ b, ys[j]? = some b ∧ VRel m a b := by
  have hj : j < xs.length := (List.getElem?_eq_some_iff.1 ha).1
  have hj' : j < ys.length := h.1 ▸ hj
  exact ⟨ys[j], List.getElem?_eq_getElem hj', h.2 j a _ ha (List.getElem?_eq_getElem hj')⟩
theorem LRel.take {m : Mp} {xs ys : List Value} (h : LRel m xs ys) (n : Nat) : LRel m (xs.take n) (ys.take n) :=
  ⟨by simp [h.1], fun j a b ha hb => by
    rw [List.getElem?_take] at ha hb
    split at ha
    · rename_i hj; rw [if_pos hj] at hb; exact h.2 j a b ha hb
    · cases ha⟩
theorem LRel.drop {m : Mp} {xs ys : List Value} (h : LRel m xs ys) (n : Nat) : LRel m (xs.drop n) (ys.drop n) :=
  ⟨by simp [h.1], fun j a b ha hb => by rw [List.getElem?_drop] at ha hb; exact h.2 _ a b ha hb⟩
theorem LRel.single {m : Mp} {x y : Value} (h : VRel m x y) : LRel m [x] [y] := .cons h (.nil m)
theorem LRel.cells {m : Mp} {a b : Value} (h : VRel m a b) : LRel m a.cells.toList b.cells.toList := by
  cases h with
  | agg hs h => exact ⟨by simpa [Value.cells] using hs, fun j x y hx hy => h j x y (by simpa [Value.cells] using hx) (by simpa [Value.cells] using hy)⟩
  | bool b => exact .single (.bool b)
  | int k n => exact .single (.int k n)
  | str s => exact .single (.str s)
  | nilp => exact .single .nilp
  | nils => exact .single .nils
  | nili => exact .single .nili
  | nilf => exact .single .nilf
  | ptr h hv => exact .single (.ptr h hv)
  | slc h hv hl hc => exact .single (.slc h hv hl hc)
  | vslc h hv => exact .single (.vslc h hv)
  | eslc h hv => exact .single (.eslc h hv)
  | tuple hs h => exact .single (.tuple hs h)
  | iface h => exact .single (.iface h)
  | func hs h hs2 h2 => exact .single (.func hs h hs2 h2)
theorem VRel.ofL {m : Mp} {xs ys : List Value} (h : LRel m xs ys) : VRel m (.agg xs.toArray) (.agg ys.toArray) :=
  .agg (by simpa using h.1) (fun j a b ha hb => h.2 j a b (by simpa using ha) (by simpa using hb))

/-- A block as the call knows it. -/
inductive ABlk where
  | cells (vs : List Value)
  | ro (vs : List Value)
  | row (s : Bool) (z : Nat) (els : List (List Value))
  | old (s : Bool) (z : Nat) (els : List (List Value))
  | iter (s : ByteArray) (pos : Nat)
  | dead
def ABlk.live : ABlk → Bool
  | .dead => false
  | _ => true
def ABlk.own : ABlk → Bool
  | .cells _ => true
  | .row _ _ _ => true
  | .iter _ _ => true
  | _ => false

/-- Elements of so many cells each. -/
def RowOk (z : Nat) (els : List (List Value)) : Prop := ∀ c ∈ els, c.length = z ∧ ∀ v ∈ c, v.oneCell' = true
theorem RowOk.len {z : Nat} {els : List (List Value)} (h : RowOk z els) : ∀ c ∈ els, c.length = z := fun c hc => (h c hc).1
theorem RowOk.nil (z : Nat) : RowOk z [] := fun c hc => by simp at hc
theorem RowOk.app {z : Nat} {a b : List (List Value)} (h : RowOk z a) (k : RowOk z b) : RowOk z (a ++ b) := fun c hc => (List.mem_append.1 hc).elim (h c) (k c)
theorem RowOk.take {z : Nat} {a : List (List Value)} (h : RowOk z a) (n : Nat) : RowOk z (a.take n) := fun c hc => h c (List.mem_of_mem_take hc)
theorem RowOk.drop {z : Nat} {a : List (List Value)} (h : RowOk z a) (n : Nat) : RowOk z (a.drop n) := fun c hc => h c (List.mem_of_mem_drop hc)
theorem RowOk.set {z : Nat} {a : List (List Value)} (h : RowOk z a) {c : List Value} (hc : c.length = z) (h1 : ∀ v ∈ c, v.oneCell' = true) (i : Nat) : RowOk z (a.set i c) := fun d hd => (List.mem_or_eq_of_mem_set hd).elim (h d) (fun e => by rw [e]; exact ⟨hc, h1⟩)

def BRel (m : Mp) (w : World) (i : MI) : ABlk → Prop
  | .cells vs => i.void = false ∧ i.off = 0 ∧ i.z = 0 ∧ ∃ (cs : Array Value) (T : TypeId), w.heap[i.blk]? = some (.cells cs T (0, 0)) ∧ LRel m vs cs.toList
  | .ro vs => i.void = false ∧ i.off = 0 ∧ i.z = 0 ∧ ∃ (cs : Array Value) (T : TypeId), w.heap[i.blk]? = some (.cells cs T (0, 0)) ∧ LRel m vs cs.toList
  | .row s z els => i.z = z ∧ i.off = 0 ∧ RowOk z els ∧ ((i.void = true ∧ els = [] ∧ s = false) ∨ (i.void = false ∧
      ∃ (cs : Array Value) (T : TypeId), w.heap[i.blk]? = some (.cells cs T (0, 0)) ∧ i.sz = cs.size ∧ els.length * z ≤ cs.size ∧
        ∀ (e : Nat) (c : List Value), els[e]? = some c → LRel m c ((cs.toList.drop (e * z)).take z)))
  | .old s z els => i.z = z ∧ RowOk z els ∧ ((i.void = true ∧ els = [] ∧ s = false) ∨ (i.void = false ∧ i.blk < w.heap.size ∧
      ∀ (e : Nat) (c : List Value) (k : Nat) (v : Value), els[e]? = some c → c[k]? = some v → ∃ b, w.cell? ⟨i.blk, i.off + e * z + k, none⟩ = some b ∧ VRel m v b))
  | .iter s p => i.void = false ∧ i.off = 0 ∧ i.z = 0 ∧ w.heap[i.blk]? = some (.stringIter s p)
  | .dead => True

theorem alloc_heap (w : World) (o : Obj) (k : Nat) (h : k < w.heap.size) : (w.alloc o).heap[k]? = w.heap[k]? := by
  show (w.heap.push o)[k]? = w.heap[k]?
  rw [Array.getElem?_push, if_neg (Nat.ne_of_lt h)]
theorem alloc_new (w : World) (o : Obj) : (w.alloc o).heap[w.heap.size]? = some o := by
  show (w.heap.push o)[w.heap.size]? = some o
  simp
theorem ABlk.own_live {b : ABlk} (h : b.own = true) : b.live = true := by cases b <;> first | rfl | cases h
theorem heap_lt {w : World} {k : Nat} {o : Obj} (h : w.heap[k]? = some o) : k < w.heap.size := (Array.getElem?_eq_some_iff.1 h).1

theorem BRel.mono {m m' : Mp} {w : World} {i : MI} {b : ABlk} (hm : Mp.le m m') (h : BRel m w i b) : BRel m' w i b := by
  cases b with
  | cells vs =>
    obtain ⟨h1, h2, h3, cs, T, h5, h6⟩ := h
    exact ⟨h1, h2, h3, cs, T, h5, h6.mono hm⟩
  | ro vs =>
    obtain ⟨h1, h2, h3, cs, T, h5, h6⟩ := h
    exact ⟨h1, h2, h3, cs, T, h5, h6.mono hm⟩
  | row s z els =>
    obtain ⟨h1, h2, h3, h4⟩ := h
    refine ⟨h1, h2, h3, h4.imp id ?_⟩
    rintro ⟨h5, cs, T, h7, h8, h9, h10⟩
    exact ⟨h5, cs, T, h7, h8, h9, fun e c he => (h10 e c he).mono hm⟩
  | old s z els =>
    obtain ⟨h1, h2, h3⟩ := h
    refine ⟨h1, h2, h3.imp id ?_⟩
    rintro ⟨h5, h6, h7⟩
    exact ⟨h5, h6, fun e c k v he hk => by obtain ⟨b, hb, hr⟩ := h7 e c k v he hk; exact ⟨b, hb, hr.mono hm⟩⟩
  | iter s p => exact h
  | dead => exact h

/-- What a block is rests on that block of memory alone. -/
theorem BRel.frame {m : Mp} {w w' : World} {i : MI} {b : ABlk} (h : BRel m w i b) (hk : i.void = false → i.blk < w.heap.size → w'.heap[i.blk]? = w.heap[i.blk]?) : BRel m w' i b := by
  have hlt : i.void = false → i.blk < w.heap.size → i.blk < w'.heap.size := fun h1 h2 => by
    have := hk h1 h2
    rw [Array.getElem?_eq_getElem h2] at this
    exact heap_lt this
  cases b with
  | cells vs =>
    obtain ⟨h1, h2, h3, cs, T, h5, h6⟩ := h
    exact ⟨h1, h2, h3, cs, T, (hk h1 (heap_lt h5)).trans h5, h6⟩
  | ro vs =>
    obtain ⟨h1, h2, h3, cs, T, h5, h6⟩ := h
    exact ⟨h1, h2, h3, cs, T, (hk h1 (heap_lt h5)).trans h5, h6⟩
  | row s z els =>
    obtain ⟨h1, h2, h3, h4⟩ := h
    refine ⟨h1, h2, h3, h4.imp id ?_⟩
    rintro ⟨h5, cs, T, h7, h8⟩
    exact ⟨h5, cs, T, (hk h5 (heap_lt h7)).trans h7, h8⟩
  | old s z els =>
    obtain ⟨h1, h2, h3⟩ := h
    refine ⟨h1, h2, h3.imp id ?_⟩
    rintro ⟨h5, h6, h7⟩
    refine ⟨h5, hlt h5 h6, fun e c k v he hv => ?_⟩
    obtain ⟨b, hb, hr⟩ := h7 e c k v he hv
    exact ⟨b, (World.cell?_of_block (w := w) (a := ⟨i.blk, i.off + e * z + k, none⟩) (hk h5 h6)).trans hb, hr⟩
  | iter s p =>
    obtain ⟨h1, h2, h3, h5⟩ := h
    exact ⟨h1, h2, h3, (hk h1 (heap_lt h5)).trans h5⟩
  | dead => trivial

theorem BRel.live_lt {m : Mp} {w : World} {i : MI} {b : ABlk} (h : BRel m w i b) (ho : b.live = true) (hv : i.void = false) : i.blk < w.heap.size := by
  cases b with
  | cells vs => obtain ⟨h1, h2, h3, cs, T, h5, h6⟩ := h; exact heap_lt h5
  | ro vs => obtain ⟨h1, h2, h3, cs, T, h5, h6⟩ := h; exact heap_lt h5
  | row s z els =>
    obtain ⟨h1, h2, h3, h4⟩ := h
    rcases h4 with ⟨h5, _⟩ | ⟨h5, cs, T, h7, _⟩
    · rw [hv] at h5; cases h5
    · exact heap_lt h7
  | old s z els =>
    obtain ⟨h1, h2, h4⟩ := h
    rcases h4 with ⟨h5, _⟩ | ⟨h5, h6, _⟩
    · rw [hv] at h5; cases h5
    · exact h6
  | iter s p => obtain ⟨h1, h2, h3, h5⟩ := h; exact heap_lt h5
  | dead => cases ho
theorem BRel.own_lt {m : Mp} {w : World} {i : MI} {b : ABlk} (h : BRel m w i b) (ho : b.own = true) (hv : i.void = false) : i.blk < w.heap.size := h.live_lt (ABlk.own_live ho) hv

abbrev AHeap := List ABlk

/-- Which real blocks the call owns. -/
def Owned (m : Mp) (H : AHeap) (k : Nat) : Prop := ∃ id i b, m id = some i ∧ H[id]? = some b ∧ b.own = true ∧ i.void = false ∧ i.blk = k

structure Match (m : Mp) (H : AHeap) (w : World) : Prop where
  has : ∀ id i, m id = some i → ∃ b, H[id]? = some b ∧ BRel m w i b
  inj : ∀ id id' i i' b b', m id = some i → m id' = some i' → H[id]? = some b → H[id']? = some b' → b.own = true → b'.live = true → i.void = false → i'.void = false → i.blk = i'.blk → id = id'

theorem Match.lt {m : Mp} {H : AHeap} {w : World} (h : Match m H w) {id : Nat} {i : MI} (hi : m id = some i) : id < H.length := by
  obtain ⟨b, hb, _⟩ := h.has id i hi
  exact (List.getElem?_eq_some_iff.1 hb).1
theorem Match.fresh {m : Mp} {H : AHeap} {w : World} (h : Match m H w) : m H.length = none := by
  cases e : m H.length with
  | none => rfl
  | some i => exact absurd (h.lt e) (Nat.lt_irrefl _)
theorem Match.owned_lt {m : Mp} {H : AHeap} {w : World} (h : Match m H w) {k : Nat} (ho : Owned m H k) : k < w.heap.size := by
  obtain ⟨id, i, b, h1, h2, h3, h4, rfl⟩ := ho
  obtain ⟨b', hb', hr⟩ := h.has id i h1
  rw [h2] at hb'
  cases hb'
  exact hr.own_lt h3 h4

/-- How a call stands: what it knows, against how it began. -/
structure Run (m0 : Mp) (H0 : AHeap) (w0 : World) (H : AHeap) (m : Mp) (w : World) : Prop where
  mt : Match m H w
  ext : Mp.le m0 m
  dom : ∀ id, id < H0.length → m id = m0 id
  len : H0.length ≤ H.length
  old : ∀ id b, id < H0.length → H[id]? = some b → b.live = true → ∃ b0, H0[id]? = some b0 ∧ b0.live = true ∧ (b.own = true → b0.own = true)
  new : ∀ id i b, H0.length ≤ id → m id = some i → H[id]? = some b → b.live = true → i.void = false → w0.heap.size ≤ i.blk ∨ Owned m0 H0 i.blk
  os : w.os = w0.os
  tape : w.tape = w0.tape
  output : w.output = w0.output
  size : w0.heap.size ≤ w.heap.size
  keep : ∀ k, k < w0.heap.size → ¬ Owned m0 H0 k → w.heap[k]? = w0.heap[k]?

section
variable {m0 : Mp} {H0 : AHeap} {w0 : World} {H : AHeap} {m : Mp} {w w' : World}

theorem Run.start (h : Match m0 H0 w0) : Run m0 H0 w0 H0 m0 w0 :=
  ⟨h, Mp.le_refl _, fun _ _ => rfl, Nat.le_refl _, fun id b _ hb hl => ⟨b, hb, hl, fun h => h⟩, fun id i b hn hi _ _ _ => absurd (h.lt hi) (by omega), rfl, rfl, rfl, Nat.le_refl _, fun _ _ _ => rfl⟩
theorem Run.orig (h : Run m0 H0 w0 H m w) (k : Nat) (hk : Owned m H k) : w0.heap.size ≤ k ∨ Owned m0 H0 k := by
  obtain ⟨id, i, b, h1, h2, h3, h4, rfl⟩ := hk
  rcases Nat.lt_or_ge id H0.length with hl | hl
  · obtain ⟨b0, g1, g2, g3⟩ := h.old id b hl h2 (ABlk.own_live h3)
    exact .inr ⟨id, i, b0, by rw [← h.dom id hl]; exact h1, g1, g3 h3, h4, rfl⟩
  · exact h.new id i b hl h1 h2 (ABlk.own_live h3) h4

/-- Behind what turns no memory. -/
theorem Run.same (h : Run m0 H0 w0 H m w) (hh : w'.heap = w.heap) (ho : w'.os = w.os) (ht : w'.tape = w.tape) (hp : w'.output = w.output) : Run m0 H0 w0 H m w' where
  mt := ⟨fun id i hi => by obtain ⟨b, hb, hr⟩ := h.mt.has id i hi; exact ⟨b, hb, hr.frame (fun _ _ => by rw [hh])⟩, h.mt.inj⟩
  ext := h.ext
  dom := h.dom
  len := h.len
  old := h.old
  new := h.new
  os := ho.trans h.os
  tape := ht.trans h.tape
  output := hp.trans h.output
  size := by rw [hh]; exact h.size
  keep := fun k hk hn => by rw [hh]; exact h.keep k hk hn
theorem Run.drew (h : Run m0 H0 w0 H m w) : Run m0 H0 w0 H m w.drew := h.same rfl rfl rfl rfl

theorem owned_set {id : Nat} {i : MI} {b b' : ABlk} (hi : m id = some i) (hb : H[id]? = some b) (ho : b.own = true) {k : Nat} (h : Owned m (H.set id b') k) : Owned m H k := by
  obtain ⟨j, i', c, h1, h2, h3, h4, h5⟩ := h
  by_cases e : id = j
  · subst e
    rw [hi] at h1
    cases h1
    exact ⟨id, i, b, hi, hb, ho, h4, h5⟩
  · rw [List.getElem?_set_ne e] at h2
    exact ⟨j, i', c, h1, h2, h3, h4, h5⟩

/-- One own block is turned. -/
theorem Run.write (h : Run m0 H0 w0 H m w) {id : Nat} {i : MI} {b b' : ABlk} (hi : m id = some i) (hb : H[id]? = some b) (ho : b.own = true) (hv : i.void = false)
    (hb' : BRel m w' i b') (hh : ∀ k, k ≠ i.blk → w'.heap[k]? = w.heap[k]?) (hz : w'.heap.size = w.heap.size) (hos : w'.os = w.os) (ht : w'.tape = w.tape) (hp : w'.output = w.output) (ho' : b'.own = true) :
    Run m0 H0 w0 (H.set id b') m w' := by
  have hlt : id < H.length := h.mt.lt hi
  have hown : Owned m H i.blk := ⟨id, i, b, hi, hb, ho, hv, rfl⟩
  have g : ∀ (q : Nat) (bq : ABlk), (H.set id b')[q]? = some bq → ∃ c, H[q]? = some c ∧ (bq.own = true → c.own = true) ∧ (bq.live = true → c.live = true) := by
    intro q bq hq2
    by_cases e : id = q
    · subst e; exact ⟨b, hb, fun _ => ho, fun _ => ABlk.own_live ho⟩
    · rw [List.getElem?_set_ne e] at hq2; exact ⟨bq, hq2, fun h => h, fun h => h⟩
  refine ⟨⟨fun j i' hj => ?_, fun j j' i1 i2 b1 b2 h1 h2 h3 h4 h5 h6 h7 h8 h9 => ?_⟩, h.ext, h.dom, by rw [List.length_set]; exact h.len, fun q bq hq hbq hl => ?_, fun q iq bq hq hiq hbq hl hvq => ?_, hos.trans h.os, ht.trans h.tape, hp.trans h.output, by rw [hz]; exact h.size, fun k hk hn => ?_⟩
  · by_cases e : id = j
    · subst e
      rw [hi] at hj
      cases hj
      exact ⟨b', List.getElem?_set_self hlt, hb'⟩
    · obtain ⟨c, hc, hr⟩ := h.mt.has j i' hj
      refine ⟨c, by rw [List.getElem?_set_ne e]; exact hc, ?_⟩
      cases hco : c.live with
      | true => exact hr.frame fun hv' _ => hh _ fun e' => e (h.mt.inj id j i i' b c hi hj hb hc ho hco hv hv' e'.symm)
      | false => cases c <;> first | trivial | cases hco
  · obtain ⟨c1, g1, g2, _⟩ := g j b1 h3
    obtain ⟨c2, g3, _, g4⟩ := g j' b2 h4
    exact h.mt.inj j j' i1 i2 c1 c2 h1 h2 g1 g3 (g2 h5) (g4 h6) h7 h8 h9
  · by_cases e : id = q
    · subst e
      obtain ⟨b0, r1, r2, r3⟩ := h.old id b hq hb (ABlk.own_live ho)
      exact ⟨b0, r1, r2, fun _ => r3 ho⟩
    · rw [List.getElem?_set_ne e] at hbq
      exact h.old q bq hq hbq hl
  · by_cases e : id = q
    · subst e
      rw [hi] at hiq
      cases hiq
      exact h.new id i b hq hi hb (ABlk.own_live ho) hv
    · rw [List.getElem?_set_ne e] at hbq
      exact h.new q iq bq hq hiq hbq hl hvq
  · have : k ≠ i.blk := by
      rintro rfl
      rcases h.orig _ hown with h' | h'
      · omega
      · exact hn h'
    rw [hh k this]
    exact h.keep k hk hn

/-- A block is let go. -/
theorem Run.kill (h : Run m0 H0 w0 H m w) (id : Nat) : Run m0 H0 w0 (H.set id .dead) m w := by
  have g : ∀ (q : Nat) (bq : ABlk), (H.set id .dead)[q]? = some bq → bq.live = true → H[q]? = some bq := by
    intro q bq hq ho
    by_cases e : id = q
    · subst e
      rw [List.getElem?_set] at hq
      simp at hq
      obtain ⟨_, rfl⟩ := hq
      cases ho
    · rwa [List.getElem?_set_ne e] at hq
  refine ⟨⟨fun j i' hj => ?_, fun j j' i1 i2 b1 b2 h1 h2 h3 h4 h5 h6 h7 h8 h9 => h.mt.inj j j' i1 i2 b1 b2 h1 h2 (g _ _ h3 (ABlk.own_live h5)) (g _ _ h4 h6) h5 h6 h7 h8 h9⟩, h.ext, h.dom, by rw [List.length_set]; exact h.len, fun q bq hq hbq hl => h.old q bq hq (g _ _ hbq hl) hl, fun q iq bq hq hiq hbq hl hvq => h.new q iq bq hq hiq (g _ _ hbq hl) hl hvq, h.os, h.tape, h.output, h.size, h.keep⟩
  obtain ⟨c, hc, hr⟩ := h.mt.has j i' hj
  by_cases e : id = j
  · subst e
    exact ⟨.dead, List.getElem?_set_self (h.mt.lt hj), trivial⟩
  · exact ⟨c, by rw [List.getElem?_set_ne e]; exact hc, hr⟩

/-- Blocks that are not dead, in memory. -/
def Lives (m : Mp) (H : AHeap) (k : Nat) : Prop := ∃ id i b, m id = some i ∧ H[id]? = some b ∧ b.live = true ∧ i.void = false ∧ i.blk = k
theorem Match.lives_lt {m : Mp} {H : AHeap} {w : World} (h : Match m H w) {k : Nat} (ho : Lives m H k) : k < w.heap.size := by
  obtain ⟨id, i, b, h1, h2, h3, h4, rfl⟩ := ho
  obtain ⟨b', hb', hr⟩ := h.has id i h1
  rw [h2] at hb'
  cases hb'
  exact hr.live_lt h3 h4
/-- A block that is known anew: one of memory's that is new, or a row that lies nowhere, or one of the call's own whose other name is dead. -/
theorem Run.name (h : Run m0 H0 w0 H m w) (i : MI) (b : ABlk) (hb : BRel (upd m H.length i) w i b)
    (hnew : b.live = true → i.void = false → (∀ k, Lives m H k → k ≠ i.blk) ∧ (w0.heap.size ≤ i.blk ∨ Owned m0 H0 i.blk)) : Run m0 H0 w0 (H ++ [b]) (upd m H.length i) w := by
  have hf := h.mt.fresh
  have hle := le_upd i hf
  have hg : ∀ q, q ≠ H.length → (H ++ [b])[q]? = H[q]? := by
    intro q hq
    rcases Nat.lt_or_ge q H.length with hl | hl
    · rw [List.getElem?_append_left hl]
    · rw [List.getElem?_eq_none hl, List.getElem?_eq_none (by simp; omega)]
  have hs : (H ++ [b])[H.length]? = some b := by simp
  have hold : ∀ q iq, upd m H.length i q = some iq → q ≠ H.length → m q = some iq := by
    intro q iq hq hn
    unfold upd at hq
    rwa [if_neg hn] at hq
  have hnw : ∀ iq, upd m H.length i H.length = some iq → iq = i := by
    intro iq hq
    unfold upd at hq
    rw [if_pos rfl] at hq
    exact (Option.some.inj hq).symm
  refine ⟨⟨fun j i' hj => ?_, fun j j' i1 i2 b1 b2 h1 h2 h3 h4 h5 h6 h7 h8 h9 => ?_⟩, Mp.le_trans h.ext hle, fun q hq => ?_, by have := h.len; simp; omega, fun q bq hq hbq hl => ?_, fun q iq bq hq hiq hbq hl hvq => ?_, h.os, h.tape, h.output, h.size, h.keep⟩
  · by_cases e : j = H.length
    · subst e
      cases hnw _ hj
      exact ⟨b, hs, hb⟩
    · obtain ⟨c, hc, hr⟩ := h.mt.has j i' (hold _ _ hj e)
      exact ⟨c, by rw [hg j e]; exact hc, hr.mono hle⟩
  · by_cases e : j = H.length <;> by_cases e' : j' = H.length
    · rw [e, e']
    · subst e
      rw [hs] at h3
      cases h3
      cases hnw _ h1
      have := (hnew (ABlk.own_live h5) h7).1 i2.blk ⟨j', i2, b2, hold _ _ h2 e', by rwa [hg j' e'] at h4, h6, h8, rfl⟩
      exact absurd h9.symm this
    · subst e'
      rw [hs] at h4
      cases h4
      cases hnw _ h2
      have := (hnew h6 h8).1 i1.blk ⟨j, i1, b1, hold _ _ h1 e, by rwa [hg j e] at h3, ABlk.own_live h5, h7, rfl⟩
      exact absurd h9 this
    · exact h.mt.inj j j' i1 i2 b1 b2 (hold _ _ h1 e) (hold _ _ h2 e') (by rwa [hg j e] at h3) (by rwa [hg j' e'] at h4) h5 h6 h7 h8 h9
  · unfold upd
    rw [if_neg (by have := h.len; omega)]
    exact h.dom q hq
  · have e : q ≠ H.length := by have := h.len; omega
    rw [hg q e] at hbq
    exact h.old q bq hq hbq hl
  · by_cases e : q = H.length
    · subst e
      rw [hs] at hbq
      cases hbq
      cases hnw _ hiq
      exact (hnew hl hvq).2
    · rw [hg q e] at hbq
      exact h.new q iq bq hq (hold _ _ hiq e) hbq hl hvq

/-- Memory grows by one block. -/
theorem Run.grow (h : Run m0 H0 w0 H m w) (o : Obj) : Run m0 H0 w0 H m (w.alloc o) where
  mt := ⟨fun id i hi => by obtain ⟨b, hb, hr⟩ := h.mt.has id i hi; exact ⟨b, hb, hr.frame (fun _ hl => alloc_heap w o _ hl)⟩, h.mt.inj⟩
  ext := h.ext
  dom := h.dom
  len := h.len
  old := h.old
  new := h.new
  os := h.os
  tape := h.tape
  output := h.output
  size := by have := h.size; simp; omega
  keep := fun k hk hn => by rw [alloc_heap w o k (by have := h.size; omega)]; exact h.keep k hk hn

theorem Run.made (h : Run m0 H0 w0 H m w) (o : Obj) (i : MI) (hi : i.blk = w.heap.size) (b : ABlk) (hb : BRel (upd m H.length i) (w.alloc o) i b) :
    Run m0 H0 w0 (H ++ [b]) (upd m H.length i) (w.alloc o) :=
  (h.grow o).name i b hb fun _ _ => ⟨fun k hk e => by have := h.mt.lives_lt hk; omega, .inl (by rw [hi]; exact h.size)⟩
/-- What a step leaves of memory: all blocks but those of some names; it only grows. -/
structure Frame (m : Mp) (tc : List Nat) (w w' : World) : Prop where
  size : w.heap.size ≤ w'.heap.size
  keep : ∀ k, k < w.heap.size → (∀ id ∈ tc, ∀ i, m id = some i → i.void = false → i.blk ≠ k) → w'.heap[k]? = w.heap[k]?
theorem Frame.refl (m : Mp) (tc : List Nat) (w : World) : Frame m tc w w := ⟨Nat.le_refl _, fun _ _ _ => rfl⟩
theorem Frame.same (m : Mp) (tc : List Nat) (h : w'.heap = w.heap) : Frame m tc w w' := ⟨by rw [h]; exact Nat.le_refl _, fun _ _ _ => by rw [h]⟩
theorem Frame.alloc (m : Mp) (tc : List Nat) (w : World) (o : Obj) : Frame m tc w (w.alloc o) := ⟨by simp, fun k hk _ => alloc_heap w o k hk⟩
theorem Frame.drewAlloc (m : Mp) (tc : List Nat) (w : World) (o : Obj) : Frame m tc w (w.drew.alloc o) := ⟨by simp, fun k hk _ => alloc_heap w.drew o k hk⟩
theorem Frame.row (m : Mp) {id : Nat} {i : MI} (hi : m id = some i) (hv : i.void = false) (w : World) (arr : Array Value) : Frame m [id] w (w.setRow i.blk arr) :=
  ⟨by simp, fun k _ h => setRow_other w i.blk k arr (fun e => h id (by simp) i hi hv e.symm)⟩
end
end Go.Proofs.Ytckbckijpdnlaaa.Eng