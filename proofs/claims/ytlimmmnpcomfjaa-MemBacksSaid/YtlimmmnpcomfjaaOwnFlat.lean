/- Arguments that are structs of numbers, bools and texts, and slices of such: what their reading says of the cells. A lemma file: it claims nothing of the program. -/
import Derived.Test.YtlimmmnpcomfjaaWWords
import Derived.Deep.Slices
import Derived.ChangeArms
import Derived.DataReads
import Derived.ProofKit
namespace Go.Proofs.Ytlimmmnpcomfjaa.OwnFlat
open Go.RowKit Go.WideShapes Go.ChangeShapes Go.Proofs.YtlimmmnpcomfjaaW.PrintWords

inductive Leaf where
  | int (k : IntKind)
  | bool
  | str

def Leaf.ok : Leaf → Value → Prop
  | .int k, v => ∃ n, v = .int k n ∧ (Lit.int k n).wf = true
  | .bool, v => ∃ b, v = .bool b
  | .str, v => ∃ s : ByteArray, v = .string s ∧ s.size ≤ maxLen

def All2 : List Leaf → List Value → Prop
  | [], [] => True
  | l :: ls, v :: vs => l.ok v ∧ All2 ls vs
  | _, _ => False

theorem All2.len : ∀ {ls : List Leaf} {vs : List Value}, All2 ls vs → vs.length = ls.length
  | [], [], _ => rfl
  | _ :: _, _ :: _, h => by simp [All2.len h.2]
  | [], _ :: _, h => h.elim
  | _ :: _, [], h => h.elim

theorem All2.app : ∀ {l1 : List Leaf} {c1 : List Value} {l2 : List Leaf} {c2 : List Value}, All2 l1 c1 → All2 l2 c2 → All2 (l1 ++ l2) (c1 ++ c2)
  | [], [], _, _, _, h2 => h2
  | _ :: _, _ :: _, _, _, h1, h2 => ⟨h1.1, All2.app h1.2 h2⟩
  | [], _ :: _, _, _, h, _ => h.elim
  | _ :: _, [], _, _, h, _ => h.elim

theorem All2.cons_inv {l : Leaf} {ls : List Leaf} {vs : List Value} (h : All2 (l :: ls) vs) : ∃ v us, vs = v :: us ∧ l.ok v ∧ All2 ls us := by
  cases vs with
  | nil => exact h.elim
  | cons v us => exact ⟨v, us, rfl, h.1, h.2⟩

theorem All2.nil_inv {vs : List Value} (h : All2 [] vs) : vs = [] := by
  cases vs with
  | nil => rfl
  | cons v us => exact h.elim

def fieldLeaves (P : Program) (rec : TypeId → Option (List Leaf)) : Nat → List Field → Option (List Leaf)
  | _, [] => some []
  | o, f :: fs =>
    if f.offset = o then
      match rec f.type with
      | none => none
      | some l =>
        if P.cellsOf f.type = l.length then
          match fieldLeaves P rec (o + l.length) fs with
          | none => none
          | some r => some (l ++ r)
        else none
    else none

def leaves (P : Program) : Nat → TypeId → Option (List Leaf)
  | 0, _ => none
  | d + 1, t =>
    match P.underlying t with
    | some (.int k) => some [.int k]
    | some .bool => some [.bool]
    | some .string => some [.str]
    | some (.struct fs) =>
      match fieldLeaves P (leaves P d) 0 fs.toList with
      | none => none
      | some ls => if P.cellsOf t = ls.length then some ls else none
    | _ => none

section
variable {H : Type} {enc : TypeId × Value → H} {P : Program} {w : World} {base : Nat} {spare : Nat → Bool} {held : Bool}

theorem fields_all (rec : TypeId → Option (List Leaf)) (n : Nat) (cs : List Value)
    (hrec : ∀ t ls c x, rec t = some ls → DataW.trod enc P w base spare held n t c = some x → All2 ls c) :
    ∀ (fs : List Field) (o : Nat) (ls : List Leaf), fieldLeaves P rec o fs = some ls →
      (∀ (i : Nat) (f : Field), fs[i]? = some f → ∃ y, DataW.trod enc P w base spare held n f.type ((cs.drop f.offset).take (P.cellsOf f.type)) = some y) →
      All2 ls ((cs.drop o).take ls.length)
  | [], o, ls, h, _ => by
    simp only [fieldLeaves, Option.some.injEq] at h
    subst h
    simp [All2]
  | f :: fs, o, ls, h, hf => by
    simp only [fieldLeaves] at h
    split at h
    · rename_i ho
      split at h
      · cases h
      · rename_i l hl
        split at h
        · rename_i hc
          split at h
          · cases h
          · rename_i r hr
            simp only [Option.some.injEq] at h
            subst h
            obtain ⟨y, hy⟩ := hf 0 f rfl
            have h1 := hrec _ _ _ _ hl hy
            rw [ho, hc] at h1
            have h2 := fields_all rec n cs hrec fs (o + l.length) r hr (fun i g hg => hf (i + 1) g (by simpa using hg))
            rw [List.length_append, List.take_add, List.drop_drop]
            exact h1.app h2
        · cases h
    · cases h

theorem leaves_all : ∀ (d : Nat) (t : TypeId) (ls : List Leaf) (fuel : Nat) (cs : List Value) (x : DataW H × List MemPlace),
    leaves P d t = some ls → DataW.trod enc P w base spare held fuel t cs = some x → All2 ls cs
  | 0, _, _, _, _, _, h, _ => by simp [leaves] at h
  | d + 1, t, ls, fuel, cs, x, h, hx => by
    simp only [leaves] at h
    split at h
    · rename_i k hk
      cases h
      obtain ⟨m, rfl, _, hm⟩ := DataW.trod_int hk hx
      exact ⟨⟨m, rfl, hm⟩, trivial⟩
    · rename_i hk
      cases h
      obtain ⟨m, rfl, _⟩ := DataW.trod_bool hk hx
      exact ⟨⟨m, rfl⟩, trivial⟩
    · rename_i hk
      cases h
      obtain ⟨m, rfl, _, hm⟩ := DataW.trod_string hk hx
      exact ⟨⟨m, rfl, hm⟩, trivial⟩
    · rename_i fs hk
      split at h
      · cases h
      · rename_i l hl
        split at h
        · rename_i hc
          simp only [Option.some.injEq] at h
          subst h
          obtain ⟨xs, n, _, _, hlen, hxs, hf⟩ := DataW.trod_struct hk hx
          have h2 := fields_all (enc := enc) (w := w) (base := base) (spare := spare) (held := held) (P := P) (leaves P d) n cs (fun t ls c x h1 h2 => leaves_all d t ls n c x h1 h2) fs.toList 0 l hl (fun i f hi => by
            have hi' : fs[i]? = some f := by simpa using hi
            have hlt : i < xs.length := by
              rw [hxs]
              rcases Nat.lt_or_ge i fs.size with h' | h'
              · exact h'
              · rw [Array.getElem?_eq_none h'] at hi'; cases hi'
            exact ⟨xs[i], by rw [hf i f hi', List.getElem?_eq_getElem hlt]⟩)
          rw [List.drop_zero, List.take_of_length_le (by rw [hlen, hc]; exact Nat.le_refl _)] at h2
          exact h2
        · cases h
    · cases h

theorem choose_list {α : Type} {p : Nat → α → Prop} : ∀ (n : Nat), (∀ i, i < n → ∃ x, p i x) → ∃ xs : List α, xs.length = n ∧ ∀ i x, xs[i]? = some x → p i x
  | 0, _ => ⟨[], rfl, by simp⟩
  | n + 1, h => by
    obtain ⟨xs, hl, hx⟩ := choose_list n (fun i hi => h i (by omega))
    obtain ⟨y, hy⟩ := h n (by omega)
    refine ⟨xs ++ [y], by simp [hl], fun i x hi => ?_⟩
    rcases Nat.lt_or_ge i n with h' | h'
    · rw [List.getElem?_append_left (by omega)] at hi
      exact hx i x hi
    · rw [List.getElem?_append_right (by omega)] at hi
      have hin : i - xs.length = 0 := by
        rcases Nat.lt_or_ge (i - xs.length) 1 with h2 | h2
        · omega
        · rw [List.getElem?_eq_none (by simpa using h2)] at hi; cases hi
      rw [hin] at hi
      have : i = n := by omega
      subst this
      simp only [List.getElem?_cons_zero, Option.some.injEq] at hi
      subst hi
      exact hy

theorem add_add (a : Addr) (m n : Nat) : (a.add m).add n = a.add (m + n) := by
  unfold Addr.add
  by_cases hm : m = 0
  · subst hm; simp
  · by_cases hn : n = 0
    · subst hn; simp
    · have : ¬ (m + n = 0) := by omega
      simp [hm, hn, Nat.add_assoc]

/-- A slice whose elements are such: its elements, as a list; what each is. -/
theorem open_rows {α : Type} {t e : TypeId} {A : Option Addr} {len cap sz dep : Nat} {ls : List Leaf} {d : DataW H} {p : List MemPlace} (K : α → List Value → Prop) (good : α → Prop)
    (ht : P.underlying t = some (.slice e)) (he : leaves P dep e = some ls) (hc : P.cellsOf e = sz) (hs : ls.length = sz)
    (mk : ∀ cs, All2 ls cs → ∃ x : α, K x cs ∧ good x)
    (h : DataW.Trod enc P w base spare held t (.slice A len cap) d p) :
    ∃ xs : List α, ReadsRow K sz w A xs.length xs ∧ xs.length = len ∧ len ≤ cap ∧ ∀ x ∈ xs, good x := by
  obtain ⟨fuel, hf⟩ := h
  have hf' : DataW.trod enc P w base spare held fuel t [.slice A len cap] = some (d, p) := by simpa [Value.cells] using hf
  rcases Go.Deep.open_slice ht hf' with ⟨h0, _⟩ | ⟨a, len', cap', m, n, D, Pl, h0, _, hl, hm, hmm, _, hx⟩
  · simp only [List.cons.injEq, Value.slice.injEq, and_true] at h0
    obtain ⟨rfl, rfl, rfl⟩ := h0
    exact ⟨[], ⟨rfl, by simp, fun h => absurd h (by simp)⟩, rfl, Nat.le_refl _, by simp⟩
  · simp only [List.cons.injEq, Value.slice.injEq, and_true] at h0
    obtain ⟨rfl, rfl, rfl⟩ := h0
    have hlm : len ≤ m := by rw [hmm]; split <;> omega
    obtain ⟨xs, hxl, hxs⟩ := choose_list (α := α) (p := fun i x => (∃ c, c.length = sz ∧ K x c ∧ ∀ j u, c[j]? = some u → w.cell? (a.add (i * sz + j)) = some u) ∧ good x) len (fun i hi => by
      obtain ⟨cs, h1, h2⟩ := hx i (by omega)
      obtain ⟨_, hcl, hcell⟩ := World.cells?_some h1
      have hA := leaves_all _ _ _ _ _ _ he h2
      obtain ⟨x, hK, hg⟩ := mk cs hA
      refine ⟨x, ⟨cs, by rw [hA.len, hs], hK, fun j u hj => ?_⟩, hg⟩
      have hjl : j < P.cellsOf e := by
        rw [← hcl]
        rcases Nat.lt_or_ge j cs.length with h' | h'
        · exact h'
        · rw [List.getElem?_eq_none h'] at hj; cases hj
      have := hcell j hjl
      rw [add_add, hc] at this
      rw [this, hj])
    refine ⟨xs, ⟨rfl, by rw [hxl]; have := hm; simp only [maxLen] at this; omega, fun hn => ⟨a, rfl, fun j q hj => (hxs j q hj).1⟩⟩, hxl, hl, fun x hx' => ?_⟩
    obtain ⟨j, hj, rfl⟩ := List.getElem_of_mem hx'
    exact (hxs j _ (List.getElem?_eq_getElem hj)).2

/-- A struct by value that is such. -/
theorem open_struct {t : TypeId} {fs : Array Field} {dep : Nat} {ls : List Leaf} {v : Value} {d : DataW H} {p : List MemPlace} {r : Reach} {b0 : Nat}
    (ht : P.underlying t = some (.struct fs)) (he : leaves P dep t = some ls) (hv : Value.okWide P w r b0 t v)
    (h : DataW.Trod enc P w base spare held t v d p) : ∃ cs : List Value, v = .agg cs.toArray ∧ All2 ls cs := by
  obtain ⟨cs, rfl, _⟩ := okWide_struct ht hv
  obtain ⟨fuel, hf⟩ := h
  exact ⟨cs.toList, by simp, leaves_all _ _ _ _ _ _ he (by simpa [Value.cells] using hf)⟩
end
end Go.Proofs.Ytlimmmnpcomfjaa.OwnFlat
