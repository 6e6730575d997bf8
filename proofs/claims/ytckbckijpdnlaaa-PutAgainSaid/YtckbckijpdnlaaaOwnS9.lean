/- The second engine, part 9: arguments, and a law's statement out of what was reckoned. A lemma file: it claims nothing of the program. -/
import Derived.Test.YtckbckijpdnlaaaOwnS8
import Derived.Deep.Slices
import Derived.ChangeArms
import Derived.DataReads
import Derived.ProofKit
import Derived.Below
set_option linter.unusedVariables false
set_option linter.unusedSimpArgs false
namespace Go.Proofs.Ytckbckijpdnlaaa.Sy
open Go Go.Lib Go.Proofs.Ytckbckijpdnlaaa.Eng Go.RowKit Go.WideShapes Go.ChangeShapes

inductive Leaf where
  | int (k : IntKind)
  | bool
  | str

def Leaf.ok : Leaf → Value → Prop
  | .int k, v => ∃ n, v = .int k n ∧ (Lit.int k n).wf = true
  | .bool, v => ∃ b, v = .bool b
  | .str, v => ∃ s : ByteArray, v = .string s ∧ s.size ≤ maxLen

def All2 : List Leaf → List Value → Prop
  | [], [] => True
  | l :: ls, v :: vs => l.ok v ∧ All2 ls vs
  | _, _ => False

theorem All2.len : ∀ {ls : List Leaf} {vs : List Value}, All2 ls vs → vs.length = ls.length
  | [], [], _ => rfl
  | _ :: _, _ :: _, h => by simp [All2.len h.2]
  | [], _ :: _, h => h.elim
  | _ :: _, [], h => h.elim

theorem All2.app : ∀ {l1 : List Leaf} {c1 : List Value} {l2 : List Leaf} {c2 : List Value}, All2 l1 c1 → All2 l2 c2 → All2 (l1 ++ l2) (c1 ++ c2)
  | [], [], _, _, _, h2 => h2
  | _ :: _, _ :: _, _, _, h1, h2 => ⟨h1.1, All2.app h1.2 h2⟩
  | [], _ :: _, _, _, h, _ => h.elim
  | _ :: _, [], _, _, h, _ => h.elim

theorem All2.cons_inv {l : Leaf} {ls : List Leaf} {vs : List Value} (h : All2 (l :: ls) vs) : ∃ v us, vs = v :: us ∧ l.ok v ∧ All2 ls us := by
  cases vs with
  | nil => exact h.elim
  | cons v us => exact ⟨v, us, rfl, h.1, h.2⟩

theorem All2.nil_inv {vs : List Value} (h : All2 [] vs) : vs = [] := by
  cases vs with
  | nil => rfl
  | cons v us => exact h.elim

def fieldLeaves (P : Program) (rec : TypeId → Option (List Leaf)) : Nat → List Field → Option (List Leaf)
  | _, [] => some []
  | o, f :: fs =>
    if f.offset = o then
      match rec f.type with
      | none => none
      | some l =>
        if P.cellsOf f.type = l.length then
          match fieldLeaves P rec (o + l.length) fs with
          | none => none
          | some r => some (l ++ r)
        else none
    else none

def leaves (P : Program) : Nat → TypeId → Option (List Leaf)
  | 0, _ => none
  | d + 1, t =>
    match P.underlying t with
    | some (.int k) => some [.int k]
    | some .bool => some [.bool]
    | some .string => some [.str]
    | some (.struct fs) =>
      match fieldLeaves P (leaves P d) 0 fs.toList with
      | none => none
      | some ls => if P.cellsOf t = ls.length then some ls else none
    | _ => none

section
variable {H : Type} {enc : TypeId × Value → H} {P : Program} {w : World} {base : Nat} {spare : Nat → Bool} {held : Bool}

theorem fields_all (rec : TypeId → Option (List Leaf)) (n : Nat) (cs : List Value)
    (hrec : ∀ t ls c x, rec t = some ls → DataW.trod enc P w base spare held n t c = some x → All2 ls c) :
    ∀ (fs : List Field) (o : Nat) (ls : List Leaf), fieldLeaves P rec o fs = some ls →
      (∀ (i : Nat) (f : Field), fs[i]? = some f → ∃ y, DataW.trod enc P w base spare held n f.type ((cs.drop f.offset).take (P.cellsOf f.type)) = some y) →
      All2 ls ((cs.drop o).take ls.length)
  | [], o, ls, h, _ => by
    simp only [fieldLeaves, Option.some.injEq] at h
    subst h
    simp [All2]
  | f :: fs, o, ls, h, hf => by
    simp only [fieldLeaves] at h
    split at h
    · rename_i ho
      split at h
      · cases h
      · rename_i l hl
        split at h
        · rename_i hc
          split at h
          · cases h
          · rename_i r hr
            simp only [Option.some.injEq] at h
            subst h
            obtain ⟨y, hy⟩ := hf 0 f rfl
            have h1 := hrec _ _ _ _ hl hy
            rw [ho, hc] at h1
            have h2 := fields_all rec n cs hrec fs (o + l.length) r hr (fun i g hg => hf (i + 1) g (by simpa using hg))
            rw [List.length_append, List.take_add, List.drop_drop]
            exact h1.app h2
        · cases h
    · cases h

theorem leaves_all : ∀ (d : Nat) (t : TypeId) (ls : List Leaf) (fuel : Nat) (cs : List Value) (x : DataW H × List MemPlace),
    leaves P d t = some ls → DataW.trod enc P w base spare held fuel t cs = some x → All2 ls cs
  | 0, _, _, _, _, _, h, _ => by simp [leaves] at h
  | d + 1, t, ls, fuel, cs, x, h, hx => by
    simp only [leaves] at h
    split at h
    · rename_i k hk
      cases h
      obtain ⟨m, rfl, _, hm⟩ := DataW.trod_int hk hx
      exact ⟨⟨m, rfl, hm⟩, trivial⟩
    · rename_i hk
      cases h
      obtain ⟨m, rfl, _⟩ := DataW.trod_bool hk hx
      exact ⟨⟨m, rfl⟩, trivial⟩
    · rename_i hk
      cases h
      obtain ⟨m, rfl, _, hm⟩ := DataW.trod_string hk hx
      exact ⟨⟨m, rfl, hm⟩, trivial⟩
    · rename_i fs hk
      split at h
      · cases h
      · rename_i l hl
        split at h
        · rename_i hc
          simp only [Option.some.injEq] at h
          subst h
          obtain ⟨xs, n, _, _, hlen, hxs, hf⟩ := DataW.trod_struct hk hx
          have h2 := fields_all (enc := enc) (w := w) (base := base) (spare := spare) (held := held) (P := P) (leaves P d) n cs (fun t ls c x h1 h2 => leaves_all d t ls n c x h1 h2) fs.toList 0 l hl (fun i f hi => by
            have hi' : fs[i]? = some f := by simpa using hi
            have hlt : i < xs.length := by
              rw [hxs]
              rcases Nat.lt_or_ge i fs.size with h' | h'
              · exact h'
              · rw [Array.getElem?_eq_none h'] at hi'; cases hi'
            exact ⟨xs[i], by rw [hf i f hi', List.getElem?_eq_getElem hlt]⟩)
          rw [List.drop_zero, List.take_of_length_le (by rw [hlen, hc]; exact Nat.le_refl _)] at h2
          exact h2
        · cases h
    · cases h

theorem choose_list {α : Type} {p : Nat → α → Prop} : ∀ (n : Nat), (∀ i, i < n → ∃ x, p i x) → ∃ xs : List α, xs.length = n ∧ ∀ i x, xs[i]? = some x → p i x
  | 0, _ => ⟨[], rfl, by simp⟩
  | n + 1, h => by
    obtain ⟨xs, hl, hx⟩ := choose_list n (fun i hi => h i (by omega))
    obtain ⟨y, hy⟩ := h n (by omega)
    refine ⟨xs ++ [y], by simp [hl], fun i x hi => ?_⟩
    rcases Nat.lt_or_ge i n with h' | h'
    · rw [List.getElem?_append_left (by omega)] at hi
      exact hx i x hi
    · rw [List.getElem?_append_right (by omega)] at hi
      have hin : i - xs.length = 0 := by
        rcases Nat.lt_or_ge (i - xs.length) 1 with h2 | h2
        · omega
        · rw [List.getElem?_eq_none (by simpa using h2)] at hi; cases hi
      rw [hin] at hi
      have : i = n := by omega
      subst this
      simp only [List.getElem?_cons_zero, Option.some.injEq] at hi
      subst hi
      exact hy

theorem add_add (a : Addr) (m n : Nat) : (a.add m).add n = a.add (m + n) := by
  unfold Addr.add
  by_cases hm : m = 0
  · subst hm; simp
  · by_cases hn : n = 0
    · subst hn; simp
    · have : ¬ (m + n = 0) := by omega
      simp [hm, hn, Nat.add_assoc]

/-- A struct by value that is such. -/
theorem open_struct {t : TypeId} {fs : Array Field} {dep : Nat} {ls : List Leaf} {v : Value} {d : DataW H} {p : List MemPlace} {r : Reach} {b0 : Nat}
    (ht : P.underlying t = some (.struct fs)) (he : leaves P dep t = some ls) (hv : Value.okWide P w r b0 t v)
    (h : DataW.Trod enc P w base spare held t v d p) : ∃ cs : List Value, v = .agg cs.toArray ∧ All2 ls cs := by
  obtain ⟨cs, rfl, _⟩ := okWide_struct ht hv
  obtain ⟨fuel, hf⟩ := h
  exact ⟨cs.toList, by simp, leaves_all _ _ _ _ _ _ he (by simpa [Value.cells] using hf)⟩
end
/-! ### rows of numbers and bools -/
def Leaf.cc : Leaf → Option CC
  | .int k => some (.i k)
  | .bool => some .b
  | .str => some .s
def ccs : List Leaf → Option (List CC)
  | [] => some []
  | l :: ls => match l.cc, ccs ls with
    | some k, some ks => some (k :: ks)
    | _, _ => none
/-- An element's columns are what they may be. -/
def goodL : List CC → List Int → Prop
  | [], [] => True
  | .i k :: ks, x :: xs => (Lit.int k x).wf = true ∧ goodL ks xs
  | .b :: ks, x :: xs => (x = 0 ∨ x = 1) ∧ goodL ks xs
  | .s :: ks, x :: xs => (∃ t : ByteArray, x = encS t ∧ t.size ≤ maxLen) ∧ goodL ks xs
  | _, _ => False
theorem cols_all : ∀ {ls : List Leaf} {ks : List CC} {cs : List Value}, ccs ls = some ks → All2 ls cs → ∃ x : List Int, cs = toVs ks x ∧ goodL ks x
  | [], ks, cs, h, ha => by
    cases h
    obtain rfl := ha.nil_inv
    exact ⟨[], rfl, trivial⟩
  | l :: ls, ks, cs, h, ha => by
    obtain ⟨u, us, rfl, h1, h2⟩ := ha.cons_inv
    simp only [ccs] at h
    split at h
    · rename_i k ks' hk hks
      cases h
      obtain ⟨x, rfl, hg⟩ := cols_all hks h2
      cases l with
      | int q =>
        cases hk
        obtain ⟨n, rfl, hn⟩ := h1
        exact ⟨n :: x, by simp [toVs, nth, colV], hn, hg⟩
      | bool =>
        cases hk
        obtain ⟨b, rfl⟩ := h1
        refine ⟨(if b = true then 1 else 0) :: x, ?_, ?_, hg⟩
        · cases b <;> simp [toVs, nth, colV]
        · cases b <;> simp
      | str =>
        cases hk
        obtain ⟨t, rfl, ht⟩ := h1
        exact ⟨encS t :: x, by simp [toVs, nth, colV, decS_enc], ⟨t, rfl, ht⟩, hg⟩
    · cases h
/-- A slice that was handed in, of such elements. -/
structure ArgRow (W : World) (ks : List CC) (A : Option Addr) (len cap : Nat) (xs : List (List Int)) : Prop where
  hlen : xs.length = len
  hle : len ≤ cap
  row : (A = none ∧ len = 0 ∧ cap = 0) ∨ ∃ a, A = some a ∧ a.spot = none ∧ a.block < W.heap.size ∧
    ∀ (e : Nat) (c : List Value) (k : Nat) (v : Value), (xs.map (toVs ks))[e]? = some c → c[k]? = some v → W.cell? ⟨a.block, a.off + e * ks.length + k, none⟩ = some v
  good : ∀ x ∈ xs, goodL ks x
section
variable {H : Type} {enc : TypeId × Value → H} {P : Program} {w : World} {base : Nat} {spare : Nat → Bool} {held : Bool}
theorem open_argrow {t e : TypeId} {A : Option Addr} {len cap dep : Nat} {ls : List Leaf} {ks : List CC} {d : DataW H} {p : List MemPlace} {r : Reach} {b0 : Nat}
    (ht : P.underlying t = some (.slice e)) (he : leaves P dep e = some ls) (hks : ccs ls = some ks) (hc : P.cellsOf e = ks.length)
    (hv : Value.okWide P w r b0 t (.slice A len cap)) (h : DataW.Trod enc P w base spare held t (.slice A len cap) d p) : ∃ xs : List (List Int), ArgRow w ks A len cap xs := by
  have hok : (A = none ∧ len = 0 ∧ cap = 0) ∨ ∃ a, A = some a ∧ a.spot = none ∧ a.block < w.heap.size ∧ len ≤ cap := by
    simp only [Value.okWide, ht, Cell.okWide] at hv
    cases A with
    | none =>
      left
      cases len with
      | zero => cases cap with
        | zero => exact ⟨rfl, rfl, rfl⟩
        | succ n => simp [Cell.ok, ht] at hv
      | succ n => simp [Cell.ok, ht] at hv
    | some a =>
      right
      simp only [Cell.ok, ht] at hv
      obtain ⟨h1, h2, h3, h4, row, cells, h5, h6⟩ := hv
      refine ⟨a, rfl, h4, ?_, h1⟩
      unfold World.shape? at h5
      rcases Nat.lt_or_ge a.block w.heap.size with g | g
      · exact g
      · rw [Array.getElem?_eq_none g] at h5; cases h5
  obtain ⟨fuel, hf⟩ := h
  have hf' : DataW.trod enc P w base spare held fuel t [.slice A len cap] = some (d, p) := by simpa [Value.cells] using hf
  rcases Go.Deep.open_slice ht hf' with ⟨h0, _⟩ | ⟨a, len', cap', m, n, D, Pl, h0, _, hl, hm, hmm, _, hx⟩
  · simp only [List.cons.injEq, Value.slice.injEq, and_true] at h0
    obtain ⟨rfl, rfl, rfl⟩ := h0
    exact ⟨[], rfl, Nat.le_refl _, .inl ⟨rfl, rfl, rfl⟩, by simp⟩
  · simp only [List.cons.injEq, Value.slice.injEq, and_true] at h0
    obtain ⟨rfl, rfl, rfl⟩ := h0
    have hlm : len ≤ m := by rw [hmm]; split <;> omega
    obtain ⟨xs, hxl, hxs⟩ := choose_list (α := List Int) (p := fun i x => (∀ j u, (toVs ks x)[j]? = some u → w.cell? (a.add (i * ks.length + j)) = some u) ∧ goodL ks x) len (fun i hi => by
      obtain ⟨cs, h1, h2⟩ := hx i (by omega)
      obtain ⟨_, hcl, hcell⟩ := World.cells?_some h1
      have hA := leaves_all _ _ _ _ _ _ he h2
      obtain ⟨x, rfl, hg⟩ := cols_all hks hA
      refine ⟨x, fun j u hj => ?_, hg⟩
      have hjl : j < P.cellsOf e := by
        rw [← hcl]
        exact (List.getElem?_eq_some_iff.1 hj).1
      have := hcell j hjl
      rw [add_add, hc] at this
      rw [this, hj])
    rcases hok with ⟨g, _⟩ | ⟨a', g, hs, hb, hle⟩
    · cases g
    · cases g
      refine ⟨xs, hxl, hl, .inr ⟨a, rfl, hs, hb, fun e' c k u he' hk => ?_⟩, fun x hx' => ?_⟩
      · rw [List.getElem?_map] at he'
        cases hq : xs[e']? with
        | none => rw [hq] at he'; cases he'
        | some x =>
          rw [hq] at he'
          cases he'
          have := (hxs e' x hq).1 k u hk
          have ha : a = ⟨a.block, a.off, none⟩ := by cases a; simp_all
          rw [ha, add_none] at this
          rw [← this, Nat.add_assoc]
      · obtain ⟨j, hj, rfl⟩ := List.getElem_of_mem hx'
        exact (hxs j _ (List.getElem?_eq_getElem hj)).2
end

/-! ### what a call is handed -/
def miOf (z : Nat) (A : Option Addr) (cap : Nat) : MI := match A with
  | none => ⟨0, 0, z, 0, true⟩
  | some a => ⟨a.block, a.off, z, a.off + cap * z, false⟩
/-- A slice that was handed in. -/
structure ArgS where
  A : Option Addr
  len : Nat
  cap : Nat
  ks : List CC
  xs : List (List Int)
def m0Of (l : List ArgS) : Mp := fun id => (l[id]?).map fun s => miOf s.ks.length s.A s.cap
def h0Of : Nat → List ArgS → SH
  | _, [] => []
  | n, s :: l => .old false s.ks.length (.sym (.vr n) s.ks) :: h0Of (n + 1) l
theorem h0Of_get : ∀ (n : Nat) (l : List ArgS) (j : Nat), (h0Of n l)[j]? = (l[j]?).map fun s => .old false s.ks.length (.sym (.vr (n + j)) s.ks)
  | _, [], j => by simp [h0Of]
  | n, s :: l, 0 => by simp [h0Of]
  | n, s :: l, j + 1 => by simp only [h0Of, List.getElem?_cons_succ]; rw [h0Of_get (n + 1) l j, show n + 1 + j = n + (j + 1) by omega]
theorem h0Of_len : ∀ (n : Nat) (l : List ArgS), (h0Of n l).length = l.length
  | _, [] => rfl
  | n, s :: l => by simp [h0Of, h0Of_len]
section
variable {P : Program} {I : Tab} {w : World} {l : List ArgS} {v : Val}
theorem m0_match (hr : v.r = l.map (·.xs)) (hl : ∀ s ∈ l, ArgRow w s.ks s.A s.len s.cap s.xs) : Match (m0Of l) (dH v (h0Of 0 l)) w := by
  refine ⟨fun id i hi => ?_, fun id id' i i' b b' h1 h2 h3 h4 h5 => ?_⟩
  · unfold m0Of at hi
    cases hs : l[id]? with
    | none => rw [hs] at hi; cases hi
    | some s =>
      rw [hs] at hi
      cases hi
      have hA := hl s (List.mem_of_getElem? hs)
      have hx : nth [] v.r id = s.xs := nth_get (by rw [hr, List.getElem?_map, hs]; rfl)
      refine ⟨_, dH_get' (by rw [h0Of_get, hs, Nat.zero_add]; rfl), ?_⟩
      have hd : dr v (.sym (.vr id) s.ks) = s.xs.map (toVs s.ks) := by simp only [dr, den, mkR, hx]
      show BRel _ w (miOf s.ks.length s.A s.cap) (.old false s.ks.length (dr v (.sym (.vr id) s.ks)))
      rw [hd]
      have hok : RowOk s.ks.length (s.xs.map (toVs s.ks)) := by
        intro c hc
        obtain ⟨x, _, rfl⟩ := List.mem_map.1 hc
        refine ⟨toVs_len _ _, fun u hu => ?_⟩
        have := toVs_scal _ _ u hu
        cases u <;> simp [scal] at this <;> rfl
      rcases hA.row with ⟨h1, h2, h3⟩ | ⟨a, h1, h2, h3, h4⟩
      · refine ⟨by rw [h1]; rfl, hok, .inl ⟨by rw [h1]; rfl, ?_, rfl⟩⟩
        have : s.xs = [] := List.length_eq_zero_iff.1 (hA.hlen.trans h2)
        rw [this]; rfl
      · refine ⟨by rw [h1]; rfl, hok, .inr ⟨by rw [h1]; rfl, by rw [h1]; exact h3, fun e c k u he hk => ?_⟩⟩
        refine ⟨u, by rw [h1]; exact h4 e c k u he hk, ?_⟩
        rw [List.getElem?_map] at he
        cases hq : s.xs[e]? with
        | none => rw [hq] at he; cases he
        | some q =>
          rw [hq] at he
          cases he
          have := toVs_scal _ _ u (List.mem_of_getElem? hk)
          cases u <;> simp [scal] at this <;> constructor
  · rw [dH_get, h0Of_get] at h3
    cases hs : l[id]? with
    | none => rw [hs] at h3; cases h3
    | some s => rw [hs] at h3; cases h3; cases h5
theorem arg_slice {id : Nat} {s : ArgS} (hr : v.r = l.map (·.xs)) (hs : l[id]? = some s) (hA : ArgRow w s.ks s.A s.len s.cap s.xs) : VRel (m0Of l) (dv v (.one (.slc id (.ci 0) (.o1 .len (.vr id))))) (.slice s.A s.len s.cap) := by
  have hx : nth [] v.r id = s.xs := nth_get (by rw [hr, List.getElem?_map, hs]; rfl)
  have hm : m0Of l id = some (miOf s.ks.length s.A s.cap) := by unfold m0Of; rw [hs]; rfl
  have e1 : dv v (.one (.slc id (.ci 0) (.o1 .len (.vr id)))) = .slice (some ⟨id, 0, none⟩) s.len 0 := by
    simp only [dv_one, dl_slc, ci_i, den, den1, mkI, mkR, hx, hA.hlen, Int.toNat_natCast]; rfl
  rw [e1]
  rcases hA.row with ⟨h1, h2, h3⟩ | ⟨a, h1, h2, h3, h4⟩
  · rw [h2, h3, h1]
    exact .vslc hm (by rw [h1]; rfl)
  · rw [h1] at hm ⊢
    have ha : a = ⟨a.block, a.off, none⟩ := by cases a; simp_all
    have := VRel.slc (m := m0Of l) (id := id) (e := 0) (cp := 0) (cap := s.cap) (len := s.len) hm rfl hA.hle (by simp [miOf])
    simp only [miOf, Nat.zero_mul, Nat.add_zero] at this
    rw [ha]
    exact this
/-- A law, called. -/
theorem law_calls (hI : TOk P I) {f : FuncId} {fn : Func} {c : Code} (hf : P.funcs[f]? = some fn) (hc : fn.body = some c) {args : List SV} {args' : List Value} (hlen : args.length ≤ fn.ntmps)
    (hr : v.r = l.map (·.xs)) (hl : ∀ s ∈ l, ArgRow w s.ks s.A s.len s.cap s.xs) (hL : LRel (m0Of l) (args.map (dv v)) args')
    (hA : AW P fn.ntmps (dH v (h0Of 0 l)) c (dT v (sargs0 0 args)) (dH v (h0Of 0 l)) (Eng.Ends I fn fun u _ => u = .bool true)) :
    Calls P f args'.toArray w fun e w' => e = .returned (.bool true) ∧ Below w.heap.size w w' := by
  refine calls_of_wp hf hc ?_
  have hM := m0_match (w := w) hr hl
  have hl' := hL.1
  rw [sargs0_ok] at hA
  have hst := ASat.start (n := fn.ntmps) hM hL (by rw [← hl']; simpa using hlen)
  refine Code.wp_mono (fun e' a' w' hp => ?_) (hA.run _ _ _ _ hM hst)
  obtain ⟨hnp, T', H', ⟨he, vs, hvs, hz⟩, m', h1, h2, h3, h4⟩ := hp
  obtain ⟨u, h5, h6⟩ := aresult_ok hI h1 h2 hvs
  rw [hz] at h5
  cases h5
  have hno : ∀ k, ¬ Owned (m0Of l) (dH v (h0Of 0 l)) k := by
    rintro k ⟨id, i, b, g1, g2, g3, _⟩
    rw [dH_get, h0Of_get] at g2
    cases hs : l[id]? with
    | none => rw [hs] at g2; cases g2
    | some s => rw [hs] at g2; cases g2; cases g3
  have key : a'.defers = [] ∧ ∃ q, (results fn a'.tmps).run P w' = .ok q w' ∧ Ending.returned q = .returned (.bool true) ∧ Below w.heap.size w w' :=
    ⟨h4, _, h6, rfl, h1.os, h1.tape, h1.output, h1.size, fun k hk => h1.keep k hk (hno k)⟩
  cases e' with
  | normal => exact key
  | ret => exact key
  | exit id => cases he
  | goto l => cases hnp
  | panic ch => cases hnp
  | outgrown => cases hnp
end
end Go.Proofs.Ytckbckijpdnlaaa.Sy
