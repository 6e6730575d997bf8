/- The engine, part 2: what an operation does to what a call knows, and that memory follows. A lemma file: it claims nothing of the program. -/
import Derived.Test.YtckbckijpdnlaaaOwnE1
import Derived.Laws.Append
import Derived.Laws.MakeOwn
import Derived.Laws.StructEq
import Derived.Laws.Small
import Derived.Laws.RangeString
import Derived.Calls
set_option linter.unusedVariables false
set_option linter.unusedSimpArgs false
namespace Go.Proofs.Ytckbckijpdnlaaa.Eng
open Go

/-- What a type is. -/
inductive TD where
  | int (k : IntKind)
  | bool
  | str
  | slice (e : TypeId)
  | struct (fs : List (Nat × TypeId))
  | array (n : Nat) (e : TypeId)
  | ptr (e : TypeId)
  | iface
  | other
def tdOf : TypeDesc → TD
  | .int k => .int k
  | .bool => .bool
  | .string => .str
  | .slice e => .slice e
  | .struct fs => .struct (fs.toList.map fun f => (f.offset, f.type))
  | .array n e => .array n e
  | .pointer e => .ptr e
  | .interface _ => .iface
  | _ => .other
/-- What a cell of a struct that is compared holds. -/
inductive CK where
  | i (k : IntKind)
  | b
  | s
structure TInfo where
  d : TD
  size : Nat
  bytes : Nat
  zero : Value
  eqs : Option (List CK)
def TInfo.agg (i : TInfo) : Bool := match i.d with
  | .struct _ => true
  | .array _ _ => true
  | _ => false

abbrev Tab := TypeId → Option TInfo

/-- Values of numbers, bools, texts alone. -/
def scal : Value → Bool
  | .bool _ => true
  | .int _ _ => true
  | .string _ => true
  | _ => false
def eqV : CK → Value → Value → Option Bool
  | .b, .bool a, .bool b => some (a == b)
  | .i q, .int k a, .int k' b => if k = q ∧ k' = q then some (a == b) else none
  | .s, .string a, .string b => some (a.toList == b.toList)
  | _, _, _ => none
def eqL : List CK → List Value → List Value → Option Bool
  | [], [], [] => some true
  | c :: cs, x :: xs, y :: ys => match eqV c x y, eqL cs xs ys with
    | some p, some q => some (p && q)
    | _, _ => none
  | _, _, _ => none

structure TOk (P : Program) (I : Tab) : Prop where
  ok : ∀ t i, I t = some i → ∃ u inf, P.underlying t = some u ∧ P.info? t = some inf ∧ tdOf u = i.d ∧ inf.size = i.size ∧ inf.bytes = i.bytes ∧ inf.zero = some i.zero
  eq : ∀ t i cs, I t = some i → i.eqs = some cs → P.eqGuardType P.depth t = false ∧ ∀ (xs ys : List Value) (b : Bool) (w : World), xs.length = i.size → eqL cs xs ys = some b → (Op.equalIn 10000 t (.agg xs.toArray) (.agg ys.toArray)).run P w = .ok b w

section
variable {P : Program} {I : Tab}
theorem TOk.size (h : TOk P I) {t : TypeId} {i : TInfo} (hi : I t = some i) (w : World) : (sizeOf t).run P w = .ok i.size w := by
  obtain ⟨u, inf, _, h2, _, h4, _⟩ := h.ok t i hi
  simp [sizeOf, typeInfo, h2, h4]
theorem TOk.zeroV (h : TOk P I) {t : TypeId} {i : TInfo} (hi : I t = some i) (w : World) : (zeroValue t).run P w = .ok i.zero w := by
  obtain ⟨u, inf, _, h2, _, _, _, h6⟩ := h.ok t i hi
  simp [zeroValue, typeInfo, h2, h6]
theorem TOk.isAgg (h : TOk P I) {t : TypeId} {i : TInfo} (hi : I t = some i) (w : World) : (isAgg t).run P w = .ok i.agg w := by
  obtain ⟨u, inf, h1, _, h3, _⟩ := h.ok t i hi
  unfold Go.isAgg TInfo.agg
  rw [← h3, Sem.run_bind, run_underlying h1 w, Result.andThen_ok]
  cases u <;> rfl
theorem TOk.und (h : TOk P I) {t : TypeId} {i : TInfo} (hi : I t = some i) : ∃ u, P.underlying t = some u ∧ tdOf u = i.d := by
  obtain ⟨u, inf, h1, _, h3, _⟩ := h.ok t i hi
  exact ⟨u, h1, h3⟩
theorem td_slice {u : TypeDesc} {e : TypeId} (h : tdOf u = .slice e) : u = .slice e := by cases u <;> simp_all [tdOf]
theorem td_array {u : TypeDesc} {n : Nat} {e : TypeId} (h : tdOf u = .array n e) : u = .array n e := by cases u <;> simp_all [tdOf]
theorem td_str {u : TypeDesc} (h : tdOf u = .str) : u = .string := by cases u <;> simp_all [tdOf]
theorem td_bool {u : TypeDesc} (h : tdOf u = .bool) : u = .bool := by cases u <;> simp_all [tdOf]
theorem td_int {u : TypeDesc} {k : IntKind} (h : tdOf u = .int k) : u = .int k := by cases u <;> simp_all [tdOf]
theorem td_ptr {u : TypeDesc} {e : TypeId} (h : tdOf u = .ptr e) : u = .pointer e := by cases u <;> simp_all [tdOf]
theorem td_struct {u : TypeDesc} {fs : List (Nat × TypeId)} (h : tdOf u = .struct fs) : ∃ fields : Array Field, u = .struct fields ∧ fs = fields.toList.map fun f => (f.offset, f.type) := by
  cases u <;> simp_all [tdOf]
theorem TOk.struct (h : TOk P I) {t : TypeId} {i : TInfo} {fs : List (Nat × TypeId)} (hi : I t = some i) (hd : i.d = .struct fs) : ∃ fields : Array Field, P.underlying t = some (.struct fields) ∧ fs = fields.toList.map fun f => (f.offset, f.type) := by
  obtain ⟨u, h1, h3⟩ := h.und hi
  obtain ⟨fields, rfl, he⟩ := td_struct (h3.trans hd)
  exact ⟨fields, h1, he⟩
theorem TOk.slice (h : TOk P I) {t e : TypeId} {i : TInfo} (hi : I t = some i) (hd : i.d = .slice e) : P.underlying t = some (.slice e) := by
  obtain ⟨u, h1, h3⟩ := h.und hi
  rw [h1, td_slice (h3.trans hd)]
theorem TOk.array (h : TOk P I) {t e : TypeId} {n : Nat} {i : TInfo} (hi : I t = some i) (hd : i.d = .array n e) : P.underlying t = some (.array n e) := by
  obtain ⟨u, h1, h3⟩ := h.und hi
  rw [h1, td_array (h3.trans hd)]
theorem TOk.str (h : TOk P I) {t : TypeId} {i : TInfo} (hi : I t = some i) (hd : i.d = .str) : P.underlying t = some .string := by
  obtain ⟨u, h1, h3⟩ := h.und hi
  rw [h1, td_str (h3.trans hd)]
theorem TOk.int (h : TOk P I) {t : TypeId} {k : IntKind} {i : TInfo} (hi : I t = some i) (hd : i.d = .int k) : P.underlying t = some (.int k) := by
  obtain ⟨u, h1, h3⟩ := h.und hi
  rw [h1, td_int (h3.trans hd)]
theorem TOk.bool (h : TOk P I) {t : TypeId} {i : TInfo} (hi : I t = some i) (hd : i.d = .bool) : P.underlying t = some .bool := by
  obtain ⟨u, h1, h3⟩ := h.und hi
  rw [h1, td_bool (h3.trans hd)]
theorem TOk.ptr (h : TOk P I) {t e : TypeId} {i : TInfo} (hi : I t = some i) (hd : i.d = .ptr e) : P.underlying t = some (.pointer e) := by
  obtain ⟨u, h1, h3⟩ := h.und hi
  rw [h1, td_ptr (h3.trans hd)]
end

/-! ### operands -/
abbrev TM := List (Nat × Value)
def flat1 : Value → Bool
  | .bool _ => true
  | .int _ _ => true
  | .string _ => true
  | .pointer none => true
  | .slice none 0 0 => true
  | .nilIface => true
  | .nilFunc => true
  | _ => false
def flatV : Value → Bool
  | .agg cs => cs.toList.all flat1
  | v => flat1 v
theorem flat1_ok (m : Mp) {v : Value} (h : flat1 v = true) : VRel m v v := by
  unfold flat1 at h
  split at h
  · exact .bool _
  · exact .int _ _
  · exact .str _
  · exact .nilp
  · exact .nils
  · exact .nili
  · exact .nilf
  · cases h
theorem flatL_ok (m : Mp) {l : List Value} (h : l.all flat1 = true) : LRel m l l :=
  ⟨rfl, fun j a b ha hb => by
    rw [ha] at hb
    cases hb
    exact flat1_ok m (List.all_eq_true.1 h a (List.mem_of_getElem? ha))⟩
theorem flatV_ok (m : Mp) {v : Value} (h : flatV v = true) : VRel m v v := by
  unfold flatV at h
  split at h
  · have := VRel.ofL (flatL_ok m h)
    simpa using this
  · exact flat1_ok m h

def ev (T : TM) : Operand → Option Value
  | .tmp t => T.lookup t
  | .const v => if flatV v = true then some v else none
  | .func f => some (.func (.func f) #[] #[])
  | .global _ => none
def TRel (m : Mp) (T : TM) (a : Act) : Prop := ∀ t v, T.lookup t = some v → t < a.tmps.size ∧ VRel m v (a.tmps.getD t undef)
theorem TRel.mono {m m' : Mp} (hm : Mp.le m m') {T : TM} {a : Act} (h : TRel m T a) : TRel m' T a := fun t v ht => ⟨(h t v ht).1, (h t v ht).2.mono hm⟩
theorem ev_ok {m : Mp} {T : TM} {a : Act} (h : TRel m T a) {x : Operand} {v : Value} (he : ev T x = some v) : VRel m v (a.eval x) := by
  cases x with
  | tmp t => exact (h t v he).2
  | const c =>
    simp only [ev] at he
    split at he
    · rename_i hf
      cases he
      exact flatV_ok m hf
    · cases he
  | func f =>
    simp only [ev, Option.some.injEq] at he
    subst he
    exact .func rfl (fun j x y hx => by simp at hx) rfl (fun j x y hx => by simp at hx)
  | global g => cases he
def put (T : TM) (dst : Option Tmp) (v : Value) : TM := match dst with
  | some d => (d, v) :: T
  | none => T
theorem put_ok {m : Mp} {T : TM} {a : Act} (h : TRel m T a) {dst : Option Tmp} {v v' : Value} (hv : VRel m v v') (hd : ∀ d, dst = some d → d < a.tmps.size) : TRel m (put T dst v) (a.put dst v') := by
  cases dst with
  | none => exact h
  | some d =>
    have hlt := hd d rfl
    intro t u ht
    simp only [put, List.lookup_cons] at ht
    show t < (a.tmps.setIfInBounds d v').size ∧ VRel m u ((a.tmps.setIfInBounds d v').getD t undef)
    rw [Array.size_setIfInBounds]
    by_cases e : t = d
    · subst e
      simp only [beq_self_eq_true] at ht
      cases ht
      refine ⟨hlt, ?_⟩
      simp [Array.getD_eq_getD_getElem?, hlt, hv]
    · have hb : (t == d) = false := by simpa using e
      rw [hb] at ht
      obtain ⟨h1, h2⟩ := h t u ht
      refine ⟨h1, ?_⟩
      rw [Array.getD_eq_getD_getElem?, Array.getElem?_setIfInBounds_ne (fun h => e h.symm)]
      rw [Array.getD_eq_getD_getElem?] at h2
      exact h2
theorem undef_ok (m : Mp) : VRel m undef undef := .tuple rfl fun j a b ha => by simp at ha

/-! ### reading and writing -/
def rd : ABlk → Option Nat → Nat → Nat → Option (List Value)
  | .cells vs, none, k, n => if k + n ≤ vs.length then some ((vs.drop k).take n) else none
  | .ro vs, none, k, n => if k + n ≤ vs.length then some ((vs.drop k).take n) else none
  | .row _ _ els, some e, k, n => match els[e]? with
    | some c => if k + n ≤ c.length then some ((c.drop k).take n) else none
    | none => none
  | .old _ _ els, some e, k, n => match els[e]? with
    | some c => if k + n ≤ c.length then some ((c.drop k).take n) else none
    | none => none
  | _, _, _, _ => none
def wr : ABlk → Option Nat → Nat → List Value → Option ABlk
  | .cells vs, none, k, cs => if k + cs.length ≤ vs.length then some (.cells (vs.take k ++ cs ++ vs.drop (k + cs.length))) else none
  | .row s z els, some e, k, cs => match els[e]? with
    | some c => if k + cs.length ≤ c.length then some (.row s z (els.set e (c.take k ++ cs ++ c.drop (k + cs.length)))) else none
    | none => none
  | _, _, _, _ => none

section
variable {m : Mp} {w : World}
theorem mul_fit {e n z : Nat} (h : e < n) : e * z + z ≤ n * z := by
  have := Nat.mul_le_mul_right z (show e + 1 ≤ n from h)
  rwa [Nat.add_mul, Nat.one_mul] at this
theorem drop_take_get {α : Type} {l : List α} {k n j : Nat} {a : α} (h : ((l.drop k).take n)[j]? = some a) : j < n ∧ l[k + j]? = some a := by
  rw [List.getElem?_take] at h
  split at h
  · rename_i hj
    rw [List.getElem?_drop] at h
    exact ⟨hj, h⟩
  · cases h
/-- What is read of a block as it is known stands in memory. -/
theorem rd_cell {i : MI} {b : ABlk} (h : BRel m w i b) {s : Option Nat} {k n : Nat} {cs : List Value} (hr : rd b s k n = some cs) :
    i.void = false → ∀ (j : Nat) (a : Value), cs[j]? = some a → ∃ v, w.cell? ⟨i.blk, i.off + s.getD 0 * i.z + k + j, none⟩ = some v ∧ VRel m a v := by
  intro hv j a ha
  cases b with
  | cells vs =>
    cases s with
    | some e => simp [rd] at hr
    | none =>
      obtain ⟨_, h2, h3, arr, T, h5, h6⟩ := h
      simp only [rd] at hr
      split at hr
      · cases hr
        obtain ⟨hj, ha⟩ := drop_take_get ha
        obtain ⟨v, hv1, hv2⟩ := h6.get ha
        refine ⟨v, ?_, hv2⟩
        simp only [World.cell?, h5]
        rw [h2]
        simpa using hv1
      · cases hr
  | ro vs =>
    cases s with
    | some e => simp [rd] at hr
    | none =>
      obtain ⟨_, h2, h3, arr, T, h5, h6⟩ := h
      simp only [rd] at hr
      split at hr
      · cases hr
        obtain ⟨hj, ha⟩ := drop_take_get ha
        obtain ⟨v, hv1, hv2⟩ := h6.get ha
        refine ⟨v, ?_, hv2⟩
        simp only [World.cell?, h5]
        rw [h2]
        simpa using hv1
      · cases hr
  | row sr z els =>
    cases s with
    | none => simp [rd] at hr
    | some e =>
      obtain ⟨h1, h2, h3, h4⟩ := h
      rcases h4 with ⟨h5, _⟩ | ⟨_, arr, T, h7, h8, h9, h10⟩
      · rw [hv] at h5; cases h5
      · simp only [rd] at hr
        split at hr
        · rename_i c hc
          split at hr
          · cases hr
            obtain ⟨hj, ha⟩ := drop_take_get ha
            obtain ⟨v, hv1, hv2⟩ := (h10 e c hc).get ha
            obtain ⟨hj2, hv1⟩ := drop_take_get hv1
            refine ⟨v, ?_, hv2⟩
            simp only [World.cell?, h7, h2, h1]
            have : e * z + (k + j) = 0 + (some e).getD 0 * z + k + j := by simp; omega
            rw [this] at hv1
            simpa using hv1
          · cases hr
        · cases hr
  | old sr z els =>
    cases s with
    | none => simp [rd] at hr
    | some e =>
      obtain ⟨h1, h2, h3⟩ := h
      rcases h3 with ⟨h5, _⟩ | ⟨_, _, h7⟩
      · rw [hv] at h5; cases h5
      · simp only [rd] at hr
        split at hr
        · rename_i c hc
          split at hr
          · cases hr
            obtain ⟨hj, ha⟩ := drop_take_get ha
            obtain ⟨v, hv1, hv2⟩ := h7 e c (k + j) a hc ha
            refine ⟨v, ?_, hv2⟩
            rw [h1]
            have : i.off + e * z + (k + j) = i.off + (some e).getD 0 * z + k + j := by simp; omega
            rw [← this]
            exact hv1
          · cases hr
        · cases hr
  | iter s' p => cases s <;> simp [rd] at hr
  | dead => cases s <;> simp [rd] at hr
theorem rd_len {b : ABlk} {s : Option Nat} {k n : Nat} {cs : List Value} (hr : rd b s k n = some cs) : cs.length = n := by
  have g : ∀ {l : List Value}, (if k + n ≤ l.length then some ((l.drop k).take n) else none) = some cs → cs.length = n := by
    intro l h
    split at h
    · cases h; simp; omega
    · cases h
  cases b <;> cases s <;> simp only [rd] at hr <;> first | cases hr | exact g hr | (split at hr; exact g hr; cases hr)
/-- Cells in memory that a row of values knows, as values. -/
theorem mem_vals {cs : List Value} {a : Addr} (h : ∀ (j : Nat) (x : Value), cs[j]? = some x → ∃ v, w.cell? (a.add j) = some v ∧ VRel m x v) :
    ∃ vs : List Value, LRel m cs vs ∧ ∀ (j : Nat) (v : Value), vs[j]? = some v → w.cell? (a.add j) = some v := by
  refine ⟨(List.range cs.length).map fun j => (w.cell? (a.add j)).getD undef, ⟨by simp, fun j x v hx hv => ?_⟩, fun j v hv => ?_⟩
  · obtain ⟨u, hu, hr⟩ := h j x hx
    have hj : j < cs.length := (List.getElem?_eq_some_iff.1 hx).1
    rw [List.getElem?_map, List.getElem?_range hj] at hv
    simp only [Option.map_some, hu, Option.getD_some, Option.some.injEq] at hv
    rw [← hv]; exact hr
  · have hj : j < cs.length := by
      have := (List.getElem?_eq_some_iff.1 hv).1
      simpa using this
    obtain ⟨u, hu, hr⟩ := h j cs[j] (List.getElem?_eq_getElem hj)
    rw [List.getElem?_map, List.getElem?_range hj] at hv
    simp only [Option.map_some, hu, Option.getD_some, Option.some.injEq] at hv
    rw [← hv]; exact hu
theorem add_none (b o n : Nat) : (⟨b, o, none⟩ : Addr).add n = ⟨b, o + n, none⟩ := by unfold Addr.add; split <;> simp_all
theorem rd_vals {i : MI} {b : ABlk} (h : BRel m w i b) {s : Option Nat} {k n : Nat} {cs : List Value} (hr : rd b s k n = some cs) (hv : i.void = false) :
    ∃ vs : List Value, LRel m cs vs ∧ ∀ (j : Nat) (v : Value), vs[j]? = some v → w.cell? ((⟨i.blk, i.off + s.getD 0 * i.z + k, none⟩ : Addr).add j) = some v :=
  mem_vals fun j x hx => by rw [add_none]; exact rd_cell h hr hv j x hx
end
end Go.Proofs.Ytckbckijpdnlaaa.Eng
