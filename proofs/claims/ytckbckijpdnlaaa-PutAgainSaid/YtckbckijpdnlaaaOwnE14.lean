/- The engine, part 14: what is known, under other names, and what is known no more. A lemma file: it claims nothing of the program. -/
import Derived.Test.YtckbckijpdnlaaaOwnE13
set_option linter.unusedVariables false
set_option linter.unusedSimpArgs false
namespace Go.Proofs.Ytckbckijpdnlaaa.Eng
open Go Go.Lib

/-- What names those alone that a lesser map knows. -/
theorem VRel.cov {a m m1 : Mp} (h1 : Mp.le a m) (h2 : Mp.le a m1) {v u0 : Value} (h : VRel a v u0) : ∀ {u : Value}, VRel m v u → VRel m1 v u := by
  induction h with
  | bool b => intro u h; cases h; exact .bool _
  | int k n => intro u h; cases h; exact .int _ _
  | str s => intro u h; cases h; exact .str _
  | nilp => intro u h; cases h; exact .nilp
  | nils => intro u h; cases h; exact .nils
  | nili => intro u h; cases h; exact .nili
  | nilf => intro u h; cases h; exact .nilf
  | ptr h hv =>
    intro u k
    cases k with
    | ptr k kv =>
      have := h1 _ _ h
      rw [k] at this
      cases this
      exact .ptr (h2 _ _ h) kv
  | slc h hv hl hc =>
    intro u k
    have g := h1 _ _ h
    cases k with
    | slc k kv kl kc => rw [k] at g; cases g; exact .slc (h2 _ _ h) kv kl kc
    | vslc k kv => rw [k] at g; cases g; exact .vslc (h2 _ _ h) kv
    | eslc k kv => rw [k] at g; cases g; exact .eslc (h2 _ _ h) kv
  | vslc h hv =>
    intro u k
    have g := h1 _ _ h
    cases k with
    | slc k kv kl kc => rw [k] at g; cases g; exact .slc (h2 _ _ h) kv kl kc
    | vslc k kv => rw [k] at g; cases g; exact .vslc (h2 _ _ h) kv
    | eslc k kv => rw [k] at g; cases g; exact .eslc (h2 _ _ h) kv
  | eslc h hv =>
    intro u k
    have g := h1 _ _ h
    cases k with
    | slc k kv kl kc => rw [k] at g; cases g; exact .slc (h2 _ _ h) kv kl kc
    | vslc k kv => rw [k] at g; cases g; exact .vslc (h2 _ _ h) kv
    | eslc k kv => rw [k] at g; cases g; exact .eslc (h2 _ _ h) kv
  | @agg cs cs' hs hh ih =>
    intro u k
    cases k with
    | @agg _ ds ks kk =>
      refine .agg ks fun j x y hx hy => ?_
      have hj : j < cs'.size := by rw [← hs]; exact (Array.getElem?_eq_some_iff.1 hx).1
      exact ih j x _ hx (Array.getElem?_eq_getElem hj) (kk j x y hx hy)
  | @tuple cs cs' hs hh ih =>
    intro u k
    cases k with
    | @tuple _ ds ks kk =>
      refine .tuple ks fun j x y hx hy => ?_
      have hj : j < cs'.size := by rw [← hs]; exact (Array.getElem?_eq_some_iff.1 hx).1
      exact ih j x _ hx (Array.getElem?_eq_getElem hj) (kk j x y hx hy)
  | iface h ih => intro u k; cases k with | iface k => exact .iface (ih k)
  | @func fn p p' q q' hs hh hs2 hh2 ih ih2 =>
    intro u k
    cases k with
    | @func _ _ _ _ _ ks kk ks2 kk2 =>
      refine .func ks (fun j x y hx hy => ?_) ks2 (fun j x y hx hy => ?_)
      · have hj : j < p'.size := by rw [← hs]; exact (Array.getElem?_eq_some_iff.1 hx).1
        exact ih j x _ hx (Array.getElem?_eq_getElem hj) (kk j x y hx hy)
      · have hj : j < q'.size := by rw [← hs2]; exact (Array.getElem?_eq_some_iff.1 hx).1
        exact ih2 j x _ hx (Array.getElem?_eq_getElem hj) (kk2 j x y hx hy)
theorem LRel.cov {a m m1 : Mp} (h1 : Mp.le a m) (h2 : Mp.le a m1) {vs us0 us : List Value} (h : LRel a vs us0) (k : LRel m vs us) : LRel m1 vs us :=
  ⟨k.1, fun j x y hx hy => by
    have hj : j < us0.length := by rw [← h.1]; exact (List.getElem?_eq_some_iff.1 hx).1
    exact (h.2 j x _ hx (List.getElem?_eq_getElem hj)).cov h1 h2 (k.2 j x y hx hy)⟩
theorem BRel.cov {a m m1 : Mp} (h1 : Mp.le a m) (h2 : Mp.le a m1) {w0 w : World} {i0 i : MI} {b : ABlk} (h : BRel a w0 i0 b) (k : BRel m w i b) : BRel m1 w i b := by
  cases b with
  | cells vs =>
    obtain ⟨_, _, _, cs0, T0, _, g6⟩ := h
    obtain ⟨k1, k2, k3, cs, T, k5, k6⟩ := k
    exact ⟨k1, k2, k3, cs, T, k5, g6.cov h1 h2 k6⟩
  | ro vs =>
    obtain ⟨_, _, _, cs0, T0, _, g6⟩ := h
    obtain ⟨k1, k2, k3, cs, T, k5, k6⟩ := k
    exact ⟨k1, k2, k3, cs, T, k5, g6.cov h1 h2 k6⟩
  | row s z els =>
    obtain ⟨_, _, _, g4⟩ := h
    obtain ⟨k1, k2, k3, k4⟩ := k
    refine ⟨k1, k2, k3, k4.imp id ?_⟩
    rintro ⟨k5, cs, T, k7, k8, k9, k10⟩
    refine ⟨k5, cs, T, k7, k8, k9, fun e c he => ?_⟩
    rcases g4 with ⟨_, ge, _⟩ | ⟨_, cs0, T0, _, _, _, g10⟩
    · rw [ge] at he; simp at he
    · exact (g10 e c he).cov h1 h2 (k10 e c he)
  | old s z els =>
    obtain ⟨_, _, g4⟩ := h
    obtain ⟨k1, k2, k4⟩ := k
    refine ⟨k1, k2, k4.imp id ?_⟩
    rintro ⟨k5, k6, k7⟩
    refine ⟨k5, k6, fun e c q v he hv => ?_⟩
    obtain ⟨b, hb, hr⟩ := k7 e c q v he hv
    rcases g4 with ⟨_, ge, _⟩ | ⟨_, _, g7⟩
    · rw [ge] at he; simp at he
    · obtain ⟨b0, _, hr0⟩ := g7 e c q v he hv
      exact ⟨b, hb, hr0.cov h1 h2 hr⟩
  | iter s p => exact k
  | dead => trivial

/-- A value, under other names. -/
def VTo (m m1 : Mp) (v v' : Value) : Prop := ∀ u, VRel m v u → VRel m1 v' u
def LTo (m m1 : Mp) (vs vs' : List Value) : Prop := ∀ us, LRel m vs us → LRel m1 vs' us
def BTo (m m1 : Mp) (b b' : ABlk) : Prop := ∀ w i, BRel m w i b → BRel m1 w i b'
def maps (π : Nat → Nat) (n : Nat) (m : Mp) : Mp := fun j => if j < n then m (π j) else none

section
variable {m0 : Mp} {H0 : AHeap} {w0 : World} {H : AHeap} {m : Mp} {w w' : World}
theorem maps_le (h : Run m0 H0 w0 H m w) (h0 : Match m0 H0 w0) {π : Nat → Nat} {n : Nat} (hlen : H0.length ≤ n) (hid : ∀ j, j < H0.length → π j = j) : Mp.le m0 (maps π n m) := fun id i hi => by
  have hl := h0.lt hi
  unfold maps
  rw [if_pos (by omega), hid id hl]
  exact h.ext _ _ hi
theorem Run.ren (h : Run m0 H0 w0 H m w) (h0 : Match m0 H0 w0) {π : Nat → Nat} {H' : AHeap} (hlen : H0.length ≤ H'.length) (hid : ∀ j, j < H0.length → π j = j)
    (hinj : ∀ i j, i < H'.length → j < H'.length → π i = π j → i = j)
    (hb : ∀ j b', H'[j]? = some b' → b' = .dead ∨ ∃ b, H[π j]? = some b ∧ (b'.own = true → b.own = true) ∧ (b'.live = true → b.live = true) ∧ (m (π j) ≠ none → BTo m (maps π H'.length m) b b')) :
    Run m0 H0 w0 H' (maps π H'.length m) w := by
  have hm : ∀ j i, maps π H'.length m j = some i → j < H'.length ∧ m (π j) = some i := by
    intro j i hj
    unfold maps at hj
    split at hj
    · rename_i hl; exact ⟨hl, hj⟩
    · cases hj
  have hlv : ∀ j b', H'[j]? = some b' → b'.live = true → ∃ b, H[π j]? = some b ∧ (b'.own = true → b.own = true) ∧ b.live = true := by
    intro j b' hj hl
    rcases hb j b' hj with rfl | ⟨b, h1, h2, h3, _⟩
    · cases hl
    · exact ⟨b, h1, h2, h3 hl⟩
  refine ⟨⟨fun j i hj => ?_, fun j j' i1 i2 b1 b2 h1 h2 h3 h4 h5 h6 h7 h8 h9 => ?_⟩, maps_le h h0 hlen hid, fun q hq => ?_, hlen, fun q bq hq hbq hl => ?_, fun q iq bq hq hiq hbq hl hvq => ?_, h.os, h.tape, h.output, h.size, h.keep⟩
  · obtain ⟨hl, hj⟩ := hm j i hj
    refine ⟨H'[j], List.getElem?_eq_getElem hl, ?_⟩
    rcases hb j _ (List.getElem?_eq_getElem hl) with e | ⟨b, g1, _, _, g4⟩
    · rw [e]; trivial
    · obtain ⟨b2, g5, g6⟩ := h.mt.has _ _ hj
      rw [g1] at g5
      cases g5
      exact g4 (by rw [hj]; simp) _ _ g6
  · obtain ⟨l1, q1⟩ := hm _ _ h1
    obtain ⟨l2, q2⟩ := hm _ _ h2
    obtain ⟨c1, e1, e2, e3⟩ := hlv _ _ h3 (ABlk.own_live h5)
    obtain ⟨c2, f1, f2, f3⟩ := hlv _ _ h4 h6
    exact hinj _ _ l1 l2 (h.mt.inj _ _ i1 i2 c1 c2 q1 q2 e1 f1 (e2 h5) f3 h7 h8 h9)
  · unfold maps
    rw [if_pos (by omega), hid q hq]
    exact h.dom q hq
  · obtain ⟨c, e1, e2, e3⟩ := hlv _ _ hbq hl
    rw [hid q hq] at e1
    obtain ⟨b0, g1, g2, g3⟩ := h.old q c hq e1 e3
    exact ⟨b0, g1, g2, fun ho => g3 (e2 ho)⟩
  · obtain ⟨l, hiq⟩ := hm _ _ hiq
    obtain ⟨c, e1, e2, e3⟩ := hlv _ _ hbq hl
    refine h.new (π q) iq c ?_ hiq e1 e3 hvq
    rcases Nat.lt_or_ge (π q) H0.length with hlt | hge
    · have := hinj (π q) q (by omega) l (hid _ hlt)
      omega
    · exact hge
end

/-! ### what a value, a block is under other names -/
def VT (π : Nat → Nat) (n : Nat) (v v' : Value) : Prop := ∀ m u, VRel m v u → VRel (maps π n m) v' u
def LT (π : Nat → Nat) (n : Nat) : List Value → List Value → Prop
  | [], [] => True
  | x :: xs, y :: ys => VT π n x y ∧ LT π n xs ys
  | _, _ => False
def RT (π : Nat → Nat) (n : Nat) : List (List Value) → List (List Value) → Prop
  | [], [] => True
  | x :: xs, y :: ys => LT π n x y ∧ RT π n xs ys
  | _, _ => False
def BT (π : Nat → Nat) (n : Nat) (b b' : ABlk) : Prop := ∀ m w i, BRel m w i b → BRel (maps π n m) w i b'
section
variable {π : Nat → Nat} {n : Nat}
theorem VT.scal {v : Value} (h : scal v = true) : VT π n v v := fun m u k => by
  cases v <;> simp [Eng.scal] at h <;> cases k <;> constructor
theorem VT.int (k : IntKind) (x : Int) : VT π n (.int k x) (.int k x) := .scal rfl
theorem VT.bool (b : Bool) : VT π n (.bool b) (.bool b) := .scal rfl
theorem VT.str (s : ByteArray) : VT π n (.string s) (.string s) := .scal rfl
theorem VT.nilp : VT π n (.pointer none) (.pointer none) := fun m u k => by cases k; exact .nilp
theorem VT.nils : VT π n (.slice none 0 0) (.slice none 0 0) := fun m u k => by cases k; exact .nils
theorem maps_at {m : Mp} {j : Nat} (h : j < n) : maps π n m j = m (π j) := by unfold maps; rw [if_pos h]
theorem VT.ptr {id id' k : Nat} {s : Option Nat} (h : id' < n) (hp : π id' = id) : VT π n (.pointer (some ⟨id, k, s⟩)) (.pointer (some ⟨id', k, s⟩)) := fun m u q => by
  cases q with
  | ptr q qv => exact .ptr (by rw [maps_at h, hp]; exact q) qv
theorem VT.slice {id id' e len cp : Nat} (h : id' < n) (hp : π id' = id) : VT π n (.slice (some ⟨id, e, none⟩) len cp) (.slice (some ⟨id', e, none⟩) len cp) := fun m u q => by
  cases q with
  | slc q qv ql qc => exact .slc (by rw [maps_at h, hp]; exact q) qv ql qc
  | vslc q qv => exact .vslc (by rw [maps_at h, hp]; exact q) qv
  | eslc q qv => exact .eslc (by rw [maps_at h, hp]; exact q) qv
theorem LT.to {m : Mp} : ∀ {vs vs' us : List Value}, LT π n vs vs' → LRel m vs us → LRel (maps π n m) vs' us
  | [], [], us, _, k => by obtain rfl := k.nil_inv; exact .nil _
  | [], _ :: _, _, h, _ => h.elim
  | _ :: _, [], _, h, _ => h.elim
  | x :: xs, y :: ys, us, h, k => by
    obtain ⟨u, us', rfl, k1, k2⟩ := k.cons_inv
    exact .cons (h.1 _ _ k1) (LT.to h.2 k2)
theorem VT.agg {cs cs' : List Value} (h : LT π n cs cs') : VT π n (.agg cs.toArray) (.agg cs'.toArray) := fun m u k => by
  cases k with
  | @agg _ ds ks kk =>
    have := VRel.ofL (LT.to h (us := ds.toList) ⟨by simpa using ks, fun j a b ha hb => kk j a b (by simpa using ha) (by simpa using hb)⟩)
    simpa using this
theorem VT.tuple {cs cs' : List Value} (h : LT π n cs cs') : VT π n (.tuple cs.toArray) (.tuple cs'.toArray) := fun m u k => by
  cases k with
  | @tuple _ ds ks kk =>
    have := LT.to h (us := ds.toList) ⟨by simpa using ks, fun j a b ha hb => kk j a b (by simpa using ha) (by simpa using hb)⟩
    exact .tuple (by simpa using this.1) (fun j a b ha hb => this.2 j a b (by simpa using ha) (by simpa using hb))
theorem LT.len : ∀ {vs vs' : List Value}, LT π n vs vs' → vs.length = vs'.length
  | [], [], _ => rfl
  | [], _ :: _, h => h.elim
  | _ :: _, [], h => h.elim
  | x :: xs, y :: ys, h => by simp [LT.len h.2]
theorem RT.get : ∀ {a b : List (List Value)}, RT π n a b → ∀ (e : Nat) (c : List Value), b[e]? = some c → ∃ c0, a[e]? = some c0 ∧ LT π n c0 c
  | [], [], _, e, c, h => by simp at h
  | [], _ :: _, h, _, _, _ => h.elim
  | _ :: _, [], h, _, _, _ => h.elim
  | x :: xs, y :: ys, h, 0, c, k => by simp at k; subst k; exact ⟨x, rfl, h.1⟩
  | x :: xs, y :: ys, h, e + 1, c, k => by simpa using RT.get h.2 e c (by simpa using k)
theorem RT.len : ∀ {a b : List (List Value)}, RT π n a b → a.length = b.length
  | [], [], _ => rfl
  | [], _ :: _, h => h.elim
  | _ :: _, [], h => h.elim
  | x :: xs, y :: ys, h => by simp [RT.len h.2]
theorem BT.dead (b : ABlk) : BT π n b .dead := fun _ _ _ _ => trivial
theorem BT.cells {vs vs' : List Value} (h : LT π n vs vs') : BT π n (.cells vs) (.cells vs') := fun m w i k => by
  obtain ⟨k1, k2, k3, cs, T, k5, k6⟩ := k
  exact ⟨k1, k2, k3, cs, T, k5, h.to k6⟩
theorem BT.row {s : Bool} {z : Nat} {els els' : List (List Value)} (h : ∀ (e : Nat) (c : List Value), els'[e]? = some c → ∃ c0, els[e]? = some c0 ∧ LT π n c0 c) (hl : els.length = els'.length) (ho : RowOk z els → RowOk z els') : BT π n (.row s z els) (.row s z els') := fun m w i k => by
  obtain ⟨k1, k2, k3, k4⟩ := k
  refine ⟨k1, k2, ho k3, k4.imp ?_ ?_⟩
  · rintro ⟨g1, g2, g3⟩; subst g2; exact ⟨g1, by simpa using hl.symm, g3⟩
  · rintro ⟨k5, cs, T, k7, k8, k9, k10⟩
    refine ⟨k5, cs, T, k7, k8, by rw [← hl]; exact k9, fun e c he => ?_⟩
    obtain ⟨c0, g1, g2⟩ := h e c he
    exact g2.to (k10 e c0 g1)
/-- A row of numbers, bools, texts. -/
theorem LT.scal : ∀ {vs : List Value}, (∀ v ∈ vs, Eng.scal v = true) → LT π n vs vs
  | [], _ => trivial
  | x :: xs, h => ⟨.scal (h x (by simp)), LT.scal fun v hv => h v (by simp [hv])⟩
theorem BT.rowS {s : Bool} {z : Nat} {els : List (List Value)} (h : ∀ c ∈ els, ∀ v ∈ c, Eng.scal v = true) : BT π n (.row s z els) (.row s z els) :=
  .row (fun e c he => ⟨c, he, .scal (h c (List.mem_of_getElem? he))⟩) rfl id
end

/-- What a call knows at its end, told anew: by other names, and no more than serves. -/
def Ren (H0 H1 : AHeap) (u : Value) (H2 : AHeap) (v : Value) : Prop := ∃ π : Nat → Nat, H0.length ≤ H2.length ∧ (∀ j, j < H0.length → π j = j) ∧ (∀ i j, i < H2.length → j < H2.length → π i = π j → i = j) ∧
  (∀ j b', H2[j]? = some b' → b' = .dead ∨ (j < H0.length ∧ H0[j]? = some b' ∧ H1[j]? = some b') ∨ ∃ b, H1[π j]? = some b ∧ (b'.own = true → b.own = true) ∧ (b'.live = true → b.live = true) ∧ BT π H2.length b b') ∧ VT π H2.length u v
theorem Ren.run {m0 : Mp} {H0 : AHeap} {w0 : World} {H1 H2 : AHeap} {m : Mp} {w : World} {u v u' : Value} (hr : Ren H0 H1 u H2 v) (h : Run m0 H0 w0 H1 m w) (h0 : Match m0 H0 w0) (hv : VRel m u u') : ∃ m', Run m0 H0 w0 H2 m' w ∧ Mp.le m0 m' ∧ VRel m' v u' := by
  obtain ⟨π, h1, h2, h3, h4, h5⟩ := hr
  have hle := maps_le h h0 (π := π) (n := H2.length) h1 h2
  refine ⟨maps π H2.length m, h.ren h0 h1 h2 h3 fun j b' hj => ?_, hle, h5 _ _ hv⟩
  rcases h4 j b' hj with g | ⟨g1, g2, g3⟩ | ⟨b, g1, g2, g3, g4⟩
  · exact .inl g
  · refine .inr ⟨b', by rw [h2 j g1]; exact g3, id, id, fun hne => ?_⟩
    rw [h2 j g1, h.dom j g1] at hne
    cases hi : m0 j with
    | none => exact absurd hi hne
    | some i =>
      obtain ⟨b, hb, hB⟩ := h0.has j i hi
      rw [g2] at hb
      cases hb
      exact fun w' i' hB' => hB.cov h.ext hle hB'
  · exact .inr ⟨b, g1, g2, g3, fun _ => g4 _⟩
theorem Ren.refl {H0 H1 : AHeap} {u : Value} (hl : H0.length ≤ H1.length) (hu : VT id H1.length u u) (hb : ∀ j b, H1[j]? = some b → (j < H0.length ∧ H0[j]? = some b) ∨ BT id H1.length b b) : Ren H0 H1 u H1 u :=
  ⟨id, hl, fun _ _ => rfl, fun _ _ _ _ h => h, fun j b hj => by
    rcases hb j b hj with ⟨h1, h2⟩ | h
    · exact .inr (.inl ⟨h1, h2, hj⟩)
    · exact .inr (.inr ⟨b, hj, id, id, h⟩), hu⟩
/-- Nothing new is known, and what was known is as it was. -/
theorem Ren.pure {H0 X : AHeap} {u : Value} (hu : VT id H0.length u u) : Ren H0 (H0 ++ X) u H0 u :=
  ⟨id, Nat.le_refl _, fun _ _ => rfl, fun _ _ _ _ h => h, fun j b hj => by
    have hl := (List.getElem?_eq_some_iff.1 hj).1
    exact .inr (.inl ⟨hl, hj, by rw [List.getElem?_append_left hl]; exact hj⟩), hu⟩
/-- One block is turned. -/
theorem Ren.set {H0 X : AHeap} {u : Value} {id : Nat} {b : ABlk} (hu : VT (fun j => j) H0.length u u) (hb : BT (fun j => j) H0.length b b) : Ren H0 (H0.set id b ++ X) u (H0.set id b) u :=
  ⟨fun j => j, by simp, fun _ _ => rfl, fun _ _ _ _ h => h, fun j b' hj => by
    have hl := (List.getElem?_eq_some_iff.1 hj).1
    have hg : (H0.set id b ++ X)[j]? = some b' := by rw [List.getElem?_append_left hl]; exact hj
    by_cases e : id = j
    · subst e
      rw [List.getElem?_set_self (by simpa using hl)] at hj
      cases hj
      exact .inr (.inr ⟨b, hg, fun h => h, fun h => h, by simpa using hb⟩)
    · refine .inr (.inl ⟨by simpa using hl, ?_, hg⟩)
      rw [List.getElem?_set_ne e] at hj
      exact hj, by simpa using hu⟩
section
variable {P : Program} {I : Tab}
theorem SumOk.of (hI : TOk P I) {f : FuncId} {S : Sum} {fn : Func} {c : Code} (hf : P.funcs[f]? = some fn) (hc : fn.body = some c) (hn : (fn.name != "runtime.NumGoroutine") = true)
    (h : ∀ args H v H' tc, S args H = some (v, H', tc) → args.length ≤ fn.ntmps ∧ ∃ R : List Nat, tc = (R.filter fun id => ownB (H[id]?)) ∧ ∀ Hr : AHeap, Hr.length = H.length → (∀ id, R.contains id = true → Hr[id]? = H[id]?) →
      AW P fn.ntmps Hr c (args0 0 args) Hr (Ends I fn fun u H1 => ∃ H2, Ren Hr H1 u H2 v ∧ join R 0 H H2 = H')) : SumOk P f S := by
  refine ⟨⟨fn, hf, by simpa using hn, by rw [hc]; rfl⟩, fun args H v H' tc hS m0 H0 w0 m w args' hR hL => ?_⟩
  obtain ⟨hlen, R, rfl, hA⟩ := h args H v H' tc hS
  refine calls_of_wp hf hc ?_
  have hl := hL.1
  have hM := hR.mt.restr R
  have hst := ASat.start (n := fn.ntmps) hM hL (by rw [← hl]; exact hlen)
  have hA := hA (restr R 0 H) (restr_len R 0 H) (fun id hid => by
    rw [restr_get]
    simp only [Nat.zero_add, hid, if_true]
    cases H[id]? <;> rfl)
  refine Code.wp_mono (fun e' a' w' hp => ?_) (hA.run _ _ _ _ hM hst)
  obtain ⟨hnp, T, H1, ⟨he, vs, hvs, H2, hren, rfl⟩, m', h1, h2, h3, h4⟩ := hp
  obtain ⟨u, h5, h6⟩ := aresult_ok hI h1 h2 hvs
  obtain ⟨m2, r1, r2, r3⟩ := hren.run h1 hM h5
  obtain ⟨j1, j2⟩ := hR.join r1
  have key : a'.defers = [] ∧ ∃ v', (results fn a'.tmps).run P w' = .ok v' w' ∧ ∃ (m'' : Mp) (v'' : Value), Ending.returned v' = .returned v'' ∧ Run m0 H0 w0 (Eng.join R 0 H H2) m'' w' ∧ Mp.le m m'' ∧ VRel m'' v v'' ∧ Frame m (R.filter fun id => ownB (H[id]?)) w w' :=
    ⟨h4, u, h6, m2, u, rfl, j1, r2, r3, j2⟩
  cases e' with
  | normal => exact key
  | ret => exact key
  | exit id => cases he
  | goto l => cases hnp
  | panic ch => cases hnp
  | outgrown => cases hnp
/-- What was put aside is as it was. -/
theorem join_nil (H : AHeap) : ∀ (k : Nat) (H1 : AHeap), H1.length = H.length → join [] k H H1 = H := by
  induction H with
  | nil => intro k H1 h; have : H1 = [] := by simpa using h
           subst this; rfl
  | cons b H ih =>
    intro k H1 h
    cases H1 with
    | nil => simp at h
    | cons c H1 => simp [join, ih (k + 1) H1 (by simpa using h)]
end
end Go.Proofs.Ytckbckijpdnlaaa.Eng
