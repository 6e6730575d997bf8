/- The second engine, part 7: what is known, told by a pattern; loops by what holds at them. A lemma file: it claims nothing of the program. -/
import Derived.Test.YtckbckijpdnlaaaOwnS6
set_option linter.unusedVariables false
set_option linter.unusedSimpArgs false
namespace Go.Proofs.Ytckbckijpdnlaaa.Sy
open Go Go.Lib Go.Proofs.Ytckbckijpdnlaaa.Eng

/-! ### letters replaced -/
structure Sb where
  i : List E := []
  b : List E := []
  r : List E := []
  s : List E := []
def Sb.val (v : Val) (σ : Sb) : Val := { i := σ.i.map fun e => (den v e).i, b := σ.b.map fun e => (den v e).b, r := σ.r.map fun e => (den v e).r, s := σ.s.map fun e => (den v e).s, f := v.f }
/-- A pattern's term, as it stands for what is found. -/
def cmpI (σ : Sb) (t e : E) : Bool := match t with
  | .vi n => E.eq (nth (.ci 0) σ.i n) e
  | .ci z => E.eq (.ci z) e
  | .o1 .len (.vr n) => E.eq (mkLen (nth .nr σ.r n)) e
  | _ => false
def cmpB (σ : Sb) (t e : E) : Bool := match t with
  | .vb n => E.eq (nth (.cb false) σ.b n) e
  | .cb z => E.eq (.cb z) e
  | _ => false
def cmpR (σ : Sb) (t e : E) : Bool := match t with
  | .vr n => E.eq (nth .nr σ.r n) e
  | _ => false
def cmpS (σ : Sb) (t e : E) : Bool := match t with
  | .vs n => E.eq (nth (.cs []) σ.s n) e
  | .cs z => E.eq (.cs z) e
  | _ => false
theorem nth_map {α β : Type} (f : α → β) (d : α) : ∀ (l : List α) (n : Nat), nth (f d) (l.map f) n = f (nth d l n)
  | [], _ => rfl
  | _ :: _, 0 => rfl
  | _ :: xs, n + 1 => nth_map f d xs n
section
variable {v : Val} {σ : Sb}
theorem cmpI_ok {t e : E} (h : cmpI σ t e = true) : (den (σ.val v) t).i = (den v e).i := by
  unfold cmpI at h
  split at h <;> first | (cases h; done) | skip
  all_goals have h := E.eq_ok _ _ h; subst h
  · exact nth_map (fun e => (den v e).i) (.ci 0) σ.i _
  · rfl
  · rename_i n
    rw [mkLen_ok]
    show ((nth [] (σ.r.map fun e => (den v e).r) n).length : Int) = _
    rw [show ([] : List (List Int)) = (den v .nr).r from rfl, nth_map (fun e => (den v e).r) .nr σ.r n]
theorem cmpB_ok {t e : E} (h : cmpB σ t e = true) : (den (σ.val v) t).b = (den v e).b := by
  unfold cmpB at h
  split at h <;> first | (cases h; done) | skip
  all_goals have h := E.eq_ok _ _ h; subst h
  · exact nth_map (fun e => (den v e).b) (.cb false) σ.b _
  · rfl
theorem cmpR_ok {t e : E} (h : cmpR σ t e = true) : (den (σ.val v) t).r = (den v e).r := by
  unfold cmpR at h
  split at h <;> first | (cases h; done) | skip
  have h := E.eq_ok _ _ h; subst h
  exact nth_map (fun e => (den v e).r) .nr σ.r _
theorem cmpS_ok {t e : E} (h : cmpS σ t e = true) : (den (σ.val v) t).s = (den v e).s := by
  unfold cmpS at h
  split at h <;> first | (cases h; done) | skip
  all_goals have h := E.eq_ok _ _ h; subst h
  · exact nth_map (fun e => (den v e).s) (.cs []) σ.s _
  · rfl
end

/-! ### what is known, held against a pattern -/
/-- A pattern: what is kept, and how many letters of each kind it has. -/
structure Tmpl where
  T : ST
  H : SH
  ni : Nat
  nb : Nat
  nr : Nat
  ns : Nat
  kn : Kn := []
/-- Which old name a new one is; a row that lies nowhere. -/
structure Nm where
  old : List (Nat × Nat)
  void : List Nat
def Nm.at (π : Nm) (j : Nat) : Option Nat := π.old.lookup j
def spotC (σ : Sb) : Option E → Option E → Bool
  | none, none => true
  | some t, some e => cmpI σ t e
  | _, _ => false
def cmpSL (π : Nm) (σ : Sb) : SL → SL → Bool
  | .bool a, .bool b => cmpB σ a b
  | .int k a, .int k' b => decide (k = k') && cmpI σ a b
  | .str a, .str b => cmpS σ a b
  | .nilp, .nilp => true
  | .nils, .nils => true
  | .nili, .nili => true
  | .nilf, .nilf => true
  | .ptr id k s, .ptr id' k' s' => decide (π.at id = some id') && decide (k = k') && spotC σ s s'
  | .slc id e n, .slc id' e' n' => decide (π.at id = some id') && cmpI σ e e' && cmpI σ n n'
  | .slc id e n, .nils => π.void.contains id && E.eq e (.ci 0) && cmpI σ n (.ci 0)
  | .ifc t x, .ifc t' x' => decide (t = t') && cmpSL π σ x x'
  | .fn f, .fn g => decide (f = g)
  | .ite t x y, b => (cmpB σ t (.cb true) && cmpSL π σ x b) || ((cmpB σ t (.cb false) && cmpSL π σ y b) || (match b with
    | .ite e x' y' => cmpB σ t e && (cmpSL π σ x x' && cmpSL π σ y y')
    | _ => false))
  | _, _ => false
def cmpSLs (π : Nm) (σ : Sb) : List SL → List SL → Bool
  | [], [] => true
  | a :: as, b :: bs => cmpSL π σ a b && cmpSLs π σ as bs
  | _, _ => false
def cmpSW (π : Nm) (σ : Sb) : SW → SW → Bool
  | .one a, .one b => cmpSL π σ a b
  | .agg a, .agg b => cmpSLs π σ a b
  | _, _ => false
def cmpSWs (π : Nm) (σ : Sb) : List SW → List SW → Bool
  | [], [] => true
  | a :: as, b :: bs => cmpSW π σ a b && cmpSWs π σ as bs
  | _, _ => false
def cmpSV (π : Nm) (σ : Sb) : SV → SV → Bool
  | .one a, .one b => cmpSL π σ a b
  | .agg a, .agg b => cmpSLs π σ a b
  | .tup a, .tup b => cmpSWs π σ a b
  | _, _ => false
def cmpSLss (π : Nm) (σ : Sb) : List (List SL) → List (List SL) → Bool
  | [], [] => true
  | a :: as, b :: bs => cmpSLs π σ a b && cmpSLss π σ as bs
  | _, _ => false
def cmpSR (π : Nm) (σ : Sb) : SR → SR → Bool
  | .sym r ks, .sym r' ks' => decide (ks = ks') && cmpR σ r r'
  | .sym r ks, .lits [] => cmpR σ r .nr
  | .lits a, .lits b => cmpSLss π σ a b
  | _, _ => false
def cmpSB (π : Nm) (σ : Sb) : SB → SB → Bool
  | .dead, _ => true
  | .cells a, .cells b => cmpSLs π σ a b
  | .ro a, .ro b => cmpSLs π σ a b
  | .row s z r, .row s' z' r' => (!s || s') && decide (z = z') && cmpSR π σ r r'
  | .old s z r, .old s' z' r' => (!s || s') && decide (z = z') && cmpSR π σ r r'
  | .iter s p, .iter s' p' => cmpS σ s s' && cmpI σ p p'
  | _, _ => false
def nodupB : List Nat → Bool
  | [] => true
  | x :: xs => !xs.contains x && nodupB xs
def chkB (n0 : Nat) (π : Nm) (σ : Sb) (H : SH) (j : Nat) : SB → Bool
  | .row s z r => (match π.at j with
    | some id => (decide (n0 ≤ j) || decide (id = j)) && (match H[id]? with
      | some b => cmpSB π σ (.row s z r) b
      | none => false)
    | none => decide (n0 ≤ j) && (!π.void.contains j || ((!s) && (match r with
      | .sym r _ => cmpR σ r .nr
      | .lits [] => true
      | _ => false))))
  | .old s z r => (match π.at j with
    | some id => (decide (n0 ≤ j) || decide (id = j)) && (match H[id]? with
      | some b => cmpSB π σ (.old s z r) b
      | none => false)
    | none => decide (n0 ≤ j) && (!π.void.contains j || ((!s) && (match r with
      | .sym r _ => cmpR σ r .nr
      | .lits [] => true
      | _ => false))))
  | b => (match π.at j with
    | some id => (decide (n0 ≤ j) || decide (id = j)) && (match H[id]? with
      | some b' => cmpSB π σ b b'
      | none => false)
    | none => decide (n0 ≤ j) && !π.void.contains j)
def chkH (n0 : Nat) (π : Nm) (σ : Sb) (H : SH) : Nat → SH → Bool
  | _, [] => true
  | j, b :: bs => chkB n0 π σ H j b && chkH n0 π σ H (j + 1) bs
def chkT (π : Nm) (σ : Sb) (T : ST) : ST → Bool
  | [] => true
  | (t, x) :: ts => (match T.lookup t with
    | some y => cmpSV π σ x y
    | none => false) && chkT π σ T ts
def chk (n0 : Nat) (π : Nm) (σ : Sb) (tm : Tmpl) (T : ST) (H : SH) : Bool :=
  decide (n0 ≤ tm.H.length) && nodupB (π.old.map (·.2)) && π.old.all (fun p => decide (p.1 < tm.H.length)) && π.void.all (fun j => decide (j < tm.H.length) && decide (π.at j = none)) && chkT π σ T tm.T && chkH n0 π σ H 0 tm.H

/-- Names, told anew. -/
def zOf (H : AHeap) (j : Nat) : Nat := match H[j]? with
  | some (.row _ z _) => z
  | some (.old _ z _) => z
  | _ => 0
def mapN (π : Nm) (H' : AHeap) (m : Mp) : Mp := fun j => match π.at j with
  | some id => m id
  | none => if π.void.contains j = true then some ⟨0, 0, zOf H' j, 0, true⟩ else none
section
variable {m0 : Mp} {H0 : AHeap} {w0 : World} {H : AHeap} {m : Mp} {w w' : World}
theorem Run.norm (h : Run m0 H0 w0 H m w) (h0 : Match m0 H0 w0) {π : Nm} {H' : AHeap} (hlen : H0.length ≤ H'.length) (hid : ∀ j, j < H0.length → π.at j = some j)
    (hinj : ∀ i j k, π.at i = some k → π.at j = some k → i = j) (hlt : ∀ j k, π.at j = some k → j < H'.length) (hvlt : ∀ j, π.void.contains j = true → j < H'.length)
    (hb : ∀ j b' id, H'[j]? = some b' → π.at j = some id → b' = .dead ∨ ∃ b, H[id]? = some b ∧ (b'.own = true → b.own = true) ∧ (b'.live = true → b.live = true) ∧ ∀ w i, BRel m w i b → BRel (mapN π H' m) w i b')
    (hv : ∀ j b', H'[j]? = some b' → π.at j = none → π.void.contains j = true → ∃ z, b' = .row false z [] ∨ b' = .old false z []) : Run m0 H0 w0 H' (mapN π H' m) w := by
  have hm : ∀ j i, mapN π H' m j = some i → i.void = false → ∃ id, π.at j = some id ∧ m id = some i := by
    intro j i hj hvi
    unfold mapN at hj
    split at hj
    · rename_i id hid; exact ⟨id, hid, hj⟩
    · split at hj
      · cases hj; cases hvi
      · cases hj
  have hlv : ∀ j b' id, H'[j]? = some b' → π.at j = some id → b'.live = true → ∃ b, H[id]? = some b ∧ (b'.own = true → b.own = true) ∧ b.live = true := by
    intro j b' id hj hid hl
    rcases hb j b' id hj hid with rfl | ⟨b, h1, h2, h3, _⟩
    · cases hl
    · exact ⟨b, h1, h2, h3 hl⟩
  refine ⟨⟨fun j i hj => ?_, fun j j' i1 i2 b1 b2 h1 h2 h3 h4 h5 h6 h7 h8 h9 => ?_⟩, fun id i hi => ?_, fun q hq => ?_, hlen, fun q bq hq hbq hl => ?_, fun q iq bq hq hiq hbq hl hvq => ?_, h.os, h.tape, h.output, h.size, h.keep⟩
  · unfold mapN at hj
    split at hj
    · rename_i id hid
      have hl := hlt j id hid
      refine ⟨H'[j], List.getElem?_eq_getElem hl, ?_⟩
      rcases hb j _ id (List.getElem?_eq_getElem hl) hid with e | ⟨b, g1, _, _, g4⟩
      · rw [e]; trivial
      · obtain ⟨b2, g5, g6⟩ := h.mt.has _ _ hj
        rw [g1] at g5
        cases g5
        exact g4 w i g6
    · rename_i hn
      split at hj
      · rename_i hc
        cases hj
        have hl := hvlt j hc
        obtain ⟨z, hz⟩ := hv j _ (List.getElem?_eq_getElem hl) hn hc
        refine ⟨_, List.getElem?_eq_getElem hl, ?_⟩
        rcases hz with hz | hz
        · have : zOf H' j = z := by unfold zOf; rw [List.getElem?_eq_getElem hl, hz]
          rw [this, hz]
          exact ⟨rfl, rfl, RowOk.nil z, .inl ⟨rfl, rfl, rfl⟩⟩
        · have : zOf H' j = z := by unfold zOf; rw [List.getElem?_eq_getElem hl, hz]
          rw [this, hz]
          exact ⟨rfl, RowOk.nil z, .inl ⟨rfl, rfl, rfl⟩⟩
      · cases hj
  · obtain ⟨id1, q1, p1⟩ := hm _ _ h1 h7
    obtain ⟨id2, q2, p2⟩ := hm _ _ h2 h8
    obtain ⟨c1, e1, e2, e3⟩ := hlv _ _ _ h3 q1 (ABlk.own_live h5)
    obtain ⟨c2, f1, f2, f3⟩ := hlv _ _ _ h4 q2 h6
    have := h.mt.inj _ _ i1 i2 c1 c2 p1 p2 e1 f1 (e2 h5) f3 h7 h8 h9
    subst this
    exact hinj _ _ _ q1 q2
  · have hl := h0.lt hi
    unfold mapN
    rw [hid id hl]
    exact h.ext _ _ hi
  · unfold mapN
    rw [hid q hq]
    exact h.dom q hq
  · obtain ⟨c, e1, e2, e3⟩ := hlv _ _ _ hbq (hid q hq) hl
    obtain ⟨b0, g1, g2, g3⟩ := h.old q c hq e1 e3
    exact ⟨b0, g1, g2, fun ho => g3 (e2 ho)⟩
  · obtain ⟨id, l, hiq⟩ := hm _ _ hiq hvq
    obtain ⟨c, e1, e2, e3⟩ := hlv _ _ _ hbq l hl
    refine h.new id iq c ?_ hiq e1 e3 hvq
    rcases Nat.lt_or_ge id H0.length with hlt' | hge
    · have := hinj id q id (hid _ hlt') l
      omega
    · exact hge
end
section
variable {v : Val} {π : Nm} {σ : Sb} {m : Mp} {H' : AHeap}
theorem mapN_at {j id : Nat} (h : π.at j = some id) : mapN π H' m j = m id := by unfold mapN; rw [h]
theorem spotC_ok {s s' : Option E} (h : spotC σ s s' = true) : spot (σ.val v) s = spot v s' := by
  cases s <;> cases s' <;> simp only [spotC] at h <;> first | (cases h; done) | rfl | skip
  simp only [spot, cmpI_ok (v := v) h]
theorem cmpSL_ok (hvn : ∀ j, π.void.contains j = true → π.at j = none) : ∀ {a b : SL}, cmpSL π σ a b = true → ∀ {u : Value}, VRel m (dl v b) u → VRel (mapN π H' m) (dl (σ.val v) a) u := by
  intro a
  induction a with
  | bool a =>
    intro b h u hu
    cases b <;> first | (cases h; done) | skip
    cases hu; rw [dl_bool, cmpB_ok (v := v) h]; exact .bool _
  | int k a =>
    intro b h u hu
    cases b <;> first | (cases h; done) | skip
    simp only [cmpSL, Bool.and_eq_true, decide_eq_true_eq] at h
    obtain ⟨rfl, h⟩ := h
    cases hu; rw [dl_int, cmpI_ok (v := v) h]; exact .int _ _
  | str a =>
    intro b h u hu
    cases b <;> first | (cases h; done) | skip
    cases hu; rw [dl_str, cmpS_ok (v := v) h]; exact .str _
  | nilp => intro b h u hu; cases b <;> first | (cases h; done) | (cases hu; exact .nilp)
  | nils => intro b h u hu; cases b <;> first | (cases h; done) | (cases hu; exact .nils)
  | nili => intro b h u hu; cases b <;> first | (cases h; done) | (cases hu; exact .nili)
  | nilf => intro b h u hu; cases b <;> first | (cases h; done) | (cases hu; exact .nilf)
  | ptr id k s =>
    intro b h u hu
    cases b <;> first | (cases h; done) | skip
    simp only [cmpSL, Bool.and_eq_true, decide_eq_true_eq] at h
    obtain ⟨⟨h1, rfl⟩, h3⟩ := h
    rw [dl_ptr] at hu
    rw [dl_ptr, spotC_ok (v := v) h3]
    cases hu with
    | ptr q qv => exact .ptr (by rw [mapN_at h1]; exact q) qv
  | slc id e n =>
    intro b h u hu
    cases b with
    | slc id' e' n' =>
      simp only [cmpSL, Bool.and_eq_true, decide_eq_true_eq] at h
      obtain ⟨⟨h1, h2⟩, h3⟩ := h
      rw [dl_slc] at hu
      rw [dl_slc, cmpI_ok (v := v) h2, cmpI_ok (v := v) h3]
      generalize (den v e').i.toNat = x at hu ⊢
      generalize (den v n').i.toNat = y at hu ⊢
      cases hu with
      | slc q qv ql qc => exact .slc (by rw [mapN_at h1]; exact q) qv ql qc
      | vslc q qv => exact .vslc (by rw [mapN_at h1]; exact q) qv
      | eslc q qv => exact .eslc (by rw [mapN_at h1]; exact q) qv
    | nils =>
      simp only [cmpSL, Bool.and_eq_true, decide_eq_true_eq] at h
      obtain ⟨⟨h1, h2⟩, h3⟩ := h
      have h2 := E.eq_ok _ _ h2
      subst h2
      cases hu
      rw [dl_slc, cmpI_ok (v := v) h3]
      refine .vslc (i := ⟨0, 0, zOf H' id, 0, true⟩) ?_ rfl
      unfold mapN
      rw [hvn id h1, if_pos h1]
    | _ => cases h
  | ifc t x ih =>
    intro b h u hu
    cases b <;> first | (cases h; done) | skip
    simp only [cmpSL, Bool.and_eq_true, decide_eq_true_eq] at h
    obtain ⟨rfl, h⟩ := h
    cases hu with
    | iface q => exact .iface (ih h q)
  | fn f =>
    intro b h u hu
    cases b <;> first | (cases h; done) | skip
    simp only [cmpSL, decide_eq_true_eq] at h
    subst h
    cases hu with
    | func hs h hs2 h2 => exact .func hs (fun j x y hx => by simp at hx) hs2 (fun j x y hx => by simp at hx)
  | ite t x y ihx ihy =>
    intro b h u hu
    rw [dl_ite]
    simp only [cmpSL, Bool.and_eq_true, Bool.or_eq_true] at h
    rcases h with ⟨h1, h2⟩ | ⟨h1, h2⟩ | h
    · have e : (den (σ.val v) t).b = true := cmpB_ok (v := v) h1
      rw [if_pos e]; exact ihx h2 hu
    · have e : (den (σ.val v) t).b = false := cmpB_ok (v := v) h1
      rw [if_neg (by rw [e]; decide)]; exact ihy h2 hu
    · split at h
      · simp only [Bool.and_eq_true] at h
        obtain ⟨h1, h2, h3⟩ := h
        rw [dl_ite] at hu
        rw [cmpB_ok (v := v) h1]
        split at hu
        · rename_i hc; rw [if_pos hc]; exact ihx h2 hu
        · rename_i hc; rw [if_neg hc]; exact ihy h3 hu
      · cases h
theorem cmpSLs_ok (hvn : ∀ j, π.void.contains j = true → π.at j = none) : ∀ {as bs : List SL}, cmpSLs π σ as bs = true → ∀ {us : List Value}, LRel m (dls v bs) us → LRel (mapN π H' m) (dls (σ.val v) as) us
  | [], [], _, us, hu => by obtain rfl := hu.nil_inv; exact .nil _
  | a :: as, b :: bs, h, us, hu => by
    simp only [cmpSLs, Bool.and_eq_true] at h
    obtain ⟨u, us', rfl, k1, k2⟩ := LRel.cons_inv (show LRel m (dl v b :: dls v bs) us from hu)
    exact .cons (cmpSL_ok hvn h.1 k1) (cmpSLs_ok hvn h.2 k2)
  | [], _ :: _, h, _, _ => by cases h
  | _ :: _, [], h, _, _ => by cases h
theorem agg_inv {vs : List Value} {u : Value} (h : VRel m (.agg vs.toArray) u) : ∃ us : List Value, u = .agg us.toArray ∧ LRel m vs us := by
  cases h with
  | @agg _ ds ks kk => exact ⟨ds.toList, by simp, by simpa using ks, fun j a b ha hb => kk j a b (by simpa using ha) (by simpa using hb)⟩
theorem tup_inv {vs : List Value} {u : Value} (h : VRel m (.tuple vs.toArray) u) : ∃ us : List Value, u = .tuple us.toArray ∧ LRel m vs us := by
  cases h with
  | @tuple _ ds ks kk => exact ⟨ds.toList, by simp, by simpa using ks, fun j a b ha hb => kk j a b (by simpa using ha) (by simpa using hb)⟩
theorem tup_mk {vs us : List Value} (h : LRel m vs us) : VRel m (.tuple vs.toArray) (.tuple us.toArray) := .tuple (by simpa using h.1) fun j a b ha hb => h.2 j a b (by simpa using ha) (by simpa using hb)
theorem cmpSW_ok (hvn : ∀ j, π.void.contains j = true → π.at j = none) {a b : SW} (h : cmpSW π σ a b = true) {u : Value} (hu : VRel m (dw v b) u) : VRel (mapN π H' m) (dw (σ.val v) a) u := by
  cases a <;> cases b <;> first | (cases h; done) | skip
  · exact cmpSL_ok hvn h hu
  · obtain ⟨us, rfl, hu2⟩ := agg_inv hu
    exact .ofL (cmpSLs_ok hvn h hu2)
theorem cmpSWs_ok (hvn : ∀ j, π.void.contains j = true → π.at j = none) : ∀ {as bs : List SW}, cmpSWs π σ as bs = true → ∀ {us : List Value}, LRel m (bs.map (dw v)) us → LRel (mapN π H' m) (as.map (dw (σ.val v))) us
  | [], [], _, us, hu => by obtain rfl := hu.nil_inv; exact .nil _
  | a :: as, b :: bs, h, us, hu => by
    simp only [cmpSWs, Bool.and_eq_true] at h
    obtain ⟨u, us', rfl, k1, k2⟩ := LRel.cons_inv (show LRel m (dw v b :: bs.map (dw v)) us from hu)
    exact .cons (cmpSW_ok hvn h.1 k1) (cmpSWs_ok hvn h.2 k2)
  | [], _ :: _, h, _, _ => by cases h
  | _ :: _, [], h, _, _ => by cases h
theorem cmpSV_ok (hvn : ∀ j, π.void.contains j = true → π.at j = none) {a b : SV} (h : cmpSV π σ a b = true) {u : Value} (hu : VRel m (dv v b) u) : VRel (mapN π H' m) (dv (σ.val v) a) u := by
  cases a <;> cases b <;> first | (cases h; done) | skip
  · exact cmpSL_ok hvn h hu
  · obtain ⟨us, rfl, hu2⟩ := agg_inv hu
    exact .ofL (cmpSLs_ok hvn h hu2)
  · obtain ⟨us, rfl, hu2⟩ := tup_inv hu
    exact tup_mk (cmpSWs_ok hvn h hu2)
theorem cmpSLss_ok (hvn : ∀ j, π.void.contains j = true → π.at j = none) : ∀ {as bs : List (List SL)}, cmpSLss π σ as bs = true → as.length = bs.length ∧ ∀ (e : Nat) (c : List Value), (as.map (dls (σ.val v)))[e]? = some c → ∃ c0, (bs.map (dls v))[e]? = some c0 ∧ c.length = c0.length ∧ (∀ x ∈ c, x.oneCell' = true) ∧ ∀ {us : List Value}, LRel m c0 us → LRel (mapN π H' m) c us
  | [], [], _ => ⟨rfl, fun e c h => by simp at h⟩
  | a :: as, b :: bs, h => by
    simp only [cmpSLss, Bool.and_eq_true] at h
    obtain ⟨h1, h2⟩ := cmpSLss_ok hvn h.2
    refine ⟨by simp [h1], fun e c hc => ?_⟩
    cases e with
    | zero =>
      simp at hc; subst hc
      refine ⟨_, rfl, ?_, fun x hx => ?_, fun hu => cmpSLs_ok hvn h.1 hu⟩
      · have : ∀ {as bs : List SL}, cmpSLs π σ as bs = true → as.length = bs.length := by
          intro as
          induction as with
          | nil => intro bs h; cases bs <;> first | rfl | cases h
          | cons x xs ih => intro bs h; cases bs with
            | nil => cases h
            | cons y ys => simp only [cmpSLs, Bool.and_eq_true] at h; simp [ih h.2]
        rw [dls_len, dls_len, this h.1]
      · exact List.all_eq_true.1 (dls_ones _ _) x hx
    | succ e => simpa using h2 e c (by simpa using hc)
  | [], _ :: _, h => by cases h
  | _ :: _, [], h => by cases h
theorem colV_scal (k : CC) (x : Int) : scal (colV k x) = true := by cases k <;> rfl
theorem toVs_scal : ∀ (ks : List CC) (e : List Int) (x : Value), x ∈ toVs ks e → scal x = true
  | [], _, x, h => by cases h
  | k :: ks, e, x, h => by
    rcases List.mem_cons.1 h with rfl | h
    · exact colV_scal _ _
    · exact toVs_scal ks _ x h
theorem scal_re {m m' : Mp} {x u : Value} (h : scal x = true) (k : VRel m x u) : VRel m' x u := by cases x <;> simp [scal] at h <;> cases k <;> constructor
/-- Elements of a row, told anew. -/
theorem cmpSR_ok (hvn : ∀ j, π.void.contains j = true → π.at j = none) {r r' : SR} (h : cmpSR π σ r r' = true) : (dr (σ.val v) r).length = (dr v r').length ∧
    ∀ (e : Nat) (c : List Value), (dr (σ.val v) r)[e]? = some c → ∃ c0, (dr v r')[e]? = some c0 ∧ c.length = c0.length ∧ (∀ x ∈ c, x.oneCell' = true) ∧ ∀ {us : List Value}, LRel m c0 us → LRel (mapN π H' m) c us := by
  unfold cmpSR at h
  split at h
  · simp only [Bool.and_eq_true, decide_eq_true_eq] at h
    obtain ⟨rfl, h⟩ := h
    have h := cmpR_ok (v := v) h
    simp only [dr, h]
    refine ⟨trivial, fun e c hc => ⟨c, hc, rfl, fun x hx => ?_, fun {us} hu => ⟨hu.1, fun j a b ha hb => ?_⟩⟩⟩
    · rw [List.getElem?_map] at hc
      cases hq : (den v _).r[e]? with
      | none => rw [hq] at hc; cases hc
      | some q => rw [hq] at hc; cases hc; have := toVs_scal _ _ x hx; cases x <;> simp [scal] at this <;> rfl
    · rw [List.getElem?_map] at hc
      cases hq : (den v _).r[e]? with
      | none => rw [hq] at hc; cases hc
      | some q => rw [hq] at hc; cases hc; exact scal_re (toVs_scal _ _ a (List.mem_of_getElem? ha)) (hu.2 j a b ha hb)
  · have h := cmpR_ok (v := v) h
    simp only [dr, h, den, mkR]
    exact ⟨rfl, fun e c hc => by simp at hc⟩
  · obtain ⟨h1, h2⟩ := cmpSLss_ok (v := v) (m := m) (H' := H') hvn h
    exact ⟨by simpa [dr] using h1, h2⟩
  · cases h
theorem cmpSB_ok (hvn : ∀ j, π.void.contains j = true → π.at j = none) {b b' : SB} (h : cmpSB π σ b b' = true) : db (σ.val v) b = .dead ∨ (((db (σ.val v) b).own = true → (db v b').own = true) ∧ ((db (σ.val v) b).live = true → (db v b').live = true) ∧
    ∀ (w : World) (i : MI), BRel m w i (db v b') → BRel (mapN π H' m) w i (db (σ.val v) b)) := by
  unfold cmpSB at h
  split at h
  · exact .inl rfl
  · refine .inr ⟨id, id, ?_⟩
    rintro w i ⟨k1, k2, k3, cs, T, k5, k6⟩
    exact ⟨k1, k2, k3, cs, T, k5, cmpSLs_ok hvn h k6⟩
  · refine .inr ⟨id, id, ?_⟩
    rintro w i ⟨k1, k2, k3, cs, T, k5, k6⟩
    exact ⟨k1, k2, k3, cs, T, k5, cmpSLs_ok hvn h k6⟩
  · rename_i s z r s' z' r'
    simp only [Bool.and_eq_true, decide_eq_true_eq, Bool.or_eq_true, Bool.not_eq_true'] at h
    obtain ⟨⟨hs, rfl⟩, h⟩ := h
    obtain ⟨h1, h2⟩ := cmpSR_ok (v := v) (m := m) (H' := H') hvn h
    refine .inr ⟨id, id, ?_⟩
    rintro w i ⟨k1, k2, k3, k4⟩
    refine ⟨k1, k2, fun c hc => ?_, k4.imp ?_ ?_⟩
    · obtain ⟨e, he, rfl⟩ := List.getElem_of_mem hc
      obtain ⟨c0, g1, g2, g3, _⟩ := h2 e _ (List.getElem?_eq_getElem he)
      exact ⟨by rw [g2]; exact (k3 c0 (List.mem_of_getElem? g1)).1, g3⟩
    · rintro ⟨g1, g2, g3⟩
      refine ⟨g1, List.length_eq_zero_iff.1 (by rw [h1, g2]; rfl), ?_⟩
      rcases hs with hs | hs
      · exact hs
      · rw [g3] at hs; cases hs
    · rintro ⟨k5, cs, T, k7, k8, k9, k10⟩
      refine ⟨k5, cs, T, k7, k8, by rw [h1]; exact k9, fun e c he => ?_⟩
      obtain ⟨c0, g1, g2, _, g4⟩ := h2 e c he
      exact g4 (k10 e c0 g1)
  · rename_i s z r s' z' r'
    simp only [Bool.and_eq_true, decide_eq_true_eq, Bool.or_eq_true, Bool.not_eq_true'] at h
    obtain ⟨⟨hs, rfl⟩, h⟩ := h
    obtain ⟨h1, h2⟩ := cmpSR_ok (v := v) (m := m) (H' := H') hvn h
    refine .inr ⟨id, id, ?_⟩
    rintro w i ⟨k1, k3, k4⟩
    refine ⟨k1, fun c hc => ?_, k4.imp ?_ ?_⟩
    · obtain ⟨e, he, rfl⟩ := List.getElem_of_mem hc
      obtain ⟨c0, g1, g2, g3, _⟩ := h2 e _ (List.getElem?_eq_getElem he)
      exact ⟨by rw [g2]; exact (k3 c0 (List.mem_of_getElem? g1)).1, g3⟩
    · rintro ⟨g1, g2, g3⟩
      refine ⟨g1, List.length_eq_zero_iff.1 (by rw [h1, g2]; rfl), ?_⟩
      rcases hs with hs | hs
      · exact hs
      · rw [g3] at hs; cases hs
    · rintro ⟨k5, k6, k7⟩
      refine ⟨k5, k6, fun e c k x he hx => ?_⟩
      obtain ⟨c0, g1, g2, _, g4⟩ := h2 e c he
      have hk : k < c0.length := by rw [← g2]; exact (List.getElem?_eq_some_iff.1 hx).1
      -- the cells of the element, as values
      have hall : ∃ us : List Value, LRel m c0 us ∧ ∀ (j : Nat) (u : Value), us[j]? = some u → w.cell? ((⟨i.blk, i.off + e * z + 0, none⟩ : Addr).add j) = some u :=
        mem_vals fun j y hy => by
          obtain ⟨b, hb, hr⟩ := k7 e c0 j y g1 hy
          exact ⟨b, by rw [add_none]; simpa using hb, hr⟩
      obtain ⟨us, hu1, hu2⟩ := hall
      have hu3 := g4 hu1
      obtain ⟨u, hu, hr⟩ := hu3.get hx
      have := hu2 k u hu
      rw [add_none] at this
      exact ⟨u, by simpa using this, hr⟩
  · rename_i s p s' p'
    simp only [Bool.and_eq_true] at h
    simp only [db, cmpS_ok (v := v) h.1, cmpI_ok (v := v) h.2]
    exact .inr ⟨id, id, fun w i h => h⟩
  · cases h
end
theorem nodup_inj : ∀ {l : List (Nat × Nat)}, nodupB (l.map (·.2)) = true → ∀ {i j k : Nat}, l.lookup i = some k → l.lookup j = some k → i = j
  | [], _, _, _, _, h, _ => by cases h
  | (a, b) :: l, hn, i, j, k, hi, hj => by
    simp only [List.map_cons, nodupB, Bool.and_eq_true, Bool.not_eq_true'] at hn
    have hmem : ∀ {x : Nat}, l.lookup x = some k → k ∈ l.map (·.2) := by
      intro x hx
      have : ∀ {l : List (Nat × Nat)}, l.lookup x = some k → k ∈ l.map (·.2) := by
        intro l
        induction l with
        | nil => intro h; cases h
        | cons p l ih =>
          intro h
          obtain ⟨c, d⟩ := p
          simp only [List.lookup_cons] at h
          cases hc : x == c with
          | true => rw [hc] at h; cases h; simp
          | false => rw [hc] at h; simp only [List.map_cons, List.mem_cons]; exact .inr (ih h)
      exact this hx
    simp only [List.lookup_cons] at hi hj
    cases ci : i == a <;> cases cj : j == a <;> rw [ci] at hi <;> rw [cj] at hj <;> simp only at hi hj
    · exact nodup_inj hn.2 hi hj
    · cases hj
      have := hmem hi
      have hc := hn.1
      simp at hc
      simp at this
      obtain ⟨q, hq⟩ := this
      exact absurd hq (hc q)
    · cases hi
      have := hmem hj
      have hc := hn.1
      simp at hc
      simp at this
      obtain ⟨q, hq⟩ := this
      exact absurd hq (hc q)
    · have := beq_iff_eq.1 ci; have := beq_iff_eq.1 cj; omega
theorem chkT_ok {π : Nm} {σ : Sb} {T : ST} : ∀ {ts : ST}, chkT π σ T ts = true → ∀ t x, ts.lookup t = some x → ∃ y, T.lookup t = some y ∧ cmpSV π σ x y = true
  | [], _, t, x, h => by cases h
  | (u, z) :: ts, h, t, x, hx => by
    simp only [chkT, Bool.and_eq_true] at h
    simp only [List.lookup_cons] at hx
    cases hc : t == u with
    | true =>
      rw [hc] at hx
      cases hx
      have : t = u := by simpa using hc
      subst this
      have h1 := h.1
      split at h1
      · rename_i y hy; exact ⟨y, hy, h1⟩
      · cases h1
    | false => rw [hc] at hx; exact chkT_ok h.2 t x hx
theorem chkH_ok {n0 : Nat} {π : Nm} {σ : Sb} {H : SH} : ∀ {k : Nat} {bs : SH}, chkH n0 π σ H k bs = true → ∀ j b, bs[j]? = some b → chkB n0 π σ H (k + j) b = true
  | k, [], _, j, b, h => by simp at h
  | k, c :: bs, h, 0, b, hb => by
    simp only [chkH, Bool.and_eq_true] at h
    simp at hb; subst hb; exact h.1
  | k, c :: bs, h, j + 1, b, hb => by
    simp only [chkH, Bool.and_eq_true] at h
    have := chkH_ok h.2 j b (by simpa using hb)
    rwa [show k + 1 + j = k + (j + 1) by omega] at this
theorem chkB_some {n0 : Nat} {π : Nm} {σ : Sb} {H : SH} {j id : Nat} {b : SB} (h : chkB n0 π σ H j b = true) (hid : π.at j = some id) : (n0 ≤ j ∨ id = j) ∧ ∃ b', H[id]? = some b' ∧ cmpSB π σ b b' = true := by
  cases b <;> simp only [chkB, hid, Bool.and_eq_true, Bool.or_eq_true, decide_eq_true_eq] at h <;> (refine ⟨h.1, ?_⟩; have h2 := h.2; split at h2 <;> first | (rename_i b' hb; exact ⟨b', hb, h2⟩) | cases h2)
theorem chkB_none {n0 : Nat} {π : Nm} {σ : Sb} {H : SH} {v : Val} {j : Nat} {b : SB} (h : chkB n0 π σ H j b = true) (hid : π.at j = none) : n0 ≤ j := by
  cases b <;> simp only [chkB, hid, Bool.and_eq_true, decide_eq_true_eq] at h <;> exact h.1
theorem chkB_void {n0 : Nat} {π : Nm} {σ : Sb} {H : SH} {v : Val} {j : Nat} {b : SB} (h : chkB n0 π σ H j b = true) (hid : π.at j = none) (hc : π.void.contains j = true) : ∃ z, db (σ.val v) b = .row false z [] ∨ db (σ.val v) b = .old false z [] := by
  cases b <;> simp only [chkB, hid, hc, Bool.and_eq_true, decide_eq_true_eq, Bool.not_true, Bool.false_or, Bool.not_eq_true', Bool.false_eq_true, and_false] at h
  · rename_i s z r
    obtain ⟨h1, rfl, h4⟩ := h
    refine ⟨z, .inl ?_⟩
    split at h4
    · have := cmpR_ok (v := v) h4
      simp only [db, dr, this]; rfl
    · rfl
    · cases h4
  · rename_i s z r
    obtain ⟨h1, rfl, h4⟩ := h
    refine ⟨z, .inr ?_⟩
    split at h4
    · have := cmpR_ok (v := v) h4
      simp only [db, dr, this]; rfl
    · rfl
    · cases h4
/-- What is known is no less than the pattern tells. -/
theorem chk_ok {N : Nat} {H0 : AHeap} {n0 : Nat} {π : Nm} {σ : Sb} {tm : Tmpl} {T : ST} {H : SH} {v : Val} (hn : n0 = H0.length) (h : chk n0 π σ tm T H = true) : Le N H0 (dT v T) (dH v H) (dT (σ.val v) tm.T) (dH (σ.val v) tm.H) := by
  rintro m0 w0 a w hM ⟨m, h1, h2, h3, h4⟩
  simp only [chk, Bool.and_eq_true, decide_eq_true_eq, List.all_eq_true] at h
  obtain ⟨⟨⟨⟨⟨hlen, hnd⟩, hold⟩, hvoid⟩, hT⟩, hH⟩ := h
  have hvn : ∀ j, π.void.contains j = true → π.at j = none := fun j hj => (hvoid j (by simpa using hj)).2
  have hlt : ∀ j k, π.at j = some k → j < tm.H.length := by
    intro j k hj
    have : ∀ {l : List (Nat × Nat)}, l.lookup j = some k → (j, k) ∈ l := by
      intro l
      induction l with
      | nil => intro h; cases h
      | cons p l ih =>
        intro h
        obtain ⟨c, d⟩ := p
        simp only [List.lookup_cons] at h
        cases hc : j == c with
        | true => rw [hc] at h; cases h; have : j = c := by simpa using hc
                  subst this; simp
        | false => rw [hc] at h; exact List.mem_cons_of_mem _ (ih h)
    exact hold _ (this hj)
  have hB : ∀ (j : Nat) (b : SB), tm.H[j]? = some b → chkB n0 π σ H j b = true := fun j b hb => by have := chkH_ok hH j b hb; simpa using this
  have hH' : ∀ (j : Nat) (b' : ABlk), (dH (σ.val v) tm.H)[j]? = some b' → ∃ b : SB, tm.H[j]? = some b ∧ b' = db (σ.val v) b := by
    intro j b' hb
    rw [dH_get] at hb
    cases hq : tm.H[j]? with
    | none => rw [hq] at hb; cases hb
    | some b => rw [hq] at hb; cases hb; exact ⟨b, rfl, rfl⟩
  have hid : ∀ j, j < H0.length → π.at j = some j := by
    intro j hj
    have hl : j < tm.H.length := by omega
    have := hB j _ (List.getElem?_eq_getElem hl)
    cases hp : π.at j with
    | none => have := chkB_none (v := v) this hp; omega
    | some id => rcases (chkB_some this hp).1 with g | g
                 · omega
                 · rw [g]
  refine ⟨mapN π (dH (σ.val v) tm.H) m, Run.norm h1 hM (by rw [dH_len]; omega) hid (fun i j k hi hj => nodup_inj hnd hi hj) (fun j k hj => by rw [dH_len]; exact hlt j k hj) (fun j hj => by rw [dH_len]; exact (hvoid j (by simpa using hj)).1) ?_ ?_, ?_, h3, h4⟩
  · intro j b' id hb hid'
    obtain ⟨b, hb2, rfl⟩ := hH' j b' hb
    obtain ⟨_, c, hc, hcmp⟩ := chkB_some (hB j b hb2) hid'
    rcases cmpSB_ok (v := v) (m := m) (H' := dH (σ.val v) tm.H) hvn hcmp with g | ⟨g1, g2, g3⟩
    · exact .inl g
    · exact .inr ⟨db v c, dH_get' (H := H) hc, g1, g2, g3⟩
  · intro j b' hb hn' hc
    obtain ⟨b, hb2, rfl⟩ := hH' j b' hb
    exact chkB_void (v := v) (hB j b hb2) hn' hc
  · intro t x hx
    rw [dT_lookup] at hx
    cases hq : tm.T.lookup t with
    | none => rw [hq] at hx; cases hx
    | some y =>
      rw [hq] at hx
      cases hx
      obtain ⟨z, hz, hcmp⟩ := chkT_ok hT t y hq
      obtain ⟨g1, g2⟩ := h2 t (dv v z) (by rw [dT_lookup, hz]; rfl)
      exact ⟨g1, cmpSV_ok hvn hcmp g2⟩
end Go.Proofs.Ytckbckijpdnlaaa.Sy
