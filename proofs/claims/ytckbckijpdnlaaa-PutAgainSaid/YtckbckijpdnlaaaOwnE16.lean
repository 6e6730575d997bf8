/- The engine, part 16: functions that turn blocks and make new ones, told under names in order. A lemma file: it claims nothing of the program. -/
import Derived.Test.YtckbckijpdnlaaaOwnE15
set_option linter.unusedVariables false
set_option linter.unusedSimpArgs false
namespace Go.Proofs.Ytckbckijpdnlaaa.Eng
open Go Go.Lib

/-- Old names stay; the new ones are counted anew. -/
def renL (L : Nat) (ns : List Nat) : Nat → Nat := fun j => if j < L then j else L + ns.getD (j - L) 0
theorem renL_old {L : Nat} {ns : List Nat} {j : Nat} (h : j < L) : renL L ns j = j := by simp [renL, h]
theorem renL_new (L : Nat) (ns : List Nat) (q : Nat) : renL L ns (L + q) = L + ns.getD q 0 := by unfold renL; rw [if_neg (by omega), Nat.add_sub_cancel_left]
theorem renL_new0 (L : Nat) (ns : List Nat) : renL L ns L = L + ns.getD 0 0 := by simp [renL]
/-- A block told by another: no more than it is. -/
def Gd (π : Nat → Nat) (n : Nat) (b b' : ABlk) : Prop := b' = .dead ∨ ((b'.own = true → b.own = true) ∧ (b'.live = true → b.live = true) ∧ BT π n b b')
theorem Gd.dead {π : Nat → Nat} {n : Nat} {b : ABlk} : Gd π n b .dead := .inl rfl
theorem Gd.cells {π : Nat → Nat} {n : Nat} {vs vs' : List Value} (h : LT π n vs vs') : Gd π n (.cells vs) (.cells vs') := .inr ⟨id, id, .cells h⟩
theorem Gd.rowS {π : Nat → Nat} {n : Nat} {s : Bool} {z : Nat} {els : List (List Value)} (h : ∀ c ∈ els, ∀ v ∈ c, scal v = true) : Gd π n (.row s z els) (.row s z els) := .inr ⟨id, id, .rowS h⟩
/-- Blocks that were turned: as they are, and as they are told. -/
abbrev Chs := List (Nat × ABlk × ABlk)
def setsA : Chs → AHeap → AHeap
  | [], H => H
  | (id, b, _) :: r, H => setsA r (H.set id b)
def setsB : Chs → AHeap → AHeap
  | [], H => H
  | (id, _, b) :: r, H => setsB r (H.set id b)
def ChOk (π : Nat → Nat) (n : Nat) : Chs → Prop
  | [] => True
  | (_, b, b') :: r => Gd π n b b' ∧ ChOk π n r
def NewOk (π : Nat → Nat) (n : Nat) (X : AHeap) : List Nat → AHeap → Prop
  | [], [] => True
  | k :: ks, b' :: bs => (∃ b, X[k]? = some b ∧ Gd π n b b') ∧ NewOk π n X ks bs
  | _, _ => False
theorem setsA_len : ∀ (ch : Chs) (H : AHeap), (setsA ch H).length = H.length
  | [], _ => rfl
  | (id, b, b') :: r, H => by simp [setsA, setsA_len r]
theorem setsB_len : ∀ (ch : Chs) (H : AHeap), (setsB ch H).length = H.length
  | [], _ => rfl
  | (id, b, b') :: r, H => by simp [setsB, setsB_len r]
theorem sets_ok {π : Nat → Nat} {n : Nat} {H0 : AHeap} : ∀ {ch : Chs} {HA HB : AHeap}, ChOk π n ch → HA.length = HB.length → (∀ (j : Nat) (b' : ABlk), HB[j]? = some b' → (H0[j]? = some b' ∧ HA[j]? = some b') ∨ ∃ b, HA[j]? = some b ∧ Gd π n b b') →
    ∀ (j : Nat) (b' : ABlk), (setsB ch HB)[j]? = some b' → (H0[j]? = some b' ∧ (setsA ch HA)[j]? = some b') ∨ ∃ b, (setsA ch HA)[j]? = some b ∧ Gd π n b b'
  | [], _, _, _, _, h => h
  | (id, b, b1) :: r, HA, HB, hc, hl, h => by
    refine sets_ok (ch := r) (HA := HA.set id b) (HB := HB.set id b1) hc.2 (by simpa using hl) fun j b' hj => ?_
    have hjl : j < HB.length := by have := (List.getElem?_eq_some_iff.1 hj).1; simpa using this
    by_cases e : id = j
    · subst e
      rw [List.getElem?_set_self hjl] at hj
      cases hj
      exact .inr ⟨b, List.getElem?_set_self (by omega), hc.1⟩
    · rw [List.getElem?_set_ne e] at hj
      rw [List.getElem?_set_ne e]
      exact h j b' hj
theorem NewOk.len {π : Nat → Nat} {n : Nat} {X : AHeap} : ∀ {ns : List Nat} {Y : AHeap}, NewOk π n X ns Y → ns.length = Y.length
  | [], [], _ => rfl
  | k :: ks, b :: bs, h => by simp [NewOk.len h.2]
  | [], _ :: _, h => h.elim
  | _ :: _, [], h => h.elim
theorem NewOk.get {π : Nat → Nat} {n : Nat} {X : AHeap} : ∀ {ns : List Nat} {Y : AHeap}, NewOk π n X ns Y → ∀ (q : Nat) (b' : ABlk), Y[q]? = some b' → ∃ b, X[ns.getD q 0]? = some b ∧ Gd π n b b'
  | [], [], _, q, b', h => by simp at h
  | k :: ks, b :: bs, h, 0, b', hq => by simp at hq; subst hq; simpa using h.1
  | k :: ks, b :: bs, h, q + 1, b', hq => by simpa using NewOk.get h.2 q b' (by simpa using hq)
  | [], _ :: _, h, _, _, _ => h.elim
  | _ :: _, [], h, _, _, _ => h.elim
/-- A function that turned blocks and made new ones. -/
theorem Ren.gen {H0 X Y : AHeap} {u v : Value} (ch : Chs) (ns : List Nat) (hnd : ns.Nodup) (hch : ChOk (renL H0.length ns) (H0.length + Y.length) ch) (hnew : NewOk (renL H0.length ns) (H0.length + Y.length) X ns Y)
    (hv : VT (renL H0.length ns) (H0.length + Y.length) u v) : Ren H0 (setsA ch H0 ++ X) u (setsB ch H0 ++ Y) v := by
  have hlen : (setsB ch H0 ++ Y).length = H0.length + Y.length := by simp [setsB_len]
  have hnl := hnew.len
  refine ⟨renL H0.length ns, by omega, fun j hj => renL_old hj, fun i j hi hj he => ?_, fun j b' hj => ?_, by rw [hlen]; exact hv⟩
  · rw [hlen, ← hnl] at hi hj
    rcases Nat.lt_or_ge i H0.length with h1 | h1 <;> rcases Nat.lt_or_ge j H0.length with h2 | h2
    · rwa [renL_old h1, renL_old h2] at he
    · rw [renL_old h1] at he
      unfold renL at he
      rw [if_neg (by omega)] at he
      omega
    · rw [renL_old h2] at he
      unfold renL at he
      rw [if_neg (by omega)] at he
      omega
    · unfold renL at he
      rw [if_neg (by omega), if_neg (by omega)] at he
      have l1 : i - H0.length < ns.length := by omega
      have l2 : j - H0.length < ns.length := by omega
      have he : ns[i - H0.length] = ns[j - H0.length] := by
        have := Nat.add_left_cancel he
        simpa [List.getD_eq_getElem?_getD, l1, l2] using this
      have hp := List.pairwise_iff_getElem.1 hnd
      rcases Nat.lt_trichotomy (i - H0.length) (j - H0.length) with g | g | g
      · exact absurd he (hp _ _ l1 l2 g)
      · omega
      · exact absurd he.symm (hp _ _ l2 l1 g)
  · rw [hlen]
    rcases Nat.lt_or_ge j H0.length with h1 | h1
    · rw [List.getElem?_append_left (by rw [setsB_len]; exact h1)] at hj
      have := sets_ok (H0 := H0) hch rfl (fun j b' h => .inl ⟨h, h⟩) j b' hj
      rw [renL_old h1, List.getElem?_append_left (by rw [setsA_len]; exact h1)]
      rcases this with ⟨g1, g2⟩ | ⟨b, g1, g2⟩
      · exact .inr (.inl ⟨h1, g1, g2⟩)
      · rcases g2 with g2 | ⟨g2, g3, g4⟩
        · exact .inl g2
        · exact .inr (.inr ⟨b, g1, g2, g3, g4⟩)
    · rw [List.getElem?_append_right (by rw [setsB_len]; exact h1), setsB_len] at hj
      obtain ⟨b, g1, g2⟩ := hnew.get _ _ hj
      rcases g2 with g2 | ⟨g2, g3, g4⟩
      · exact .inl g2
      · refine .inr (.inr ⟨b, ?_, g2, g3, g4⟩)
        unfold renL
        rw [if_neg (by omega), List.getElem?_append_right (by rw [setsA_len]; omega), setsA_len, Nat.add_sub_cancel_left]
        exact g1
theorem Ren.gen0 {H0 : AHeap} {u v : Value} (ch : Chs) (hch : ChOk (renL H0.length []) H0.length ch) (hv : VT (renL H0.length []) H0.length u v) : Ren H0 (setsA ch H0) u (setsB ch H0) v := by
  have := Ren.gen (X := []) (Y := []) ch [] List.nodup_nil (by simpa using hch) trivial (by simpa using hv)
  simpa using this
theorem setsB_ne : ∀ {ch : Chs} {H : AHeap} {id : Nat}, (∀ c ∈ ch, c.1 ≠ id) → (setsB ch H)[id]? = H[id]?
  | [], _, _, _ => rfl
  | (k, b, b') :: r, H, id, h => by
    have := setsB_ne (ch := r) (H := H.set k b') (id := id) fun c hc => h c (by simp [hc])
    rw [setsB, this, List.getElem?_set_ne (h (k, b, b') (by simp))]
theorem setsB_same : ∀ {ch : Chs} {HA HB : AHeap} {id : Nat}, HA.length = HB.length → HA[id]? = HB[id]? → (setsB ch HA)[id]? = (setsB ch HB)[id]?
  | [], _, _, _, _, h => h
  | (k, b, b') :: r, HA, HB, id, hl, h => by
    refine setsB_same (ch := r) (by simpa using hl) ?_
    by_cases e : k = id
    · subst e
      rcases Nat.lt_or_ge k HA.length with g | g
      · rw [List.getElem?_set_self g, List.getElem?_set_self (by omega)]
      · rw [List.getElem?_eq_none (by simpa using g), List.getElem?_eq_none (by simp; omega)]
    · rw [List.getElem?_set_ne e, List.getElem?_set_ne e, h]
/-- What was put aside stays where it was: blocks turned of those that the call was handed. -/
theorem join_sets {R : List Nat} {H Hr Y : AHeap} (hl : Hr.length = H.length) (hR : ∀ id, R.contains id = true → Hr[id]? = H[id]?) (ch : Chs) (hc : ∀ c ∈ ch, R.contains c.1 = true) : join R 0 H (setsB ch Hr ++ Y) = setsB ch H ++ Y := by
  apply List.ext_getElem?
  intro id
  rw [join_get R 0 H _ (by simp [setsB_len, hl])]
  rw [Nat.zero_add]
  by_cases h : id < H.length ∧ R.contains id = false
  · rw [if_pos h, List.getElem?_append_left (by rw [setsB_len]; exact h.1), setsB_ne]
    intro c hcm e
    have := hc c hcm
    rw [e, h.2] at this
    cases this
  · rw [if_neg h]
    rcases Nat.lt_or_ge id H.length with g | g
    · have hr : R.contains id = true := by
        cases e : R.contains id with
        | true => rfl
        | false => exact absurd ⟨g, e⟩ h
      rw [List.getElem?_append_left (by rw [setsB_len]; omega), List.getElem?_append_left (by rw [setsB_len]; exact g)]
      exact setsB_same hl (hR id hr)
    · rw [List.getElem?_append_right (by rw [setsB_len]; omega), List.getElem?_append_right (by rw [setsB_len]; exact g), setsB_len, setsB_len, hl]
theorem join_same {R : List Nat} {H Hr : AHeap} (hl : Hr.length = H.length) (hR : ∀ id, R.contains id = true → Hr[id]? = H[id]?) : join R 0 H Hr = H := by
  have := join_sets (Y := []) hl hR [] (by simp)
  simpa [setsB] using this
end Go.Proofs.Ytckbckijpdnlaaa.Eng
