/- Texts and their signs, plainly: lists of bytes. A lemma file: it claims nothing of the program. -/
import Derived.Lib.ValidLaws
import Derived.Lib.MapLaws
import Derived.Lib.TrimUEq
set_option linter.unusedVariables false
set_option linter.unusedSimpArgs false
namespace Go.Proofs.YtpgkbdkkcladcaaDoor.Tx
open Go Go.Lib
abbrev Bs : Type := List UInt8
def bad (l : Bs) : Prop := (decodeL l).1 = 65533 ∧ (decodeL l).2 = 1
instance (l : Bs) : Decidable (bad l) := inferInstanceAs (Decidable (_ ∧ _))
def sgn : Nat → Bs → List Bs
  | 0, _ => []
  | n + 1, l => if l = [] then [] else l.take (decodeL l).2 :: sgn n (l.drop (decodeL l).2)
/-- A text's signs. -/
def sg (l : Bs) : List Bs := sgn l.length l
theorem sgn_nil (n : Nat) : sgn n [] = [] := by cases n <;> simp [sgn]
theorem sgn_fuel : ∀ (n m : Nat) (l : Bs), l.length ≤ n → l.length ≤ m → sgn n l = sgn m l
  | 0, m, l, h, _ => by
    have : l = [] := List.length_eq_zero_iff.1 (by omega)
    subst this; rw [sgn_nil, sgn_nil]
  | n + 1, 0, l, _, h => by
    have : l = [] := List.length_eq_zero_iff.1 (by omega)
    subst this; rw [sgn_nil, sgn_nil]
  | n + 1, m + 1, l, h1, h2 => by
    unfold sgn
    by_cases hl : l = []
    · rw [if_pos hl, if_pos hl]
    · rw [if_neg hl, if_neg hl]
      have hw := decodeL_width l
      have h3 : 0 < l.length := List.length_pos_iff.2 hl
      rw [sgn_fuel n m _ (by rw [List.length_drop]; omega) (by rw [List.length_drop]; omega)]
theorem sg_nil : sg [] = [] := rfl
theorem sg_cons {l : Bs} (h : l ≠ []) : sg l = l.take (decodeL l).2 :: sg (l.drop (decodeL l).2) := by
  have h3 : 0 < l.length := List.length_pos_iff.2 h
  have hw := decodeL_width l
  unfold sg
  obtain ⟨n, hn⟩ : ∃ n, l.length = n + 1 := ⟨l.length - 1, by omega⟩
  rw [hn]
  conv => lhs; unfold sgn
  rw [if_neg h, sgn_fuel n (l.drop (decodeL l).2).length _ (by rw [List.length_drop]; omega) (Nat.le_refl _)]
/-- Along a text, sign by sign. -/
theorem ind {P : Bs → Prop} (h0 : P []) (h1 : ∀ l, l ≠ [] → P (l.drop (decodeL l).2) → P l) : ∀ l, P l := by
  intro l
  generalize hn : l.length = n
  induction n using Nat.strongRecOn generalizing l with
  | _ n ih =>
    by_cases hl : l = []
    · rw [hl]; exact h0
    · have hw := decodeL_width l
      have h3 : 0 < l.length := List.length_pos_iff.2 hl
      exact h1 l hl (ih (l.drop (decodeL l).2).length (by rw [List.length_drop]; omega) _ rfl)
theorem sg_flat : ∀ l : Bs, (sg l).flatten = l := by
  intro l
  induction l using ind with
  | h0 => rfl
  | h1 l hl ih => rw [sg_cons hl, List.flatten_cons, ih, List.take_append_drop]
structure Sg (x : Bs) : Prop where
  ne : x ≠ []
  w : (decodeL x).2 = x.length
  ok : ¬ bad x
set_option maxHeartbeats 4000000 in
theorem dN_grow {n m a b c d b' c' d' : Nat} (h1 : (decodeN n a b c d).2 ≤ n) (h2 : (decodeN n a b c d).2 ≤ m) (hn : 1 ≤ n) (hm : 1 ≤ m) (hok : ¬ ((decodeN n a b c d).1 = 65533 ∧ (decodeN n a b c d).2 = 1))
    (hb : 1 < (decodeN n a b c d).2 → b' = b) (hc : 2 < (decodeN n a b c d).2 → c' = c) (hd : 3 < (decodeN n a b c d).2 → d' = d) : decodeN m a b' c' d' = decodeN n a b c d := by
  unfold decodeN at h1 h2 hok hb hc hd ⊢
  by_cases e1 : a < 128
  · simp only [e1, if_true]
  · simp only [e1, if_false] at h1 h2 hok hb hc hd ⊢
    by_cases e2 : a / 32 = 6 ∧ (1 < n ∧ b / 64 = 2)
    · rw [if_pos e2] at h1 h2 hok hb hc hd ⊢
      split at hok
      · rename_i g
        rw [if_pos g] at h1 h2 hb ⊢
        have e := hb (by simp)
        subst e
        rw [if_pos ⟨e2.1, by simp at h2; omega, e2.2.2⟩, if_pos g]
      · exact absurd ⟨rfl, rfl⟩ hok
    · rw [if_neg e2] at h1 h2 hok hb hc hd ⊢
      by_cases e3 : a / 16 = 14 ∧ (1 < n ∧ b / 64 = 2) ∧ (2 < n ∧ c / 64 = 2)
      · rw [if_pos e3] at h1 h2 hok hb hc hd ⊢
        split at hok
        · rename_i g
          rw [if_pos g] at h1 h2 hb hc ⊢
          have eb := hb (by simp)
          have ec := hc (by simp)
          subst eb ec
          rw [if_neg (by omega), if_pos ⟨e3.1, ⟨by simp at h2; omega, e3.2.1.2⟩, by simp at h2; omega, e3.2.2.2⟩, if_pos g]
        · exact absurd ⟨rfl, rfl⟩ hok
      · rw [if_neg e3] at h1 h2 hok hb hc hd ⊢
        by_cases e4 : a / 8 = 30 ∧ (1 < n ∧ b / 64 = 2) ∧ (2 < n ∧ c / 64 = 2) ∧ (3 < n ∧ d / 64 = 2)
        · rw [if_pos e4] at h1 h2 hok hb hc hd ⊢
          split at hok
          · rename_i g
            rw [if_pos g] at h1 h2 hb hc hd ⊢
            have eb := hb (by simp)
            have ec := hc (by simp)
            have ed := hd (by simp)
            subst eb ec ed
            rw [if_neg (by omega), if_neg (by omega), if_pos ⟨e4.1, ⟨by simp at h2; omega, e4.2.1.2⟩, ⟨by simp at h2; omega, e4.2.2.1.2⟩, by simp at h2; omega, e4.2.2.2.2⟩, if_pos g]
          · exact absurd ⟨rfl, rfl⟩ hok
        · rw [if_neg e4] at hok
          exact absurd ⟨rfl, rfl⟩ hok
theorem dec_app {x : Bs} (h : Sg x) (t : Bs) : decodeL (x ++ t) = decodeL x := by
  have hp : 0 < x.length := List.length_pos_iff.2 h.ne
  have hw := h.w
  have hok := h.ok
  unfold bad at hok
  rw [decodeL_N] at hw hok
  rw [decodeL_N x, decodeL_N (x ++ t)]
  have g : ∀ k, k < x.length → (x ++ t).getD k 0 = x.getD k 0 := fun k hk => by
    rw [List.getD_eq_getElem?_getD, List.getD_eq_getElem?_getD, List.getElem?_append_left hk]
  rw [g 0 hp]
  refine dN_grow (by omega) (by rw [List.length_append]; omega) hp (by rw [List.length_append]; omega) hok (fun q => by rw [g 1 (by omega)]) (fun q => by rw [g 2 (by omega)]) (fun q => by rw [g 3 (by omega)])
theorem Sg.of {l : Bs} (hne : l ≠ []) (hv : ¬ bad l) : Sg (l.take (decodeL l).2) := by
  have hle := decodeL_le l hne
  have hw := decodeL_width l
  have hp : 0 < l.length := List.length_pos_iff.2 hne
  have hl : (l.take (decodeL l).2).length = (decodeL l).2 := by rw [List.length_take]; omega
  have e : decodeL (l.take (decodeL l).2) = decodeL l := by
    rw [decodeL_N (l.take (decodeL l).2), hl]
    have g : ∀ k, k < (decodeL l).2 → (l.take (decodeL l).2).getD k 0 = l.getD k 0 := fun k hk => by
      rw [List.getD_eq_getElem?_getD, List.getD_eq_getElem?_getD, List.getElem?_take_of_lt hk]
    rw [g 0 hw]
    unfold bad at hv
    generalize hW : (decodeL l).2 = W at *
    rw [decodeL_N] at hW hv ⊢
    subst hW
    exact dN_grow hle (Nat.le_refl _) hp hw hv (fun q => by rw [g 1 q]) (fun q => by rw [g 2 q]) (fun q => by rw [g 3 q])
  refine ⟨fun h => ?_, by rw [e, hl], by unfold bad; rw [e]; exact hv⟩
  rw [h] at hl
  simp at hl
  omega
theorem sg_app {x : Bs} (h : Sg x) (t : Bs) : sg (x ++ t) = x :: sg t := by
  rw [sg_cons (by simp [h.ne]), dec_app h, h.w, List.take_left, List.drop_left]
theorem valid_app {x : Bs} (h : Sg x) (t : Bs) : validD (x ++ t) = validD t := by
  rw [validD_step _ (by simp [h.ne]), dec_app h, if_neg (show ¬ ((decodeL x).1 = 65533 ∧ (decodeL x).2 = 1) from h.ok), h.w, List.drop_left]
theorem sg_join : ∀ {L : List Bs}, (∀ x ∈ L, Sg x) → ∀ t, sg (L.flatten ++ t) = L ++ sg t
  | [], _, t => rfl
  | x :: L, h, t => by
    rw [List.flatten_cons, List.append_assoc, sg_app (h x (List.mem_cons_self ..)), sg_join (fun y hy => h y (List.mem_cons_of_mem _ hy)), List.cons_append]
theorem valid_join : ∀ {L : List Bs}, (∀ x ∈ L, Sg x) → ∀ t, validD (L.flatten ++ t) = validD t
  | [], _, t => rfl
  | x :: L, h, t => by
    rw [List.flatten_cons, List.append_assoc, valid_app (h x (List.mem_cons_self ..)), valid_join fun y hy => h y (List.mem_cons_of_mem _ hy)]
theorem sg_flat' {L : List Bs} (h : ∀ x ∈ L, Sg x) : sg L.flatten = L := by
  have := sg_join h []
  rwa [List.append_nil, sg_nil, List.append_nil] at this
theorem valid_flat {L : List Bs} (h : ∀ x ∈ L, Sg x) : validD L.flatten = true := by
  have := valid_join h []
  rw [List.append_nil] at this
  rw [this]; rfl
theorem valid_all : ∀ l : Bs, validD l = true → ∀ x ∈ sg l, Sg x := by
  intro l
  induction l using ind with
  | h0 => intro _ x hx; cases hx
  | h1 l hl ih =>
    intro hv x hx
    rw [validD_step l hl] at hv
    split at hv
    · cases hv
    · rename_i hb
      rw [sg_cons hl] at hx
      rcases List.mem_cons.1 hx with rfl | hx
      · exact .of hl hb
      · exact ih hv x hx
/-- Two texts of signs side by side. -/
theorem sg_cat {a : Bs} (ha : validD a = true) (b : Bs) : sg (a ++ b) = sg a ++ sg b := by
  have := sg_join (valid_all a ha) b
  rwa [sg_flat] at this
theorem valid_cat {a : Bs} (ha : validD a = true) (b : Bs) : validD (a ++ b) = validD b := by
  have := valid_join (valid_all a ha) b
  rwa [sg_flat] at this
theorem sg_len : ∀ l : Bs, (sg l).length ≤ l.length := by
  intro l
  induction l using ind with
  | h0 => simp [sg_nil]
  | h1 l hl ih =>
    have hw := decodeL_width l
    have hp : 0 < l.length := List.length_pos_iff.2 hl
    rw [sg_cons hl, List.length_cons]
    rw [List.length_drop] at ih
    omega
theorem dN_cont {n a b c d : Nat} (hok : ¬ ((decodeN n a b c d).1 = 65533 ∧ (decodeN n a b c d).2 = 1)) :
    (1 < (decodeN n a b c d).2 → b / 64 = 2) ∧ (2 < (decodeN n a b c d).2 → c / 64 = 2) ∧ (3 < (decodeN n a b c d).2 → d / 64 = 2) := by
  unfold decodeN at hok ⊢
  split
  · exact ⟨fun h => by simp at h, fun h => by simp at h, fun h => by simp at h⟩
  · split
    · rename_i h
      split
      · exact ⟨fun _ => h.2.2, fun h => by simp at h, fun h => by simp at h⟩
      · exact ⟨fun h => by simp at h, fun h => by simp at h, fun h => by simp at h⟩
    · split
      · rename_i h
        split
        · exact ⟨fun _ => h.2.1.2, fun _ => h.2.2.2, fun h => by simp at h⟩
        · exact ⟨fun h => by simp at h, fun h => by simp at h, fun h => by simp at h⟩
      · split
        · rename_i h
          split
          · exact ⟨fun _ => h.2.1.2, fun _ => h.2.2.1.2, fun _ => h.2.2.2.2⟩
          · exact ⟨fun h => by simp at h, fun h => by simp at h, fun h => by simp at h⟩
        · exact ⟨fun h => by simp at h, fun h => by simp at h, fun h => by simp at h⟩
/-- A sign of one byte parts a text. -/
theorem first_in {x t : Bs} (hx : x ≠ []) (hb : ¬ bad (x ++ 124 :: t)) : (decodeL (x ++ 124 :: t)).2 ≤ x.length := by
  rcases Nat.lt_or_ge x.length (decodeL (x ++ 124 :: t)).2 with h | h
  · exfalso
    unfold bad at hb
    rw [decodeL_N] at hb h
    obtain ⟨c1, c2, c3⟩ := dN_cont hb
    have hp : 0 < x.length := List.length_pos_iff.2 hx
    have g : (x ++ 124 :: t).getD x.length 0 = 124 := by rw [List.getD_eq_getElem?_getD, List.getElem?_append_right (Nat.le_refl _), Nat.sub_self]; rfl
    have hw4 : (decodeN (x ++ 124 :: t).length ((x ++ 124 :: t).getD 0 0).toNat ((x ++ 124 :: t).getD 1 0).toNat ((x ++ 124 :: t).getD 2 0).toNat ((x ++ 124 :: t).getD 3 0).toNat).2 ≤ 4 := by
      unfold decodeN
      repeat' split
      all_goals simp
    obtain h1 | h1 | h1 : x.length = 1 ∨ x.length = 2 ∨ x.length = 3 := by omega
    · rw [h1] at g h
      have := c1 h
      rw [g] at this
      exact absurd this (by decide)
    · rw [h1] at g h
      have := c2 h
      rw [g] at this
      exact absurd this (by decide)
    · rw [h1] at g h
      have := c3 h
      rw [g] at this
      exact absurd this (by decide)
  · exact h
theorem sg_bar : Sg [124] := ⟨by decide, by decide, by decide⟩
theorem valid_bar : ∀ (x t : Bs), validD (x ++ 124 :: t) = (validD x && validD t) := by
  intro x
  induction x using ind with
  | h0 => intro t; exact (valid_app sg_bar t).trans (by rw [validD_nil, Bool.true_and])
  | h1 x hx ih =>
    intro t
    by_cases hb : bad (x ++ 124 :: t)
    · have hv : validD (x ++ 124 :: t) = false := by rw [validD_step _ (by simp), if_pos (show (decodeL (x ++ 124 :: t)).1 = 65533 ∧ (decodeL (x ++ 124 :: t)).2 = 1 from hb)]
      rw [hv]
      have : bad x := by
        by_cases hbx : bad x
        · exact hbx
        · exfalso
          have hs := Sg.of hx hbx
          have e : decodeL (x.take (decodeL x).2 ++ (x.drop (decodeL x).2 ++ 124 :: t)) = decodeL (x.take (decodeL x).2) := dec_app hs _
          rw [← List.append_assoc, List.take_append_drop] at e
          have := hs.ok
          unfold bad at this hb
          rw [← e] at this
          exact this hb
      rw [validD_step x hx, if_pos (show (decodeL x).1 = 65533 ∧ (decodeL x).2 = 1 from this), Bool.false_and]
    · have hw := first_in hx hb
      have hs := Sg.of (l := x ++ 124 :: t) (by simp) hb
      rw [List.take_append_of_le_length hw] at hs
      have e : decodeL (x.take (decodeL (x ++ 124 :: t)).2 ++ x.drop (decodeL (x ++ 124 :: t)).2) = decodeL (x.take (decodeL (x ++ 124 :: t)).2) := dec_app hs _
      have e2 : decodeL (x.take (decodeL (x ++ 124 :: t)).2 ++ (x.drop (decodeL (x ++ 124 :: t)).2 ++ 124 :: t)) = decodeL (x.take (decodeL (x ++ 124 :: t)).2) := dec_app hs _
      rw [List.take_append_drop] at e
      rw [← List.append_assoc, List.take_append_drop] at e2
      have e3 : decodeL x = decodeL (x ++ 124 :: t) := e.trans e2.symm
      have hbx : ¬ bad x := by unfold bad at hb ⊢; rw [e3]; exact hb
      have hv1 := validD_step _ (show x ++ 124 :: t ≠ [] by simp)
      rw [if_neg (show ¬ ((decodeL (x ++ 124 :: t)).1 = 65533 ∧ (decodeL (x ++ 124 :: t)).2 = 1) from hb), ← e3, List.drop_append_of_le_length (by rw [e3]; exact hw)] at hv1
      rw [hv1, ih t, validD_step x hx, if_neg (show ¬ ((decodeL x).1 = 65533 ∧ (decodeL x).2 = 1) from hbx)]
/-- Where a sign begins. -/
def off (l : Bs) (k : Nat) : Nat := ((sg l).take k).flatten.length
theorem take_off (l : Bs) (k : Nat) : l.take (off l k) = ((sg l).take k).flatten := by
  have h : l = ((sg l).take k).flatten ++ ((sg l).drop k).flatten := by rw [← List.flatten_append, List.take_append_drop, sg_flat]
  have e : off l k = ((sg l).take k).flatten.length := rfl
  rw [e]
  generalize ((sg l).take k).flatten = A at h ⊢
  rw [h, List.take_left]
theorem drop_off (l : Bs) (k : Nat) : l.drop (off l k) = ((sg l).drop k).flatten := by
  have h : l = ((sg l).take k).flatten ++ ((sg l).drop k).flatten := by rw [← List.flatten_append, List.take_append_drop, sg_flat]
  have e : off l k = ((sg l).take k).flatten.length := rfl
  rw [e]
  generalize ((sg l).take k).flatten = A at h ⊢
  generalize ((sg l).drop k).flatten = B at h ⊢
  rw [h, List.drop_left]
theorem off_le (l : Bs) (k : Nat) : off l k ≤ l.length := by
  have h : l = ((sg l).take k).flatten ++ ((sg l).drop k).flatten := by rw [← List.flatten_append, List.take_append_drop, sg_flat]
  unfold off
  conv => rhs; rw [h]
  rw [List.length_append]; omega
theorem off_zero (l : Bs) : off l 0 = 0 := by simp [off]
theorem off_all (l : Bs) : off l (sg l).length = l.length := by
  unfold off; rw [List.take_length, sg_flat]
/-- Along a text: behind n signs. -/
structure At (l : Bs) (n pos : Nat) : Prop where
  le : n ≤ (sg l).length
  po : pos = off l n
  re : sg (l.drop pos) = (sg l).drop n
theorem At.zero (l : Bs) : At l 0 0 := ⟨Nat.zero_le _, (off_zero l).symm, by simp⟩
theorem At.more {l : Bs} {n pos : Nat} (h : At l n pos) (hp : pos < l.length) : n < (sg l).length ∧ At l (n + 1) (pos + (decodeL (l.drop pos)).2) := by
  have hne : l.drop pos ≠ [] := fun e => by have := congrArg List.length e; rw [List.length_drop] at this; simp at this; omega
  have h1 := h.re
  rw [sg_cons hne] at h1
  have hn : n < (sg l).length := by
    have := congrArg List.length h1
    rw [List.length_cons, List.length_drop] at this
    omega
  rw [List.drop_eq_getElem_cons hn, List.cons.injEq] at h1
  have hle := decodeL_le _ hne
  have ho : off l (n + 1) = off l n + (decodeL (l.drop pos)).2 := by
    unfold off
    rw [List.take_add_one, List.getElem?_eq_getElem hn, Option.toList_some, List.flatten_append, List.length_append]
    congr 1
    rw [← h1.1]
    simp only [List.flatten_cons, List.flatten_nil, List.append_nil, List.length_take]
    omega
  exact ⟨hn, ⟨hn, by rw [ho, h.po], by rw [← List.drop_drop, h1.2]⟩⟩
theorem At.done {l : Bs} {n pos : Nat} (h : At l n pos) (hp : ¬ pos < l.length) : n = (sg l).length := by
  have h1 := h.re
  rw [List.drop_of_length_le (by omega), sg_nil] at h1
  have := congrArg List.length h1
  rw [List.length_drop] at this
  have := h.le
  simp at *
  omega
theorem part_len (l : Bs) (a b : Nat) : (((sg l).drop a).take b).flatten.length ≤ l.length := by
  have h : sg l = (sg l).take a ++ (((sg l).drop a).take b ++ ((sg l).drop a).drop b) := by rw [List.take_append_drop, List.take_append_drop]
  have e := congrArg List.length (sg_flat l)
  rw [h] at e
  simp only [List.flatten_append, List.length_append] at e
  omega
theorem mem_take {L : List Bs} (h : ∀ x ∈ L, Sg x) (k : Nat) : ∀ x ∈ L.take k, Sg x := fun x hx => h x (List.mem_of_mem_take hx)
theorem mem_drop {L : List Bs} (h : ∀ x ∈ L, Sg x) (k : Nat) : ∀ x ∈ L.drop k, Sg x := fun x hx => h x (List.mem_of_mem_drop hx)
end Go.Proofs.YtpgkbdkkcladcaaDoor.Tx
