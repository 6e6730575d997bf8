/- Objects in memory, apart from each other: what holds of the heap's blocks that a call has made. A lemma file: it claims nothing of the program. -/
import Derived.Test.YtlimmmnpcomfjaaWMore
import Derived.Test.YtlimmmnpcomfjaaWNEv
import Derived.Test.YtlimmmnpcomfjaaWKept
import Derived.Deep.Draws
set_option linter.unusedVariables false
namespace Go.Proofs.Ytlimmmnpcomfjaa.Sep
open Go.RowKit Go.Proofs.YtlimmmnpcomfjaaW.PrintWords Go.Proofs.YtlimmmnpcomfjaaW.PrintLast Go.Proofs.YtlimmmnpcomfjaaW.PrintMore

structure HObj where
  at_ : World → (Nat → Prop) → Prop
  loc : ∀ {w w' : World} {S : Nat → Prop}, (∀ k, S k → w'.heap[k]? = w.heap[k]?) → at_ w S → at_ w' S
  low : ∀ {w : World} {S : Nat → Prop}, at_ w S → ∀ k, S k → k < w.heap.size

def SepL : List HObj → World → (Nat → Prop) → Prop
  | [], _, S => ∀ k, ¬ S k
  | o :: os, w, S => ∃ S1 S2 : Nat → Prop, (∀ k, S k ↔ (S1 k ∨ S2 k)) ∧ (∀ k, S1 k → S2 k → False) ∧ o.at_ w S1 ∧ SepL os w S2

theorem SepL.loc : ∀ {os : List HObj} {w w' : World} {S : Nat → Prop}, (∀ k, S k → w'.heap[k]? = w.heap[k]?) → SepL os w S → SepL os w' S
  | [], _, _, _, _, h => h
  | o :: os, _, _, _, hk, ⟨S1, S2, hS, hd, h1, h2⟩ =>
    ⟨S1, S2, hS, hd, o.loc (fun k h => hk k ((hS k).2 (.inl h))) h1, SepL.loc (fun k h => hk k ((hS k).2 (.inr h))) h2⟩
theorem SepL.low : ∀ {os : List HObj} {w : World} {S : Nat → Prop}, SepL os w S → ∀ k, S k → k < w.heap.size
  | [], _, _, h, k, hk => (h k hk).elim
  | o :: _, _, _, ⟨_, _, hS, _, h1, h2⟩, k, hk => ((hS k).1 hk).elim (o.low h1 k) (SepL.low h2 k)
theorem SepL.swap {a b : HObj} {os : List HObj} {w : World} {S : Nat → Prop} (h : SepL (a :: b :: os) w S) : SepL (b :: a :: os) w S := by
  obtain ⟨S1, S2, hS, hd, h1, S3, S4, hS2, hd2, h3, h4⟩ := h
  refine ⟨S3, fun k => S1 k ∨ S4 k, fun k => ?_, fun k h3 h => ?_, h3, S1, S4, fun k => Iff.rfl, fun k h1 h4 => hd k h1 ((hS2 k).2 (.inr h4)), h1, h4⟩
  · rw [hS, hS2]
    constructor
    · rintro (h | h | h)
      · exact .inr (.inl h)
      · exact .inl h
      · exact .inr (.inr h)
    · rintro (h | h | h)
      · exact .inr (.inl h)
      · exact .inl h
      · exact .inr (.inr h)
  · rcases h with h | h
    · exact hd k h ((hS2 k).2 (.inl h3))
    · exact hd2 k h3 h
theorem SepL.under {a : HObj} {os os' : List HObj} {w : World} {S : Nat → Prop} (h : SepL (a :: os) w S) (hf : ∀ S, SepL os w S → SepL os' w S) : SepL (a :: os') w S := by
  obtain ⟨S1, S2, hS, hd, h1, h2⟩ := h
  exact ⟨S1, S2, hS, hd, h1, hf _ h2⟩

structure Holds (w0 w : World) (os : List HObj) : Prop where
  below : Below w0.heap.size w0 w
  sep : ∃ S : Nat → Prop, (∀ k, S k → w0.heap.size ≤ k) ∧ SepL os w S

section
variable {w0 w w' : World} {os F : List HObj} {a b c d e f : HObj}
theorem Holds.start (w : World) : Holds w w [] := ⟨Below.refl _ _, fun _ => False, fun _ h => h.elim, fun _ h => h⟩
theorem Holds.perm (h : Holds w0 w os) {os' : List HObj} (hf : ∀ S, SepL os w S → SepL os' w S) : Holds w0 w os' := by
  obtain ⟨S, hS, hl⟩ := h.sep
  exact ⟨h.below, S, hS, hf S hl⟩
theorem Holds.size (h : Holds w0 w os) : w0.heap.size ≤ w.heap.size := h.below.size
theorem Holds.mv1 (h : Holds w0 w (a :: b :: F)) : Holds w0 w (b :: a :: F) := h.perm fun _ => SepL.swap
theorem Holds.mv2 (h : Holds w0 w (a :: b :: c :: F)) : Holds w0 w (c :: a :: b :: F) := h.perm fun _ h => SepL.swap (h.under fun _ => SepL.swap)
theorem Holds.mv3 (h : Holds w0 w (a :: b :: c :: d :: F)) : Holds w0 w (d :: a :: b :: c :: F) := h.perm fun _ h => SepL.swap (h.under fun _ h => SepL.swap (h.under fun _ => SepL.swap))
theorem Holds.mv4 (h : Holds w0 w (a :: b :: c :: d :: e :: F)) : Holds w0 w (e :: a :: b :: c :: d :: F) := h.perm fun _ h => SepL.swap (h.under fun _ h => SepL.swap (h.under fun _ h => SepL.swap (h.under fun _ => SepL.swap)))
theorem Holds.mv5 (h : Holds w0 w (a :: b :: c :: d :: e :: f :: F)) : Holds w0 w (f :: a :: b :: c :: d :: e :: F) := h.perm fun _ h => SepL.swap (h.under fun _ h => SepL.swap (h.under fun _ h => SepL.swap (h.under fun _ h => SepL.swap (h.under fun _ => SepL.swap))))
theorem SepL.tail {a : HObj} {os : List HObj} {w : World} {S : Nat → Prop} (h : SepL (a :: os) w S) : ∃ S', (∀ k, S' k → S k) ∧ SepL os w S' := by
  obtain ⟨S1, S2, hS, hd, h1, h2⟩ := h
  exact ⟨S2, fun k hk => (hS k).2 (.inr hk), h2⟩
theorem Holds.drop (h : Holds w0 w (a :: F)) : Holds w0 w F := by
  obtain ⟨S, hS, hl⟩ := h.sep
  obtain ⟨S', h1, h2⟩ := hl.tail
  exact ⟨h.below, S', fun k hk => hS k (h1 k hk), h2⟩
/-- Behind what turns nothing that was there. -/
theorem Holds.move (h : Holds w0 w os) (hb : Below w.heap.size w w') : Holds w0 w' os := by
  obtain ⟨S, hS, hl⟩ := h.sep
  exact ⟨below_then h.below h.below.size hb, S, hS, hl.loc fun k hk => hb.block k (hl.low k hk)⟩
theorem Holds.alloc (h : Holds w0 w os) (o : Obj) : Holds w0 (w.alloc o) os := h.move ((Below.refl _ _).alloc (Nat.le_refl _) o)
theorem Holds.drewN (h : Holds w0 w os) (n : Nat) : Holds w0 (w.drewN n) os := h.move (pw_below_drewN (Below.refl _ _) n)
theorem Holds.drew (h : Holds w0 w os) : Holds w0 w.drew os := h.move (below_drew (Below.refl _ _))
/-- What a step leaves as it was: all but some blocks. -/
def Step (w w' : World) (S : Nat → Prop) : Prop := w'.os = w.os ∧ w'.tape = w.tape ∧ w'.output = w.output ∧ w.heap.size ≤ w'.heap.size ∧ ∀ k, k < w.heap.size → ¬ S k → w'.heap[k]? = w.heap[k]?
theorem Step.of_below (hb : Below w.heap.size w w') (S : Nat → Prop) : Step w w' S := ⟨hb.os, hb.tape, hb.output, hb.size, fun k hk _ => hb.block k hk⟩
theorem Step.of_grown {row : Option Nat} (hg : w.grownBy w' row) {S : Nat → Prop} (hr : ∀ k, row = some k → S k) : Step w w' S :=
  ⟨hg.os, hg.tape, hg.output, hg.size, fun k hk hs => hg.block k hk (fun e => hs (hr k e.symm))⟩
/-- One object is turned, or made anew out of another one; all others stay. -/
theorem Holds.step (h : Holds w0 w (a :: F)) (H : ∀ S, a.at_ w S → (∀ k, S k → w0.heap.size ≤ k) → ∃ S', b.at_ w' S' ∧ (∀ k, S' k → S k ∨ w.heap.size ≤ k) ∧ Step w w' S) : Holds w0 w' (b :: F) := by
  obtain ⟨S, hS, S1, S2, hU, hd, h1, h2⟩ := h.sep
  obtain ⟨S', hb, hsub, ⟨s1, s2, s3, s4, s5⟩⟩ := H S1 h1 (fun k hk => hS k ((hU k).2 (.inl hk)))
  have hz := h.below.size
  refine ⟨⟨s1.trans h.below.os, s2.trans h.below.tape, s3.trans h.below.output, Nat.le_trans hz s4, fun k hk => ?_⟩, fun k => S' k ∨ S2 k, fun k hk => ?_, S', S2, fun k => Iff.rfl, fun k hk hk2 => ?_, hb, ?_⟩
  · rw [s5 k (Nat.lt_of_lt_of_le hk hz) (fun hs => absurd (hS k ((hU k).2 (.inl hs))) (by omega))]
    exact h.below.block k hk
  · rcases hk with hk | hk
    · rcases hsub k hk with hk | hk
      · exact hS k ((hU k).2 (.inl hk))
      · omega
    · exact hS k ((hU k).2 (.inr hk))
  · rcases hsub k hk with hk | hk
    · exact hd k hk hk2
    · exact absurd (h2.low k hk2) (by omega)
  · exact h2.loc fun k hk => s5 k (h2.low k hk) (fun hs => hd k hs hk)
/-- An object that is new. -/
theorem Holds.fresh (h : Holds w0 w F) (hb : Below w.heap.size w w') {S : Nat → Prop} (ha : a.at_ w' S) (hS : ∀ k, S k → w.heap.size ≤ k) : Holds w0 w' (a :: F) := by
  have h' := h.move hb
  obtain ⟨S2, hS2, hl⟩ := h'.sep
  obtain ⟨S3, hS3, hl3⟩ := h.sep
  have hz := h.below.size
  refine ⟨h'.below, fun k => S k ∨ S3 k, fun k hk => ?_, S, S3, fun k => Iff.rfl, fun k hk hk3 => ?_, ha, hl3.loc fun k hk => hb.block k (hl3.low k hk)⟩
  · rcases hk with hk | hk
    · have := hS k hk; omega
    · exact hS3 k hk
  · have := hS k hk
    have := hl3.low k hk3
    omega
end

/-! ### a block of cells -/
def Pt (g : Nat) (T : TypeId) (cs : Array Value) : HObj where
  at_ := fun w S => w.heap[g]? = some (.cells cs T (0, 0)) ∧ ∀ k, S k ↔ k = g
  loc := fun hk h => ⟨(hk g ((h.2 g).2 rfl)).trans h.1, h.2⟩
  low := fun h k hk => by rw [(h.2 k).1 hk]; exact blk_lt h.1
section
variable {w0 w w' : World} {F : List HObj} {g : Nat} {T : TypeId} {cs : Array Value}
theorem Holds.pt (h : Holds w0 w (Pt g T cs :: F)) : w.heap[g]? = some (.cells cs T (0, 0)) := by
  obtain ⟨S, hS, S1, S2, hU, hd, h1, h2⟩ := h.sep
  exact h1.1
theorem Holds.ge (h : Holds w0 w (Pt g T cs :: F)) : w0.heap.size ≤ g := by
  obtain ⟨S, hS, S1, S2, hU, hd, h1, h2⟩ := h.sep
  exact hS g ((hU g).2 (.inl ((h1.2 g).2 rfl)))
theorem Holds.ne {g' : Nat} {T' : TypeId} {cs' : Array Value} (h : Holds w0 w (Pt g T cs :: Pt g' T' cs' :: F)) : g ≠ g' := by
  obtain ⟨S, hS, S1, S2, hU, hd, h1, S3, S4, hU2, hd2, h3, h4⟩ := h.sep
  rintro rfl
  exact hd g ((h1.2 g).2 rfl) ((hU2 g).2 (.inl ((h3.2 g).2 rfl)))
theorem Holds.cell (h : Holds w0 w (Pt g T cs :: F)) (i : Nat) : w.cell? ⟨g, i, none⟩ = cs[i]? := blk_cell h.pt i
theorem Holds.frozen (h : Holds w0 w (Pt g T cs :: F)) (i : Nat) : w.frozen? ⟨g, i, none⟩ = false := blk_frozen h.pt i
theorem Holds.set (h : Holds w0 w (Pt g T cs :: F)) (i : Nat) (v : Value) {cs' : Array Value} (he : cs.setIfInBounds i v = cs') : Holds w0 (w.setCell ⟨g, i, none⟩ v) (Pt g T cs' :: F) :=
  h.step fun S h1 _ => ⟨S, ⟨blk_put h1.1 i v he, h1.2⟩, fun _ hk => .inl hk, rfl, rfl, rfl, by simp [World.setCell], fun k _ hs => Below.heap_setCell w _ v k (fun e => hs ((h1.2 k).2 e))⟩
theorem Holds.box (h : Holds w0 w F) (hb : Below w.heap.size w w') (hn : w'.heap[g]? = some (.cells cs T (0, 0))) (hg : g = w.heap.size) : Holds w0 w' (Pt g T cs :: F) :=
  h.fresh (S := fun k => k = g) hb ⟨hn, fun _ => Iff.rfl⟩ (fun k hk => by omega)
end

/-! ### a row of elements of one's own -/
def Row {α : Type} (d : Kd α) (e : TypeId) (b : Nat) (v : Value) (xs : List α) : HObj where
  at_ := fun w S => d.R e w b S v xs ∧ ∀ k, S k → k < w.heap.size
  loc := fun {w w' S} hk h => ⟨Kd.R_move h.1 hk, fun k hs => by
    have h1 := h.2 k hs
    have h2 := hk k hs
    rcases Nat.lt_or_ge k w'.heap.size with h3 | h3
    · exact h3
    · rw [Array.getElem?_eq_none h3, Array.getElem?_eq_getElem h1] at h2
      cases h2⟩
  low := fun h => h.2
section
variable {w0 w w' : World} {F : List HObj} {α : Type} {d : Kd α} {e : TypeId} {b : Nat} {v : Value} {xs : List α}
theorem Holds.row (h : Holds w0 w (Row d e b v xs :: F)) : ∃ S : Nat → Prop, d.R e w b S v xs := by
  obtain ⟨S, hS, S1, S2, hU, hd, h1, h2⟩ := h.sep
  exact ⟨S1, h1.1⟩
theorem Holds.row_slice (h : Holds w0 w (Row d e b v xs :: F)) : ∃ A c, v = .slice A xs.length c ∧ xs.length ≤ c ∧ d.C w A xs.length xs := by
  obtain ⟨S, hR⟩ := h.row
  exact Kd.R_reads hR
/-- A kind whose elements hold no rows: whatever blocks may be. -/
def Flat (d : Kd α) : Prop := ∀ {w : World} {base : Nat} {ok ok' : Nat → Prop} {x : α} {cs : List Value}, d.M w base ok x cs → d.M w base ok' x cs
theorem R_flat (hf : Flat d) {ok ok' : Nat → Prop} (h : d.R e w b ok v xs) (hk : ∀ k, v.ownBlock = some k → ok' k) : d.R e w b ok' v xs := by
  obtain ⟨h0, inner, ho, hr⟩ := h
  exact ⟨hk, inner, ho, hr.imp_ fun p c hp => hf hp⟩
/-- Behind a law that ends in 'grownBy': the row as it is then. -/
theorem Holds.row_grown (hf : Flat d) (h : Holds w0 w (Row d e b v xs :: F)) {v1 : Value} {ys : List α} {ok : Nat → Prop} (hR : d.R e w' b ok v1 ys) (hg : w.grownBy w' v.ownBlock)
    (hat : v1.ownBlock = v.ownBlock ∨ ∃ b, v1.ownBlock = some b ∧ w.heap.size ≤ b) : Holds w0 w' (Row d e b v1 ys :: F) :=
  h.step fun S h1 _ => ⟨fun k => v1.ownBlock = some k, ⟨R_flat hf hR (fun k hk => hk), fun k hk => Kd.R_lt hR k hk⟩, fun k hk => by
    rcases hat with e1 | ⟨b', e1, hb⟩
    · exact .inl (h1.1.1 k (by rw [← e1]; exact hk))
    · rw [e1] at hk
      injection hk with hk
      exact .inr (by omega), Step.of_grown hg (fun k hk => h1.1.1 k hk)⟩
theorem Holds.row_new (hf : Flat d) (h : Holds w0 w F) {v1 : Value} {ys : List α} {ok : Nat → Prop} (hR : d.R e w' b ok v1 ys) (hg : w.grownBy w' none) (hat : ∀ k, v1.ownBlock = some k → w.heap.size ≤ k) : Holds w0 w' (Row d e b v1 ys :: F) :=
  h.fresh (S := fun k => v1.ownBlock = some k) ⟨hg.os, hg.tape, hg.output, hg.size, fun k hk => hg.block k hk (by simp)⟩ ⟨R_flat hf hR (fun k hk => hk), fun k hk => Kd.R_lt hR k hk⟩ hat
theorem Holds.row_nil (h : Holds w0 w F) : Holds w0 w (Row d e b (.slice none 0 0) [] :: F) :=
  h.fresh (S := fun _ => False) (Below.refl _ _) ⟨⟨fun k hk => by simp [Value.ownBlock] at hk, OwnRow.none_ _ _ _ _ _⟩, fun k hk => hk.elim⟩ (fun k hk => hk.elim)
end
theorem flat_scalar {α : Type} {enc : α → Value} {h1 : ∀ x, (enc x).oneCell' = true} : Flat (Kd.scalar enc h1) := fun h => h
theorem flat_pair {α β : Type} {a : Kd α} {b : Kd β} (ha : Flat a) (hb : Flat b) : Flat (Kd.pair a b) := fun ⟨c0, c1, e, h0, h1⟩ => ⟨c0, c1, e, ha h0, hb h1⟩
theorem flat_iso {α β : Type} {d : Kd α} {f : β → α} (hd : Flat d) : Flat (Kd.iso d f) := fun h => hd h

section
variable {w0 w w' : World} {F : List HObj} {α : Type} {enc : α → Value} {h1 : ∀ x, (enc x).oneCell' = true} {e : TypeId} {b : Nat} {v : Value} {xs : List α}
theorem Holds.row_at (d : α) (h : Holds w0 w (Row (Kd.scalar enc h1) e b v xs :: F)) (i : Int) (i0 : 0 ≤ i) (i1 : i < xs.length) :
    ∃ g cap, v = .slice (some ⟨g, 0, none⟩) xs.length cap ∧ xs.length ≤ cap ∧ w.cell? ⟨g, i.toNat, none⟩ = some (enc (rdOf d xs i)) ∧ w.frozen? ⟨g, i.toNat, none⟩ = false := by
  obtain ⟨S, hR⟩ := h.row
  obtain ⟨A, c, rfl, hc, _⟩ := Kd.R_reads hR
  have ho := Kd.own_of_R hR
  rcases ho.2 with ⟨h2, h3⟩ | ⟨g, cap, cur, h2, _⟩
  · omega
  · injection h2 with h4 h5 h6
    subst h4
    obtain ⟨h7, h8⟩ := Kd.R_celln d hR i i0 i1
    exact ⟨g, c, rfl, hc, h7, h8⟩
theorem Holds.row_put {g n cap : Nat} (h : Holds w0 w (Row (Kd.scalar enc h1) e b (.slice (some ⟨g, 0, none⟩) n cap) xs :: F)) (i : Int) (x : α) :
    Holds w0 (w.setCell ⟨g, i.toNat, none⟩ (enc x)) (Row (Kd.scalar enc h1) e b (.slice (some ⟨g, 0, none⟩) n cap) (xs.set i.toNat x) :: F) :=
  h.step fun S hS _ => ⟨S, ⟨(Kd.R_putg hS.1 i x).1, fun k hk => by simpa [World.setCell] using hS.2 k hk⟩, fun _ hk => .inl hk, Step.of_grown (Kd.R_putg hS.1 i x).2 (fun k hk => hS.1.1 k (by simpa [Value.ownBlock] using hk))⟩
end

/-! ### several objects as one -/
def Ex {β : Type} (P : β → List HObj) : HObj where
  at_ := fun w S => ∃ x, SepL (P x) w S
  loc := fun hk ⟨x, h⟩ => ⟨x, h.loc hk⟩
  low := fun ⟨_, h⟩ => h.low
theorem SepL.app : ∀ {l F : List HObj} {w : World} {S1 S2 S : Nat → Prop}, (∀ k, S k ↔ (S1 k ∨ S2 k)) → (∀ k, S1 k → S2 k → False) → SepL l w S1 → SepL F w S2 → SepL (l ++ F) w S
  | [], F, w, S1, S2, S, hU, _, h1, h2 => by
    have : S = S2 := by
      funext k
      rw [eq_iff_iff, hU]
      exact ⟨fun h => h.elim (fun h => (h1 k h).elim) id, .inr⟩
    rw [this]
    exact h2
  | o :: l, F, w, S1, S2, S, hU, hd, ⟨T1, T2, hT, hTd, t1, t2⟩, h2 => by
    refine ⟨T1, fun k => T2 k ∨ S2 k, fun k => ?_, fun k h h' => ?_, t1, SepL.app (fun k => Iff.rfl) (fun k h h' => hd k ((hT k).2 (.inr h)) h') t2 h2⟩
    · rw [hU, hT, or_assoc]
    · rcases h' with h' | h'
      · exact hTd k h h'
      · exact hd k ((hT k).2 (.inl h)) h'
theorem SepL.split : ∀ {l F : List HObj} {w : World} {S : Nat → Prop}, SepL (l ++ F) w S → ∃ S1 S2, (∀ k, S k ↔ (S1 k ∨ S2 k)) ∧ (∀ k, S1 k → S2 k → False) ∧ SepL l w S1 ∧ SepL F w S2
  | [], F, w, S, h => ⟨fun _ => False, S, fun k => by simp, fun _ h => h.elim, fun _ h => h, h⟩
  | o :: l, F, w, S, ⟨T1, T2, hT, hTd, t1, t2⟩ => by
    obtain ⟨S1, S2, hU, hd, h1, h2⟩ := SepL.split t2
    refine ⟨fun k => T1 k ∨ S1 k, S2, fun k => ?_, fun k h h' => ?_, ⟨T1, S1, fun k => Iff.rfl, fun k h h' => hTd k h ((hU k).2 (.inl h')), t1, h1⟩, h2⟩
    · rw [hT, hU, or_assoc]
    · rcases h with h | h
      · exact hTd k h ((hU k).2 (.inr h'))
      · exact hd k h h'
section
variable {w0 w w' : World} {F : List HObj} {β : Type} {P : β → List HObj}
theorem Holds.ex (h : Holds w0 w (Ex P :: F)) : ∃ x, Holds w0 w (P x ++ F) := by
  obtain ⟨S, hS, S1, S2, hU, hd, ⟨x, h1⟩, h2⟩ := h.sep
  exact ⟨x, h.below, S, hS, h1.app hU hd h2⟩
theorem Holds.put (x : β) (h : Holds w0 w (P x ++ F)) : Holds w0 w (Ex P :: F) := by
  obtain ⟨S, hS, hl⟩ := h.sep
  obtain ⟨S1, S2, hU, hd, h1, h2⟩ := hl.split
  exact ⟨h.below, S, hS, S1, S2, hU, hd, ⟨x, h1⟩, h2⟩
/-- What was read of old memory is read on. -/
theorem Holds.old {α : Type} {d : Kd α} {A : Option Addr} {n : Nat} {xs : List α} (h : Holds w0 w F) (hc : d.C w0 A n xs) : d.C w A n xs := Kd.C_below hc h.below
end
end Go.Proofs.Ytlimmmnpcomfjaa.Sep
