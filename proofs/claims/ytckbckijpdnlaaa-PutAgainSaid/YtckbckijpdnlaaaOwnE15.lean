/- The engine, part 15: how a walk goes on. A lemma file: it claims nothing of the program. -/
import Derived.Test.YtckbckijpdnlaaaOwnE14
set_option linter.unusedVariables false
set_option linter.unusedSimpArgs false
namespace Go.Proofs.Ytckbckijpdnlaaa.Eng
open Go Go.Lib

section
variable {P : Program} {I : Tab} {G : Sums} {N : Nat} {H0 : AHeap} {T : TM} {H : AHeap} {K : TM → AHeap → Prop} {Q : Exit → TM → AHeap → Prop}
theorem thenQ.ret (h : Q .ret T H) : thenQ K Q .ret T H := h
theorem thenQ.exit {i : Nat} (h : Q (.exit i) T H) : thenQ K Q (.exit i) T H := h
theorem blockQ.norm {id : Nat} (h : Q .normal T H) : blockQ id Q .normal T H := h
theorem blockQ.ret {id : Nat} (h : Q .ret T H) : blockQ id Q .ret T H := h
theorem blockQ.hit {id : Nat} (h : Q .normal T H) : blockQ id Q (.exit id) T H := by simp only [blockQ, if_true]; exact h
theorem blockQ.miss {id i : Nat} (hne : i ≠ id) (h : Q (.exit i) T H) : blockQ id Q (.exit i) T H := by simp only [blockQ, if_neg hne]; exact h
theorem Ends.ret {fn : Func} {Z : Value → AHeap → Prop} {vs : List Value} (hv : ares I T H fn.results.toList = some vs) (hz : Z (aresult vs) H) : Ends I fn Z .ret T H := ⟨rfl, vs, hv, hz⟩
theorem Ends.norm {fn : Func} {Z : Value → AHeap → Prop} {vs : List Value} (hv : ares I T H fn.results.toList = some vs) (hz : Z (aresult vs) H) : Ends I fn Z .normal T H := ⟨rfl, vs, hv, hz⟩
end
/-- A fact that a walk shall not use. -/
structure Shut (p : Prop) : Prop where
  o : p
/-- Less: told so that a walk's simp does not turn reads of lists by it. -/
def Lt (a b : Nat) : Prop := a < b
theorem Lt.get {α : Type} {H : List α} {i : Nat} {b : α} (h : H[i]? = some b) : Lt i H.length := (List.getElem?_eq_some_iff.1 h).1
theorem get_app_lt {α : Type} {H X : List α} {i : Nat} (h : Lt i H.length) : (H ++ X)[i]? = H[i]? := List.getElem?_append_left h
theorem set_app_lt {α : Type} {H X : List α} {i : Nat} {b : α} (h : Lt i H.length) : (H ++ X).set i b = H.set i b ++ X := List.set_append_left _ _ h
theorem get_set_lt {α : Type} {H : List α} {i : Nat} {b : α} (h : Lt i H.length) : (H.set i b)[i]? = some b := List.getElem?_set_self h
theorem get_set_no {α : Type} {H : List α} {i j : Nat} {b : α} (h : ¬ i = j) : (H.set i b)[j]? = H[j]? := List.getElem?_set_ne h
theorem int_beq (a b : Int) : (a == b) = decide (a = b) := by
  by_cases h : a = b <;> simp [h]
/-- Guards that are not known: both ways. -/
theorem WP_some (b : Bool) (x y : Prop) : WP (some b) x y ↔ ((b = true → x) ∧ (b = false → y)) := by cases b <;> simp [WP]
theorem WP_dec (p : Prop) [Decidable p] (x y : Prop) : WP (some (decide p)) x y ↔ ((p → x) ∧ (¬ p → y)) := by by_cases h : p <;> simp [WP, h]
theorem WP_not (b : Bool) (x y : Prop) : WP (some (!b)) x y = WP (some b) y x := by cases b <;> rfl
theorem WP_beq {α : Type} [BEq α] [LawfulBEq α] (a b : α) (x y : Prop) : WP (some (a == b)) x y ↔ ((a = b → x) ∧ (a ≠ b → y)) := by
  cases h : a == b
  · have : a ≠ b := by simpa using h
    simp [WP, this]
  · have : a = b := by simpa using h
    simp [WP, this]
theorem WP_none (x y : Prop) : WP none x y ↔ False := Iff.rfl
theorem getA {α : Type} (H X : List α) : (H ++ X)[H.length]? = X[0]? := by rw [List.getElem?_append_right (Nat.le_refl _), Nat.sub_self]
theorem getN {α : Type} (H X : List α) (n : Nat) : (H ++ X)[H.length + n]? = X[n]? := by rw [List.getElem?_append_right (by omega)]; congr 1; omega
theorem setA {α : Type} (H X : List α) (x : α) : (H ++ X).set H.length x = H ++ X.set 0 x := by rw [List.set_append_right _ _ (Nat.le_refl _), Nat.sub_self]
theorem setN {α : Type} (H X : List α) (n : Nat) (x : α) : (H ++ X).set (H.length + n) x = H ++ X.set n x := by rw [List.set_append_right _ _ (by omega), Nat.add_sub_cancel_left]
attribute [congr] selR.congr
theorem selR_true (x y : Res) : selR (some (.bool true)) x y = x := rfl
theorem selR_false (x y : Res) : selR (some (.bool false)) x y = y := rfl
/-- A choice that is not known: both ways. -/
theorem OP_sel (p : Prop) [Decidable p] (x y : Res) (k : Value → AHeap → List Nat → Prop) : OP (selR (some (.bool (decide p))) x y) k ↔ ((p → OP x k) ∧ (¬ p → OP y k)) := by
  by_cases h : p <;> simp [selR, h]
theorem OP_selN (b : Bool) (x y : Res) (k : Value → AHeap → List Nat → Prop) : OP (selR (some (.bool (!b))) x y) k ↔ OP (selR (some (.bool b)) y x) k := by
  cases b <;> simp [selR]
theorem WP_true (x y : Prop) : WP (some true) x y = x := rfl
theorem WP_false (x y : Prop) : WP (some false) x y = y := rfl
/-- A function of values alone: nothing new is known behind it. -/
theorem Ren.pureE {H0 H1 : AHeap} {u v : Value} (he : u = v) (hu : VT id H0.length v v) (hH : H1 = H0 ∨ ∃ X, H1 = H0 ++ X := by first | exact .inl rfl | exact .inr ⟨_, rfl⟩) : Ren H0 H1 u H0 v := by
  subst he
  rcases hH with rfl | ⟨X, rfl⟩
  · have := Ren.pure (X := []) hu
    rwa [List.append_nil] at this
  · exact .pure hu
end Go.Proofs.Ytckbckijpdnlaaa.Eng
