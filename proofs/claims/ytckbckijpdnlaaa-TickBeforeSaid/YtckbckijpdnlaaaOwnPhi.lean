/- The functions that terms name by numbers. A lemma file: it claims nothing of the program. -/
import Derived.Test.YtckbckijpdnlaaaOwnRun5
set_option linter.unusedVariables false
set_option linter.unusedSimpArgs false
namespace Go.Proofs.Ytckbckijpdnlaaa.Sy
open Go

def cst (l : List Int) : CSt := ⟨nth 0 l 5, nth 0 l 6, nth 0 l 7, nth 0 l 8, nth 0 l 9, nth 0 l 10, nth 0 l 11, nth 0 l 12⟩
def claimF (j : Nat) (l : List Int) (r : Row) : Int := match j with
  | 0 => (claimStep (nth 0 l 0) (nth 0 l 1) (nth 0 l 4) r (cst l)).k
  | 1 => (claimStep (nth 0 l 0) (nth 0 l 1) (nth 0 l 4) r (cst l)).g
  | 2 => (claimStep (nth 0 l 0) (nth 0 l 1) (nth 0 l 4) r (cst l)).ws
  | 3 => (claimStep (nth 0 l 0) (nth 0 l 1) (nth 0 l 4) r (cst l)).we
  | 4 => (claimStep (nth 0 l 0) (nth 0 l 1) (nth 0 l 4) r (cst l)).wg
  | 5 => (claimStep (nth 0 l 0) (nth 0 l 1) (nth 0 l 4) r (cst l)).wl
  | 6 => (claimStep (nth 0 l 0) (nth 0 l 1) (nth 0 l 4) r (cst l)).wh
  | 7 => (claimStep (nth 0 l 0) (nth 0 l 1) (nth 0 l 4) r (cst l)).ph
  | _ => (claimT (nth 0 l 0) (nth 0 l 1) (nth 0 l 4) r (cst l)).cell
def tst (l : List Int) : TSt := ⟨nth 0 l 5, nth 0 l 6, nth 0 l 7, nth 0 l 8, nth 0 l 9, nth 0 l 10⟩
def tickF (j : Nat) (l : List Int) (r : Row) : Int :=
  let t := tickStep (nth 0 l 0) (nth 0 l 1) (nth 0 l 2) (nth 0 l 3) (nth 0 l 4) r (nth 0 l 11) (tst l)
  let e := tickT (nth 0 l 0) (nth 0 l 1) (nth 0 l 2) (nth 0 l 3) (nth 0 l 4) r (nth 0 l 11) (tst l)
  match j with
  | 0 => t.n
  | 1 => t.a
  | 2 => t.b
  | 3 => t.lo
  | 4 => t.hi
  | 5 => t.ph
  | 6 => e.cell
  | 7 => e.op
  | 8 => e.new
  | _ => e.ok
def nbz (x : Int) : Bool := decide (x ≠ 0)
def pst (l : List Int) : PSt := ⟨⟨nth 0 l 7, nth 0 l 8, nth 0 l 9, nth 0 l 10, nth 0 l 11, nth 0 l 12, nth 0 l 13, nth 0 l 14⟩, ⟨nth 0 l 15, nth 0 l 16, nth 0 l 17, nth 0 l 18, nth 0 l 19, nth 0 l 20⟩, nbz (nth 0 l 23), nth 0 l 21⟩
theorem b2i_dec (b : Bool) : nbz (b2i b) = b := by cases b <;> rfl
def putF (j : Nat) (x y : D) : D := match j with
  | 0 => mkI (putStep (nth 0 x.l 0) (nth 0 x.l 1) (nth 0 x.l 2) (nth 0 x.l 3) (nth 0 x.l 4) y.r (nth 0 x.l 22) (pst x.l)).c.k
  | 1 => mkI (putStep (nth 0 x.l 0) (nth 0 x.l 1) (nth 0 x.l 2) (nth 0 x.l 3) (nth 0 x.l 4) y.r (nth 0 x.l 22) (pst x.l)).c.g
  | 2 => mkI (putStep (nth 0 x.l 0) (nth 0 x.l 1) (nth 0 x.l 2) (nth 0 x.l 3) (nth 0 x.l 4) y.r (nth 0 x.l 22) (pst x.l)).c.ws
  | 3 => mkI (putStep (nth 0 x.l 0) (nth 0 x.l 1) (nth 0 x.l 2) (nth 0 x.l 3) (nth 0 x.l 4) y.r (nth 0 x.l 22) (pst x.l)).c.we
  | 4 => mkI (putStep (nth 0 x.l 0) (nth 0 x.l 1) (nth 0 x.l 2) (nth 0 x.l 3) (nth 0 x.l 4) y.r (nth 0 x.l 22) (pst x.l)).c.wg
  | 5 => mkI (putStep (nth 0 x.l 0) (nth 0 x.l 1) (nth 0 x.l 2) (nth 0 x.l 3) (nth 0 x.l 4) y.r (nth 0 x.l 22) (pst x.l)).c.wl
  | 6 => mkI (putStep (nth 0 x.l 0) (nth 0 x.l 1) (nth 0 x.l 2) (nth 0 x.l 3) (nth 0 x.l 4) y.r (nth 0 x.l 22) (pst x.l)).c.wh
  | 7 => mkI (putStep (nth 0 x.l 0) (nth 0 x.l 1) (nth 0 x.l 2) (nth 0 x.l 3) (nth 0 x.l 4) y.r (nth 0 x.l 22) (pst x.l)).c.ph
  | 8 => mkI (putStep (nth 0 x.l 0) (nth 0 x.l 1) (nth 0 x.l 2) (nth 0 x.l 3) (nth 0 x.l 4) y.r (nth 0 x.l 22) (pst x.l)).t.n
  | 9 => mkI (putStep (nth 0 x.l 0) (nth 0 x.l 1) (nth 0 x.l 2) (nth 0 x.l 3) (nth 0 x.l 4) y.r (nth 0 x.l 22) (pst x.l)).t.a
  | 10 => mkI (putStep (nth 0 x.l 0) (nth 0 x.l 1) (nth 0 x.l 2) (nth 0 x.l 3) (nth 0 x.l 4) y.r (nth 0 x.l 22) (pst x.l)).t.b
  | 11 => mkI (putStep (nth 0 x.l 0) (nth 0 x.l 1) (nth 0 x.l 2) (nth 0 x.l 3) (nth 0 x.l 4) y.r (nth 0 x.l 22) (pst x.l)).t.lo
  | 12 => mkI (putStep (nth 0 x.l 0) (nth 0 x.l 1) (nth 0 x.l 2) (nth 0 x.l 3) (nth 0 x.l 4) y.r (nth 0 x.l 22) (pst x.l)).t.hi
  | 13 => mkI (putStep (nth 0 x.l 0) (nth 0 x.l 1) (nth 0 x.l 2) (nth 0 x.l 3) (nth 0 x.l 4) y.r (nth 0 x.l 22) (pst x.l)).t.ph
  | 14 => mkI (putStep (nth 0 x.l 0) (nth 0 x.l 1) (nth 0 x.l 2) (nth 0 x.l 3) (nth 0 x.l 4) y.r (nth 0 x.l 22) (pst x.l)).ph
  | 15 => mkB (putStep (nth 0 x.l 0) (nth 0 x.l 1) (nth 0 x.l 2) (nth 0 x.l 3) (nth 0 x.l 4) y.r (nth 0 x.l 22) (pst x.l)).st
  | 16 => mkI (putT (nth 0 x.l 0) (nth 0 x.l 1) (nth 0 x.l 2) (nth 0 x.l 3) (nth 0 x.l 4) (nth 0 x.l 5) (nth 0 x.l 6) y.r (nth 0 x.l 22) (pst x.l)).cell
  | 17 => mkI (putT (nth 0 x.l 0) (nth 0 x.l 1) (nth 0 x.l 2) (nth 0 x.l 3) (nth 0 x.l 4) (nth 0 x.l 5) (nth 0 x.l 6) y.r (nth 0 x.l 22) (pst x.l)).op
  | 18 => mkI (putT (nth 0 x.l 0) (nth 0 x.l 1) (nth 0 x.l 2) (nth 0 x.l 3) (nth 0 x.l 4) (nth 0 x.l 5) (nth 0 x.l 6) y.r (nth 0 x.l 22) (pst x.l)).new
  | _ => mkI (putT (nth 0 x.l 0) (nth 0 x.l 1) (nth 0 x.l 2) (nth 0 x.l 3) (nth 0 x.l 4) (nth 0 x.l 5) (nth 0 x.l 6) y.r (nth 0 x.l 22) (pst x.l)).ok
def kst (l : List Int) : KSt := ⟨nth 0 l 7, nbz (nth 0 l 10), nth 0 l 8, nth 0 l 9⟩
def takeF (j : Nat) (x y : D) : D := match j with
  | 0 => mkI (takeStep (nth 0 x.l 0) (nth 0 x.l 1) (nth 0 x.l 5) (nth 0 x.l 6) y.r (kst x.l)).n
  | 1 => mkB (takeStep (nth 0 x.l 0) (nth 0 x.l 1) (nth 0 x.l 5) (nth 0 x.l 6) y.r (kst x.l)).lost
  | 2 => mkI (takeStep (nth 0 x.l 0) (nth 0 x.l 1) (nth 0 x.l 5) (nth 0 x.l 6) y.r (kst x.l)).val
  | 3 => mkI (takeStep (nth 0 x.l 0) (nth 0 x.l 1) (nth 0 x.l 5) (nth 0 x.l 6) y.r (kst x.l)).ph
  | 4 => mkI (takeT (nth 0 x.l 0) (nth 0 x.l 1) (nth 0 x.l 4) (nth 0 x.l 5) (nth 0 x.l 6) y.r (kst x.l)).cell
  | 5 => mkI (takeT (nth 0 x.l 0) (nth 0 x.l 1) (nth 0 x.l 4) (nth 0 x.l 5) (nth 0 x.l 6) y.r (kst x.l)).op
  | 6 => mkI (takeT (nth 0 x.l 0) (nth 0 x.l 1) (nth 0 x.l 4) (nth 0 x.l 5) (nth 0 x.l 6) y.r (kst x.l)).new
  | _ => mkI (takeT (nth 0 x.l 0) (nth 0 x.l 1) (nth 0 x.l 4) (nth 0 x.l 5) (nth 0 x.l 6) y.r (kst x.l)).ok
/-- Are two rows of events the same at a place? -/
def SameAt (a b : Row) (j : Int) : Prop := cl a j = cl b j ∧ nth 0 (a.getD j.toNat []) 1 = nth 0 (b.getD j.toNat []) 1 ∧ nth 0 (a.getD j.toNat []) 2 = nth 0 (b.getD j.toNat []) 2 ∧ nth 0 (a.getD j.toNat []) 3 = nth 0 (b.getD j.toNat []) 3 ∧ nth 0 (a.getD j.toNat []) 4 = nth 0 (b.getD j.toNat []) 4 ∧ nbz (nth 0 (a.getD j.toNat []) 5) = nbz (nth 0 (b.getD j.toNat []) 5)
instance (a b : Row) (j : Int) : Decidable (SameAt a b j) := by unfold SameAt; infer_instance
def sameB (a b : Row) : Bool := decide (a.length = b.length) && (List.range a.length).all fun j => decide (SameAt a b (j : Int))
theorem sameB_t {a b : Row} : sameB a b = true ↔ ((a.length : Int) = (b.length : Int) ∧ ∀ j : Int, 0 ≤ j → j < (a.length : Int) → SameAt a b j) := by
  unfold sameB
  rw [Bool.and_eq_true, List.all_eq_true, decide_eq_true_iff]
  constructor
  · rintro ⟨h1, h2⟩
    refine ⟨by omega, fun j h3 h4 => ?_⟩
    have := h2 j.toNat (List.mem_range.2 (by omega))
    rw [decide_eq_true_iff] at this
    rwa [Int.toNat_of_nonneg h3] at this
  · rintro ⟨h1, h2⟩
    refine ⟨by omega, fun j h3 => ?_⟩
    rw [decide_eq_true_iff]
    exact h2 j (by omega) (by have := List.mem_range.1 h3; omega)
theorem sameB_self (a : Row) : sameB a a = true := sameB_t.2 ⟨rfl, fun j _ _ => ⟨rfl, rfl, rfl, rfl, rfl, rfl⟩⟩
/-! ### mem.Back -/
structure BSt where
  c : Row
  g : Row
  ok : Bool
def evOk (c : Row) (e : List Int) : Bool := if nth 0 e 1 = 2 then (if nbz (nth 0 e 5) = true then decide (cl c (nth 0 e 2) = nth 0 e 3) else decide (cl c (nth 0 e 2) = IntKind.u64.wrap (nth 0 e 3 + 1))) else true
def evNew (c : Row) (e : List Int) : Int :=
  if nth 0 e 1 = 3 then IntKind.u64.wrap (cl c (nth 0 e 2) + IntKind.u64.wrap (nth 0 e 4 - nth 0 e 3))
  else if nth 0 e 1 = 2 then (if evOk c e = true then nth 0 e 4 else cl c (nth 0 e 2)) else if nth 0 e 1 = 0 then cl c (nth 0 e 2) else nth 0 e 4
def evRow (c : Row) (e : List Int) : List Int := [nth 0 e 0, nth 0 e 1, nth 0 e 2, cl c (nth 0 e 2), evNew c e, b2i (evOk c e)]
def evAgree (c : Row) (e : List Int) : Bool := decide (cl c (nth 0 e 2) = nth 0 e 3 ∧ evNew c e = nth 0 e 4 ∧ evOk c e = nbz (nth 0 e 5))
def evBad (c : Row) (e : List Int) : Prop := nth 0 e 1 < 0 ∨ 3 < nth 0 e 1 ∨ nth 0 e 2 < 0 ∨ (c.length : Int) ≤ nth 0 e 2
instance (c : Row) (e : List Int) : Decidable (evBad c e) := by unfold evBad; infer_instance
/-- An event that comes back. -/
def bStep (s : BSt) (e : List Int) : BSt :=
  if s.ok = true then (if evBad s.c e then { s with ok := false } else ⟨s.c.set (nth 0 e 2).toNat [evNew s.c e], s.g ++ [evRow s.c e], evAgree s.c e⟩) else s
def back0 (n : Int) : BSt := ⟨List.replicate n.toNat [0], [], true⟩
def backF (n : Int) (l : Row) : BSt := l.foldl bStep (back0 n)
theorem b2i_dec2 (b : Bool) : nbz (b2i b) = b := by cases b <;> rfl
def Φ (k : Nat) (x y z : D) : D :=
  if k < 100 then (match k with
    | 0 => mkR (cellsN (nth 0 x.l 0) (nth 0 x.l 1) y.r z.r (cntA (nth 0 x.l 0) (nth 0 x.l 1) y.r) (cntB (nth 0 x.l 0) z.r))
    | 10 => mkB (guardedB (nth 0 x.l 0) (nth 0 x.l 1) (nth 0 x.l 2) y.r)
    | 11 => mkB (sameB y.r z.r)
    | 30 => mkR (backF (nth 0 x.l 0) y.r).c
    | 31 => mkR (backF (nth 0 x.l 0) y.r).g
    | 32 => mkB (backF (nth 0 x.l 0) y.r).ok
    | 20 => mkI (putMost (nth 0 x.l 0) (nth 0 x.l 1) (nth 0 x.l 2) (nth 0 x.l 3))
    | _ => mkR (logN (nth 0 x.l 0) (nth 0 x.l 1) y.r z.r (cntA (nth 0 x.l 0) (nth 0 x.l 1) y.r) (cntB (nth 0 x.l 0) z.r)))
  else if k < 200 then mkI (claimF (k - 100) x.l y.r)
  else if k < 300 then mkI (tickF (k - 200) x.l y.r)
  else if k < 400 then putF (k - 300) x y
  else if k < 500 then takeF (k - 400) x y
  else if k = 500 then mkR (runF (nth 0 x.l 0) (nth 0 x.l 1) (nth 0 x.l 2) (nth 0 x.l 3) y.r).all
  else if k = 501 then mkR (runF (nth 0 x.l 0) (nth 0 x.l 1) (nth 0 x.l 2) (nth 0 x.l 3) y.r).fst
  else mkR (runF (nth 0 x.l 0) (nth 0 x.l 1) (nth 0 x.l 2) (nth 0 x.l 3) y.r).lst
theorem Φ100 (x y z : D) : Φ 100 x y z = mkI (claimStep (nth 0 x.l 0) (nth 0 x.l 1) (nth 0 x.l 4) y.r (cst x.l)).k := rfl
theorem Φ101 (x y z : D) : Φ 101 x y z = mkI (claimStep (nth 0 x.l 0) (nth 0 x.l 1) (nth 0 x.l 4) y.r (cst x.l)).g := rfl
theorem Φ102 (x y z : D) : Φ 102 x y z = mkI (claimStep (nth 0 x.l 0) (nth 0 x.l 1) (nth 0 x.l 4) y.r (cst x.l)).ws := rfl
theorem Φ103 (x y z : D) : Φ 103 x y z = mkI (claimStep (nth 0 x.l 0) (nth 0 x.l 1) (nth 0 x.l 4) y.r (cst x.l)).we := rfl
theorem Φ104 (x y z : D) : Φ 104 x y z = mkI (claimStep (nth 0 x.l 0) (nth 0 x.l 1) (nth 0 x.l 4) y.r (cst x.l)).wg := rfl
theorem Φ105 (x y z : D) : Φ 105 x y z = mkI (claimStep (nth 0 x.l 0) (nth 0 x.l 1) (nth 0 x.l 4) y.r (cst x.l)).wl := rfl
theorem Φ106 (x y z : D) : Φ 106 x y z = mkI (claimStep (nth 0 x.l 0) (nth 0 x.l 1) (nth 0 x.l 4) y.r (cst x.l)).wh := rfl
theorem Φ107 (x y z : D) : Φ 107 x y z = mkI (claimStep (nth 0 x.l 0) (nth 0 x.l 1) (nth 0 x.l 4) y.r (cst x.l)).ph := rfl
theorem Φ108 (x y z : D) : Φ 108 x y z = mkI (claimT (nth 0 x.l 0) (nth 0 x.l 1) (nth 0 x.l 4) y.r (cst x.l)).cell := rfl
theorem Φ200 (x y z : D) : Φ 200 x y z = mkI (tickStep (nth 0 x.l 0) (nth 0 x.l 1) (nth 0 x.l 2) (nth 0 x.l 3) (nth 0 x.l 4) y.r (nth 0 x.l 11) (tst x.l)).n := rfl
theorem Φ201 (x y z : D) : Φ 201 x y z = mkI (tickStep (nth 0 x.l 0) (nth 0 x.l 1) (nth 0 x.l 2) (nth 0 x.l 3) (nth 0 x.l 4) y.r (nth 0 x.l 11) (tst x.l)).a := rfl
theorem Φ202 (x y z : D) : Φ 202 x y z = mkI (tickStep (nth 0 x.l 0) (nth 0 x.l 1) (nth 0 x.l 2) (nth 0 x.l 3) (nth 0 x.l 4) y.r (nth 0 x.l 11) (tst x.l)).b := rfl
theorem Φ203 (x y z : D) : Φ 203 x y z = mkI (tickStep (nth 0 x.l 0) (nth 0 x.l 1) (nth 0 x.l 2) (nth 0 x.l 3) (nth 0 x.l 4) y.r (nth 0 x.l 11) (tst x.l)).lo := rfl
theorem Φ204 (x y z : D) : Φ 204 x y z = mkI (tickStep (nth 0 x.l 0) (nth 0 x.l 1) (nth 0 x.l 2) (nth 0 x.l 3) (nth 0 x.l 4) y.r (nth 0 x.l 11) (tst x.l)).hi := rfl
theorem Φ205 (x y z : D) : Φ 205 x y z = mkI (tickStep (nth 0 x.l 0) (nth 0 x.l 1) (nth 0 x.l 2) (nth 0 x.l 3) (nth 0 x.l 4) y.r (nth 0 x.l 11) (tst x.l)).ph := rfl
theorem Φ206 (x y z : D) : Φ 206 x y z = mkI (tickT (nth 0 x.l 0) (nth 0 x.l 1) (nth 0 x.l 2) (nth 0 x.l 3) (nth 0 x.l 4) y.r (nth 0 x.l 11) (tst x.l)).cell := rfl
theorem Φ207 (x y z : D) : Φ 207 x y z = mkI (tickT (nth 0 x.l 0) (nth 0 x.l 1) (nth 0 x.l 2) (nth 0 x.l 3) (nth 0 x.l 4) y.r (nth 0 x.l 11) (tst x.l)).op := rfl
theorem Φ208 (x y z : D) : Φ 208 x y z = mkI (tickT (nth 0 x.l 0) (nth 0 x.l 1) (nth 0 x.l 2) (nth 0 x.l 3) (nth 0 x.l 4) y.r (nth 0 x.l 11) (tst x.l)).new := rfl
theorem Φ209 (x y z : D) : Φ 209 x y z = mkI (tickT (nth 0 x.l 0) (nth 0 x.l 1) (nth 0 x.l 2) (nth 0 x.l 3) (nth 0 x.l 4) y.r (nth 0 x.l 11) (tst x.l)).ok := rfl
theorem Φ0 (x y z : D) : Φ 0 x y z = mkR (cellsN (nth 0 x.l 0) (nth 0 x.l 1) y.r z.r (cntA (nth 0 x.l 0) (nth 0 x.l 1) y.r) (cntB (nth 0 x.l 0) z.r)) := rfl
theorem Φ1 (x y z : D) : Φ 1 x y z = mkR (logN (nth 0 x.l 0) (nth 0 x.l 1) y.r z.r (cntA (nth 0 x.l 0) (nth 0 x.l 1) y.r) (cntB (nth 0 x.l 0) z.r)) := rfl
theorem Φ10 (x y z : D) : Φ 10 x y z = mkB (guardedB (nth 0 x.l 0) (nth 0 x.l 1) (nth 0 x.l 2) y.r) := rfl
theorem Φ300 (x y z : D) : Φ 300 x y z = mkI (putStep (nth 0 x.l 0) (nth 0 x.l 1) (nth 0 x.l 2) (nth 0 x.l 3) (nth 0 x.l 4) y.r (nth 0 x.l 22) (pst x.l)).c.k := rfl
theorem Φ301 (x y z : D) : Φ 301 x y z = mkI (putStep (nth 0 x.l 0) (nth 0 x.l 1) (nth 0 x.l 2) (nth 0 x.l 3) (nth 0 x.l 4) y.r (nth 0 x.l 22) (pst x.l)).c.g := rfl
theorem Φ302 (x y z : D) : Φ 302 x y z = mkI (putStep (nth 0 x.l 0) (nth 0 x.l 1) (nth 0 x.l 2) (nth 0 x.l 3) (nth 0 x.l 4) y.r (nth 0 x.l 22) (pst x.l)).c.ws := rfl
theorem Φ303 (x y z : D) : Φ 303 x y z = mkI (putStep (nth 0 x.l 0) (nth 0 x.l 1) (nth 0 x.l 2) (nth 0 x.l 3) (nth 0 x.l 4) y.r (nth 0 x.l 22) (pst x.l)).c.we := rfl
theorem Φ304 (x y z : D) : Φ 304 x y z = mkI (putStep (nth 0 x.l 0) (nth 0 x.l 1) (nth 0 x.l 2) (nth 0 x.l 3) (nth 0 x.l 4) y.r (nth 0 x.l 22) (pst x.l)).c.wg := rfl
theorem Φ305 (x y z : D) : Φ 305 x y z = mkI (putStep (nth 0 x.l 0) (nth 0 x.l 1) (nth 0 x.l 2) (nth 0 x.l 3) (nth 0 x.l 4) y.r (nth 0 x.l 22) (pst x.l)).c.wl := rfl
theorem Φ306 (x y z : D) : Φ 306 x y z = mkI (putStep (nth 0 x.l 0) (nth 0 x.l 1) (nth 0 x.l 2) (nth 0 x.l 3) (nth 0 x.l 4) y.r (nth 0 x.l 22) (pst x.l)).c.wh := rfl
theorem Φ307 (x y z : D) : Φ 307 x y z = mkI (putStep (nth 0 x.l 0) (nth 0 x.l 1) (nth 0 x.l 2) (nth 0 x.l 3) (nth 0 x.l 4) y.r (nth 0 x.l 22) (pst x.l)).c.ph := rfl
theorem Φ308 (x y z : D) : Φ 308 x y z = mkI (putStep (nth 0 x.l 0) (nth 0 x.l 1) (nth 0 x.l 2) (nth 0 x.l 3) (nth 0 x.l 4) y.r (nth 0 x.l 22) (pst x.l)).t.n := rfl
theorem Φ309 (x y z : D) : Φ 309 x y z = mkI (putStep (nth 0 x.l 0) (nth 0 x.l 1) (nth 0 x.l 2) (nth 0 x.l 3) (nth 0 x.l 4) y.r (nth 0 x.l 22) (pst x.l)).t.a := rfl
theorem Φ310 (x y z : D) : Φ 310 x y z = mkI (putStep (nth 0 x.l 0) (nth 0 x.l 1) (nth 0 x.l 2) (nth 0 x.l 3) (nth 0 x.l 4) y.r (nth 0 x.l 22) (pst x.l)).t.b := rfl
theorem Φ311 (x y z : D) : Φ 311 x y z = mkI (putStep (nth 0 x.l 0) (nth 0 x.l 1) (nth 0 x.l 2) (nth 0 x.l 3) (nth 0 x.l 4) y.r (nth 0 x.l 22) (pst x.l)).t.lo := rfl
theorem Φ312 (x y z : D) : Φ 312 x y z = mkI (putStep (nth 0 x.l 0) (nth 0 x.l 1) (nth 0 x.l 2) (nth 0 x.l 3) (nth 0 x.l 4) y.r (nth 0 x.l 22) (pst x.l)).t.hi := rfl
theorem Φ313 (x y z : D) : Φ 313 x y z = mkI (putStep (nth 0 x.l 0) (nth 0 x.l 1) (nth 0 x.l 2) (nth 0 x.l 3) (nth 0 x.l 4) y.r (nth 0 x.l 22) (pst x.l)).t.ph := rfl
theorem Φ314 (x y z : D) : Φ 314 x y z = mkI (putStep (nth 0 x.l 0) (nth 0 x.l 1) (nth 0 x.l 2) (nth 0 x.l 3) (nth 0 x.l 4) y.r (nth 0 x.l 22) (pst x.l)).ph := rfl
theorem Φ315 (x y z : D) : Φ 315 x y z = mkB (putStep (nth 0 x.l 0) (nth 0 x.l 1) (nth 0 x.l 2) (nth 0 x.l 3) (nth 0 x.l 4) y.r (nth 0 x.l 22) (pst x.l)).st := rfl
theorem Φ316 (x y z : D) : Φ 316 x y z = mkI (putT (nth 0 x.l 0) (nth 0 x.l 1) (nth 0 x.l 2) (nth 0 x.l 3) (nth 0 x.l 4) (nth 0 x.l 5) (nth 0 x.l 6) y.r (nth 0 x.l 22) (pst x.l)).cell := rfl
theorem Φ317 (x y z : D) : Φ 317 x y z = mkI (putT (nth 0 x.l 0) (nth 0 x.l 1) (nth 0 x.l 2) (nth 0 x.l 3) (nth 0 x.l 4) (nth 0 x.l 5) (nth 0 x.l 6) y.r (nth 0 x.l 22) (pst x.l)).op := rfl
theorem Φ318 (x y z : D) : Φ 318 x y z = mkI (putT (nth 0 x.l 0) (nth 0 x.l 1) (nth 0 x.l 2) (nth 0 x.l 3) (nth 0 x.l 4) (nth 0 x.l 5) (nth 0 x.l 6) y.r (nth 0 x.l 22) (pst x.l)).new := rfl
theorem Φ319 (x y z : D) : Φ 319 x y z = mkI (putT (nth 0 x.l 0) (nth 0 x.l 1) (nth 0 x.l 2) (nth 0 x.l 3) (nth 0 x.l 4) (nth 0 x.l 5) (nth 0 x.l 6) y.r (nth 0 x.l 22) (pst x.l)).ok := rfl
theorem Φ400 (x y z : D) : Φ 400 x y z = mkI (takeStep (nth 0 x.l 0) (nth 0 x.l 1) (nth 0 x.l 5) (nth 0 x.l 6) y.r (kst x.l)).n := rfl
theorem Φ401 (x y z : D) : Φ 401 x y z = mkB (takeStep (nth 0 x.l 0) (nth 0 x.l 1) (nth 0 x.l 5) (nth 0 x.l 6) y.r (kst x.l)).lost := rfl
theorem Φ402 (x y z : D) : Φ 402 x y z = mkI (takeStep (nth 0 x.l 0) (nth 0 x.l 1) (nth 0 x.l 5) (nth 0 x.l 6) y.r (kst x.l)).val := rfl
theorem Φ403 (x y z : D) : Φ 403 x y z = mkI (takeStep (nth 0 x.l 0) (nth 0 x.l 1) (nth 0 x.l 5) (nth 0 x.l 6) y.r (kst x.l)).ph := rfl
theorem Φ404 (x y z : D) : Φ 404 x y z = mkI (takeT (nth 0 x.l 0) (nth 0 x.l 1) (nth 0 x.l 4) (nth 0 x.l 5) (nth 0 x.l 6) y.r (kst x.l)).cell := rfl
theorem Φ405 (x y z : D) : Φ 405 x y z = mkI (takeT (nth 0 x.l 0) (nth 0 x.l 1) (nth 0 x.l 4) (nth 0 x.l 5) (nth 0 x.l 6) y.r (kst x.l)).op := rfl
theorem Φ406 (x y z : D) : Φ 406 x y z = mkI (takeT (nth 0 x.l 0) (nth 0 x.l 1) (nth 0 x.l 4) (nth 0 x.l 5) (nth 0 x.l 6) y.r (kst x.l)).new := rfl
theorem Φ407 (x y z : D) : Φ 407 x y z = mkI (takeT (nth 0 x.l 0) (nth 0 x.l 1) (nth 0 x.l 4) (nth 0 x.l 5) (nth 0 x.l 6) y.r (kst x.l)).ok := rfl
theorem Φ500 (x y z : D) : Φ 500 x y z = mkR (runF (nth 0 x.l 0) (nth 0 x.l 1) (nth 0 x.l 2) (nth 0 x.l 3) y.r).all := rfl
theorem Φ501 (x y z : D) : Φ 501 x y z = mkR (runF (nth 0 x.l 0) (nth 0 x.l 1) (nth 0 x.l 2) (nth 0 x.l 3) y.r).fst := rfl
theorem Φ502 (x y z : D) : Φ 502 x y z = mkR (runF (nth 0 x.l 0) (nth 0 x.l 1) (nth 0 x.l 2) (nth 0 x.l 3) y.r).lst := rfl
theorem Φ11 (x y z : D) : Φ 11 x y z = mkB (sameB y.r z.r) := rfl
theorem Φ30 (x y z : D) : Φ 30 x y z = mkR (backF (nth 0 x.l 0) y.r).c := rfl
theorem Φ31 (x y z : D) : Φ 31 x y z = mkR (backF (nth 0 x.l 0) y.r).g := rfl
theorem Φ32 (x y z : D) : Φ 32 x y z = mkB (backF (nth 0 x.l 0) y.r).ok := rfl
theorem Φ20 (x y z : D) : Φ 20 x y z = mkI (putMost (nth 0 x.l 0) (nth 0 x.l 1) (nth 0 x.l 2) (nth 0 x.l 3)) := rfl
/-! terms whole -/
section
variable {v : Val} {a b c : E}
theorem d_lt_n : ((den v (.o2 .lt a b)).b = false) = (¬ (den v a).i < (den v b).i) := by simp [den, den2, mkB]
theorem d_le_n : ((den v (.o2 .le a b)).b = false) = (¬ (den v a).i ≤ (den v b).i) := by simp [den, den2, mkB]
theorem D_cons : den v (.o2 .cons a b) = mkL ((den v a).i :: (den v b).l) := rfl
theorem D_nl : den v .nl = mkL [] := rfl
theorem D_nr : den v .nr = mkR [] := rfl
theorem D_vr (n : Nat) : den v (.vr n) = mkR (nth [] v.r n) := rfl
theorem D_set : den v (.o3 .set a b c) = mkR ((den v a).r.set (den v b).i.toNat (den v c).l) := rfl
theorem mkL_l (l : List Int) : (mkL l).l = l := rfl
theorem mkR_r (l : Row) : (mkR l).r = l := rfl
theorem mkB_b (x : Bool) : (mkB x).b = x := rfl
theorem mkI_i (x : Int) : (mkI x).i = x := rfl
theorem d_api (k : Nat) : (den v (.o3 (.api k) a b c)).i = (v.f k (den v a) (den v b) (den v c)).i := rfl
theorem d_apr (k : Nat) : (den v (.o3 (.apr k) a b c)).r = (v.f k (den v a) (den v b) (den v c)).r := rfl
theorem d_apb (k : Nat) : (den v (.o3 (.apb k) a b c)).b = (v.f k (den v a) (den v b) (den v c)).b := rfl
end
end Go.Proofs.Ytckbckijpdnlaaa.Sy
