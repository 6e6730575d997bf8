/- The functions that terms name by numbers, for layer 15. A lemma file: it claims nothing of the program. -/
import Derived.Test.YtpgkbdkkcladcaaOwnSC
set_option linter.unusedVariables false
set_option linter.unusedSimpArgs false
namespace Go.Proofs.Ytpgkbdkkcladcaa.Sy
open Go

abbrev Row : Type := List (List Int)
def imin (a b : Int) : Int := if b < a then b else a
def imax (a b : Int) : Int := if a < b then b else a
def b2i (b : Bool) : Int := if b = true then 1 else 0
section
variable {v : Val} {a b c : E}
theorem d_mn2 : (den v (.o2 .mn a b)).i = imin (den v a).i (den v b).i := rfl
theorem d_mx2 : (den v (.o2 .mx a b)).i = imax (den v a).i (den v b).i := rfl
theorem d_bn2 : (den v (.o1 .bn a)).i = b2i (den v a).b := rfl
end
/-- A row behind a call (kind, end, value; the reply's value and whether it is one). -/
def doRow (k e x : Int) (ok : Int) (row : Row) : Row :=
  if k = 0 then (if ok = 0 then row else if e = 0 then [x] :: row else row ++ [[x]])
  else if ok = 0 then [] else if e = 1 then row.take (row.length - 1) else row.drop 1
/-- May it be answered so? -/
def doOk (k e v : Int) (ok : Int) (row : Row) : Bool :=
  if k = 0 then true else if ok = 0 then decide ((row.length : Int) = 0) else if (row.length : Int) = 0 then false
  else if e = 1 then decide (nth 0 (row.getD (row.length - 1) []) 0 = v) else decide (nth 0 (row.getD 0 []) 0 = v)
def nbz (x : Int) : Bool := decide (x ≠ 0)
theorem d_nb2 {v : Val} {a : E} : (den v (.o1 .nb a)).b = nbz (den v a).i := rfl
/-- A reply that is one, as a number (column 7 of a deed). -/
def okI (d : List Int) : Int := b2i (nbz (nth 0 d 7))
def stepR (d : List Int) (row : Row) : Row := doRow (nth 0 d 1) (nth 0 d 2) (nth 0 d 3) (okI d) row
def stepO (d : List Int) (row : Row) : Bool := doOk (nth 0 d 1) (nth 0 d 2) (nth 0 d 8) (okI d) row
/-- May calls be answered so, one behind the other, from a row on? -/
def legalF : List (List Int) → Row → Bool
  | [], _ => true
  | d :: l, row => if stepO d row = true then legalF l (stepR d row) else false
def rightD (d : List Int) : Bool := (decide (nth 0 d 1 = 0) || decide (nth 0 d 1 = 1)) && (decide (nth 0 d 2 = 0) || decide (nth 0 d 2 = 1))
def rightsF (l : List (List Int)) : Bool := l.all rightD
/-! ### the finder -/
/-- A call that isn't over, as it may be answered. -/
def ansD (d : List Int) (row : Row) : List Int :=
  if 0 ≤ nth 0 d 6 then [nth 0 d 0, nth 0 d 1, nth 0 d 2, nth 0 d 3, nth 0 d 4, nth 0 d 5, nth 0 d 6, b2i (nbz (nth 0 d 7)), nth 0 d 8, nth 0 d 9, nth 0 d 10]
  else [nth 0 d 0, nth 0 d 1, nth 0 d 2, nth 0 d 3, nth 0 d 4, nth 0 d 5, nth 0 d 6, 1, if nth 0 d 1 = 0 then 0 else if 0 < (row.length : Int) then (if nth 0 d 2 = 1 then cl row ((row.length : Int) + -1) else cl row 0) else 0, 0, 0]
/-- Is the call k left, and was it over ahead of the call i? -/
def blkF (L D : Row) (i : Int) (k : Nat) : Bool := decide (cl D k = 0) && decide (0 ≤ nth 0 (L.getD k []) 6) && decide (nth 0 (L.getD k []) 6 < nth 0 (L.getD i.toNat []) 5)
def freeF (i : Int) (L D : Row) : Bool := !(List.range L.length).any (blkF L D i) && decide (cl D i = 0)
/-- Is the call k over, and left? -/
def lefF (L D : Row) (k : Nat) : Bool := decide (0 ≤ nth 0 (L.getD k []) 6) && decide (cl D k = 0)
def leftN (L D : Row) (n : Nat) : Nat := (List.range n).countP (lefF L D)
def cnt0 (D : Row) : Nat := D.countP fun x => x == [0]
structure FS where
  d : Row
  n : Int
  o : Row
  t : Bool
def fsIn (st : FS) (i : Int) : FS := ⟨st.d.set i.toNat [1], st.n + 1, st.o.take st.n.toNat ++ [[i]], false⟩
def fsOut (q : FS) (i : Int) : FS := ⟨q.d.set i.toNat [0], q.n + -1, q.o, true⟩
def findL (rec : FS → Row → Bool × FS) (L row : Row) : Nat → Int → FS → Bool × FS
  | 0, _, st => (false, st)
  | k + 1, i, st => if freeF i L st.d = true then
      if stepO (ansD (L.getD i.toNat []) row) row = true then
        match rec (fsIn st i) (stepR (ansD (L.getD i.toNat []) row) row) with
        | (true, q) => (true, { q with t := true })
        | (false, q) => findL rec L row k (i + 1) (fsOut q i)
      else findL rec L row k (i + 1) st
    else findL rec L row k (i + 1) st
def findF (L : Row) : Nat → FS → Row → Bool × FS
  | 0, st, _ => (false, st)
  | f + 1, st, row => if leftN L st.d L.length = 0 then (true, st) else findL (findF L f) L row L.length 0 st
def findM (L : Row) (st : FS) (row : Row) : Bool × FS := findF L (cnt0 st.d + 1) st row
def goodF (n : Int) (D L : Row) : Bool := D.all (fun x => x == [0] || x == [1]) && decide (n + (cnt0 D : Int) ≤ (L.length : Int))
def fArg (x y z : D) : Bool × FS := findM x.r ⟨y.r, nth 0 x.l 0, z.r.take (nth 0 x.l 1).toNat, false⟩ (z.r.drop (nth 0 x.l 1).toNat)
/-! ### the law's own search, and its look at an order -/
/-- Rounds from i on. -/
def anyI (p : Int → Bool) : Nat → Int → Bool
  | 0, _ => false
  | k + 1, i => p i || anyI p k (i + 1)
def cntZ (D : Row) : Nat := D.countP fun x => decide (nth 0 x 0 = 0)
def someF (L : Row) : Nat → Row → Row → Bool
  | 0, _, _ => false
  | f + 1, D, row => if leftN L D L.length = 0 then true else anyI (fun i => freeF i L D && (stepO (ansD (L.getD i.toNat []) row) row && someF L f (D.set i.toNat [1]) (stepR (ansD (L.getD i.toNat []) row) row))) L.length 0
def someM (L D row : Row) : Bool := someF L (cntZ D + 1) D row
/-- The row that is there: a part of a block. -/
def winR (e n : Int) (r : Row) : Row := (r.drop e.toNat).take n.toNat
def runH (L : Row) : List Int → Int → Row → Row → Option Row
  | [], _, A, _ => some A
  | i :: o, n, A, row => if i < 0 ∨ (L.length : Int) ≤ i ∨ ¬ cl A i = 0 then none
    else if stepO (ansD (L.getD i.toNat []) row) row = true then runH L o (n + 1) (A.set i.toNat [n + 1]) (stepR (ansD (L.getD i.toNat []) row) row) else none
def badH (L A : Row) (i k : Nat) : Bool := decide (0 ≤ nth 0 (L.getD i []) 6) && decide (nth 0 (L.getD i []) 6 < nth 0 (L.getD k []) 5) && decide (¬ cl A k = 0) && decide (cl A k < cl A i)
def goodH (L A : Row) : Bool := (List.range L.length).all fun i => !(decide (0 ≤ nth 0 (L.getD i []) 6) && decide (cl A i = 0)) && (List.range L.length).all fun k => !badH L A i k
def holdsM (L : Row) (o : List Int) : Bool := match runH L o 0 (List.replicate L.length [0]) [] with
  | none => false
  | some A => goodH L A
def Φ (k : Nat) (x y z : D) : D := match k with
  | 600 => mkR (doRow (nth 0 x.l 0) (nth 0 x.l 1) (nth 0 x.l 2) (nth 0 x.l 4) y.r)
  | 601 => mkB (doOk (nth 0 x.l 0) (nth 0 x.l 1) (nth 0 x.l 3) (nth 0 x.l 4) y.r)
  | 602 => mkB (legalF y.r [])
  | 603 => mkB (rightsF y.r)
  | 604 => mkB (freeF (nth 0 x.l 0) y.r z.r)
  | 620 => mkB (someM x.r y.r (winR (nth 0 x.l 0) (nth 0 x.l 1) z.r))
  | 621 => mkI (cntZ y.r : Int)
  | 622 => mkI (if 0 ≤ nth 0 x.l 2 then nth 0 x.l 3 else if nth 0 x.l 0 = 0 then 0 else if 0 < nth 0 x.l 5 then (if nth 0 x.l 1 = 1 then cl y.r (nth 0 x.l 4 + nth 0 x.l 5 + -1) else cl y.r (nth 0 x.l 4)) else 0)
  | 623 => mkB (decide (¬ 0 ≤ nth 0 x.l 0) || nbz (nth 0 x.l 1))
  | 624 => mkI (if 0 ≤ nth 0 x.l 0 then nth 0 x.l 1 else 0)
  | 626 => mkB (decide (nth 0 x.l 0 + (cntZ y.r : Int) ≤ (z.r.length : Int)))
  | 627 => mkB (holdsM x.r ((y.r.take (nth 0 x.l 0).toNat).map fun x => nth 0 x 0))
  | 610 => mkI (fArg x y z).2.n
  | 611 => mkI (cnt0 y.r : Int)
  | 612 => mkR (fArg x y z).2.d
  | 613 => mkR (fArg x y z).2.o
  | 614 => mkB (fArg x y z).2.t
  | 615 => mkB (fArg x y z).1
  | 616 => mkB (goodF (nth 0 x.l 0) y.r z.r)
  | _ => mkI 0
theorem Φ600 (x y z : D) : Φ 600 x y z = mkR (doRow (nth 0 x.l 0) (nth 0 x.l 1) (nth 0 x.l 2) (nth 0 x.l 4) y.r) := rfl
theorem Φ601 (x y z : D) : Φ 601 x y z = mkB (doOk (nth 0 x.l 0) (nth 0 x.l 1) (nth 0 x.l 3) (nth 0 x.l 4) y.r) := rfl
theorem Φ602 (x y z : D) : Φ 602 x y z = mkB (legalF y.r []) := rfl
theorem Φ603 (x y z : D) : Φ 603 x y z = mkB (rightsF y.r) := rfl
theorem Φ604 (x y z : D) : Φ 604 x y z = mkB (freeF (nth 0 x.l 0) y.r z.r) := rfl
theorem Φ620 (x y z : D) : Φ 620 x y z = mkB (someM x.r y.r (winR (nth 0 x.l 0) (nth 0 x.l 1) z.r)) := rfl
theorem Φ621 (x y z : D) : Φ 621 x y z = mkI (cntZ y.r : Int) := rfl
theorem Φ622 (x y z : D) : Φ 622 x y z = mkI (if 0 ≤ nth 0 x.l 2 then nth 0 x.l 3 else if nth 0 x.l 0 = 0 then 0 else if 0 < nth 0 x.l 5 then (if nth 0 x.l 1 = 1 then cl y.r (nth 0 x.l 4 + nth 0 x.l 5 + -1) else cl y.r (nth 0 x.l 4)) else 0) := rfl
theorem Φ623 (x y z : D) : Φ 623 x y z = mkB (decide (¬ 0 ≤ nth 0 x.l 0) || nbz (nth 0 x.l 1)) := rfl
theorem Φ624 (x y z : D) : Φ 624 x y z = mkI (if 0 ≤ nth 0 x.l 0 then nth 0 x.l 1 else 0) := rfl
theorem Φ626 (x y z : D) : Φ 626 x y z = mkB (decide (nth 0 x.l 0 + (cntZ y.r : Int) ≤ (z.r.length : Int))) := rfl
theorem Φ627 (x y z : D) : Φ 627 x y z = mkB (holdsM x.r ((y.r.take (nth 0 x.l 0).toNat).map fun x => nth 0 x 0)) := rfl
theorem Φ610 (x y z : D) : Φ 610 x y z = mkI (fArg x y z).2.n := rfl
theorem Φ611 (x y z : D) : Φ 611 x y z = mkI (cnt0 y.r : Int) := rfl
theorem Φ612 (x y z : D) : Φ 612 x y z = mkR (fArg x y z).2.d := rfl
theorem Φ613 (x y z : D) : Φ 613 x y z = mkR (fArg x y z).2.o := rfl
theorem Φ614 (x y z : D) : Φ 614 x y z = mkB (fArg x y z).2.t := rfl
theorem Φ615 (x y z : D) : Φ 615 x y z = mkB (fArg x y z).1 := rfl
theorem Φ616 (x y z : D) : Φ 616 x y z = mkB (goodF (nth 0 x.l 0) y.r z.r) := rfl
/-! terms whole -/
section
variable {v : Val} {a b c : E}
theorem d_lt_n : ((den v (.o2 .lt a b)).b = false) = (¬ (den v a).i < (den v b).i) := by simp [den, den2, mkB]
theorem d_le_n : ((den v (.o2 .le a b)).b = false) = (¬ (den v a).i ≤ (den v b).i) := by simp [den, den2, mkB]
theorem D_cons : den v (.o2 .cons a b) = mkL ((den v a).i :: (den v b).l) := rfl
theorem D_nl : den v .nl = mkL [] := rfl
theorem D_nr : den v .nr = mkR [] := rfl
theorem D_vr (n : Nat) : den v (.vr n) = mkR (nth [] v.r n) := rfl
theorem D_bun : den v (.o2 .bun a b) = { den v a with r := (den v b).r } := rfl
theorem D_cat : den v (.o2 .cat a b) = mkR ((den v a).r ++ (den v b).r) := rfl
theorem D_app : den v (.o2 .app a b) = mkR ((den v a).r ++ [(den v b).l]) := rfl
theorem D_take : den v (.o2 .take a b) = mkR ((den v b).r.take (den v a).i.toNat) := rfl
theorem D_drop : den v (.o2 .drop a b) = mkR ((den v b).r.drop (den v a).i.toNat) := rfl
theorem D_set : den v (.o3 .set a b c) = mkR ((den v a).r.set (den v b).i.toNat (den v c).l) := rfl
theorem mkL_l (l : List Int) : (mkL l).l = l := rfl
theorem mkR_r (l : Row) : (mkR l).r = l := rfl
theorem mkB_b (x : Bool) : (mkB x).b = x := rfl
theorem mkI_i (x : Int) : (mkI x).i = x := rfl
theorem d_api (k : Nat) : (den v (.o3 (.api k) a b c)).i = (v.f k (den v a) (den v b) (den v c)).i := rfl
theorem d_apr (k : Nat) : (den v (.o3 (.apr k) a b c)).r = (v.f k (den v a) (den v b) (den v c)).r := rfl
theorem d_apb (k : Nat) : (den v (.o3 (.apb k) a b c)).b = (v.f k (den v a) (den v b) (den v c)).b := rfl
end
end Go.Proofs.Ytpgkbdkkcladcaa.Sy
