/- Models of the layers' steps: what the page says of them, in plain words. A lemma file: it claims nothing of the program. -/
import Derived.Test.YtckbckijpdnlaaaOwnSC
set_option linter.unusedVariables false
set_option linter.unusedSimpArgs false
namespace Go.Proofs.Ytckbckijpdnlaaa.Sy
open Go

def imin (a b : Int) : Int := if b < a then b else a
def imax (a b : Int) : Int := if a < b then b else a
def b2i (b : Bool) : Int := if b = true then 1 else 0
section
variable {v : Val} {a b c : E}
theorem d_mn2 : (den v (.o2 .mn a b)).i = imin (den v a).i (den v b).i := rfl
theorem d_mx2 : (den v (.o2 .mx a b)).i = imax (den v a).i (den v b).i := rfl
theorem d_bn2 : (den v (.o1 .bn a)).i = b2i (den v a).b := rfl
end
abbrev Row := List (List Int)
/-- A cell that is touched (below 0: none). -/
structure Tch where
  cell : Int
  op : Int
  new : Int
  ok : Int
def noT : Tch := ⟨-1, 0, 0, 0⟩
/-- Cells, behind a touch. -/
def Tch.row (t : Tch) (r : Row) : Row := if t.cell < 0 then r else r.set t.cell.toNat [t.new]
/-! ### words -/
def wS (x : Int) : Int := Go.bits .and .u64 x 3
def wE (x : Int) : Int := Go.bits .and .u64 (x.fdiv 4) 1
def wG (x : Int) : Int := Go.bits .and .u64 (x.fdiv 8) 8191
def wL (x : Int) : Int := Go.bits .and .u64 (x.fdiv 65536) 16777215
def wH (x : Int) : Int := Go.bits .and .u64 (x.fdiv 1099511627776) 16777215
/-! ### claim -/
structure CSt where
  k : Int
  g : Int
  ws : Int
  we : Int
  wg : Int
  wl : Int
  wh : Int
  ph : Int
def claimCell (T S who : Int) (c : CSt) : Int := if c.g < 0 then who * S + c.k else 2 * (T * S) + c.g
def claimPass (S : Int) (c : CSt) : CSt := if c.k + 1 = S then { c with g := -1, ph := 2 } else { c with g := -1, k := c.k + 1 }
def claimLook (S x : Int) (c : CSt) : CSt :=
  let c := { c with ws := wS x, we := wE x, wg := wG x, wl := wL x, wh := wH x }
  if 8191 ≤ wG x then claimPass S c else if wS x = 0 then { c with ph := 1 } else if wS x = 2 then { c with g := 0 } else claimPass S c
def claimGuard (T S who x : Int) (c : CSt) : CSt :=
  if x = who * S + c.k + 1 then claimPass S c else if c.g + 1 = T then { c with g := c.g + 1, ph := 1 } else { c with g := c.g + 1 }
def claimStep (T S who : Int) (r : Row) (c : CSt) : CSt :=
  if c.ph = 0 then (if c.g < 0 then claimLook S (cl r (who * S + c.k)) c else claimGuard T S who (cl r (2 * (T * S) + c.g)) c) else c
def claimT (T S who : Int) (r : Row) (c : CSt) : Tch :=
  if c.ph = 0 then ⟨claimCell T S who c, 0, cl r (claimCell T S who c), 1⟩ else noT
/-! ### tick -/
structure TSt where
  n : Int
  a : Int
  b : Int
  lo : Int
  hi : Int
  ph : Int
def minTop (now : Int) : Int := imin now 16777215
def lowN (x : Int) : Int := IntKind.i64.wrap (minTop x)
theorem minTop_fold (x : Int) : imin x 16777215 = minTop x := rfl
theorem lowN_fold (x : Int) : IntKind.i64.wrap (minTop x) = lowN x := rfl
def tickDone (lo hi : Int) (t : TSt) : TSt := if 0 ≤ lo ∧ lo ≤ hi ∧ hi < 16777215 then { t with ph := 1, lo := lo, hi := hi } else { t with ph := 2 }
def tickGo (T S src dl who : Int) (r : Row) (now : Int) (t : TSt) : TSt × Tch :=
  let nu := 2 * (T * S) + T
  let x := cl r nu
  if src = 0 then (tickDone (lowN x) (lowN x) t, ⟨nu, 3, IntKind.u64.wrap (x + 1), 1⟩)
  else if src = 1 then
    if t.n < T then ({ t with a := imax t.a (lowN (cl r (nu + t.n))) }, ⟨nu + t.n, 0, cl r (nu + t.n), 1⟩)
    else if t.a + 1 < 16777215 then ({ t with ph := 1, lo := t.a + 1, hi := t.a + 1 }, ⟨nu + who, 1, t.a + 1, 1⟩)
    else ({ t with ph := 2 }, noT)
  else if src = 2 then
    if t.n = 0 then ({ t with a := lowN x, ph := if 16777215 ≤ lowN x then 2 else 0 }, ⟨nu, 0, x, 1⟩)
    else if t.n = 1 then (if lowN x = t.a then { t with b := lowN x } else tickDone t.a (IntKind.i64.wrap (lowN x + -1)) { t with b := lowN x }, ⟨nu, 0, x, 1⟩)
    else if t.n = 2 then (if x = t.a then (tickDone t.a t.a t, ⟨nu, 2, t.a + 1, 1⟩) else (t, ⟨nu, 2, x, 0⟩))
    else if t.n = 3 then (tickDone t.a (IntKind.i64.wrap (lowN x + -1)) { t with b := lowN x }, ⟨nu, 0, x, 1⟩)
    else (t, noT)
  else if src = 4 then
    if t.n = 0 then ({ t with a := minTop now }, noT)
    else if t.n ≤ dl then (t, noT)
    else (tickDone t.a (minTop now) t, noT)
  else (tickDone (minTop now) (minTop now) t, noT)
def tickStep (T S src dl who : Int) (r : Row) (now : Int) (t : TSt) : TSt := if t.ph = 0 then { (tickGo T S src dl who r now t).1 with n := t.n + 1 } else t
def tickT (T S src dl who : Int) (r : Row) (now : Int) (t : TSt) : Tch := if t.ph = 0 then (tickGo T S src dl who r now t).2 else noT
/-! ### put -/
structure PSt where
  c : CSt
  t : TSt
  st : Bool
  ph : Int
def packW (s e g lo hi : Int) : Int := Go.bits .or .u64 (Go.bits .or .u64 (Go.bits .or .u64 (Go.bits .or .u64 s (IntKind.u64.wrap (e * 4))) (IntKind.u64.wrap (g * 8))) (IntKind.u64.wrap (lo * 65536))) (IntKind.u64.wrap (hi * 1099511627776))
def putWord (en : Int) (p : PSt) : Int := if p.c.wg + 1 ≤ 8191 ∧ 0 ≤ p.t.lo ∧ p.t.lo ≤ 16777215 ∧ 0 ≤ p.t.hi ∧ p.t.hi ≤ 16777215 then packW 1 en (p.c.wg + 1) p.t.lo p.t.hi else 0
def fullB (f ph : Int) : Int := if f = 2 then 2 else ph
def putStep (T S src dl who : Int) (r : Row) (now : Int) (p : PSt) : PSt :=
  if p.ph = 0 then
    if p.c.ph = 0 then { p with c := claimStep T S who r p.c, ph := fullB (claimStep T S who r p.c).ph p.ph }
    else if p.t.ph = 0 then { p with t := tickStep T S src dl who r now p.t, ph := fullB (tickStep T S src dl who r now p.t).ph p.ph }
    else if p.st = true then { p with ph := 1 } else { p with st := true }
  else p
def putT (T S src dl who en val : Int) (r : Row) (now : Int) (p : PSt) : Tch :=
  if p.ph = 0 then
    if p.c.ph = 0 then claimT T S who r p.c
    else if p.t.ph = 0 then tickT T S src dl who r now p.t
    else if p.st = true then ⟨who * S + p.c.k, 1, putWord en p, 1⟩ else ⟨T * S + (who * S + p.c.k), 1, val, 1⟩
  else noT
/-! ### take -/
structure KSt where
  n : Int
  lost : Bool
  val : Int
  ph : Int
def takenW (x : Int) : Int := packW 2 (wE x) (wG x) (wL x) (wH x)
def takeStep (T S slot word : Int) (r : Row) (k : KSt) : KSt :=
  if k.ph = 0 then
    if k.lost = true then { k with ph := 2 }
    else if k.n = 0 then { k with n := k.n + 1 }
    else if k.n = 1 then { k with n := k.n + 1, lost := !decide (cl r slot = word) }
    else if k.n = 2 then { k with n := k.n + 1, val := cl r (T * S + slot) }
    else if k.n = 3 then { k with n := k.n + 1, lost := !decide (cl r slot = word) }
    else { k with n := k.n + 1, ph := 1 }
  else k
def takeT (T S who slot word : Int) (r : Row) (k : KSt) : Tch :=
  if k.ph = 0 then
    if k.lost = true then ⟨2 * (T * S) + who, 1, 0, 1⟩
    else if k.n = 0 then ⟨2 * (T * S) + who, 1, slot + 1, 1⟩
    else if k.n = 1 then ⟨slot, 0, cl r slot, 1⟩
    else if k.n = 2 then ⟨T * S + slot, 0, cl r (T * S + slot), 1⟩
    else if k.n = 3 then (if cl r slot = word then ⟨slot, 2, takenW word, 1⟩ else ⟨slot, 2, cl r slot, 0⟩)
    else ⟨2 * (T * S) + who, 1, 0, 1⟩
  else noT
/-- Does a thread look at a place? -/
def guardedB (T S slot : Int) (r : Row) : Bool := (List.range T.toNat).any fun t => cl r (2 * (T * S) + (t : Int)) == slot + 1
theorem guardedB_t {T S slot : Int} {r : Row} : guardedB T S slot r = true ↔ ∃ t, 0 ≤ t ∧ t < T ∧ cl r (2 * (T * S) + t) = slot + 1 := by
  unfold guardedB
  rw [List.any_eq_true]
  constructor
  · rintro ⟨t, h1, h2⟩
    rw [List.mem_range] at h1
    exact ⟨(t : Int), by omega, by omega, by simpa using h2⟩
  · rintro ⟨t, h0, h1, h2⟩
    obtain ⟨n, rfl⟩ := Int.eq_ofNat_of_zero_le h0
    exact ⟨n, List.mem_range.2 (by omega), by simpa using h2⟩
/-! ### cells, as they are made -/
/-- A place's word, as the law makes it. -/
def placeW (x : List Int) : Int :=
  let g := nth 0 x 1
  let w := if Go.bits .and .i64 g 64 = 64 then 8191 - Go.bits .and .i64 g 1 else Go.bits .and .i64 g 3
  Go.bits .or .u64 (Go.bits .or .u64 (Go.bits .or .u64 (Go.bits .or .u64 ((IntKind.u64.wrap (nth 0 x 0)).tmod 3) 0) (IntKind.u64.wrap (w * 8))) 0) 0
/-- So many places' words, so many hazards. -/
def cellAt (T S : Int) (list haz : Row) (a b : Int) (j : Nat) : Int :=
  if (j : Int) < a then placeW (list.getD j []) else if 2 * (T * S) ≤ (j : Int) ∧ (j : Int) < 2 * (T * S) + b then Go.bits .and .i64 (nth 0 (haz.getD (j - (2 * (T * S)).toNat) []) 0) 31 else 0
def cellsN (T S : Int) (list haz : Row) (a b : Int) : Row := (List.range (2 * (T * S) + 2 * T).toNat).map fun (j : Nat) => [cellAt T S list haz a b j]
def logN (T S : Int) (list haz : Row) (a b : Int) : Row :=
  ((List.range a.toNat).map fun (j : Nat) => [-1, 1, (j : Int), 0, placeW (list.getD j []), 1]) ++ (List.range b.toNat).map fun (j : Nat) => [-1, 1, 2 * (T * S) + (j : Int), 0, Go.bits .and .i64 (nth 0 (haz.getD j []) 0) 31, 1]
def cntA (T S : Int) (list : Row) : Int := if T * S < (list.length : Int) then T * S else list.length
def cntB (T : Int) (haz : Row) : Int := if T < (haz.length : Int) then T else haz.length
end Go.Proofs.Ytckbckijpdnlaaa.Sy
