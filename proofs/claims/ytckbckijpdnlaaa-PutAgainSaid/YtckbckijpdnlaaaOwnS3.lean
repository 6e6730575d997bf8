/- The second engine, part 3: operations on values alone. A lemma file: it claims nothing of the program. -/
import Derived.Test.YtckbckijpdnlaaaOwnS2
set_option linter.unusedVariables false
set_option linter.unusedSimpArgs false
namespace Go.Proofs.Ytckbckijpdnlaaa.Sy
open Go Go.Lib Go.Proofs.Ytckbckijpdnlaaa.Eng

abbrev SVal := SM SV
/-- What an operation on values gives is what is said. -/
abbrev Gives (v : Val) (m : SVal) (r : Option Value) : Prop := Sat v m fun x => r = some (dv v x)
def sI (k : IntKind) (e : E) : SVal := SM.bind (known e) fun e => .pure (.one (.int k e))
theorem sI_ok {v : Val} {k : IntKind} {e : E} {r : Option Value} (h : r = some (.int k (den v e).i)) : Gives v (sI k e) r := Sat.bind Sat.known fun x hx => .pure (by rw [h, dv_one, dl_int, hx])
def sB (e : E) : SVal := .pure (.one (.bool e))
def sInt (op : BinOp) (k : IntKind) (a b : E) : SVal := match op with
  | .add => sI k (mkW k (mk2 .add a b))
  | .sub => sI k (mkW k (mk2 .sub a b))
  | .mul => sI k (mkW k (mk2 .mul a b))
  | .quo => SM.bind (need 30 (mkNot (mk2 .eqi b (.ci 0)))) fun _ => sI k (mk2 (.quo k) a b)
  | .rem => SM.bind (need 31 (mkNot (mk2 .eqi b (.ci 0)))) fun _ => sI k (mk2 .rem a b)
  | .and => sI k (mk2 (.bit .and k) a b)
  | .or => sI k (mk2 (.bit .or k) a b)
  | .xor => sI k (mk2 (.bit .xor k) a b)
  | .andNot => sI k (mk2 (.bit .andNot k) a b)
  | .eql => sB (mk2 .eqi a b)
  | .neq => sB (mkNot (mk2 .eqi a b))
  | .lss => sB (mk2 .lt a b)
  | .leq => sB (mk2 .le a b)
  | .gtr => sB (mk2 .lt b a)
  | .geq => sB (mk2 .le b a)
  | _ => .fail 32
def sNeg? (op : BinOp) (b : E) : SVal := match op with
  | .eql => sB b
  | .neq => sB (mkNot b)
  | _ => .fail 33
def maxI : Int := 9223372036854775807
def sStr (op : BinOp) (a b : E) : SVal := match op with
  | .add => SM.bind (need 34 (mk2 .le (mk2 .add (.o1 .slen a) (.o1 .slen b)) (.ci maxI))) fun _ => .pure (.one (.str (.o2 .scat a b)))
  | .eql => sB (.o2 .eqs a b)
  | .neq => sB (mkNot (.o2 .eqs a b))
  | _ => .fail 35
section
variable {v : Val}
theorem sInt_ok {op : BinOp} {k : IntKind} {a b : E} : Gives v (sInt op k a b) (aInt op k (den v a).i (den v b).i) := by
  have hz : (den v (mkNot (mk2 .eqi b (.ci 0)))).b = true → ¬ (den v b).i = 0 := by
    rw [mkNot_ok, mk2_b _ _ _ rfl]
    simp [den, den2, mkB, mkI]
  unfold sInt
  split <;> first
    | (refine Sat.needB fun h => sI_ok ?_; have h := hz h; simp only [aInt, if_neg h, quo_i, rem_i]; done)
    | (refine sI_ok ?_; simp [aInt, mkW_ok, add_i, sub_i, mul_i, quo_i, rem_i, bit_i, eqi_bb, lt_bb, le_bb, mkNot_ok, den, den2, mkI, mkB]; done)
    | (refine .pure ?_; simp [aInt, dv, dl, mkW_ok, add_i, sub_i, mul_i, quo_i, rem_i, bit_i, eqi_bb, lt_bb, le_bb, mkNot_ok, den, den2, mkI, mkB]; done)
    | (refine .pure ?_; simp [aInt, dv, dl, mkW_ok, add_i, sub_i, mul_i, quo_i, rem_i, bit_i, eqi_bb, lt_bb, le_bb, mkNot_ok, den, den2, mkI, mkB]; rfl)
    | exact .fail
theorem sNeg_ok {op : BinOp} {b : E} {q : Bool} (h : (den v b).b = q) : Gives v (sNeg? op b) (neg? op q) := by
  unfold sNeg?
  split <;> first
    | (refine .pure ?_; simp [neg?, dv, dl, mkNot_ok, h]; done)
    | exact .fail
theorem sStr_ok {op : BinOp} {a b : E} : Gives v (sStr op a b) (aStr op (den v a).s (den v b).s) := by
  unfold sStr
  split
  · refine Sat.needB fun h => .pure ?_
    rw [mk2_b _ _ _ rfl] at h
    simp only [den, den2, mkB, add_i, den1, mkI, maxI] at h
    have h : (den v a).s.size + (den v b).s.size ≤ 9223372036854775807 := by have := of_decide_eq_true h; omega
    simp only [aStr, if_pos h, dv, dl, den, den2, mkS]
  · exact .pure (by simp [aStr, dv, dl, den, den2, mkB])
  · exact .pure (by simp [aStr, dv, dl, mkNot_ok, den, den2, mkB])
  · exact .fail
end
def sEqV : CK → SL → SL → Option E
  | .b, .bool a, .bool b => some (.o2 .eqb a b)
  | .i q, .int k a, .int k' b => if k = q ∧ k' = q then some (mk2 .eqi a b) else none
  | .s, .str a, .str b => some (.o2 .eqs a b)
  | _, _, _ => none
def mkAnd (a b : E) : E := match a with
  | .cb p => if p = true then b else .cb false
  | _ => .o2 .and a b
def sEqL : List CK → List SL → List SL → Option E
  | [], [], [] => some (.cb true)
  | c :: cs, x :: xs, y :: ys => match sEqV c x y, sEqL cs xs ys with
    | some p, some q => some (mkAnd p q)
    | _, _ => none
  | _, _, _ => none
section
variable {v : Val}
theorem mkAnd_ok (a b : E) : (den v (mkAnd a b)).b = ((den v a).b && (den v b).b) := by
  unfold mkAnd
  split
  · split
    · rename_i h; subst h; simp [den, mkB]
    · rename_i p h; have : p = false := by simpa using h
      subst this; simp [den, mkB]
  · rfl
theorem sEqV_ok {c : CK} {x y : SL} {e : E} (h : sEqV c x y = some e) : eqV c (dl v x) (dl v y) = some (den v e).b := by
  unfold sEqV at h
  split at h
  · cases h; rfl
  · rename_i q k a k' b
    split at h
    · rename_i hk; cases h; simp only [dl, eqV, if_pos hk, eqi_bb]
    · cases h
  · cases h; rfl
  · cases h
theorem sEqL_ok : ∀ {cs : List CK} {xs ys : List SL} {e : E}, sEqL cs xs ys = some e → eqL cs (dls v xs) (dls v ys) = some (den v e).b
  | [], [], [], e, h => by cases h; rfl
  | c :: cs, x :: xs, y :: ys, e, h => by
    simp only [sEqL] at h
    split at h
    · rename_i p q hp hq
      cases h
      have h1 := sEqV_ok (v := v) hp
      have h2 := sEqL_ok hq
      simp only [dls, List.map_cons, eqL] at h2 ⊢
      rw [h1, h2, mkAnd_ok]
    · cases h
  | [], [], _ :: _, _, h => by cases h
  | [], _ :: _, _, _, h => by cases h
  | _ :: _, [], _, _, h => by cases h
  | _ :: _, _ :: _, [], _, h => by cases h
end
/-- A row that lies somewhere: that is sure, or it has elements. -/
def srLn : SR → E
  | .sym r _ => mkLen r
  | .lits els => .ci (els.length : Int)
def sSureR (s : Bool) (r : SR) : SM Unit := match s with
  | true => .pure ()
  | false => need 41 (mk2 .lt (.ci 0) (srLn r))
def sSure : Option SB → SM Unit
  | some (.row s _ r) => sSureR s r
  | some (.old s _ r) => sSureR s r
  | _ => .fail 41
theorem srLn_ok {v : Val} (r : SR) : (den v (srLn r)).i = ((dr v r).length : Int) := by
  cases r with
  | sym r ks => simp only [srLn, mkLen_ok, dr, List.length_map]
  | lits els => simp [srLn, dr, den, mkI]
theorem sSureR_ok {v : Val} {s : Bool} {r : SR} : Sat v (sSureR s r) fun _ => (s || !(dr v r).isEmpty) = true := by
  unfold sSureR
  split
  · exact .pure (by simp)
  · refine Sat.need.mono fun _ h => ?_
    have h := lt_b h
    rw [srLn_ok] at h
    cases hd : dr v r with
    | nil => rw [hd] at h; simp [den, mkI] at h
    | cons a b => simp
theorem sSure_ok {v : Val} (b : Option SB) : Sat v (sSure b) fun _ => sureB (b.map (db v)) = true := by
  cases b with
  | none => exact .fail
  | some b => cases b <;> first | exact .fail | exact sSureR_ok
def isBoolT (I : Tab) (t : TypeId) : Bool := match I t with
  | some i => match i.d with
    | .bool => true
    | _ => false
  | none => false
def isPtrT (I : Tab) (t : TypeId) : Bool := match I t with
  | some i => match i.d with
    | .ptr _ => true
    | _ => false
  | none => false
def isSliceT (I : Tab) (t : TypeId) : Bool := match I t with
  | some i => match i.d with
    | .slice _ => true
    | _ => false
  | none => false
def isIfcT (I : Tab) (t : TypeId) : Bool := match I t with
  | some i => match i.d with
    | .iface => true
    | _ => false
  | none => false
def sBin (I : Tab) (op : BinOp) (t : TypeId) (cx cy : Bool) (x y : SV) (H : SH) : SVal := match x, y with
  | .one (.int k a), .one (.int k' b) => match op with
    | .shl => SM.bind (need 36 (mk2 .le (.ci 0) b)) fun _ => sI k (mk2 (.shl k) a b)
    | .shr => SM.bind (need 37 (mk2 .le (.ci 0) b)) fun _ => sI k (mk2 (.shr k) a b)
    | op => if k = k' then sInt op k a b else .fail 38
  | .one (.str a), .one (.str b) => sStr op a b
  | .one (.bool a), .one (.bool b) => if isBoolT I t = true then sNeg? op (.o2 .eqb a b) else .fail 39
  | .one .nilp, .one .nilp => if isPtrT I t = true then sNeg? op (.cb true) else .fail 40
  | .one .nilp, .one (.ptr _ _ _) => if isPtrT I t = true then sNeg? op (.cb false) else .fail 40
  | .one (.ptr _ _ _), .one .nilp => if isPtrT I t = true then sNeg? op (.cb false) else .fail 40
  | .one .nils, .one .nils => if isSliceT I t = true then sNeg? op (.cb true) else .fail 41
  | .one (.slc id _ _), .one .nils => if isSliceT I t = true then SM.bind (sSure (H[id]?)) fun _ => sNeg? op (.cb false) else .fail 41
  | .one .nili, .one .nili => if isIfcT I t = true ∧ (cx || cy) = true then sNeg? op (.cb true) else .fail 42
  | .one (.ifc _ _), .one .nili => if isIfcT I t = true then sNeg? op (.cb false) else .fail 42
  | .agg xs, .agg ys => match I t with
    | some i => match i.eqs with
      | some cs => if xs.length = i.size then match sEqL cs xs ys with
          | some b => sNeg? op b
          | none => .fail 43
        else .fail 44
      | none => .fail 45
    | none => .fail 46
  | _, _ => .fail 47
section
variable {v : Val} {I : Tab} {H : SH}
theorem nn0 {b : E} (h : (den v (mk2 .le (.ci 0) b)).b = true) : ¬ (den v b).i < 0 := by
  rw [mk2_b _ _ _ rfl] at h
  simp only [den, den2, mkB, mkI] at h
  have := of_decide_eq_true h
  omega
theorem isPtrT_ok {t : TypeId} (h : isPtrT I t = true) : ∃ i e, I t = some i ∧ i.d = .ptr e := by
  unfold isPtrT at h
  split at h
  · rename_i i hi; split at h
    · rename_i e he; exact ⟨i, e, hi, he⟩
    · cases h
  · cases h
theorem isSliceT_ok {t : TypeId} (h : isSliceT I t = true) : ∃ i e, I t = some i ∧ i.d = .slice e := by
  unfold isSliceT at h
  split at h
  · rename_i i hi; split at h
    · rename_i e he; exact ⟨i, e, hi, he⟩
    · cases h
  · cases h
theorem isIfcT_ok {t : TypeId} (h : isIfcT I t = true) : ∃ i, I t = some i ∧ i.d = .iface := by
  unfold isIfcT at h
  split at h
  · rename_i i hi; split at h
    · rename_i he; exact ⟨i, hi, he⟩
    · cases h
  · cases h
theorem isBoolT_ok {t : TypeId} (h : isBoolT I t = true) : ∃ i, I t = some i ∧ i.d = .bool := by
  unfold isBoolT at h
  split at h
  · rename_i i hi; split at h
    · rename_i he; exact ⟨i, hi, he⟩
    · cases h
  · cases h
theorem sBin_ok {op : BinOp} {t : TypeId} {cx cy : Bool} {x y : SV} : Gives v (sBin I op t cx cy x y H) (aBin I op t cx cy (dv v x) (dv v y) (dH v H)) := by
  unfold sBin
  split
  · rename_i k a k' b
    split
    · refine Sat.needB fun h => sI_ok ?_
      have := nn0 h
      simp only [dv, dl, aBin, aShift, if_neg this, shl_i, shr_i]
    · refine Sat.needB fun h => sI_ok ?_
      have := nn0 h
      simp only [dv, dl, aBin, aShift, if_neg this, shl_i, shr_i]
    · rename_i h1 h2
      split
      · rename_i hk
        subst hk
        have : aBin I op t cx cy (dv v (.one (.int k a))) (dv v (.one (.int k b))) (dH v H) = aInt op k (den v a).i (den v b).i := by
          cases op <;> first | (exact absurd rfl h1) | (exact absurd rfl h2) | simp [dv, dl, aBin]
        rw [this]
        exact sInt_ok
      · exact .fail
  · exact sStr_ok
  · split
    · rename_i h
      obtain ⟨i, hi, hd⟩ := isBoolT_ok h
      simp only [dv, dl, aBin, hi, hd]
      exact sNeg_ok rfl
    · exact .fail
  · split
    · rename_i h
      obtain ⟨i, e, hi, hd⟩ := isPtrT_ok h
      simp only [dv, dl, aBin, hi, hd]
      exact sNeg_ok rfl
    · exact .fail
  · split
    · rename_i h
      obtain ⟨i, e, hi, hd⟩ := isPtrT_ok h
      simp only [dv, dl, aBin, hi, hd]
      exact sNeg_ok rfl
    · exact .fail
  · split
    · rename_i h
      obtain ⟨i, e, hi, hd⟩ := isPtrT_ok h
      simp only [dv, dl, aBin, hi, hd]
      exact sNeg_ok rfl
    · exact .fail
  · split
    · rename_i h
      obtain ⟨i, e, hi, hd⟩ := isSliceT_ok h
      simp only [dv, dl, aBin, hi, hd]
      exact sNeg_ok rfl
    · exact .fail
  · split
    · rename_i h
      obtain ⟨i, e, hi, hd⟩ := isSliceT_ok h
      refine Sat.bind (sSure_ok _) fun _ hs => ?_
      simp only [dv, dl, aBin, hi, hd, dH_get, hs, if_true]
      exact sNeg_ok rfl
    · exact .fail
  · split
    · rename_i h
      obtain ⟨i, hi, hd⟩ := isIfcT_ok h.1
      simp only [dv, dl, aBin, hi, hd, h.2, if_true]
      exact sNeg_ok rfl
    · exact .fail
  · split
    · rename_i h
      obtain ⟨i, hi, hd⟩ := isIfcT_ok h
      simp only [dv, dl, aBin, hi, hd]
      exact sNeg_ok rfl
    · exact .fail
  · rename_i xs ys
    split
    · rename_i i hi
      split
      · rename_i cs hcs
        split
        · rename_i hl
          split
          · rename_i b hb
            have := sEqL_ok (v := v) hb
            simp only [dv, aBin, hi, hcs, dls_len, hl, if_true, this]
            exact sNeg_ok rfl
          · exact .fail
        · exact .fail
      · exact .fail
    · exact .fail
  · exact .fail
end
def sUn (op : UnOp) (x : SV) : SVal := match op, x with
  | .not, .one (.bool b) => sB (mkNot b)
  | .neg, .one (.int k n) => sI k (mkW k (.o1 .neg n))
  | _, _ => .fail 48
def sConv (I : Tab) (src dst : TypeId) (x : SV) : SVal := match I src, I dst, x with
  | some _, some j, .one (.int _ n) => match j.d with
    | .int k => sI k (mkW k n)
    | _ => .fail 49
  | some _, some j, .one (.str s) => match j.d with
    | .str => .pure (.one (.str s))
    | _ => .fail 50
  | _, _, _ => .fail 51
def sFieldAddr (I : Tab) (s : TypeId) (x : SV) (f : Nat) : SVal := match I s, x with
  | some i, .one (.ptr id k e) => match i.d with
    | .struct fs => match fs[f]? with
      | some (off, ft) => match I ft with
        | some j => if j.size = 0 then .fail 52 else .pure (.one (.ptr id (k + off) e))
        | none => .fail 53
      | none => .fail 54
    | _ => .fail 55
  | _, _ => .fail 56
def sField (I : Tab) (t : TypeId) (x : SV) (f : Nat) : SVal := match I t, x with
  | some i, .agg cs => match i.d with
    | .struct fs => match fs[f]? with
      | some (off, ft) => match I ft with
        | some j => if off + j.size ≤ cs.length then opt 57 (stval j ((cs.drop off).take j.size)) else .fail 58
        | none => .fail 59
      | none => .fail 60
    | _ => .fail 61
  | _, _ => .fail 62
def sRowZ : Option SB → Option Nat
  | some (.row _ z _) => some z
  | some (.old _ z _) => some z
  | _ => none
theorem sRowZ_ok {v : Val} (b : Option SB) : rowZ (b.map (db v)) = sRowZ b := by
  cases b with
  | none => rfl
  | some b => cases b <;> rfl
def sIndexAddr (I : Tab) (t : TypeId) (x ix : SV) (H : SH) : SVal := match I t, x, ix with
  | some i, .one (.slc id e n), .one (.int _ j) => match i.d with
    | .slice el => match I el, sRowZ (H[id]?) with
      | some q, some z => if q.size = z then SM.bind (need 63 (mk2 .le (.ci 0) j)) fun _ => SM.bind (need 64 (mk2 .lt j n)) fun _ => .pure (.one (.ptr id 0 (some (mk2 .add (mkN e) j)))) else .fail 65
      | _, _ => .fail 66
    | _ => .fail 67
  | some i, .one (.ptr id k s), .one (.int _ j) => match i.d with
    | .array len el => match I el, litI j with
      | some q, some n => if 0 ≤ n ∧ n < (len : Int) then .pure (.one (.ptr id (k + n.toNat * q.size) s)) else .fail 68
      | _, _ => .fail 69
    | _ => .fail 70
  | _, _, _ => .fail 71
def sIndex (I : Tab) (t : TypeId) (x ix : SV) : SVal := match I t, x, ix with
  | some i, .one (.str s), .one (.int _ n) => match i.d with
    | .str => SM.bind (need 72 (mk2 .le (.ci 0) n)) fun _ => SM.bind (need 73 (mk2 .lt n (.o1 .slen s))) fun _ => .pure (.one (.int .u8 (.o2 .sat s n)))
    | _ => .fail 74
  | _, _, _ => .fail 75
def sBound (d : E) : Option SV → Option E
  | none => some d
  | some (.one (.int _ n)) => some n
  | _ => none
def sSlice (I : Tab) (t : TypeId) (x : SV) (lo hi : Option SV) (H : SH) : SVal := match I t, x with
  | some i, .one (.slc id e n) => match i.d with
    | .slice el => match I el, sRowZ (H[id]?), sBound (.ci 0) lo, sBound (mkN n) hi with
      | some j, some z, some l, some h => if j.size = z then
          SM.bind (need 76 (mk2 .le (.ci 0) l)) fun _ => SM.bind (need 77 (mk2 .le l h)) fun _ => SM.bind (need 78 (mk2 .le h (mkN n))) fun _ =>
            .pure (.one (.slc id (mk2 .add (mkN e) l) (mk2 .sub h l)))
        else .fail 79
      | _, _, _, _ => .fail 80
    | _ => .fail 81
  | some i, .one (.str s) => match i.d with
    | .str => match sBound (.ci 0) lo, sBound (.o1 .slen s) hi with
      | some l, some h => SM.bind (need 82 (mk2 .le (.ci 0) l)) fun _ => SM.bind (need 83 (mk2 .le l h)) fun _ => SM.bind (need 84 (mk2 .le h (.o1 .slen s))) fun _ =>
          .pure (.one (.str (.o3 .sub s l h)))
      | _, _ => .fail 85
    | _ => .fail 86
  | _, _ => .fail 87
def sLen (I : Tab) (ts : Array TypeId) (xs : List SV) : SVal := match ts[0]?, xs with
  | some t, x :: _ => match I t with
    | some i => match i.d, x with
      | .str, .one (.str s) => sI .i64 (.o1 .slen s)
      | .slice _, .one (.slc _ _ n) => sI .i64 (mkN n)
      | .slice _, .one .nils => sI .i64 (.ci 0)
      | .array n _, _ => sI .i64 (.ci (n : Int))
      | _, _ => .fail 88
    | none => .fail 89
  | _, _ => .fail 90
def sExtract (x : SV) (i : Nat) : SVal := match x with
  | .tup vs => match vs[i]? with
    | some w => .pure w.sv
    | none => .fail 91
  | _ => .fail 92
def sNil (x : SV) : SVal := match x with
  | .one (.ptr id k s) => .pure (.one (.ptr id k s))
  | .one (.ifc t x) => .pure (.one (.ifc t x))
  | .one (.fn f) => .pure (.one (.fn f))
  | _ => .fail 93
def sMin (xs : List SV) : SVal := match xs with
  | [.one (.int k x), .one (.int k' y)] => sI k (mk2 .mn x y)
  | _ => .fail 94
def sMax (xs : List SV) : SVal := match xs with
  | [.one (.int k x), .one (.int k' y)] => sI k (mk2 .mx x y)
  | _ => .fail 95
section
variable {v : Val} {I : Tab} {H : SH}
theorem sUn_ok {op : UnOp} {x : SV} : Gives v (sUn op x) (aUn op (dv v x)) := by
  unfold sUn
  split
  · exact .pure (by simp [aUn, dv, dl, mkNot_ok])
  · exact sI_ok (by simp [aUn, dv, dl, mkW_ok, den, den1, mkI])
  · exact .fail
theorem sConv_ok {s d : TypeId} {x : SV} : Gives v (sConv I s d x) (aConv I s d (dv v x)) := by
  unfold sConv
  split
  · rename_i h1 h2
    split
    · rename_i hd; exact sI_ok (by simp [aConv, h1, h2, hd, dv, dl, mkW_ok])
    · exact .fail
  · rename_i h1 h2
    split
    · rename_i hd; exact .pure (by simp [aConv, h1, h2, hd, dv, dl])
    · exact .fail
  · exact .fail
theorem sFieldAddr_ok {s : TypeId} {x : SV} {f : Nat} : Gives v (sFieldAddr I s x f) (aFieldAddr I s (dv v x) f) := by
  unfold sFieldAddr
  split
  · rename_i h1
    split
    · rename_i hd
      split
      · rename_i hf
        split
        · rename_i hj
          split
          · exact .fail
          · rename_i hz; exact .pure (by simp [aFieldAddr, h1, hd, hf, hj, hz, dv, dl])
        · exact .fail
      · exact .fail
    · exact .fail
  · exact .fail
theorem sField_ok {t : TypeId} {x : SV} {f : Nat} : Gives v (sField I t x f) (aField I t (dv v x) f) := by
  unfold sField
  split
  · rename_i h1
    split
    · rename_i hd
      split
      · rename_i hf
        split
        · rename_i hj
          split
          · rename_i hl
            refine Sat.opt fun x hx => ?_
            have := stval_ok (v := v) hx
            rw [dls_take, dls_drop] at this
            simp only [aField, dv, h1, hd, hf, hj, aPart, dls_len, if_pos hl, this]
          · exact .fail
        · exact .fail
      · exact .fail
    · exact .fail
  · exact .fail
theorem le0 {b : E} (h : (den v (mk2 .le (.ci 0) b)).b = true) : 0 ≤ (den v b).i := by have := nn0 h; omega
theorem sIndexAddr_ok {t : TypeId} {x ix : SV} : Gives v (sIndexAddr I t x ix H) (aIndexAddr I t (dv v x) (dv v ix) (dH v H)) := by
  unfold sIndexAddr
  split
  · rename_i i id e n k j h1
    split
    · rename_i hd
      split
      · rename_i q z hq hz
        split
        · rename_i hqz
          refine Sat.needB fun h2 => Sat.needB fun h3 => .pure ?_
          have h2 := le0 h2
          have h3 := lt_b h3
          have hz := (sRowZ_ok (v := v) _).trans hz
          simp only [aIndexAddr, dv, dl, h1, hd, hq, dH_get, hz]
          rw [if_pos ⟨hqz, h2, by omega⟩]
          have e1 : ((((den v e).i.toNat : Nat) : Int) + (den v j).i).toNat = (den v e).i.toNat + (den v j).i.toNat := by omega
          simp only [spot, add_i, mkN_ok, e1]
        · exact .fail
      · exact .fail
    · exact .fail
  · rename_i h1
    split
    · rename_i hd
      split
      · rename_i q n hq hn
        split
        · rename_i h; exact .pure (by simp only [aIndexAddr, dv, dl, h1, hd, hq, litI_ok hn, if_pos h])
        · exact .fail
      · exact .fail
    · exact .fail
  · exact .fail
theorem sIndex_ok {t : TypeId} {x ix : SV} : Gives v (sIndex I t x ix) (aIndex I t (dv v x) (dv v ix)) := by
  unfold sIndex
  split
  · rename_i s k n h1
    split
    · rename_i hd
      refine Sat.needB fun h2 => Sat.needB fun h3 => .pure ?_
      have h2 := le0 h2
      have h3 := lt_b h3
      simp only [den, den1, mkI] at h3
      have hlt : (den v n).i.toNat < (den v s).s.size := by omega
      simp only [aIndex, dv, dl, h1, hd, if_pos h2]
      rw [getElem?_pos (den v s).s _ hlt]
      simp only [den, den2, mkI]
      have e1 : (den v s).s.get! (den v n).i.toNat = (den v s).s[(den v n).i.toNat] := by
        show (den v s).s.data[(den v n).i.toNat]! = (den v s).s.data[(den v n).i.toNat]
        rw [getElem!_pos]
      rw [e1]
    · exact .fail
  · exact .fail
theorem sBound_ok {d : E} {n : Nat} (hd : (den v d).i = (n : Int)) {x : Option SV} {e : E} (h : sBound d x = some e) : boundI n (x.map (dv v)) = some (den v e).i := by
  unfold sBound at h
  split at h
  · cases h; simp [boundI, hd]
  · cases h; rfl
  · cases h
theorem sSlice_ok {t : TypeId} {x : SV} {lo hi : Option SV} : Gives v (sSlice I t x lo hi H) (aSlice I t (dv v x) (lo.map (dv v)) (hi.map (dv v)) none (dH v H)) := by
  unfold sSlice
  split
  · rename_i i id e n h1
    split
    · rename_i hd
      split
      · rename_i j z l h hj hz hl hh
        split
        · rename_i hjz
          refine Sat.needB fun h2 => Sat.needB fun h3 => Sat.needB fun h4 => .pure ?_
          have h2 := le0 h2
          have h3 := le_b h3
          have h4 := le_b h4
          rw [mkN_ok] at h4
          have hz := (sRowZ_ok (v := v) _).trans hz
          have hl := sBound_ok (v := v) (n := 0) rfl hl
          have hh := sBound_ok (v := v) (n := (den v n).i.toNat) (mkN_ok n) hh
          simp only [aSlice, dv, dl, h1, hd, hj, dH_get, hz, hl, hh]
          rw [if_pos ⟨hjz, h2, h3, h4⟩]
          simp only [add_i, sub_i, mkN_ok]
          congr 3
          · congr 2; omega
          · omega
        · exact .fail
      · exact .fail
    · exact .fail
  · rename_i i s h1
    split
    · rename_i hd
      split
      · rename_i l h hl hh
        refine Sat.needB fun h2 => Sat.needB fun h3 => Sat.needB fun h4 => .pure ?_
        have h2 := le0 h2
        have h3 := le_b h3
        have h4 := le_b h4
        simp only [den, den1, mkI] at h4
        have hl := sBound_ok (v := v) (n := 0) rfl hl
        have hh := sBound_ok (v := v) (n := (den v s).s.size) rfl hh
        simp only [aSlice, dv, dl, h1, hd, hl, hh]
        rw [if_pos ⟨h2, h3, h4⟩]
        rfl
      · exact .fail
    · exact .fail
  · exact .fail
theorem sLen_ok {ts : Array TypeId} {xs : List SV} : Gives v (sLen I ts xs) (aLen I ts (xs.map (dv v))) := by
  unfold sLen
  split
  · rename_i t x r ht
    split
    · rename_i i hi
      split
      · rename_i hd; exact sI_ok (by simp [aLen, ht, hi, hd, dv, dl, den, den1, mkI])
      · rename_i hd; exact sI_ok (by simp [aLen, ht, hi, hd, dv, dl, mkN_ok])
      · rename_i hd; exact sI_ok (by simp [aLen, ht, hi, hd, dv, dl, den, mkI])
      · rename_i hd; exact sI_ok (by simp [aLen, ht, hi, hd, dv, dl, den, mkI])
      · exact .fail
    · exact .fail
  · exact .fail
theorem sExtract_ok {x : SV} {i : Nat} : Gives v (sExtract x i) (aExtract (dv v x) i) := by
  unfold sExtract
  split
  · split
    · rename_i w hw; exact .pure (by rw [dw_sv]; simp [aExtract, dv, hw])
    · exact .fail
  · exact .fail
theorem sNil_ok {x : SV} : Gives v (sNil x) (aNil (dv v x)) := by
  unfold sNil
  split
  · exact .pure rfl
  · exact .pure rfl
  · exact .pure rfl
  · exact .fail
theorem sMin_ok {xs : List SV} : Gives v (sMin xs) (aMin (xs.map (dv v))) := by
  unfold sMin
  split
  · exact sI_ok (by simp [aMin, dv, dl, mn_i])
  · exact .fail
theorem sMax_ok {xs : List SV} : Gives v (sMax xs) (aMax (xs.map (dv v))) := by
  unfold sMax
  split
  · exact sI_ok (by simp [aMax, dv, dl, mx_i])
  · exact .fail
end
end Go.Proofs.Ytckbckijpdnlaaa.Sy
