/- The second engine, part 2: values, blocks as terms; what they stand for. A lemma file: it claims nothing of the program. -/
import Derived.Test.YtckbckijpdnlaaaOwnS1
set_option linter.unusedVariables false
set_option linter.unusedSimpArgs false
namespace Go.Proofs.Ytckbckijpdnlaaa.Sy
open Go Go.Lib Go.Proofs.Ytckbckijpdnlaaa.Eng

inductive SL where
  | bool (b : E) | int (k : IntKind) (t : E) | str (s : E)
  | nilp | nils | nili | nilf
  | ptr (id k : Nat) (s : Option E)
  | slc (id : Nat) (e n : E)
  | ifc (t : TypeId) (v : SL)
  | fn (f : FuncId)
  | ite (c : E) (x y : SL)
inductive SW where
  | one (l : SL) | agg (ls : List SL)
inductive SV where
  | one (l : SL) | agg (ls : List SL) | tup (vs : List SW)
def SW.sv : SW → SV
  | .one l => .one l
  | .agg ls => .agg ls
def spot (v : Val) : Option E → Option Nat
  | none => none
  | some e => some (den v e).i.toNat
def dl (v : Val) : SL → Value
  | .bool b => .bool (den v b).b
  | .int k t => .int k (den v t).i
  | .str s => .string (den v s).s
  | .nilp => .pointer none
  | .nils => .slice none 0 0
  | .nili => .nilIface
  | .nilf => .nilFunc
  | .ptr id k s => .pointer (some ⟨id, k, spot v s⟩)
  | .slc id e n => .slice (some ⟨id, (den v e).i.toNat, none⟩) (den v n).i.toNat 0
  | .ifc t x => .iface t (dl v x)
  | .fn f => .func (.func f) #[] #[]
  | .ite c x y => if (den v c).b = true then dl v x else dl v y
def dls (v : Val) (ls : List SL) : List Value := ls.map (dl v)
def dw (v : Val) : SW → Value
  | .one l => dl v l
  | .agg ls => .agg (dls v ls).toArray
def dv (v : Val) : SV → Value
  | .one l => dl v l
  | .agg ls => .agg (dls v ls).toArray
  | .tup vs => .tuple (vs.map (dw v)).toArray
theorem dw_sv (v : Val) (x : SW) : dv v x.sv = dw v x := by cases x <;> rfl
def sundef : SV := .tup []
theorem dv_undef (v : Val) : dv v sundef = undef := rfl
/-- What a column holds. -/
inductive CC where
  | i (k : IntKind) | b | s
  deriving DecidableEq
def colV : CC → Int → Value
  | .i k, x => .int k x
  | .b, x => .bool (decide (x ≠ 0))
  | .s, x => .string (decS x)
def toVs : List CC → List Int → List Value
  | [], _ => []
  | k :: ks, e => colV k (nth 0 e 0) :: toVs ks (e.drop 1)
inductive SR where
  | sym (r : E) (ks : List CC) | lits (els : List (List SL))
def dr (v : Val) : SR → List (List Value)
  | .sym r ks => (den v r).r.map (toVs ks)
  | .lits els => els.map (dls v)
inductive SB where
  | cells (vs : List SL) | ro (vs : List SL) | row (s : Bool) (z : Nat) (r : SR) | old (s : Bool) (z : Nat) (r : SR) | iter (s pos : E) | dead
def db (v : Val) : SB → ABlk
  | .cells vs => .cells (dls v vs)
  | .ro vs => .ro (dls v vs)
  | .row s z r => .row s z (dr v r)
  | .old s z r => .old s z (dr v r)
  | .iter s p => .iter (den v s).s (den v p).i.toNat
  | .dead => .dead
abbrev SH := List SB
abbrev ST := List (Nat × SV)
def dH (v : Val) (H : SH) : AHeap := H.map (db v)
def dT (v : Val) (T : ST) : TM := T.map fun p => (p.1, dv v p.2)
theorem dH_len (v : Val) (H : SH) : (dH v H).length = H.length := by simp [dH]
theorem dH_get (v : Val) (H : SH) (id : Nat) : (dH v H)[id]? = (H[id]?).map (db v) := by simp [dH]
theorem dH_get' {v : Val} {H : SH} {id : Nat} {b : SB} (h : H[id]? = some b) : (dH v H)[id]? = some (db v b) := by rw [dH_get, h]; rfl
theorem dH_app (v : Val) (H X : SH) : dH v (H ++ X) = dH v H ++ dH v X := by simp [dH]
theorem dH_set (v : Val) (H : SH) (id : Nat) (b : SB) : dH v (H.set id b) = (dH v H).set id (db v b) := by simp [dH, List.map_set]
theorem dT_lookup (v : Val) (t : Nat) : ∀ (T : ST), (dT v T).lookup t = (T.lookup t).map (dv v)
  | [] => rfl
  | (u, x) :: T => by
    simp only [dT, List.map_cons, List.lookup_cons]
    cases h : t == u with
    | true => rfl
    | false => exact dT_lookup v t T
theorem dls_len (v : Val) (ls : List SL) : (dls v ls).length = ls.length := by simp [dls]
theorem dls_app (v : Val) (a b : List SL) : dls v (a ++ b) = dls v a ++ dls v b := by simp [dls]
theorem dls_take (v : Val) (a : List SL) (n : Nat) : dls v (a.take n) = (dls v a).take n := by simp [dls, List.map_take]
theorem dls_drop (v : Val) (a : List SL) (n : Nat) : dls v (a.drop n) = (dls v a).drop n := by simp [dls, List.map_drop]
theorem dl_one (v : Val) (x : SL) : (dl v x).oneCell' = true := by
  induction x with
  | ite c x y ihx ihy => simp only [dl]; split <;> assumption
  | _ => rfl
theorem cells_one {x : Value} (h : x.oneCell' = true) : x.cells.toList = [x] := by cases x <;> first | rfl | (simp [Value.oneCell'] at h)
theorem dls_ones (v : Val) (xs : List SL) : (dls v xs).all (·.oneCell') = true := by
  rw [List.all_eq_true]
  intro x hx
  obtain ⟨y, _, rfl⟩ := List.mem_map.1 hx
  exact dl_one v y
section
variable {v : Val}
theorem dv_one (l : SL) : dv v (.one l) = dl v l := rfl
theorem dv_agg (ls : List SL) : dv v (.agg ls) = .agg (dls v ls).toArray := rfl
theorem dv_tup (vs : List SW) : dv v (.tup vs) = .tuple (vs.map (dw v)).toArray := rfl
theorem dw_one (l : SL) : dw v (.one l) = dl v l := rfl
theorem dw_agg (ls : List SL) : dw v (.agg ls) = .agg (dls v ls).toArray := rfl
theorem dl_bool (b : E) : dl v (.bool b) = .bool (den v b).b := rfl
theorem dl_int (k : IntKind) (t : E) : dl v (.int k t) = .int k (den v t).i := rfl
theorem dl_str (s : E) : dl v (.str s) = .string (den v s).s := rfl
theorem dl_nilp : dl v .nilp = .pointer none := rfl
theorem dl_nils : dl v .nils = .slice none 0 0 := rfl
theorem dl_nili : dl v .nili = .nilIface := rfl
theorem dl_nilf : dl v .nilf = .nilFunc := rfl
theorem dl_ptr (id k : Nat) (s : Option E) : dl v (.ptr id k s) = .pointer (some ⟨id, k, spot v s⟩) := rfl
theorem dl_slc (id : Nat) (e n : E) : dl v (.slc id e n) = .slice (some ⟨id, (den v e).i.toNat, none⟩) (den v n).i.toNat 0 := rfl
theorem dl_ifc (t : TypeId) (x : SL) : dl v (.ifc t x) = .iface t (dl v x) := rfl
theorem dl_ite (c : E) (x y : SL) : dl v (.ite c x y) = if (den v c).b = true then dl v x else dl v y := rfl
theorem dl_fn (f : FuncId) : dl v (.fn f) = .func (.func f) #[] #[] := rfl
theorem db_cells (vs : List SL) : db v (.cells vs) = .cells (dls v vs) := rfl
theorem db_ro (vs : List SL) : db v (.ro vs) = .ro (dls v vs) := rfl
theorem db_row (s : Bool) (z : Nat) (r : SR) : db v (.row s z r) = .row s z (dr v r) := rfl
theorem db_old (s : Bool) (z : Nat) (r : SR) : db v (.old s z r) = .old s z (dr v r) := rfl
theorem db_iter (s p : E) : db v (.iter s p) = .iter (den v s).s (den v p).i.toNat := rfl
theorem db_dead : db v .dead = .dead := rfl
theorem dH_one (b : SB) : dH v [b] = [db v b] := rfl
theorem ci_i (z : Int) : (den v (.ci z)).i = z := rfl
end
/-- A value's cells. -/
def SV.cells : SV → Option (List SL)
  | .one l => some [l]
  | .agg ls => some ls
  | .tup _ => none
theorem cells_ok {v : Val} {x : SV} {ls : List SL} (h : x.cells = some ls) : (dv v x).cells.toList = dls v ls := by
  cases x with
  | one l => cases h; exact cells_one (dl_one v l)
  | agg l => cases h; simp [dv, Value.cells]
  | tup l => cases h

/-! ### values told in the text -/
def ofV1 : Value → Option SL
  | .bool b => some (.bool (.cb b))
  | .int k n => some (.int k (.ci n))
  | .string s => some (.str (.cs s.data.toList))
  | .pointer none => some .nilp
  | .slice none 0 0 => some .nils
  | .nilIface => some .nili
  | .nilFunc => some .nilf
  | _ => none
theorem ofV1_ok {v : Val} {x : Value} {l : SL} (h : ofV1 x = some l) : dl v l = x := by
  unfold ofV1 at h
  split at h <;> cases h <;> rfl
theorem ofV1_flat {x : Value} {l : SL} (h : ofV1 x = some l) : flat1 x = true := by
  unfold ofV1 at h
  split at h <;> cases h <;> rfl
def ofVs : List Value → Option (List SL)
  | [] => some []
  | x :: xs => match ofV1 x, ofVs xs with
    | some l, some ls => some (l :: ls)
    | _, _ => none
theorem ofVs_ok {v : Val} : ∀ {xs : List Value} {ls : List SL}, ofVs xs = some ls → dls v ls = xs
  | [], ls, h => by cases h; rfl
  | x :: xs, ls, h => by
    simp only [ofVs] at h
    split at h
    · rename_i l m h1 h2; cases h; simp [dls, ofV1_ok h1]; exact ofVs_ok h2
    · cases h
theorem ofVs_flat : ∀ {xs : List Value} {ls : List SL}, ofVs xs = some ls → xs.all flat1 = true
  | [], ls, h => by rfl
  | x :: xs, ls, h => by
    simp only [ofVs] at h
    split at h
    · rename_i l m h1 h2; simp [ofV1_flat h1]; simpa using ofVs_flat h2
    · cases h
def ofV (x : Value) : Option SV := match x with
  | .agg cs => match ofVs cs.toList with
    | some ls => some (.agg ls)
    | none => none
  | x => match ofV1 x with
    | some l => some (.one l)
    | none => none
theorem ofV_ok {v : Val} {x : Value} {s : SV} (h : ofV x = some s) : dv v s = x ∧ flatV x = true := by
  unfold ofV at h
  split at h
  · split at h
    · rename_i cs _ ls hl; cases h; exact ⟨by simp [dv, ofVs_ok hl], by simpa [flatV] using ofVs_flat hl⟩
    · cases h
  · rename_i hx
    split at h
    · rename_i l hl; cases h
      refine ⟨ofV1_ok hl, ?_⟩
      have := ofV1_flat hl
      unfold flatV
      split
      · rename_i cs; exact absurd rfl (hx cs)
      · exact this
    · cases h
def sev (T : ST) : Operand → Option SV
  | .tmp t => T.lookup t
  | .const x => ofV x
  | .func f => some (.one (.fn f))
  | .global _ => none
theorem sev_ok {v : Val} {T : ST} {x : Operand} {s : SV} (h : sev T x = some s) : ev (dT v T) x = some (dv v s) := by
  cases x with
  | tmp t => simp only [sev] at h; simp only [ev, dT_lookup, h, Option.map_some]
  | const c => simp only [sev] at h; obtain ⟨h1, h2⟩ := ofV_ok (v := v) h; simp only [ev, h2, if_true, h1]
  | func f => simp only [sev, Option.some.injEq] at h; subst h; rfl
  | global g => cases h

/-! ### columns -/
def kindsOf : List SL → Option (List CC)
  | [] => some []
  | l :: ls => match l, kindsOf ls with
    | .int k _, some r => some (.i k :: r)
    | .bool _, some r => some (.b :: r)
    | .str _, some r => some (.s :: r)
    | _, _ => none
/-- A value as a column's number. -/
def colE : CC → SL → Option E
  | .i k, .int k' t => if k = k' then some t else none
  | .b, .bool b => some (mkBn b)
  | .s, .str e => some (mkEnc e)
  | _, _ => none
def colEs : List CC → List SL → Option (List E)
  | [], [] => some []
  | k :: ks, l :: ls => match colE k l, colEs ks ls with
    | some e, some es => some (e :: es)
    | _, _ => none
  | _, _ => none
theorem colE_ok {v : Val} {k : CC} {l : SL} {e : E} (h : colE k l = some e) : colV k (den v e).i = dl v l := by
  cases k <;> cases l <;> simp [colE] at h
  · obtain ⟨rfl, rfl⟩ := h; rfl
  · subst h
    rename_i b
    simp only [colV, dl, mkBn_ok]
    cases (den v b).b <;> simp
  · subst h
    simp only [colV, dl, mkEnc_ok, decS_enc]
theorem colEs_ok {v : Val} : ∀ {ks : List CC} {ls : List SL} {es : List E}, colEs ks ls = some es → toVs ks (es.map fun e => (den v e).i) = dls v ls
  | [], [], es, h => by cases h; rfl
  | k :: ks, l :: ls, es, h => by
    simp only [colEs] at h
    split at h
    · rename_i e fs h1 h2
      cases h
      simp only [List.map_cons, toVs, nth, List.drop_succ_cons, List.drop_zero, dls, colE_ok h1]
      rw [colEs_ok h2]; rfl
    · cases h
  | [], _ :: _, _, h => by cases h
  | _ :: _, [], _, h => by cases h
/-- An element's columns, read. -/
def readCols (r i : E) : Nat → List CC → List SL
  | _, [] => []
  | c, k :: ks => (match k with
    | .i k => SL.int k (mkAt r i c)
    | .b => SL.bool (mkNb (mkAt r i c))
    | .s => SL.str (mkDec (mkAt r i c))) :: readCols r i (c + 1) ks
theorem nth_drop {α : Type} (d : α) : ∀ (c : Nat) (l : List α) (n : Nat), nth d (l.drop c) n = nth d l (c + n)
  | 0, l, n => by simp
  | c + 1, [], n => by simp [nth]
  | c + 1, x :: l, n => by rw [List.drop_succ_cons, nth_drop d c l n, show c + 1 + n = (c + n) + 1 by omega]; rfl
theorem readCols_ok {v : Val} (r i : E) : ∀ (c : Nat) (ks : List CC), dls v (readCols r i c ks) = toVs ks (((den v r).r.getD (den v i).i.toNat []).drop c)
  | c, [] => rfl
  | c, k :: ks => by
    have ih := readCols_ok (v := v) r i (c + 1) ks
    simp only [readCols, dls, List.map_cons, toVs]
    congr 1
    · cases k with
      | i k => simp only [dl, colV, mkAt_ok, nth_drop, Nat.add_zero]
      | b => simp only [dl, colV, mkNb_ok, mkAt_ok, nth_drop, Nat.add_zero]
      | s => simp only [dl, colV, mkDec_ok, mkAt_ok, nth_drop, Nat.add_zero]
    · rw [List.drop_drop]; exact ih
theorem readCols_len (r i : E) : ∀ (c : Nat) (ks : List CC), (readCols r i c ks).length = ks.length
  | c, [] => rfl
  | c, k :: ks => by simp [readCols, readCols_len r i (c + 1) ks]
theorem toVs_len : ∀ (ks : List CC) (e : List Int), (toVs ks e).length = ks.length
  | [], e => rfl
  | k :: ks, e => by simp [toVs, toVs_len ks]
theorem get_map_getD {α : Type} {f : List Int → α} {R : List (List Int)} {n : Nat} (h : n < R.length) : (R.map f)[n]? = some (f (R.getD n [])) := by
  rw [List.getElem?_map, List.getD_eq_getElem?_getD, List.getElem?_eq_getElem h]; rfl

/-! ### reading and writing -/
/-- Within a row. -/
def inR (n : Nat) (e r : E) : SM Unit := SM.bind (need n (mk2 .le (.ci 0) e)) fun _ => need n (mk2 .lt e (mkLen r))
theorem lt_b {v : Val} {a b : E} (h : (den v (mk2 .lt a b)).b = true) : (den v a).i < (den v b).i := by
  rw [mk2_b _ _ _ rfl] at h
  simp only [den, den2, mkB] at h
  exact of_decide_eq_true h
theorem le_b {v : Val} {a b : E} (h : (den v (mk2 .le a b)).b = true) : (den v a).i ≤ (den v b).i := by
  rw [mk2_b _ _ _ rfl] at h
  simp only [den, den2, mkB] at h
  exact of_decide_eq_true h
theorem Sat.inR {v : Val} {n : Nat} {e r : E} : Sat v (Sy.inR n e r) fun _ => 0 ≤ (den v e).i ∧ (den v e).i < ((den v r).r.length : Int) ∧ (den v e).i.toNat < (den v r).r.length :=
  Sat.needB fun h => Sat.need.mono fun _ k => by
    have h : 0 ≤ (den v e).i := le_b h
    have k := lt_b k
    rw [mkLen_ok] at k
    exact ⟨h, k, by omega⟩
theorem Sat.inRB {v : Val} {β : Type} {n : Nat} {e r : E} {f : Unit → SM β} {ψ : β → Prop} (h : 0 ≤ (den v e).i → (den v e).i < ((den v r).r.length : Int) → (den v e).i.toNat < (den v r).r.length → Sat v (f ()) ψ) : Sat v (SM.bind (Sy.inR n e r) f) ψ :=
  Sat.bind .inR fun _ k => h k.1 k.2.1 k.2.2
def simpL (kn : Kn) : SL → SL
  | .int k e => .int k (simpE kn e)
  | .bool b => match b with
    | .o1 .nb a => .bool (mkNb (simpE kn a))
    | _ => .bool b
  | .str b => match b with
    | .o1 .dec a => .str (mkDec (simpE kn a))
    | _ => .str b
  | l => l
def simpLs (kn : Kn) : List SL → List SL
  | [] => []
  | l :: ls => simpL kn l :: simpLs kn ls
def knownL (ls : List SL) : SM (List SL) := fun kn => .leaf kn (simpLs kn ls)
theorem simpL_ok {v : Val} {kn : Kn} (hk : KV v kn) (l : SL) : dl v (simpL kn l) = dl v l := by
  unfold simpL
  split
  · simp only [dl, simpE_ok hk]
  · split
    · simp only [dl, mkNb_ok, simpE_ok hk]; rfl
    · rfl
  · split
    · simp only [dl, mkDec_ok, simpE_ok hk]; rfl
    · rfl
  · rfl
theorem simpLs_ok {v : Val} {kn : Kn} (hk : KV v kn) : ∀ (ls : List SL), dls v (simpLs kn ls) = dls v ls
  | [] => rfl
  | l :: ls => by
    have := simpLs_ok hk ls
    simp only [dls] at this
    simp only [simpLs, dls, List.map_cons, simpL_ok hk, this]
theorem Sat.knownL {v : Val} {ls : List SL} : Sat v (Sy.knownL ls) fun ls' => dls v ls' = dls v ls := fun kn kn' b hk he => by
  obtain ⟨rfl, rfl⟩ := he; exact ⟨hk, simpLs_ok hk ls⟩
/-- What hangs on a condition, told by it. -/
def forceL : SL → SM SL
  | .ite c x y => SM.bind (ask c) fun b => match b with
    | true => forceL x
    | false => forceL y
  | l => .pure l
def hasIte : List SL → Bool
  | [] => false
  | .ite _ _ _ :: _ => true
  | _ :: ls => hasIte ls
def forceAll : List SL → SM (List SL)
  | [] => .pure []
  | l :: ls => SM.bind (forceL l) fun l => SM.bind (forceAll ls) fun ls => .pure (l :: ls)
def forceLs (ls : List SL) : SM (List SL) := match hasIte ls with
  | true => forceAll ls
  | false => .pure ls
theorem Sat.forceL {v : Val} : ∀ {l : SL}, Sat v (Sy.forceL l) fun l' => dl v l' = dl v l := by
  intro l
  induction l with
  | ite c x y ihx ihy =>
    refine Sat.askB fun b hb => ?_
    cases b with
    | true => exact ihx.mono fun l' h => by rw [h, dl_ite, if_pos hb]
    | false => exact ihy.mono fun l' h => by rw [h, dl_ite, if_neg (by rw [hb]; decide)]
  | _ => exact .pure rfl
theorem Sat.forceAll {v : Val} : ∀ {ls : List SL}, Sat v (Sy.forceAll ls) fun ls' => dls v ls' = dls v ls
  | [] => .pure rfl
  | l :: ls => Sat.bind .forceL fun l' h => Sat.bind Sat.forceAll fun ls' hs => .pure (by simp only [dls] at hs; simp only [dls, List.map_cons, h, hs])
theorem Sat.forceLs {v : Val} {ls : List SL} : Sat v (Sy.forceLs ls) fun ls' => dls v ls' = dls v ls := by
  unfold Sy.forceLs
  split
  · exact .forceAll
  · exact .pure rfl
def sRdR (r : SR) (e : E) (k n : Nat) : SM (List SL) := match r with
  | .sym r ks => if k + n ≤ ks.length then SM.bind (inR 3 e r) fun _ => knownL (((readCols r e 0 ks).drop k).take n) else .fail 4
  | .lits els => SM.bind (pick 7 e) fun z => match els[z.toNat]? with
      | some c => if k + n ≤ c.length then .pure ((c.drop k).take n) else .fail 5
      | none => .fail 6
def sRd0 (b : SB) (s : Option E) (k n : Nat) : SM (List SL) := match b, s with
  | .cells vs, none => if k + n ≤ vs.length then .pure ((vs.drop k).take n) else .fail 1
  | .ro vs, none => if k + n ≤ vs.length then .pure ((vs.drop k).take n) else .fail 1
  | .row _ _ r, some e => sRdR r e k n
  | .old _ _ r, some e => sRdR r e k n
  | _, _ => .fail 2
def sRd (b : SB) (s : Option E) (k n : Nat) : SM (List SL) := SM.bind (sRd0 b s k n) forceLs
section
variable {v : Val}
theorem seg_dls (v : Val) (vs : List SL) (k n : Nat) : dls v ((vs.drop k).take n) = ((dls v vs).drop k).take n := by rw [dls_take, dls_drop]
theorem sRdR_ok {r : SR} {e : E} {k n : Nat} : Sat v (sRdR r e k n) fun cs => ∃ c, (dr v r)[(den v e).i.toNat]? = some c ∧ k + n ≤ c.length ∧ dls v cs = (c.drop k).take n := by
  unfold sRdR
  split
  · rename_i r ks
    split
    · rename_i hl
      refine Sat.inRB fun h1 h2 h3 => Sat.knownL.mono fun ls' hls => ?_
      refine ⟨_, get_map_getD h3, by rw [toVs_len]; exact hl, ?_⟩
      rw [hls, seg_dls, readCols_ok]; rfl
    · exact .fail
  · rename_i els
    refine Sat.bind .pick fun z hz => ?_
    split
    · rename_i c hc
      split
      · rename_i hl
        refine .pure ⟨dls v c, ?_, by rw [dls_len]; exact hl, seg_dls _ _ _ _⟩
        rw [hz]; simp [dr, hc]
      · exact .fail
    · exact .fail
theorem sRd0_ok {b : SB} {s : Option E} {k n : Nat} : Sat v (sRd0 b s k n) fun cs => rd (db v b) (spot v s) k n = some (dls v cs) := by
  unfold sRd0
  split
  · split
    · rename_i h; exact .pure (by simp only [db, spot, rd, dls_len, if_pos h, seg_dls])
    · exact .fail
  · split
    · rename_i h; exact .pure (by simp only [db, spot, rd, dls_len, if_pos h, seg_dls])
    · exact .fail
  · refine sRdR_ok.mono fun cs h => ?_
    obtain ⟨c, h1, h2, h3⟩ := h
    simp only [db, spot, rd, h1, if_pos h2, h3]
  · refine sRdR_ok.mono fun cs h => ?_
    obtain ⟨c, h1, h2, h3⟩ := h
    simp only [db, spot, rd, h1, if_pos h2, h3]
  · exact .fail
theorem sRd_ok {b : SB} {s : Option E} {k n : Nat} : Sat v (sRd b s k n) fun cs => rd (db v b) (spot v s) k n = some (dls v cs) :=
  Sat.bind sRd0_ok fun cs h => Sat.forceLs.mono fun cs' h' => by rw [h, h']
end
def segL {α : Type} (c : List α) (k : Nat) (cs : List α) : List α := c.take k ++ cs ++ c.drop (k + cs.length)
def sWrR (r : SR) (e : E) (k : Nat) (cs : List SL) : SM SR := match r with
  | .sym r ks => if k + cs.length ≤ ks.length then match colEs ks (segL (readCols r e 0 ks) k cs) with
      | some es => SM.bind (inR 8 e r) fun _ => .pure (.sym (mkSet r e es) ks)
      | none => .fail 9
    else .fail 10
  | .lits els => SM.bind (pick 13 e) fun z => match els[z.toNat]? with
      | some c => if k + cs.length ≤ c.length then .pure (.lits (els.set z.toNat (segL c k cs))) else .fail 11
      | none => .fail 12
def sWr (b : SB) (s : Option E) (k : Nat) (cs : List SL) : SM SB := match b, s with
  | .cells vs, none => if k + cs.length ≤ vs.length then .pure (.cells (segL vs k cs)) else .fail 14
  | .row s z r, some e => SM.bind (sWrR r e k cs) fun r' => .pure (.row s z r')
  | _, _ => .fail 15
section
variable {v : Val}
theorem dls_seg (v : Val) (c : List SL) (k : Nat) (cs : List SL) : dls v (segL c k cs) = (dls v c).take k ++ dls v cs ++ (dls v c).drop (k + (dls v cs).length) := by
  simp only [segL, dls_app, dls_take, dls_drop, dls_len]
theorem sWrR_ok {r : SR} {e : E} {k : Nat} {cs : List SL} : Sat v (sWrR r e k cs) fun r' => ∃ c, (dr v r)[(den v e).i.toNat]? = some c ∧ k + (dls v cs).length ≤ c.length ∧ dr v r' = (dr v r).set (den v e).i.toNat (c.take k ++ dls v cs ++ c.drop (k + (dls v cs).length)) := by
  unfold sWrR
  split
  · rename_i r ks
    split
    · rename_i hl
      split
      · rename_i es hes
        refine Sat.inRB fun h1 h2 h3 => .pure ?_
        refine ⟨_, get_map_getD h3, by rw [toVs_len, dls_len]; exact hl, ?_⟩
        have he := colEs_ok (v := v) hes
        rw [dls_seg, readCols_ok, List.drop_zero] at he
        rw [← he]
        simp only [dr, mkSet_ok, List.map_set]
      · exact .fail
    · exact .fail
  · rename_i els
    refine Sat.bind .pick fun z hz => ?_
    split
    · rename_i c hc
      split
      · rename_i hl
        refine .pure ⟨dls v c, ?_, by rw [dls_len, dls_len]; exact hl, ?_⟩
        · rw [hz]; simp [dr, hc]
        · rw [hz, ← dls_seg]; simp [dr, List.map_set]
      · exact .fail
    · exact .fail
theorem sWr_ok {b : SB} {s : Option E} {k : Nat} {cs : List SL} : Sat v (sWr b s k cs) fun b' => wr (db v b) (spot v s) k (dls v cs) = some (db v b') := by
  unfold sWr
  split
  · split
    · rename_i h; exact .pure (by simp only [db, spot, wr, dls_len, if_pos h, dls_seg])
    · exact .fail
  · refine Sat.bind sWrR_ok fun r' h => .pure ?_
    obtain ⟨c, h1, h2, h3⟩ := h
    simp only [db, spot, wr, h1, if_pos h2, h3]
  · exact .fail
end

/-! ### operations -/
abbrev SRes := SM (SV × SH × List Nat)
def dres (v : Val) (r : SV × SH × List Nat) : Value × AHeap × List Nat := (dv v r.1, dH v r.2.1, r.2.2)
/-- What an operation gives is what is said. -/
abbrev Does (v : Val) (m : SRes) (r : Res) : Prop := Sat v m fun x => r = some (dres v x)
def stval (i : TInfo) (cs : List SL) : Option SV := if i.agg = true then some (.agg cs) else match cs with
  | [x] => some (.one x)
  | _ => none
theorem stval_ok {v : Val} {i : TInfo} {cs : List SL} {x : SV} (h : stval i cs = some x) : tval i (dls v cs) = some (dv v x) := by
  unfold stval at h
  unfold tval
  split at h
  · rename_i ha; cases h; rw [if_pos ha]; rfl
  · rename_i ha
    rw [if_neg ha]
    split at h
    · cases h; rfl
    · cases h
def sLoad (I : Tab) (t : TypeId) (p : SV) (H : SH) : SRes := match I t, p with
  | some i, .one (.ptr id k s) => match H[id]? with
    | some b => SM.bind (sRd b s k i.size) fun cs => match stval i cs with
      | some x => .pure (x, H, [])
      | none => .fail 16
    | none => .fail 17
  | _, _ => .fail 18
def sStore (I : Tab) (t : TypeId) (p x : SV) (H : SH) : SRes := match I t, p, x.cells with
  | some i, .one (.ptr id k s), some cs => if cs.length = i.size then match H[id]? with
      | some b => SM.bind (sWr b s k cs) fun b' => .pure (sundef, H.set id b', [id])
      | none => .fail 19
    else .fail 20
  | _, _, _ => .fail 21
def sNew (cs : List SL) (H : SH) : SRes := .pure (.one (.ptr H.length 0 none), H ++ [.cells cs], [])
def sAlloc (I : Tab) (t : TypeId) (H : SH) : SRes := match I t with
  | some i => match ofV i.zero with
    | some x => match x.cells with
      | some cs => sNew cs H
      | none => .fail 22
    | none => .fail 23
  | none => .fail 24
section
variable {v : Val} {I : Tab} {H : SH}
theorem sLoad_ok {t : TypeId} {p : SV} : Does v (sLoad I t p H) (aLoad I t (dv v p) (dH v H)) := by
  unfold sLoad
  split
  · rename_i i id k s hi
    split
    · rename_i b hb
      refine Sat.bind sRd_ok fun cs h => ?_
      split
      · rename_i x hx
        refine .pure ?_
        have hx := stval_ok (v := v) hx
        unfold aLoad
        rw [hi]
        simp only [dv, dl, dH_get' hb, h, hx, dres]
      · exact .fail
    · exact .fail
  · exact .fail
theorem sStore_ok {t : TypeId} {p x : SV} : Does v (sStore I t p x H) (aStore I t (dv v p) (dv v x) (dH v H)) := by
  unfold sStore
  split
  · rename_i i id k s cs hi hc
    split
    · rename_i hl
      split
      · rename_i b hb
        refine Sat.bind sWr_ok fun b' h => .pure ?_
        have hc := cells_ok (v := v) hc
        generalize dv v x = X at hc ⊢
        unfold aStore
        rw [hi]
        simp only [dv, dl, hc, dls_len, hl, dls_ones, dH_get' hb, h, dres, dH_set, and_self, if_true]
        rfl
      · exact .fail
    · exact .fail
  · exact .fail
theorem sNew_ok {cs : List SL} : Does v (sNew cs H) (aNew (dls v cs) (dH v H)) :=
  .pure (by simp [aNew, dres, dv, dl, dH_len, dH_app, dH, db, spot])
theorem sAlloc_ok {t : TypeId} : Does v (sAlloc I t H) (aAlloc I t (dH v H)) := by
  unfold sAlloc
  split
  · rename_i i hi
    split
    · rename_i x hx
      split
      · rename_i cs hc
        obtain ⟨h1, h2⟩ := ofV_ok (v := v) hx
        have hc := cells_ok (v := v) hc
        have : aAlloc I t (dH v H) = aNew (dls v cs) (dH v H) := by
          unfold aAlloc
          rw [hi]
          simp only [h2, if_true]
          rw [← hc, h1]
        rw [this]
        exact sNew_ok
      · exact .fail
    · exact .fail
  · exact .fail
end
end Go.Proofs.Ytckbckijpdnlaaa.Sy
