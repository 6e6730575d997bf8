/- The engine, part 4: operations that turn no memory. A lemma file: it claims nothing of the program. -/
import Derived.Test.YtckbckijpdnlaaaOwnE3
import Derived.Laws.Slices
import Derived.Laws.Entries
import Derived.Laws.Unary
set_option linter.unusedVariables false
set_option linter.unusedSimpArgs false
namespace Go.Proofs.Ytckbckijpdnlaaa.Eng
open Go

def isC : Operand → Bool
  | .const _ => true
  | _ => false
/-- Two numbers. -/
def aInt (op : BinOp) (k : IntKind) (x y : Int) : Option Value := match op with
  | .add => some (.int k (k.wrap (x + y)))
  | .sub => some (.int k (k.wrap (x - y)))
  | .mul => some (.int k (k.wrap (x * y)))
  | .quo => if y = 0 then none else some (.int k (k.wrap (x.tdiv y)))
  | .rem => if y = 0 then none else some (.int k (x.tmod y))
  | .and => some (.int k (bits .and k x y))
  | .or => some (.int k (bits .or k x y))
  | .xor => some (.int k (bits .xor k x y))
  | .andNot => some (.int k (bits .andNot k x y))
  | .eql => some (.bool (x == y))
  | .neq => some (.bool (x != y))
  | .lss => some (.bool (decide (x < y)))
  | .leq => some (.bool (decide (x ≤ y)))
  | .gtr => some (.bool (decide (y < x)))
  | .geq => some (.bool (decide (y ≤ x)))
  | _ => none
def aShift (op : BinOp) (k : IntKind) (x y : Int) : Option Value := if y < 0 then none else match op with
  | .shl => some (.int k (k.wrap (x * 2 ^ (min y.toNat k.bits))))
  | .shr => some (.int k (x.fdiv (2 ^ (min y.toNat k.bits))))
  | _ => none
def aStr (op : BinOp) (x y : ByteArray) : Option Value := match op with
  | .add => if x.size + y.size ≤ 9223372036854775807 then some (.string (x ++ y)) else none
  | .eql => some (.bool (x.toList == y.toList))
  | .neq => some (.bool (!(x.toList == y.toList)))
  | _ => none
def neg? (op : BinOp) (b : Bool) : Option Value := match op with
  | .eql => some (.bool b)
  | .neq => some (.bool (!b))
  | _ => none
def sureB : Option ABlk → Bool
  | some (.row s _ els) => s || !els.isEmpty
  | some (.old s _ els) => s || !els.isEmpty
  | _ => false
def aBin (I : Tab) (op : BinOp) (t : TypeId) (cx cy : Bool) (x y : Value) (H : AHeap) : Option Value :=
  match x, y with
  | .int k a, .int k' b => match op with
    | .shl => aShift .shl k a b
    | .shr => aShift .shr k a b
    | _ => if k = k' then aInt op k a b else none
  | .string a, .string b => aStr op a b
  | .bool a, .bool b => match I t with
    | some i => match i.d with
      | .bool => neg? op (a == b)
      | _ => none
    | none => none
  | .pointer p, .pointer q => match I t with
    | some i => match i.d with
      | .ptr _ => match p, q with
        | none, none => neg? op true
        | none, some _ => neg? op false
        | some _, none => neg? op false
        | _, _ => none
      | _ => none
    | none => none
  | .slice p _ _, .slice q _ _ => match I t with
    | some i => match i.d with
      | .slice _ => match p, q with
        | none, none => neg? op true
        | some ⟨id, _, _⟩, none => if sureB (H[id]?) = true then neg? op false else none
        | _, _ => none
      | _ => none
    | none => none
  | .nilIface, .nilIface => if (cx || cy) = true then match I t with
    | some i => match i.d with
      | .iface => neg? op true
      | _ => none
    | none => none
    else none
  | .iface _ _, .nilIface => match I t with
    | some i => match i.d with
      | .iface => neg? op false
      | _ => none
    | none => none
  | .agg xs, .agg ys => match I t with
    | some i => match i.eqs with
      | some cs => if xs.toList.length = i.size then match eqL cs xs.toList ys.toList with
        | some b => neg? op b
        | none => none
        else none
      | none => none
    | none => none
  | _, _ => none
def aUn (op : UnOp) (x : Value) : Option Value := match op, x with
  | .not, .bool b => some (.bool (!b))
  | .neg, .int k n => some (.int k (k.wrap (0 - n)))
  | _, _ => none
def aConv (I : Tab) (src dst : TypeId) (x : Value) : Option Value := match I src, I dst, x with
  | some _, some j, .int _ n => match j.d with
    | .int k => some (.int k (k.wrap n))
    | _ => none
  | some _, some j, .string s => match j.d with
    | .str => some (.string s)
    | _ => none
  | _, _, _ => none
def aFieldAddr (I : Tab) (s : TypeId) (x : Value) (f : Nat) : Option Value := match I s, x with
  | some i, .pointer (some ⟨id, k, e⟩) => match i.d with
    | .struct fs => match fs[f]? with
      | some (off, ft) => match I ft with
        | some j => if j.size = 0 then none else some (.pointer (some ⟨id, k + off, e⟩))
        | none => none
      | none => none
    | _ => none
  | _, _ => none
def aPart (j : TInfo) (cs : List Value) (off : Nat) : Option Value := if off + j.size ≤ cs.length then tval j ((cs.drop off).take j.size) else none
def aField (I : Tab) (t : TypeId) (x : Value) (f : Nat) : Option Value := match I t, x with
  | some i, .agg cs => match i.d with
    | .struct fs => match fs[f]? with
      | some (off, ft) => match I ft with
        | some j => aPart j cs.toList off
        | none => none
      | none => none
    | _ => none
  | _, _ => none
def rowZ : Option ABlk → Option Nat
  | some (.row _ z _) => some z
  | some (.old _ z _) => some z
  | _ => none
def aIndexAddr (I : Tab) (t : TypeId) (x ix : Value) (H : AHeap) : Option Value := match I t, x, ix with
  | some i, .slice (some ⟨id, e, none⟩) len _, .int _ n => match i.d with
    | .slice el => match I el, rowZ (H[id]?) with
      | some j, some z => if j.size = z ∧ 0 ≤ n ∧ n < (len : Int) then some (.pointer (some ⟨id, 0, some (e + n.toNat)⟩)) else none
      | _, _ => none
    | _ => none
  | some i, .pointer (some ⟨id, k, s⟩), .int _ n => match i.d with
    | .array len el => match I el with
      | some j => if 0 ≤ n ∧ n < (len : Int) then some (.pointer (some ⟨id, k + n.toNat * j.size, s⟩)) else none
      | none => none
    | _ => none
  | _, _, _ => none
def aIndex (I : Tab) (t : TypeId) (x ix : Value) : Option Value := match I t, x, ix with
  | some i, .string s, .int _ n => match i.d with
    | .str => if 0 ≤ n then match s[n.toNat]? with
      | some b => some (.int .u8 (b.toNat : Int))
      | none => none
      else none
    | _ => none
  | _, _, _ => none
def boundI (d : Nat) : Option Value → Option Int
  | none => some (d : Int)
  | some (.int _ n) => some n
  | _ => none
def aSlice (I : Tab) (t : TypeId) (x : Value) (lo hi mx : Option Value) (H : AHeap) : Option Value := match mx with
  | some _ => none
  | none => match I t, x with
    | some i, .slice (some ⟨id, e, none⟩) len _ => match i.d with
      | .slice el => match I el, rowZ (H[id]?), boundI 0 lo, boundI len hi with
        | some j, some z, some l, some h => if j.size = z ∧ 0 ≤ l ∧ l ≤ h ∧ h ≤ (len : Int) then some (.slice (some ⟨id, e + l.toNat, none⟩) (h.toNat - l.toNat) 0) else none
        | _, _, _, _ => none
      | _ => none
    | some i, .string s => match i.d with
      | .str => match boundI 0 lo, boundI s.size hi with
        | some l, some h => if 0 ≤ l ∧ l ≤ h ∧ h ≤ (s.size : Int) then some (.string (s.extract l.toNat h.toNat)) else none
        | _, _ => none
      | _ => none
    | _, _ => none
def aLen (I : Tab) (ts : Array TypeId) (xs : List Value) : Option Value := match ts[0]?, xs with
  | some t, x :: _ => match I t with
    | some i => match i.d, x with
      | .str, .string s => some (.int .i64 (s.size : Int))
      | .slice _, .slice _ n _ => some (.int .i64 (n : Int))
      | .array n _, _ => some (.int .i64 (n : Int))
      | _, _ => none
    | none => none
  | _, _ => none
def aExtract (x : Value) (i : Nat) : Option Value := match x with
  | .tuple vs => vs[i]?
  | _ => none

section
variable {P : Program} {I : Tab} {m : Mp} {H : AHeap} {w : World}

theorem aInt_ok {op : BinOp} {t : TypeId} {k : IntKind} {x y : Int} {v : Value} (hr : aInt op k x y = some v) : (binOp op t (.int k x) (.int k y)).run P w = .ok v w ∧ VRel m v v := by
  cases op <;> simp only [aInt] at hr <;> first
    | (cases hr; done)
    | (cases hr; refine ⟨by simp [binOp, Op.intArith, Op.intCmp, Op.intBits, bits], ?_⟩; first | exact .int _ _ | exact .bool _)
    | (split at hr <;> cases hr; rename_i hy; refine ⟨by simp [binOp, Op.intDiv, hy], .int _ _⟩)
theorem aShift_ok {op : BinOp} {t : TypeId} {k k' : IntKind} {x y : Int} {v : Value} (hop : op = .shl ∨ op = .shr) (hr : aShift op k x y = some v) : (binOp op t (.int k x) (.int k' y)).run P w = .ok v w ∧ VRel m v v := by
  unfold aShift at hr
  split at hr
  · cases hr
  · rename_i hy
    rcases hop with rfl | rfl
    · cases hr; exact ⟨by simp [binOp, Op.shift, hy], .int _ _⟩
    · cases hr; exact ⟨by simp [binOp, Op.shift, hy], .int _ _⟩
theorem aStr_ok {op : BinOp} {t : TypeId} {x y : ByteArray} {v : Value} (hr : aStr op x y = some v) : (binOp op t (.string x) (.string y)).run P w = .ok v w ∧ VRel m v v := by
  cases op <;> simp only [aStr] at hr <;> first
    | (cases hr; done)
    | (split at hr <;> cases hr; rename_i hy; refine ⟨?_, .str _⟩; have hy' : ¬ (9223372036854775807 : Int) < (x.size : Int) + (y.size : Int) := by omega
       simp [binOp, Op.stringOp, hy'])
    | (cases hr; refine ⟨by simp [binOp, Op.stringOp], .bool _⟩)
theorem neg_ok {op : BinOp} {t : TypeId} {x y : Value} {b : Bool} {v : Value} (hr : neg? op b = some v) (he : (Op.equalIn 10000 t x y).run P w = .ok b w)
    (h1 : binOp .eql t x y = do pure (.bool (← Op.equal t x y))) (h2 : binOp .neq t x y = do pure (.bool (!(← Op.equal t x y)))) : (binOp op t x y).run P w = .ok v w ∧ VRel m v v := by
  have he' : (Op.equal t x y).run P w = .ok b w := he
  cases op <;> simp only [neg?] at hr <;> cases hr
  · exact ⟨by rw [h1]; simp [he'], .bool _⟩
  · exact ⟨by rw [h2]; simp [he'], .bool _⟩
theorem eqp (d : Nat) {t el : TypeId} (hu : P.underlying t = some (.pointer el)) :
    (Op.equalIn (d + 1) t (.pointer none) (.pointer none)).run P w = .ok true w ∧ (∀ a, (Op.equalIn (d + 1) t (.pointer none) (.pointer (some a))).run P w = .ok false w) ∧ (∀ a, (Op.equalIn (d + 1) t (.pointer (some a)) (.pointer none)).run P w = .ok false w) :=
  ⟨by simp [Op.equalIn, run_underlying hu], fun a => by simp [Op.equalIn, run_underlying hu], fun a => by simp [Op.equalIn, run_underlying hu]⟩
theorem eqs (d : Nat) {t el : TypeId} (hu : P.underlying t = some (.slice el)) :
    (∀ n c, (Op.equalIn (d + 1) t (.slice none 0 0) (.slice none n c)).run P w = .ok true w) ∧ (∀ a n c, (Op.equalIn (d + 1) t (.slice (some a) n c) (.slice none 0 0)).run P w = .ok false w) :=
  ⟨fun n c => by simp [Op.equalIn, run_underlying hu], fun a n c => by simp [Op.equalIn, run_underlying hu]⟩
theorem eqi (d : Nat) {t : TypeId} {ms : Array (String × TypeId)} (hu : P.underlying t = some (.interface ms)) :
    (Op.equalIn (d + 1) t .nilIface .nilIface).run P w = .ok true w ∧ (∀ s v, (Op.equalIn (d + 1) t (.iface s v) .nilIface).run P w = .ok false w) :=
  ⟨by simp [Op.equalIn, run_underlying hu], fun s v => by simp [Op.equalIn, run_underlying hu]⟩
theorem eqV_ok {c : CK} {x y x' y' : Value} {b : Bool} (h : eqV c x y = some b) (hx : VRel m x x') (hy : VRel m y y') : eqV c x' y' = some b := by
  cases c <;> cases hx <;> cases hy <;> simp_all [eqV]
theorem eqL_ok : ∀ {cs : List CK} {xs ys xs' ys' : List Value} {b : Bool}, eqL cs xs ys = some b → LRel m xs xs' → LRel m ys ys' → eqL cs xs' ys' = some b
  | [], [], [], _, _, _, h, hx, hy => by obtain rfl := hx.nil_inv; obtain rfl := hy.nil_inv; exact h
  | [], [], _ :: _, _, _, _, h, _, _ => by simp [eqL] at h
  | [], _ :: _, _, _, _, _, h, _, _ => by simp [eqL] at h
  | _ :: _, [], _, _, _, _, h, _, _ => by simp [eqL] at h
  | _ :: _, _ :: _, [], _, _, _, h, _, _ => by simp [eqL] at h
  | c :: cs, x :: xs, y :: ys, _, _, b, h, hx, hy => by
    obtain ⟨x', xs', rfl, h1, h2⟩ := hx.cons_inv
    obtain ⟨y', ys', rfl, h3, h4⟩ := hy.cons_inv
    simp only [eqL] at h ⊢
    split at h
    · rename_i p q hp hq
      rw [eqV_ok hp h1 h3, eqL_ok hq h2 h4]
      exact h
    · cases h

theorem aBin_ok (hI : TOk P I) {w1 : World} (hM : Match m H w1) {op : BinOp} {t : TypeId} {ox oy : Operand} {x y x' y' v : Value} (hx : VRel m x x') (hy : VRel m y y') (hr : aBin I op t (isC ox) (isC oy) x y H = some v) :
    ((do eqGuard op t ox oy x' y'; binOp op t x' y') : Sem Value).run P w = .ok v w ∧ VRel m v v := by
  unfold aBin at hr
  split at hr
  · cases hx; cases hy
    rw [eqGuard_at_int]
    simp only [pure_bind]
    split at hr
    · exact aShift_ok (.inl rfl) hr
    · exact aShift_ok (.inr rfl) hr
    · split at hr
      · rename_i hk; subst hk; exact aInt_ok hr
      · cases hr
  · cases hx; cases hy
    rw [eqGuard_at_string]
    simp only [pure_bind]
    exact aStr_ok hr
  · cases hx; cases hy
    rw [eqGuard_at_bool]
    simp only [pure_bind]
    split at hr
    · rename_i i hi
      split at hr
      · rename_i hd
        exact neg_ok hr (run_equalIn_bool w 9999 t _ _ (hI.bool hi hd)) rfl rfl
      · cases hr
    · cases hr
  · split at hr
    · rename_i i hi
      split at hr
      · rename_i el hd
        have hu := hI.ptr hi hd
        split at hr
        · cases hx; cases hy
          rw [eqGuard_at_pointer]
          simp only [pure_bind]
          exact neg_ok hr (eqp 9999 hu).1 rfl rfl
        · cases hx; cases hy
          rw [eqGuard_at_pointer]
          simp only [pure_bind]
          exact neg_ok hr ((eqp 9999 hu).2.1 _) rfl rfl
        · cases hx; cases hy
          rw [eqGuard_at_pointer]
          simp only [pure_bind]
          exact neg_ok hr ((eqp 9999 hu).2.2 _) rfl rfl
        · cases hr
      · cases hr
    · cases hr
  · split at hr
    · rename_i i hi
      split at hr
      · rename_i el hd
        have hu := hI.slice hi hd
        split at hr
        · cases hx; cases hy
          rw [eqGuard_at_slice]
          simp only [pure_bind]
          exact neg_ok hr ((eqs 9999 hu).1 _ _) rfl rfl
        · split at hr
          · rename_i hs
            cases hy
            cases hx with
            | slc h1 h2 h3 h4 =>
              rw [eqGuard_at_slice]
              simp only [pure_bind]
              exact neg_ok hr ((eqs 9999 hu).2 _ _ _) rfl rfl
            | eslc h1 h2 =>
              rw [eqGuard_at_slice]
              simp only [pure_bind]
              exact neg_ok hr ((eqs 9999 hu).2 _ _ _) rfl rfl
            | vslc h1 h2 =>
              obtain ⟨b, hb, hB⟩ := hM.has _ _ h1
              rw [hb] at hs
              cases b <;> simp [sureB] at hs
              · obtain ⟨_, _, _, h5⟩ := hB
                rcases h5 with ⟨_, h7, h6⟩ | ⟨h6, _⟩
                · rcases hs with hs | hs
                  · rw [h6] at hs; cases hs
                  · exact absurd h7 hs
                · rw [h2] at h6; cases h6
              · obtain ⟨_, _, h5⟩ := hB
                rcases h5 with ⟨_, h7, h6⟩ | ⟨h6, _⟩
                · rcases hs with hs | hs
                  · rw [h6] at hs; cases hs
                  · exact absurd h7 hs
                · rw [h2] at h6; cases h6
          · cases hr
        · cases hr
      · cases hr
    · cases hr
  · cases hx; cases hy
    split at hr
    · rename_i hc
      have hg : eqGuard op t ox oy .nilIface .nilIface = pure () := by
        simp only [Bool.or_eq_true] at hc
        rcases hc with hc | hc
        · cases ox <;> simp [isC] at hc
          exact eqGuard_nil_constL _ _ _ _
        · cases oy <;> simp [isC] at hc
          exact eqGuard_nil_constR _ _ _ _
      rw [hg]
      simp only [pure_bind]
      split at hr
      · rename_i i hi
        split at hr
        · rename_i hd
          obtain ⟨u, h1, h3⟩ := hI.und hi
          rw [hd] at h3
          have : ∃ ms, u = .interface ms := by cases u <;> simp_all [tdOf]
          obtain ⟨ms, rfl⟩ := this
          exact neg_ok hr (eqi 9999 h1).1 rfl rfl
        · cases hr
      · cases hr
    · cases hr
  · cases hx; cases hy
    rw [eqGuard_at_iface]
    simp only [pure_bind]
    split at hr
    · rename_i i hi
      split at hr
      · rename_i hd
        obtain ⟨u, h1, h3⟩ := hI.und hi
        rw [hd] at h3
        have : ∃ ms, u = .interface ms := by cases u <;> simp_all [tdOf]
        obtain ⟨ms, rfl⟩ := this
        exact neg_ok hr ((eqi 9999 h1).2 _ _) rfl rfl
      · cases hr
    · cases hr
  · rename_i xs ys
    cases hx with
    | agg hs1 hh1 =>
      cases hy with
      | agg hs2 hh2 =>
        rename_i xs' ys'
        split at hr
        · rename_i i hi
          split at hr
          · rename_i cs hc1
            split at hr
            · rename_i hc
              split at hr
              · rename_i b hb
                obtain ⟨g1, g2⟩ := hI.eq t i cs hi hc1
                have hL1 : LRel m xs.toList xs'.toList := ⟨by simpa using hs1, fun j p q hp hq => hh1 j p q (by simpa using hp) (by simpa using hq)⟩
                have hL2 : LRel m ys.toList ys'.toList := ⟨by simpa using hs2, fun j p q hp hq => hh2 j p q (by simpa using hp) (by simpa using hq)⟩
                have := g2 xs'.toList ys'.toList b w (by rw [← hL1.1]; exact hc) (eqL_ok hb hL1 hL2)
                simp only [Array.toArray_toList] at this
                rw [Sem.run_bind, run_eqGuard_agg w op t ox oy xs' ys' g1, Result.andThen_ok]
                exact neg_ok hr this rfl rfl
              · cases hr
            · cases hr
          · cases hr
        · cases hr
  · cases hr

theorem aUn_ok {op : UnOp} {x x' v : Value} (hx : VRel m x x') (hr : aUn op x = some v) : (Op.unary op x').run P w = .ok v w ∧ VRel m v v := by
  unfold aUn at hr
  split at hr
  · cases hx; cases hr; exact ⟨by simp [Op.unary], .bool _⟩
  · cases hx; cases hr; exact ⟨by simp [Op.unary, Op.intArith], .int _ _⟩
  · cases hr
theorem aConv_ok (hI : TOk P I) {src dst : TypeId} {x x' v : Value} (hx : VRel m x x') (hr : aConv I src dst x = some v) : (convert src dst x').run P w = .ok v w ∧ VRel m v v := by
  unfold aConv at hr
  split at hr
  · rename_i i j k n hi hj
    cases hx
    split at hr
    · rename_i k' hd
      cases hr
      obtain ⟨u, h1, _⟩ := hI.und hi
      exact ⟨by simp [convert, run_underlying h1, run_underlying (hI.int hj hd), Conv.intToInt], .int _ _⟩
    · cases hr
  · rename_i i j s hi hj
    cases hx
    split at hr
    · rename_i hd
      cases hr
      obtain ⟨u, h1, _⟩ := hI.und hi
      refine ⟨?_, .str _⟩
      simp only [convert, Sem.run_bind, run_underlying h1, Result.andThen_ok, run_underlying (hI.str hj hd)]
      cases u <;> rfl
    · cases hr
  · cases hr
theorem aFieldAddr_ok (hI : TOk P I) {s : TypeId} {x x' v : Value} {f : Nat} (hx : VRel m x x') (hr : aFieldAddr I s x f = some v) : ∃ v', (∀ w, (Instr.fieldAt s x' f).run P w = .ok v' w) ∧ VRel m v v' := by
  unfold aFieldAddr at hr
  split at hr
  · rename_i i id k e hi
    split at hr
    · rename_i fs hd
      split at hr
      · rename_i off ft hf
        split at hr
        · rename_i j hj
          split at hr
          · cases hr
          · rename_i hz
            cases hr
            cases hx with
            | ptr h1 h2 =>
              rename_i i'
              obtain ⟨fields, hu, he⟩ := hI.struct hi hd
              rw [he, List.getElem?_map] at hf
              cases hq : fields.toList[f]? with
              | none => rw [hq] at hf; simp at hf
              | some fd =>
                rw [hq] at hf
                simp at hf
                obtain ⟨rfl, rfl⟩ := hf
                have hq' : fields[f]? = some fd := by simpa using hq
                refine ⟨.pointer (some ⟨i'.blk, i'.off + e.getD 0 * i'.z + k + fd.offset, none⟩), ?_, ?_⟩
                · intro w; simp [Instr.fieldAt, run_underlying hu, hq', Instr.sureAddr, fieldPlace, hI.size hj w, hz, add_none]
                · have := VRel.ptr (k := k + fd.offset) (s := e) h1 h2
                  rwa [← Nat.add_assoc] at this
        · cases hr
      · cases hr
    · cases hr
  · cases hr
theorem part_ok (hI : TOk P I) {t : TypeId} {j : TInfo} (hj : I t = some j) {cs : List Value} {arr : Array Value} {off : Nat} {v : Value} (hL : LRel m cs arr.toList) (hr : aPart j cs off = some v) : ∃ v', (∀ w, (part t arr off).run P w = .ok v' w) ∧ VRel m v v' := by
  unfold aPart at hr
  split at hr
  · rename_i hle
    have hL' := (hL.drop off).take j.size
    have hl2 := hL.1
    simp only [Array.length_toList] at hl2
    rcases tval_ok hr with ⟨h1, rfl⟩ | ⟨h1, h2⟩
    · refine ⟨.agg ((arr.toList.drop off).take j.size).toArray, fun w => ?_, .ofL hL'⟩
      simp only [part, Sem.run_bind, hI.isAgg hj w, Result.andThen_ok, h1, if_true, hI.size hj w, Sem.run_pure]
      congr 2
      apply Array.ext'
      simp [Array.toList_extract, List.extract_eq_take_drop]
    · rw [h2] at hL'
      obtain ⟨y, ys, h3, h4, h5⟩ := hL'.cons_inv
      have hy : arr.toList[off]? = some y := by
        have : ((arr.toList.drop off).take j.size)[0]? = some y := by rw [h3]; rfl
        obtain ⟨_, h⟩ := drop_take_get this
        simpa using h
      have hy' : arr[off]? = some y := by simpa using hy
      refine ⟨y, fun w => ?_, h4⟩
      simp [part, hI.isAgg hj w, h1, hy']
  · cases hr
theorem aField_ok (hI : TOk P I) {t : TypeId} {x x' v : Value} {f : Nat} (hx : VRel m x x') (hr : aField I t x f = some v) : ∃ v', (∀ w, (Instr.field t x' f).run P w = .ok v' w) ∧ VRel m v v' := by
  unfold aField at hr
  split at hr
  · rename_i i cs hi
    split at hr
    · rename_i fs hd
      split at hr
      · rename_i off ft hf
        split at hr
        · rename_i j hj
          cases hx with
          | agg hs hh =>
            rename_i cs'
            have hL : LRel m cs.toList cs'.toList := ⟨by simpa using hs, fun j p q hp hq => hh j p q (by simpa using hp) (by simpa using hq)⟩
            obtain ⟨v', h1, h2⟩ := part_ok hI hj hL hr
            obtain ⟨fields, hu, he⟩ := hI.struct hi hd
            rw [he, List.getElem?_map] at hf
            cases hq : fields.toList[f]? with
            | none => rw [hq] at hf; simp at hf
            | some fd =>
              rw [hq] at hf
              simp at hf
              obtain ⟨rfl, rfl⟩ := hf
              have hq' : fields[f]? = some fd := by simpa using hq
              exact ⟨v', fun w => by simp [Instr.field, run_underlying hu, hq', asAgg, h1], h2⟩
        · cases hr
      · cases hr
    · cases hr
  · cases hr
theorem rowZ_ok {i : MI} {id z : Nat} (hM : Match m H w) (hm : m id = some i) (hz : rowZ (H[id]?) = some z) : i.z = z := by
  obtain ⟨b, hb, hB⟩ := hM.has _ _ hm
  rw [hb] at hz
  cases b <;> simp [rowZ] at hz
  · subst hz; exact hB.1
  · subst hz; exact hB.1
theorem aIndexAddr_ok (hI : TOk P I) (hM : Match m H w) {t : TypeId} {x x' ix ix' v : Value} (hx : VRel m x x') (hix : VRel m ix ix') (hr : aIndexAddr I t x ix H = some v) :
    ∃ v', (∀ w, (Instr.indexAt t x' ix').run P w = .ok v' w) ∧ VRel m v v' := by
  unfold aIndexAddr at hr
  split at hr
  · rename_i i id e len cp k n hi
    cases hix
    split at hr
    · rename_i el hd
      split at hr
      · rename_i j z hj hz
        split at hr
        · rename_i hc
          cases hr
          obtain ⟨c1, c2, c3⟩ := hc
          cases hx with
          | slc h1 h2 h3 h4 =>
            rename_i cap i'
            have hzz := rowZ_ok hM h1 hz
            refine ⟨.pointer (some ⟨i'.blk, i'.off + (e + n.toNat) * i'.z, none⟩), ?_, ?_⟩
            · intro w
              have : i'.off + e * i'.z + n.toNat * j.size = i'.off + (e + n.toNat) * i'.z := by rw [c1, ← hzz, Nat.add_mul]; omega
              simp [Instr.indexAt, asIntOf, run_underlying (hI.slice hi hd), c2, c3, hI.size hj w, add_none, this]
            · exact VRel.ptr (k := 0) (s := some (e + n.toNat)) h1 h2
          | vslc h1 h2 => simp at c3; omega
          | eslc h1 h2 => simp at c3; omega
        · cases hr
      · cases hr
    · cases hr
  · rename_i i id k s kk n hi
    cases hix
    split at hr
    · rename_i len el hd
      split at hr
      · rename_i j hj
        split at hr
        · rename_i hc
          cases hr
          cases hx with
          | ptr h1 h2 =>
            rename_i i'
            refine ⟨.pointer (some ⟨i'.blk, i'.off + s.getD 0 * i'.z + k + n.toNat * j.size, none⟩), ?_, ?_⟩
            · intro w; simp [Instr.indexAt, asIntOf, run_underlying (hI.array hi hd), Instr.sureAddr, hc.1, hc.2, hI.size hj w, add_none]
            · have := VRel.ptr (k := k + n.toNat * j.size) (s := s) h1 h2
              rwa [← Nat.add_assoc] at this
        · cases hr
      · cases hr
    · cases hr
  · cases hr
theorem aIndex_ok (hI : TOk P I) {t : TypeId} {x x' ix ix' v : Value} (hx : VRel m x x') (hix : VRel m ix ix') (hr : aIndex I t x ix = some v) : (Instr.index t x' ix').run P w = .ok v w ∧ VRel m v v := by
  unfold aIndex at hr
  split at hr
  · rename_i i s k n hi
    cases hix; cases hx
    split at hr
    · rename_i hd
      split at hr
      · rename_i h0
        split at hr
        · rename_i b hb
          cases hr
          refine ⟨?_, .int _ _⟩
          simp only [Instr.index, asIntOf, pure_bind, Sem.run_bind, run_underlying (hI.str hi hd), Result.andThen_ok, h0, if_true, hb, Sem.run_pure]
        · cases hr
      · cases hr
    · cases hr
  · cases hr
theorem aLen_ok (hI : TOk P I) {ts : Array TypeId} {ty : TypeId} {xs ys : List Value} {v : Value} (hL : LRel m xs ys) (hr : aLen I ts xs = some v) : (Builtin.len_ ts ty ys.toArray).run P w = .ok v w ∧ VRel m v v := by
  unfold aLen at hr
  split at hr
  · rename_i t x rest ht
    obtain ⟨y, ys, rfl, h1, h2⟩ := hL.cons_inv
    split at hr
    · rename_i i hi
      split at hr
      · rename_i hd
        cases h1; cases hr
        exact ⟨by simp [Builtin.len_, ht, run_underlying (hI.str hi hd), goInt], .int _ _⟩
      · rename_i el b n c hd
        cases hr
        have hu := hI.slice hi hd
        cases h1
        · exact ⟨by simp [Builtin.len_, ht, run_underlying hu, goInt], .int _ _⟩
        · exact ⟨by simp [Builtin.len_, ht, run_underlying hu, goInt], .int _ _⟩
        · exact ⟨by simp [Builtin.len_, ht, run_underlying hu, goInt], .int _ _⟩
        · exact ⟨by simp [Builtin.len_, ht, run_underlying hu, goInt], .int _ _⟩
      · rename_i n el _ hd
        cases hr
        refine ⟨?_, .int _ _⟩
        simp only [Builtin.len_, ht, List.getElem?_toArray, List.getElem?_cons_zero, Sem.run_bind, run_underlying (hI.array hi hd), Result.andThen_ok]
        cases y <;> rfl
      · cases hr
    · cases hr
  · cases hr
theorem aExtract_ok {x x' v : Value} {i : Nat} (hx : VRel m x x') (hr : aExtract x i = some v) : ∃ v', (∀ w, (Instr.extract x' i).run P w = .ok v' w) ∧ VRel m v v' := by
  unfold aExtract at hr
  split at hr
  · rename_i vs
    cases hx with
    | tuple hs hh =>
      rename_i vs'
      have hi : i < vs'.size := by rw [← hs]; exact (Array.getElem?_eq_some_iff.1 hr).1
      have hv' : vs'[i]? = some vs'[i] := Array.getElem?_eq_getElem hi
      exact ⟨vs'[i], fun w => by simp [Instr.extract, hv'], hh i v _ hr hv'⟩
  · cases hr
end
end Go.Proofs.Ytckbckijpdnlaaa.Eng
