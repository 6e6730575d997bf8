/- The second engine, part 4: rows made, appended to, copied; all operations. A lemma file: it claims nothing of the program. -/
import Derived.Test.YtckbckijpdnlaaaOwnS3
set_option linter.unusedVariables false
set_option linter.unusedSimpArgs false
namespace Go.Proofs.Ytckbckijpdnlaaa.Sy
open Go Go.Lib Go.Proofs.Ytckbckijpdnlaaa.Eng

/-! ### parts of rows -/
def mkTakeR (n r : E) : E := if E.eq n (mkLen r) = true then r else if E.eq n (.ci 0) = true then .nr else .o2 .take n r
def mkDropR (n r : E) : E := if E.eq n (.ci 0) = true then r else if E.eq n (mkLen r) = true then .nr else .o2 .drop n r
def mkCatR (a b : E) : E := if E.eq a .nr = true then b else match rowLit b with
  | some ls => unrG a ls
  | none => .o2 .cat a b
section
variable {v : Val}
theorem mkTakeR_ok (n r : E) : (den v (mkTakeR n r)).r = (den v r).r.take (den v n).i.toNat := by
  unfold mkTakeR
  split
  · rename_i h; rw [E.eq_ok _ _ h, mkLen_ok]; simp
  · split
    · rename_i h; rw [E.eq_ok _ _ h]; simp [den, mkI, mkR]
    · rfl
theorem mkDropR_ok (n r : E) : (den v (mkDropR n r)).r = (den v r).r.drop (den v n).i.toNat := by
  unfold mkDropR
  split
  · rename_i h; rw [E.eq_ok _ _ h]; simp [den, mkI, mkR]
  · split
    · rename_i h; rw [E.eq_ok _ _ h, mkLen_ok]; simp [den, mkR]
    · rfl
theorem mkCatR_ok (a b : E) : (den v (mkCatR a b)).r = (den v a).r ++ (den v b).r := by
  unfold mkCatR
  split
  · rename_i h; rw [E.eq_ok _ _ h]; simp [den, mkR]
  · split
    · rename_i ls h; rw [unrG_ok, rowLit_ok b h]
    · rfl
end
def colEss (ks : List CC) : List (List SL) → Option (List (List E))
  | [] => some []
  | l :: ls => match colEs ks l, colEss ks ls with
    | some e, some es => some (e :: es)
    | _, _ => none
def toSR (ks : Option (List CC)) (els : List (List SL)) : SR := match ks with
  | some ks => match colEss ks els with
    | some ess => .sym (unr ess) ks
    | none => .lits els
  | none => .lits els
def srLen : SR → E
  | .sym r _ => mkLen r
  | .lits els => .ci (els.length : Int)
def srTake (n : E) : SR → Option SR
  | .sym r ks => some (.sym (mkTakeR n r) ks)
  | .lits els => match litI n with
    | some z => some (.lits (els.take z.toNat))
    | none => none
def srDrop (n : E) : SR → Option SR
  | .sym r ks => some (.sym (mkDropR n r) ks)
  | .lits els => match litI n with
    | some z => some (.lits (els.drop z.toNat))
    | none => none
def srCat (a b : SR) : Option SR := match a, b with
  | .sym r ks, .sym r2 ks2 => if ks = ks2 then some (.sym (mkCatR r r2) ks) else none
  | .sym r ks, .lits els => match colEss ks els with
    | some ess => some (.sym (unrG r ess) ks)
    | none => none
  | .lits a, .sym r ks => match a with
    | [] => some (.sym r ks)
    | _ => none
  | .lits a, .lits b => some (.lits (a ++ b))
section
variable {v : Val}
theorem colEss_ok {ks : List CC} : ∀ {els : List (List SL)} {ess : List (List E)}, colEss ks els = some ess → (ess.map fun l => l.map fun a => (den v a).i).map (toVs ks) = els.map (dls v)
  | [], ess, h => by cases h; rfl
  | l :: ls, ess, h => by
    simp only [colEss] at h
    split at h
    · rename_i e es h1 h2; cases h
      simp only [List.map_cons, colEs_ok h1]
      rw [← colEss_ok h2]
    · cases h
theorem toSR_ok (ks : Option (List CC)) (els : List (List SL)) : dr v (toSR ks els) = els.map (dls v) := by
  unfold toSR
  split
  · split
    · rename_i ess h; rw [dr, unr_ok, colEss_ok h]
    · rfl
  · rfl
theorem srLen_ok (r : SR) : (den v (srLen r)).i = ((dr v r).length : Int) := by
  cases r with
  | sym r ks => simp [srLen, mkLen_ok, dr]
  | lits els => simp [srLen, dr, den, mkI]
theorem srTake_ok {n : E} {r r' : SR} (h : srTake n r = some r') : dr v r' = (dr v r).take (den v n).i.toNat := by
  cases r with
  | sym r ks => cases h; simp [dr, mkTakeR_ok, List.map_take]
  | lits els =>
    simp only [srTake] at h
    split at h
    · rename_i z hz; cases h; simp [dr, List.map_take, litI_ok hz]
    · cases h
theorem srDrop_ok {n : E} {r r' : SR} (h : srDrop n r = some r') : dr v r' = (dr v r).drop (den v n).i.toNat := by
  cases r with
  | sym r ks => cases h; simp [dr, mkDropR_ok, List.map_drop]
  | lits els =>
    simp only [srDrop] at h
    split at h
    · rename_i z hz; cases h; simp [dr, List.map_drop, litI_ok hz]
    · cases h
theorem srCat_ok {a b r : SR} (h : srCat a b = some r) : dr v r = dr v a ++ dr v b := by
  unfold srCat at h
  split at h
  · split at h
    · rename_i hk; cases h; subst hk; simp [dr, mkCatR_ok]
    · cases h
  · split at h
    · rename_i ess he; cases h; simp only [dr, unrG_ok, List.map_append, colEss_ok he]
    · cases h
  · split at h
    · cases h; simp [dr]
    · cases h
  · cases h; simp [dr]
end

/-- No more than the greatest: that follows, where each takes up some room. -/
def needMax (n bytes : Nat) (e : E) : SM Unit := if bytes = 0 then need n (mk2 .le e (.ci maxI)) else .pure ()
theorem Sat.needMax {v : Val} {n bytes : Nat} {e : E} : Sat v (Sy.needMax n bytes e) fun _ => (den v e).i * (bytes : Int) ≤ 281474976710656 → (den v e).i ≤ 9223372036854775807 := by
  unfold Sy.needMax
  split
  · exact Sat.need.mono fun _ h _ => by have := le_b h; simpa [den, mkI, maxI] using this
  · rename_i hb
    refine .pure fun h => ?_
    rcases (by omega : (den v e).i < 0 ∨ 0 ≤ (den v e).i) with h0 | h0
    · omega
    · have h1 : (den v e).i * 1 ≤ (den v e).i * (bytes : Int) := Int.mul_le_mul_of_nonneg_left (by omega) h0
      omega
/-! ### structs and rows made -/
def sFillL (place : Nat → Option (Nat × Nat)) : List SL → List (Nat × SV) → Option (List SL)
  | cells, [] => some cells
  | cells, (i, x) :: rest => match place i, x.cells with
    | some (off, size), some cs => if cs.length = size ∧ off + size ≤ cells.length then sFillL place (segL cells off cs) rest else none
    | _, _ => none
def sBuild (I : Tab) (t : TypeId) (parts : List (Nat × SV)) : SVal := match I t with
  | some i => match ofV i.zero, i.d with
    | some zx, .struct fs => match zx.cells, places I fs with
      | some zc, some ps => match sFillL (fun j => ps[j]?) zc parts with
        | some cs => .pure (.agg cs)
        | none => .fail 100
      | _, _ => .fail 101
    | _, _ => .fail 102
  | none => .fail 103
def sFillE (z : Nat) : List (List SL) → List (Nat × SV) → Option (List (List SL))
  | els, [] => some els
  | els, (i, x) :: rest => match x.cells with
    | some cs => if cs.length = z ∧ i < els.length then sFillE z (els.set i cs) rest else none
    | none => none
/-- A type's zero, as cells. -/
def zeroOf (j : TInfo) : Option (List SL) := match ofV j.zero with
  | some zx => match zx.cells with
    | some zc => if zc.length = j.size then some zc else none
    | none => none
  | none => none
def elemT (I : Tab) (t : TypeId) : Option TInfo := match I t with
  | some i => match i.d with
    | .slice e => I e
    | _ => none
  | none => none
def sBuildSlice (I : Tab) (t : TypeId) (len : Nat) (parts : List (Nat × SV)) (H : SH) : SRes := match elemT I t with
  | some j => match zeroOf j with
    | some zc => if len * j.size ≤ 16777216 then match sFillE j.size (List.replicate len zc) parts with
        | some els => .pure (.one (.slc H.length (.ci 0) (.ci (len : Int))), H ++ [.row true j.size (toSR (kindsOf zc) els)], [])
        | none => .fail 104
      else .fail 105
    | none => .fail 106
  | none => .fail 107
def repR (n : E) (zc : List SL) : Option SR := match kindsOf zc with
  | some ks => match colEs ks zc with
    | some es => some (.sym (mkRep n es) ks)
    | none => none
  | none => match litI n with
    | some z => some (.lits (List.replicate z.toNat zc))
    | none => none
def sMake (I : Tab) (t : TypeId) (l c : SV) (H : SH) : SRes := match elemT I t, l, c with
  | some j, .one (.int _ l), .one (.int _ c) => match zeroOf j with
    | some zc => SM.bind (need 108 (mk2 .le (.ci 0) l)) fun _ => SM.bind (need 109 (mk2 .le l c)) fun _ =>
        SM.bind (need 110 (mk2 .le (mk2 .mul (.ci (j.bytes : Int)) c) (.ci 281474976710656))) fun _ => SM.bind (needMax 111 j.bytes c) fun _ => match repR l zc with
          | some r => .pure (.one (.slc H.length (.ci 0) (srLen r)), H ++ [.row true j.size r], [])
          | none => .fail 112
    | none => .fail 113
  | _, _, _ => .fail 114
section
variable {v : Val} {I : Tab} {H : SH}
theorem elemT_ok {t : TypeId} {j : TInfo} (h : elemT I t = some j) : ∃ i e, I t = some i ∧ i.d = .slice e ∧ I e = some j := by
  unfold elemT at h
  split at h
  · rename_i i hi
    split at h
    · rename_i e he; exact ⟨i, e, hi, he, h⟩
    · cases h
  · cases h
theorem zeroOf_ok {j : TInfo} {zc : List SL} (h : zeroOf j = some zc) : flatV j.zero = true ∧ j.zero.cells.toList = dls v zc ∧ zc.length = j.size := by
  unfold zeroOf at h
  split at h
  · rename_i zx hx
    split at h
    · rename_i c hc
      split at h
      · rename_i hl
        cases h
        obtain ⟨h1, h2⟩ := ofV_ok (v := v) hx
        exact ⟨h2, by rw [← cells_ok hc, h1], hl⟩
      · cases h
    · cases h
  · cases h
theorem sFillL_ok {place : Nat → Option (Nat × Nat)} : ∀ {parts : List (Nat × SV)} {cells r : List SL}, sFillL place cells parts = some r → fillL place (dls v cells) (parts.map fun p => (p.1, dv v p.2)) = some (dls v r)
  | [], cells, r, h => by cases h; rfl
  | (i, x) :: rest, cells, r, h => by
    simp only [sFillL] at h
    split at h
    · rename_i off size cs hp hc
      split at h
      · rename_i hl
        have hc := cells_ok (v := v) hc
        have := sFillL_ok h
        simp only [List.map_cons, fillL, hp, hc, dls_len]
        rw [if_pos hl, ← this, dls_seg, dls_len]
      · cases h
    · cases h
theorem sBuild_ok {t : TypeId} {parts : List (Nat × SV)} : Gives v (sBuild I t parts) (aBuild I t (parts.map fun p => (p.1, dv v p.2))) := by
  unfold sBuild
  split
  · rename_i i hi
    split
    · rename_i zx fs hz hd
      split
      · rename_i zc ps hzc hps
        split
        · rename_i cs hcs
          refine .pure ?_
          obtain ⟨h1, h2⟩ := ofV_ok (v := v) hz
          have hzc := cells_ok (v := v) hzc
          rw [h1] at hzc
          simp only [aBuild, hi, h2, if_true, hd, hps, hzc, sFillL_ok hcs]
          rfl
        · exact .fail
      · exact .fail
    · exact .fail
  · exact .fail
theorem sFillE_ok {z : Nat} : ∀ {parts : List (Nat × SV)} {els r : List (List SL)}, sFillE z els parts = some r → fillE z (els.map (dls v)) (parts.map fun p => (p.1, dv v p.2)) = some (r.map (dls v))
  | [], cells, r, h => by cases h; rfl
  | (i, x) :: rest, els, r, h => by
    simp only [sFillE] at h
    split at h
    · rename_i cs hc
      split at h
      · rename_i hl
        have hc := cells_ok (v := v) hc
        have := sFillE_ok h
        simp only [List.map_cons, fillE, hc, dls_len, List.length_map]
        rw [if_pos ⟨hl.1, hl.2, dls_ones v cs⟩, ← this, List.map_set]
      · cases h
    · cases h
theorem sBuildSlice_ok {t : TypeId} {len : Nat} {parts : List (Nat × SV)} : Sy.Does v (sBuildSlice I t len parts H) (aBuildSlice I t len (parts.map fun p => (p.1, dv v p.2)) (dH v H)) := by
  unfold sBuildSlice
  split
  · rename_i j hj
    split
    · rename_i zc hz
      split
      · rename_i hl
        split
        · rename_i els he
          refine .pure ?_
          obtain ⟨i, e, g1, g2, g3⟩ := elemT_ok hj
          obtain ⟨z1, z2, z3⟩ := zeroOf_ok (v := v) hz
          have := sFillE_ok (v := v) he
          rw [List.map_replicate] at this
          simp only [aBuildSlice, g1, g2, g3, z2, dls_len, z3]
          rw [if_pos ⟨z1, trivial, hl⟩, this]
          simp only [dres, dv_one, dv_agg, dv_tup, dl_bool, dl_int, dl_str, dl_nils, dl_ptr, dl_slc, dH_len, dH_app, dH_one, db_row, db_iter, db_dead, List.map_cons, List.map_nil, toSR_ok, ci_i, Int.toNat_zero, Int.toNat_natCast]
        · exact .fail
      · exact .fail
    · exact .fail
  · exact .fail
theorem repR_ok {n : E} {zc : List SL} {r : SR} (h : repR n zc = some r) : dr v r = List.replicate (den v n).i.toNat (dls v zc) := by
  unfold repR at h
  split at h
  · split at h
    · rename_i es he; cases h; simp only [dr, mkRep_ok, List.map_replicate, colEs_ok he]
    · cases h
  · split at h
    · rename_i z hz; cases h; simp only [dr, List.map_replicate, litI_ok hz]
    · cases h
theorem sMake_ok {t : TypeId} {l c : SV} : Sy.Does v (sMake I t l c H) (aMake I t (dv v l) (dv v c) (dH v H)) := by
  unfold sMake
  split
  · rename_i j k l k' c hj
    split
    · rename_i zc hz
      refine Sat.needB fun h1 => Sat.needB fun h2 => Sat.needB fun h3 => Sat.bind Sat.needMax fun _ h4 => ?_
      split
      · rename_i r hr
        refine .pure ?_
        obtain ⟨i, e, g1, g2, g3⟩ := elemT_ok hj
        obtain ⟨z1, z2, z3⟩ := zeroOf_ok (v := v) hz
        have h1 := le0 h1
        have h2 := le_b h2
        have h3 := le_b h3
        rw [mul_i] at h3
        simp only [den, mkI, maxI] at h3
        have h4 := h4 (by rw [Int.mul_comm]; exact h3)
        simp only [aMake, dv_one, dv_agg, dv_tup, dl_bool, dl_int, dl_str, dl_nils, dl_ptr, dl_slc, g1, g2, g3, z2, dls_len, z3]
        rw [if_pos ⟨z1, trivial, h1, h2, h3, h4⟩]
        simp only [dres, dv_one, dv_agg, dv_tup, dl_bool, dl_int, dl_str, dl_nils, dl_ptr, dl_slc, dH_len, dH_app, dH_one, db_row, db_iter, db_dead, List.map_cons, List.map_nil, repR_ok hr, ci_i, Int.toNat_zero, srLen_ok, List.length_replicate, Int.toNat_natCast]
      · exact .fail
    · exact .fail
  · exact .fail
end

/-! ### append, copy -/
theorem mul_nat {a b n : Nat} (h : (a : Int) * (b : Int) ≤ (n : Int)) : a * b ≤ n := by
  rw [← Int.natCast_mul] at h
  exact Int.ofNat_le.1 h
theorem addmul_nat {a c b n : Nat} (h : ((a : Int) + (c : Int)) * (b : Int) ≤ (n : Int)) : (a + c) * b ≤ n := by
  rw [← Int.natCast_add] at h
  exact mul_nat h
def sSub (r : SR) (e n : E) : SM SR := SM.bind (need 115 (mk2 .le (mk2 .add (mkN e) (mkN n)) (srLen r))) fun _ => match srDrop (mkN e) r with
  | some r1 => opt 116 (srTake (mkN n) r1)
  | none => .fail 117
def sElsOf (z : Nat) (x : SV) (H : SH) : SM SR := match x with
  | .one .nils => .pure (.lits [])
  | .one (.slc id e n) => match H[id]? with
    | some (.row _ z' r) => if z' = z then sSub r e n else .fail 118
    | some (.old _ z' r) => if z' = z then sSub r e n else .fail 119
    | _ => .fail 120
  | _ => .fail 121
def flagOf (sr : Bool) (n : E) : SM Bool := if sr = true then .pure true else ask (mk2 .lt (.ci 0) n)
def sAppend (I : Tab) (ts : Array TypeId) (xs : List SV) (H : SH) : SRes := match ts[0]?, ts[1]?, xs with
  | some t, some t2, [s, x] => match elemT I t, I t2 with
    | some j, some i2 => if isIntT i2 = true then .fail 122 else match zeroOf j with
      | some zc => SM.bind (sElsOf j.size x H) fun new => match s with
        | .one .nils => SM.bind (need 123 (mk2 .le (mk2 .mul (srLen new) (.ci (j.bytes : Int))) (.ci 140737488355328))) fun _ => SM.bind (needMax 124 j.bytes (srLen new)) fun _ =>
            SM.bind (flagOf false (srLen new)) fun fl => .pure (.one (.slc H.length (.ci 0) (srLen new)), H ++ [.row fl j.size new], [])
        | .one (.slc id e n) => if E.eq e (.ci 0) = true then match H[id]? with
            | some (.row sr z r) => if z = j.size then
                SM.bind (need 125 (mk2 .le (mkN n) (srLen r))) fun _ =>
                SM.bind (need 126 (mk2 .le (mk2 .mul (mk2 .add (mkN n) (srLen new)) (.ci (j.bytes : Int))) (.ci 140737488355328))) fun _ =>
                SM.bind (needMax 127 j.bytes (mk2 .add (mkN n) (srLen new))) fun _ =>
                SM.bind (flagOf sr (mk2 .add (mkN n) (srLen new))) fun fl => match srTake (mkN n) r with
                  | some r1 => match srCat r1 new with
                    | some r2 => .pure (.one (.slc H.length (.ci 0) (srLen r2)), H.set id .dead ++ [.row fl z r2], [id])
                    | none => .fail 128
                  | none => .fail 129
              else .fail 130
            | _ => .fail 131
          else .fail 132
        | _ => .fail 133
      | none => .fail 134
    | _, _ => .fail 135
  | _, _, _ => .fail 136
def sCopy (I : Tab) (ts : Array TypeId) (xs : List SV) (H : SH) : SRes := match ts[0]?, xs with
  | some t, [d, s] => match elemT I t with
    | some j => match d with
      | .one (.slc id e0 dn) => SM.bind (sElsOf j.size s H) fun new => match H[id]? with
        | some (.row sr z r) => if z = j.size then
            SM.bind (need 137 (mk2 .le (mk2 .add (mkN e0) (srLen new)) (srLen r))) fun _ => SM.bind (need 138 (mk2 .le (srLen new) (mkN dn))) fun _ =>
              match srTake (mkN e0) r, srDrop (mk2 .add (mkN e0) (srLen new)) r with
              | some a, some b => match srCat a new with
                | some c => match srCat c b with
                  | some c => .pure (.one (.int .i64 (srLen new)), H.set id (.row sr z c), [id])
                  | none => .fail 139
                | none => .fail 140
              | _, _ => .fail 141
          else .fail 142
        | _ => .fail 143
      | _ => .fail 144
    | none => .fail 145
  | _, _ => .fail 146
section
variable {v : Val} {I : Tab} {H : SH}
theorem sSub_ok {r : SR} {e n : E} : Sat v (sSub r e n) fun r' => (den v e).i.toNat + (den v n).i.toNat ≤ (dr v r).length ∧ dr v r' = ((dr v r).drop (den v e).i.toNat).take (den v n).i.toNat := by
  unfold sSub
  refine Sat.needB fun h => ?_
  have h := le_b h
  rw [add_i, mkN_ok, mkN_ok, srLen_ok] at h
  split
  · rename_i r1 hr1
    refine Sat.opt fun r' hr' => ⟨by omega, ?_⟩
    rw [srTake_ok hr', srDrop_ok hr1, mkN_nat, mkN_nat]
  · exact .fail
theorem sElsOf_ok {z : Nat} {x : SV} : Sat v (sElsOf z x H) fun r => elsOf z (dv v x) (dH v H) = some (dr v r) := by
  unfold sElsOf
  split
  · exact .pure rfl
  · rename_i id e n
    split
    · rename_i s z' r hb
      split
      · rename_i hz
        refine sSub_ok.mono fun r' h => ?_
        simp only [dv_one, dv_agg, dv_tup, dl_bool, dl_int, dl_str, dl_nils, dl_ptr, dl_slc, elsOf, dH_get' hb, db_row, db_old, db_iter, hz]
        rw [if_pos ⟨trivial, h.1⟩, h.2]
      · exact .fail
    · rename_i s z' r hb
      split
      · rename_i hz
        refine sSub_ok.mono fun r' h => ?_
        simp only [dv_one, dv_agg, dv_tup, dl_bool, dl_int, dl_str, dl_nils, dl_ptr, dl_slc, elsOf, dH_get' hb, db_row, db_old, db_iter, hz]
        rw [if_pos ⟨trivial, h.1⟩, h.2]
      · exact .fail
    · exact .fail
  · exact .fail
theorem flagOf_ok {sr : Bool} {n : E} : Sat v (flagOf sr n) fun b => b = (sr || decide (0 < (den v n).i)) := by
  unfold flagOf
  split
  · rename_i h; exact .pure (by simp [h])
  · rename_i h
    refine Sat.ask.mono fun b hb => ?_
    rw [lt_bb] at hb
    have h : sr = false := by simpa using h
    rw [h, Bool.false_or, ← hb]; rfl
theorem sAppend_ok {ts : Array TypeId} {xs : List SV} : Sy.Does v (sAppend I ts xs H) (aAppend I ts (xs.map (dv v)) (dH v H)) := by
  unfold sAppend
  split
  · rename_i t t2 s x h1 h2
    split
    · rename_i j i2 hj hi2
      split
      · exact .fail
      · rename_i hint
        split
        · rename_i zc hz
          refine Sat.bind sElsOf_ok fun new hnew => ?_
          obtain ⟨i, e, g1, g2, g3⟩ := elemT_ok hj
          obtain ⟨z1, z2, z3⟩ := zeroOf_ok (v := v) hz
          have hint : isIntT i2 = false := by simpa using hint
          split
          · refine Sat.needB fun q1 => Sat.bind Sat.needMax fun _ q2 => Sat.bind flagOf_ok fun fl hfl => .pure ?_
            have q1 := le_b q1
            rw [mul_i, srLen_ok] at q1
            rw [srLen_ok] at q2 hfl
            simp only [den, mkI, maxI] at q1
            have q2 := q2 (by omega)
            simp only [aAppend, h1, h2, List.map_cons, List.map_nil, g1, hi2, g2, hint, g3, hnew]
            simp only [dv_one, dv_agg, dv_tup, dl_bool, dl_int, dl_str, dl_nils, dl_ptr, dl_slc]
            rw [if_pos ⟨mul_nat q1, by omega, z1, by rw [z2, dls_len, z3]⟩]
            simp only [dres, dv_one, dv_agg, dv_tup, dl_bool, dl_int, dl_str, dl_nils, dl_ptr, dl_slc, dH_len, dH_app, dH_one, db_row, db_iter, db_dead, List.map_cons, List.map_nil, ci_i, Int.toNat_zero, srLen_ok, Int.toNat_natCast]
            rw [hfl]
            simp
          · rename_i id e' n
            split
            · rename_i he
              have he := E.eq_ok _ _ he
              subst he
              split
              · rename_i sr z r hb
                split
                · rename_i hzj
                  refine Sat.needB fun q0 => Sat.needB fun q1 => Sat.bind Sat.needMax fun _ q2 => Sat.bind flagOf_ok fun fl hfl => ?_
                  split
                  · rename_i r1 hr1
                    split
                    · rename_i r2 hr2
                      refine .pure ?_
                      have q0 := le_b q0
                      have q1 := le_b q1
                      rw [mkN_ok, srLen_ok] at q0
                      rw [mul_i, add_i, srLen_ok, mkN_ok] at q1
                      rw [add_i, srLen_ok, mkN_ok] at q2 hfl
                      simp only [den, mkI, maxI] at q1
                      have q2 := q2 (by omega)
                      simp only [aAppend, h1, h2, List.map_cons, List.map_nil, g1, hi2, g2, hint, g3, hnew]
                      have e0 : (den v (.ci 0)).i.toNat = 0 := rfl
                      simp only [dv_one, dv_agg, dv_tup, dl_bool, dl_int, dl_str, dl_nils, dl_ptr, dl_slc, e0, dH_get' hb, db_row, db_old, db_iter]
                      rw [if_pos ⟨hzj, by omega, addmul_nat q1, by omega, z1, by rw [z2, dls_len, z3]⟩]
                      simp only [dres, dv_one, dv_agg, dv_tup, dl_bool, dl_int, dl_str, dl_nils, dl_ptr, dl_slc, dH_len, dH_app, dH_set, dH_one, db_row, db_iter, db_dead, List.map_cons, List.map_nil, den, mkI, List.length_map, List.length_set, Int.toNat_zero, add_i, mkN_nat, srLen_ok, srCat_ok hr2, srTake_ok hr1]
                      rw [hfl]
                      have e1 : ((((dr v r).take (den v n).i.toNat ++ dr v new).length : Nat) : Int).toNat = (den v n).i.toNat + (dr v new).length := by
                        rw [Int.toNat_natCast, List.length_append, List.length_take, Nat.min_eq_left (by omega)]
                      have e2 : decide (0 < (((den v n).i.toNat : Int) + ((dr v new).length : Int))) = decide (0 < (den v n).i.toNat + (dr v new).length) := by
                        apply decide_eq_decide.2; omega
                      rw [e1, e2]
                    · exact .fail
                  · exact .fail
                · exact .fail
              · exact .fail
            · exact .fail
          · exact .fail
        · exact .fail
    · exact .fail
  · exact .fail
theorem sCopy_ok {ts : Array TypeId} {xs : List SV} : Sy.Does v (sCopy I ts xs H) (aCopy I ts (xs.map (dv v)) (dH v H)) := by
  unfold sCopy
  split
  · rename_i t d s h1
    split
    · rename_i j hj
      split
      · rename_i id e0 dn
        refine Sat.bind sElsOf_ok fun new hnew => ?_
        obtain ⟨i, e, g1, g2, g3⟩ := elemT_ok hj
        split
        · rename_i sr z r hb
          split
          · rename_i hz
            refine Sat.needB fun q0 => Sat.needB fun q1 => ?_
            split
            · rename_i a b ha hbb
              split
              · rename_i c hc
                split
                · rename_i c2 hc2
                  refine .pure ?_
                  have q0 := le_b q0
                  have q1 := le_b q1
                  rw [add_i, mkN_ok, srLen_ok, srLen_ok] at q0
                  rw [mkN_ok, srLen_ok] at q1
                  simp only [aCopy, h1, List.map_cons, List.map_nil, g1, g2, g3, hnew]
                  simp only [dv_one, dv_agg, dv_tup, dl_bool, dl_int, dl_str, dl_nils, dl_ptr, dl_slc, dH_get' hb, db_row, db_old, db_iter]
                  rw [if_pos ⟨hz, by omega, by omega⟩]
                  simp only [dres, dv_one, dv_agg, dv_tup, dl_bool, dl_int, dl_str, dl_nils, dl_ptr, dl_slc, dH_set, db_row, db_iter, db_dead, srLen_ok, srCat_ok hc2, srCat_ok hc, srTake_ok ha, srDrop_ok hbb, add_i, mkN_ok, Int.toNat_natCast]
                  congr 5
                · exact .fail
              · exact .fail
            · exact .fail
          · exact .fail
        · exact .fail
      · exact .fail
    · exact .fail
  · exact .fail
end

/-! ### texts, sign by sign -/
def sRange (I : Tab) (t : TypeId) (x : SV) (H : SH) : SRes := match I t, x with
  | some i, .one (.str s) => match i.d with
    | .str => .pure (.one (.ptr H.length 0 none), H ++ [.iter s (.ci 0)], [])
    | _ => .fail 150
  | _, _ => .fail 151
def sNext (x : SV) (H : SH) : SRes := match x with
  | .one (.ptr id 0 none) => match H[id]? with
    | some (.iter s pos) => SM.bind (ask (mk2 .lt (mkN pos) (.o1 .slen s))) fun b => match b with
      | true => .pure (.tup [.one (.bool (.cb true)), .one (.int .i64 (mkN pos)), .one (.int .i32 (.o2 .rune s (mkN pos)))], H.set id (.iter s (mk2 .add (mkN pos) (.o2 .rlen s (mkN pos)))), [id])
      | false => .pure (.tup [.one (.bool (.cb false))], H, [])
    | _ => .fail 152
  | _ => .fail 153
section
variable {v : Val} {I : Tab} {H : SH}
theorem sRange_ok {t : TypeId} {x : SV} : Sy.Does v (sRange I t x H) (aRange I t (dv v x) (dH v H)) := by
  unfold sRange
  split
  · rename_i h1
    split
    · rename_i hd; exact .pure (by simp [aRange, h1, hd, dv_one, dv_agg, dv_tup, dl_bool, dl_int, dl_str, dl_nils, dl_ptr, dl_slc, dres, dH_len, dH_app, dH_one, db_row, db_iter, db_dead, spot, den, mkI])
    · exact .fail
  · exact .fail
theorem sNext_ok {x : SV} : Sy.Does v (sNext x H) (aNext (dv v x) (dH v H)) := by
  unfold sNext
  split
  · rename_i id
    split
    · rename_i s pos hb
      refine Sat.askB fun b hbb => ?_
      rw [mk2_b _ _ _ rfl] at hbb
      simp only [den, den2, mkB, mkN_ok, den1, mkI] at hbb
      split
      · refine .pure ?_
        have hlt : (den v pos).i.toNat < (den v s).s.size := by have := of_decide_eq_true hbb; omega
        simp only [aNext, dv_one, dv_agg, dv_tup, dl_bool, dl_int, dl_str, dl_nils, dl_ptr, dl_slc, spot, dH_get' hb, db_row, db_old, db_iter]
        rw [if_pos hlt]
        simp only [dres, dv_one, dv_agg, dv_tup, dl_bool, dl_int, dl_str, dl_nils, dl_ptr, dl_slc, dw_one, dl_bool, dl_int, List.map_cons, List.map_nil, den, den2, mkI, mkB, mkN_ok, Int.toNat_natCast, dH_set, db_row, db_iter, db_dead, add_i]
        congr 4
      · refine .pure ?_
        have hlt : ¬ (den v pos).i.toNat < (den v s).s.size := by have := of_decide_eq_false hbb; omega
        simp only [aNext, dv_one, dv_agg, dv_tup, dl_bool, dl_int, dl_str, dl_nils, dl_ptr, dl_slc, spot, dH_get' hb, db_row, db_old, db_iter]
        rw [if_neg hlt]
        simp only [dres, dv_one, dv_agg, dv_tup, dl_bool, dl_int, dl_str, dl_nils, dl_ptr, dl_slc, dw_one, dl_bool, dl_int, List.map_cons, List.map_nil, den, mkB]
    · exact .fail
  · exact .fail
end

/-! ### all operations but calls -/
def sevs (T : ST) : List Operand → Option (List SV)
  | [] => some []
  | x :: xs => match sev T x, sevs T xs with
    | some v, some vs => some (v :: vs)
    | _, _ => none
def sevp (T : ST) : List (Nat × Operand) → Option (List (Nat × SV))
  | [] => some []
  | (i, x) :: xs => match sev T x, sevp T xs with
    | some v, some vs => some ((i, v) :: vs)
    | _, _ => none
def sevo (T : ST) : Option Operand → Option (Option SV)
  | none => some none
  | some x => match sev T x with
    | some v => some (some v)
    | none => none
def pureH (m : SVal) (H : SH) : SRes := SM.bind m fun x => .pure (x, H, [])
def saop (I : Tab) (op : Op) (T : ST) (H : SH) : SRes := match op with
  | .move x => pureH (opt 200 (sev T x)) H
  | .assign x => pureH (opt 201 (sev T x)) H
  | .pick c x y => match sev T c with
    | some (.one (.bool b)) => SM.bind (ask b) fun b => match b with
      | true => pureH (opt 202 (sev T x)) H
      | false => pureH (opt 203 (sev T y)) H
    | _ => .fail 204
  | .alloc t => sAlloc I t H
  | .box t x => match sev T x with
    | some x => match x.cells with
      | some cs => sNew cs H
      | none => .fail 205
    | none => .fail 206
  | .build t ps => SM.bind (opt 207 (sevp T ps.toList)) fun vs => pureH (sBuild I t vs) H
  | .buildSlice t len ps => SM.bind (opt 208 (sevp T ps.toList)) fun vs => sBuildSlice I t len vs H
  | .load t x => SM.bind (opt 209 (sev T x)) fun p => sLoad I t p H
  | .store t x y => SM.bind (opt 210 (sev T x)) fun p => SM.bind (opt 211 (sev T y)) fun u => sStore I t p u H
  | .nilCheck x => SM.bind (opt 212 (sev T x)) fun p => pureH (sNil p) H
  | .binOp op t x y _ => SM.bind (opt 213 (sev T x)) fun p => SM.bind (opt 214 (sev T y)) fun u => pureH (sBin I op t (isC x) (isC y) p u H) H
  | .unOp op _ x => SM.bind (opt 215 (sev T x)) fun p => pureH (sUn op p) H
  | .convert s d x => SM.bind (opt 216 (sev T x)) fun p => pureH (sConv I s d p) H
  | .makeSlice t l c => SM.bind (opt 217 (sev T l)) fun p => SM.bind (opt 218 (sev T c)) fun u => sMake I t p u H
  | .slice t x lo hi mx => match mx with
    | none => SM.bind (opt 219 (sev T x)) fun p => SM.bind (opt 220 (sevo T lo)) fun l => SM.bind (opt 221 (sevo T hi)) fun h => pureH (sSlice I t p l h H) H
    | some _ => .fail 222
  | .fieldAddr s x f => SM.bind (opt 223 (sev T x)) fun p => pureH (sFieldAddr I s p f) H
  | .field t x f => SM.bind (opt 224 (sev T x)) fun p => pureH (sField I t p f) H
  | .indexAddr t x i => SM.bind (opt 225 (sev T x)) fun p => SM.bind (opt 226 (sev T i)) fun u => pureH (sIndexAddr I t p u H) H
  | .index t x i => SM.bind (opt 227 (sev T x)) fun p => SM.bind (opt 228 (sev T i)) fun u => pureH (sIndex I t p u) H
  | .range t x => SM.bind (opt 229 (sev T x)) fun p => sRange I t p H
  | .next x b => match b with
    | true => SM.bind (opt 230 (sev T x)) fun p => sNext p H
    | false => .fail 231
  | .extract x i => SM.bind (opt 232 (sev T x)) fun p => pureH (sExtract p i) H
  | .call c => SM.bind (opt 233 (sevs T c.args.toList)) fun vs => match c.callee with
    | .builtin .len => pureH (sLen I c.argTypes vs) H
    | .builtin .append => if c.argTypes.toList = [c.argTypes.getD 0 0, c.argTypes.getD 0 0] then sAppend I c.argTypes vs H else .fail 234
    | .builtin .copy => sCopy I c.argTypes vs H
    | .builtin .min => pureH (sMin vs) H
    | .builtin .max => pureH (sMax vs) H
    | _ => .fail 235
  | _ => .fail 236
section
variable {v : Val} {I : Tab} {H : SH} {T : ST}
theorem sevs_ok : ∀ {xs : List Operand} {vs : List SV}, sevs T xs = some vs → evs (dT v T) xs = some (vs.map (dv v))
  | [], vs, h => by cases h; rfl
  | x :: xs, vs, h => by
    simp only [sevs] at h
    split at h
    · rename_i u us h1 h2; cases h; simp only [evs, sev_ok h1, sevs_ok h2, List.map_cons]
    · cases h
theorem sevp_ok : ∀ {xs : List (Nat × Operand)} {vs : List (Nat × SV)}, sevp T xs = some vs → evp (dT v T) xs = some (vs.map fun p => (p.1, dv v p.2))
  | [], vs, h => by cases h; rfl
  | (i, x) :: xs, vs, h => by
    simp only [sevp] at h
    split at h
    · rename_i u us h1 h2; cases h; simp only [evp, sev_ok h1, sevp_ok h2, List.map_cons]
    · cases h
theorem sevo_ok {x : Option Operand} {o : Option SV} (h : sevo T x = some o) : evo (dT v T) x = some (o.map (dv v)) := by
  cases x with
  | none => cases h; rfl
  | some x =>
    simp only [sevo] at h
    split at h
    · rename_i u hu; cases h; simp only [evo, sev_ok hu, Option.map_some]
    · cases h
theorem pureH_ok {m : SVal} {r : Option Value} (h : Gives v m r) : Sy.Does v (pureH m H) (pure1 (dH v H) r) :=
  Sat.bind h fun x hx => .pure (by rw [hx]; rfl)
theorem optV_ok {n : Nat} {x : Operand} : Gives v (opt n (sev T x)) (ev (dT v T) x) := Sat.opt fun a h => sev_ok h
theorem saop_ok {op : Op} : Sy.Does v (saop I op T H) (aop I noSums op (dT v T) (dH v H)) := by
  unfold saop
  split
  · exact pureH_ok optV_ok
  · exact pureH_ok optV_ok
  · rename_i c x y
    split
    · rename_i b hb
      have hb := sev_ok (v := v) hb
      refine Sat.askB fun q hq => ?_
      have hs : ∀ r1 r2, selR (ev (dT v T) c) r1 r2 = if q = true then r1 else r2 := by
        intro r1 r2; rw [hb]; simp only [dv_one, dv_agg, dv_tup, dl_bool, dl_int, dl_str, dl_nils, dl_ptr, dl_slc, hq]; cases q <;> rfl
      simp only [aop, hs]
      split
      · exact pureH_ok optV_ok
      · exact pureH_ok optV_ok
    · exact .fail
  · exact sAlloc_ok
  · split
    · rename_i x hx
      split
      · rename_i cs hc
        simp only [aop, sev_ok hx, cells_ok hc]
        exact sNew_ok
      · exact .fail
    · exact .fail
  · refine Sat.optB fun vs h => ?_
    simp only [aop, sevp_ok h]
    exact pureH_ok sBuild_ok
  · refine Sat.optB fun vs h => ?_
    simp only [aop, sevp_ok h]
    exact sBuildSlice_ok
  · refine Sat.optB fun p h => ?_
    simp only [aop, sev_ok h]
    exact sLoad_ok
  · refine Sat.optB fun p h => Sat.optB fun u k => ?_
    simp only [aop, sev_ok h, sev_ok k]
    exact sStore_ok
  · refine Sat.optB fun p h => ?_
    simp only [aop, sev_ok h]
    exact pureH_ok sNil_ok
  · refine Sat.optB fun p h => Sat.optB fun u k => ?_
    simp only [aop, sev_ok h, sev_ok k]
    exact pureH_ok sBin_ok
  · refine Sat.optB fun p h => ?_
    simp only [aop, sev_ok h]
    exact pureH_ok sUn_ok
  · refine Sat.optB fun p h => ?_
    simp only [aop, sev_ok h]
    exact pureH_ok sConv_ok
  · refine Sat.optB fun p h => Sat.optB fun u k => ?_
    simp only [aop, sev_ok h, sev_ok k]
    exact sMake_ok
  · split
    · refine Sat.optB fun p h => Sat.optB fun l hl => Sat.optB fun u k => ?_
      simp only [aop, sev_ok h, sevo_ok hl, sevo_ok k]
      exact pureH_ok sSlice_ok
    · exact .fail
  · refine Sat.optB fun p h => ?_
    simp only [aop, sev_ok h]
    exact pureH_ok sFieldAddr_ok
  · refine Sat.optB fun p h => ?_
    simp only [aop, sev_ok h]
    exact pureH_ok sField_ok
  · refine Sat.optB fun p h => Sat.optB fun u k => ?_
    simp only [aop, sev_ok h, sev_ok k]
    exact pureH_ok sIndexAddr_ok
  · refine Sat.optB fun p h => Sat.optB fun u k => ?_
    simp only [aop, sev_ok h, sev_ok k]
    exact pureH_ok sIndex_ok
  · refine Sat.optB fun p h => ?_
    simp only [aop, sev_ok h]
    exact sRange_ok
  · split
    · refine Sat.optB fun p h => ?_
      simp only [aop, sev_ok h]
      exact sNext_ok
    · exact .fail
  · refine Sat.optB fun p h => ?_
    simp only [aop, sev_ok h]
    exact pureH_ok sExtract_ok
  · rename_i c
    refine Sat.optB fun vs h => ?_
    have h := sevs_ok (v := v) h
    split
    · rename_i hc; simp only [aop, h, hc]; exact pureH_ok sLen_ok
    · rename_i hc
      split
      · rename_i ht; simp only [aop, h, hc, if_pos ht]; exact sAppend_ok
      · exact .fail
    · rename_i hc; simp only [aop, h, hc]; exact sCopy_ok
    · rename_i hc; simp only [aop, h, hc]; exact pureH_ok sMin_ok
    · rename_i hc; simp only [aop, h, hc]; exact pureH_ok sMax_ok
    · exact .fail
  · exact .fail
end
end Go.Proofs.Ytckbckijpdnlaaa.Sy
