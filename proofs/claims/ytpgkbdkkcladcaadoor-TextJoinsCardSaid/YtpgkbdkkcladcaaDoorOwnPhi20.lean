/- The functions that terms name by numbers, for layers 20 and 21. A lemma file: it claims nothing of the program. -/
import Derived.Test.YtpgkbdkkcladcaaDoorOwnSC
import Derived.Test.YtpgkbdkkcladcaaDoorOwnSgn20
import Derived.Test.YtpgkbdkkcladcaaDoorOwnLinesD
set_option linter.unusedVariables false
set_option linter.unusedSimpArgs false
namespace Go.Proofs.YtpgkbdkkcladcaaDoor.Sy
open Go Go.Proofs.YtpgkbdkkcladcaaDoor.Tx

abbrev Row : Type := List (List Int)
def imin (a b : Int) : Int := if b < a then b else a
def imax (a b : Int) : Int := if a < b then b else a
def b2i (b : Bool) : Int := if b = true then 1 else 0
def nbz (x : Int) : Bool := decide (x ≠ 0)
section
variable {v : Val} {a b c : E}
theorem d_mn2 : (den v (.o2 .mn a b)).i = imin (den v a).i (den v b).i := rfl
theorem d_mx2 : (den v (.o2 .mx a b)).i = imax (den v a).i (den v b).i := rfl
theorem d_bn2 : (den v (.o1 .bn a)).i = b2i (den v a).b := rfl
theorem d_nb2 : (den v (.o1 .nb a)).b = nbz (den v a).i := rfl
end
/-- A text's bytes; a text of bytes. -/
def toL (s : ByteArray) : Bs := s.data.toList
def ofL (l : Bs) : ByteArray := ⟨l.toArray⟩
theorem toL_ofL (l : Bs) : toL (ofL l) = l := rfl
theorem ofL_toL (s : ByteArray) : ofL (toL s) = s := rfl
/-- Signs, as a row of texts. -/
def rowS (L : List Bs) : Row := L.map fun x => [encS (ofL x)]
/-- A row's texts. -/
def txs (R : Row) : List Bs := R.map fun x => toL (decS (nth 0 x 0))
theorem txs_rowS (L : List Bs) : txs (rowS L) = L := by
  unfold txs rowS
  rw [List.map_map]
  conv => rhs; rw [← List.map_id L]
  refine List.map_congr_left fun x _ => ?_
  show toL (decS (encS (ofL x))) = x
  rw [decS_enc]; rfl
theorem toL_app (a b : ByteArray) : toL (a ++ b) = toL a ++ toL b := by
  show (a ++ b).data.toList = a.data.toList ++ b.data.toList
  rw [ByteArray.data_append, Array.toList_append]
theorem toL_ext (a : ByteArray) (i j : Nat) : toL (a.extract i j) = (toL a |>.take j).drop i := by
  show (a.extract i j).data.toList = _
  rw [ByteArray.data_extract, Array.toList_extract, List.extract_eq_take_drop, List.drop_take]; rfl
theorem size_L (a : ByteArray) : a.size = (toL a).length := by show a.data.size = a.data.toList.length; simp
theorem toL_inj {a b : ByteArray} (h : toL a = toL b) : a = b := by rw [← ofL_toL a, h, ofL_toL]
theorem dec_pos (s : ByteArray) (pos : Nat) : Utf8.decode s pos = Lib.decodeL ((toL s).drop pos) := (Lib.decodeL_drop s pos).symm
theorem dec_go {s : ByteArray} (h : 0 < s.size) : Lib.decodeGo s = Lib.decodeL (toL s) := by
  unfold Lib.decodeGo
  rw [if_neg (by omega), dec_pos, List.drop_zero]
theorem join_row (L : List Bs) (a b : Nat) : txs (((rowS L).drop a).take b) = (L.drop a).take b := by
  have : ((rowS L).drop a).take b = rowS ((L.drop a).take b) := by unfold rowS; rw [List.map_take, List.map_drop]
  rw [this, txs_rowS]
theorem join_row0 (L : List Bs) (b : Nat) : txs ((rowS L).take b) = L.take b := by have := join_row L 0 b; rwa [List.drop_zero, List.drop_zero] at this
theorem rowS_len (L : List Bs) : (rowS L).length = L.length := by simp [rowS]
theorem toL_inj' {a b : ByteArray} : (a = b) = (toL a = toL b) := propext ⟨fun h => by rw [h], toL_inj⟩
/-- The byte at which a sign begins; -1: there is none. -/
def placeF (l : Bs) (k : Int) : Int := if 0 ≤ k ∧ k ≤ ((sg l).length : Int) then (off l k.toNat : Int) else -1
theorem place_in {l : Bs} {k : Int} (h : 0 ≤ k ∧ k ≤ ((sg l).length : Int)) : placeF l k = (off l k.toNat : Int) := by unfold placeF; rw [if_pos h]
theorem place_out {l : Bs} {k : Int} (h : ¬ (0 ≤ k ∧ k ≤ ((sg l).length : Int))) : placeF l k = -1 := by unfold placeF; rw [if_neg h]
/-- A text in another one: the error, the text. -/
def insE (a : Bs) (k : Int) (b : Bs) : Int := if Lib.validD a = true ∧ Lib.validD b = true then (if 0 ≤ k ∧ k ≤ ((sg a).length : Int) then (if 4000 < ((sg a).length : Int) + ((sg b).length : Int) then 6 else 0) else 4) else 3
def insT (a : Bs) (k : Int) (b : Bs) : Bs := if insE a k b = 0 then ((sg a).take k.toNat).flatten ++ b ++ ((sg a).drop k.toNat).flatten else []
/-- Signs out of a text: the error, what is left, what is taken out. -/
def cutE (a : Bs) (k n : Int) : Int := if Lib.validD a = true then (if (0 ≤ k ∧ k ≤ ((sg a).length : Int)) ∧ 0 ≤ n ∧ n ≤ ((sg a).length : Int) - k then 0 else 4) else 3
def cutR (a : Bs) (k n : Int) : Bs := if cutE a k n = 0 then ((sg a).take k.toNat).flatten ++ ((sg a).drop (k.toNat + n.toNat)).flatten else []
def cutC (a : Bs) (k n : Int) : Bs := if cutE a k n = 0 then (((sg a).drop k.toNat).take n.toNat).flatten else []
def Φ (k : Nat) (x y z : D) : D := match k with
  | 700 => mkB (Lib.validD (toL x.s))
  | 701 => mkI ((Lib.decodeGo x.s).1 : Int)
  | 702 => mkI ((Lib.decodeGo x.s).2 : Int)
  | 703 => mkI ((sg (toL x.s)).length : Int)
  | 704 => mkI (placeF (toL x.s) (nth 0 y.l 0))
  | 705 => mkR (rowS (sg (toL x.s)))
  | 707 => mkS (ofL (txs ((y.r.drop (nth 0 x.l 0).toNat).take (nth 0 x.l 1).toNat)).flatten)
  | 710 => mkS (ofL (insT (toL x.s) (nth 0 y.l 0) (toL y.s)))
  | 711 => mkI (insE (toL x.s) (nth 0 y.l 0) (toL y.s))
  | 712 => mkS (ofL (cutR (toL x.s) (nth 0 y.l 0) (nth 0 y.l 1)))
  | 713 => mkS (ofL (cutC (toL x.s) (nth 0 y.l 0) (nth 0 y.l 1)))
  | 714 => mkI (cutE (toL x.s) (nth 0 y.l 0) (nth 0 y.l 1))
  | 709 => mkB (decide ((txs y.r).flatten.length ≤ 1000000))
  | 708 => mkS (ofL (YtpgkbdkkcladcaaDoorLn.lines x.s))
  | _ => mkI 0
theorem Φ700 (x y z : D) : Φ 700 x y z = mkB (Lib.validD (toL x.s)) := rfl
theorem Φ701 (x y z : D) : Φ 701 x y z = mkI ((Lib.decodeGo x.s).1 : Int) := rfl
theorem Φ702 (x y z : D) : Φ 702 x y z = mkI ((Lib.decodeGo x.s).2 : Int) := rfl
theorem Φ703 (x y z : D) : Φ 703 x y z = mkI ((sg (toL x.s)).length : Int) := rfl
theorem Φ704 (x y z : D) : Φ 704 x y z = mkI (placeF (toL x.s) (nth 0 y.l 0)) := rfl
theorem Φ705 (x y z : D) : Φ 705 x y z = mkR (rowS (sg (toL x.s))) := rfl
theorem Φ707 (x y z : D) : Φ 707 x y z = mkS (ofL (txs ((y.r.drop (nth 0 x.l 0).toNat).take (nth 0 x.l 1).toNat)).flatten) := rfl
theorem Φ710 (x y z : D) : Φ 710 x y z = mkS (ofL (insT (toL x.s) (nth 0 y.l 0) (toL y.s))) := rfl
theorem Φ711 (x y z : D) : Φ 711 x y z = mkI (insE (toL x.s) (nth 0 y.l 0) (toL y.s)) := rfl
theorem Φ712 (x y z : D) : Φ 712 x y z = mkS (ofL (cutR (toL x.s) (nth 0 y.l 0) (nth 0 y.l 1))) := rfl
theorem Φ713 (x y z : D) : Φ 713 x y z = mkS (ofL (cutC (toL x.s) (nth 0 y.l 0) (nth 0 y.l 1))) := rfl
theorem Φ714 (x y z : D) : Φ 714 x y z = mkI (cutE (toL x.s) (nth 0 y.l 0) (nth 0 y.l 1)) := rfl
theorem Φ709 (x y z : D) : Φ 709 x y z = mkB (decide ((txs y.r).flatten.length ≤ 1000000)) := rfl
theorem Φ708 (x y z : D) : Φ 708 x y z = mkS (ofL (YtpgkbdkkcladcaaDoorLn.lines x.s)) := rfl
/-! terms whole -/
section
variable {v : Val} {a b c : E}
theorem d_lt_n : ((den v (.o2 .lt a b)).b = false) = (¬ (den v a).i < (den v b).i) := by simp [den, den2, mkB]
theorem d_le_n : ((den v (.o2 .le a b)).b = false) = (¬ (den v a).i ≤ (den v b).i) := by simp [den, den2, mkB]
theorem D_cons : den v (.o2 .cons a b) = mkL ((den v a).i :: (den v b).l) := rfl
theorem D_nl : den v .nl = mkL [] := rfl
theorem D_nr : den v .nr = mkR [] := rfl
theorem D_vr (n : Nat) : den v (.vr n) = mkR (nth [] v.r n) := rfl
theorem D_vs (n : Nat) : den v (.vs n) = mkS (nth ⟨#[]⟩ v.s n) := rfl
theorem D_bus : den v (.o2 .bus a b) = { den v a with s := (den v b).s } := rfl
theorem D_set : den v (.o3 .set a b c) = mkR ((den v a).r.set (den v b).i.toNat (den v c).l) := rfl
theorem D_app : den v (.o2 .app a b) = mkR ((den v a).r ++ [(den v b).l]) := rfl
theorem mkL_l (l : List Int) : (mkL l).l = l := rfl
theorem mkR_r (l : Row) : (mkR l).r = l := rfl
theorem mkB_b (x : Bool) : (mkB x).b = x := rfl
theorem mkI_i (x : Int) : (mkI x).i = x := rfl
theorem mkS_s (x : ByteArray) : (mkS x).s = x := rfl
theorem d_api (k : Nat) : (den v (.o3 (.api k) a b c)).i = (v.f k (den v a) (den v b) (den v c)).i := rfl
theorem d_apr (k : Nat) : (den v (.o3 (.apr k) a b c)).r = (v.f k (den v a) (den v b) (den v c)).r := rfl
theorem d_apb (k : Nat) : (den v (.o3 (.apb k) a b c)).b = (v.f k (den v a) (den v b) (den v c)).b := rfl
theorem eqs_iff (x y : ByteArray) : ((x.toList == y.toList) = true) = (x = y) := by
  rw [beq_iff_eq, Lib.toList_data, Lib.toList_data]
  exact propext ⟨fun h => toL_inj h, fun h => by rw [h]⟩
theorem d_eqs_t : ((den v (.o2 .eqs a b)).b = true) = ((den v a).s = (den v b).s) := eqs_iff _ _
theorem d_eqs_f : ((den v (.o2 .eqs a b)).b = false) = (¬ (den v a).s = (den v b).s) := by
  rw [← d_eqs_t, Bool.not_eq_true]
theorem d_vs (n : Nat) : (den v (.vs n)).s = nth ⟨#[]⟩ v.s n := rfl
theorem d_cs (l : List UInt8) : (den v (.cs l)).s = ofL l := rfl
theorem d_scat : (den v (.o2 .scat a b)).s = (den v a).s ++ (den v b).s := rfl
theorem d_sub3 : (den v (.o3 .sub a b c)).s = (den v a).s.extract (den v b).i.toNat (den v c).i.toNat := rfl
theorem d_slen : (den v (.o1 .slen a)).i = ((den v a).s.size : Int) := rfl
theorem d_enc : (den v (.o1 .enc a)).i = encS (den v a).s := rfl
theorem d_dec : (den v (.o1 .dec a)).s = decS (den v a).i := rfl
theorem d_rune : (den v (.o2 .rune a b)).i = ((Utf8.decode (den v a).s (den v b).i.toNat).1 : Int) := rfl
theorem d_rlen : (den v (.o2 .rlen a b)).i = ((Utf8.decode (den v a).s (den v b).i.toNat).2 : Int) := rfl
theorem d_apt (k : Nat) : (den v (.o3 (.apt k) a b c)).s = (v.f k (den v a) (den v b) (den v c)).s := rfl
end
end Go.Proofs.YtpgkbdkkcladcaaDoor.Sy
