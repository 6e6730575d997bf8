/- The second engine, part 17: terms with letters replaced, blocks under other names: what a contract needs. A lemma file: it claims nothing of the program. -/
import Derived.Test.YtckbckijpdnlaaaOwnS11
set_option linter.unusedVariables false
set_option linter.unusedSimpArgs false
namespace Go.Proofs.Ytckbckijpdnlaaa.Sy
open Go Go.Lib Go.Proofs.Ytckbckijpdnlaaa.Eng

/-! ### what a term is -/
def isI : E → Bool
  | .vi _ => true
  | .ci _ => true
  | .o1 o _ => match o with
    | .w _ => true
    | .nn => true
    | .bn => true
    | .len => true
    | .slen => true
    | .neg => true
    | .enc => true
    | _ => false
  | .o2 o _ _ => isI2 o || (match o with
    | .sat => true
    | .rune => true
    | .rlen => true
    | _ => false)
  | .o3 o _ _ _ => match o with
    | .at => true
    | .api _ => true
    | _ => false
  | _ => false
def isB : E → Bool
  | .vb _ => true
  | .cb _ => true
  | .o1 o _ => match o with
    | .not => true
    | .nb => true
    | _ => false
  | .o2 o _ _ => isB2 o || (match o with
    | .eqb => true
    | .eqs => true
    | .and => true
    | .or => true
    | _ => false)
  | .o3 o _ _ _ => match o with
    | .apb _ => true
    | _ => false
  | _ => false
def isR : E → Bool
  | .vr _ => true
  | .nr => true
  | .o1 o _ => match o with
    | .one => true
    | _ => false
  | .o2 o _ _ => match o with
    | .app => true
    | .cat => true
    | .take => true
    | .drop => true
    | .rep => true
    | _ => false
  | .o3 o _ _ _ => match o with
    | .set => true
    | .apr _ => true
    | .aps _ => true
    | _ => false
  | _ => false
def isS : E → Bool
  | .vs _ => true
  | .cs _ => true
  | .o1 o _ => match o with
    | .dec => true
    | _ => false
  | .o2 o _ _ => match o with
    | .scat => true
    | _ => false
  | .o3 o _ _ _ => match o with
    | .sub => true
    | .apt _ => true
    | _ => false
  | _ => false
section
variable {v : Val}
theorem isI_ok {e : E} (h : isI e = true) : den v e = mkI (den v e).i := by
  cases e with
  | o1 o a => cases o <;> first | rfl | (simp [isI] at h)
  | o2 o a b => cases o <;> first | rfl | (simp [isI, isI2] at h)
  | o3 o a b c => cases o <;> first | rfl | (simp [isI] at h)
  | _ => first | rfl | (simp [isI] at h)
theorem isB_ok {e : E} (h : isB e = true) : den v e = mkB (den v e).b := by
  cases e with
  | o1 o a => cases o <;> first | rfl | (simp [isB] at h)
  | o2 o a b => cases o <;> first | rfl | (simp [isB, isB2] at h)
  | o3 o a b c => cases o <;> first | rfl | (simp [isB] at h)
  | _ => first | rfl | (simp [isB] at h)
theorem isR_ok {e : E} (h : isR e = true) : den v e = mkR (den v e).r := by
  cases e with
  | o1 o a => cases o <;> first | rfl | (simp [isR] at h)
  | o2 o a b => cases o <;> first | rfl | (simp [isR] at h)
  | o3 o a b c => cases o <;> first | rfl | (simp [isR] at h)
  | _ => first | rfl | (simp [isR] at h)
theorem isS_ok {e : E} (h : isS e = true) : den v e = mkS (den v e).s := by
  cases e with
  | o1 o a => cases o <;> first | rfl | (simp [isS] at h)
  | o2 o a b => cases o <;> first | rfl | (simp [isS] at h)
  | o3 o a b c => cases o <;> first | rfl | (simp [isS] at h)
  | _ => first | rfl | (simp [isS] at h)
end
/-! ### as that kind alone -/
def asI (e : E) : E := if isI e = true then e else .o2 .add e (.ci 0)
def asB (e : E) : E := if isB e = true then e else .o1 .not (.o1 .not e)
def asR (e : E) : E := if isR e = true then e else .o2 .cat e .nr
def asS (e : E) : E := if isS e = true then e else .o1 .dec (.o1 .enc e)
section
variable {v : Val}
theorem asI_ok (e : E) : den v (asI e) = mkI (den v e).i := by
  unfold asI; split
  · rename_i h; exact isI_ok h
  · simp [den, den2, mkI]
theorem asB_ok (e : E) : den v (asB e) = mkB (den v e).b := by
  unfold asB; split
  · rename_i h; exact isB_ok h
  · simp [den, den1, mkB]
theorem asR_ok (e : E) : den v (asR e) = mkR (den v e).r := by
  unfold asR; split
  · rename_i h; exact isR_ok h
  · simp [den, den2, mkR]
theorem asS_ok (e : E) : den v (asS e) = mkS (den v e).s := by
  unfold asS; split
  · rename_i h; exact isS_ok h
  · simp [den, den1, mkS, mkI, decS_enc]
end
/-! ### letters replaced -/
/-- An operation, made plain where that is the same. -/
def pl2 (o : O2) (a b : E) : E := if isI2 o = true then asI (mk2 o a b) else if isB2 o = true then asB (mk2 o a b) else .o2 o a b
def pl1 (o : O1) (a : E) : E := match o with
  | .w k => asI (mkW k a)
  | .len => asI (mkLen a)
  | .nn => asI (mkN a)
  | .nb => asB (mkNb a)
  | .bn => asI (mkBn a)
  | .enc => asI (mkEnc a)
  | .dec => asS (mkDec a)
  | .not => asB (mkNot a)
  | o => .o1 o a
def pl3 (o : O3) (a b c : E) : E := match o, c with
  | .at, .ci (.ofNat n) => asI (mkAt a b n)
  | o, c => .o3 o a b c
def sb (σ : Sb) : E → E
  | .vi n => asI (nth (.ci 0) σ.i n)
  | .vb n => asB (nth (.cb false) σ.b n)
  | .vr n => asR (nth .nr σ.r n)
  | .vs n => asS (nth (.cs []) σ.s n)
  | .o1 o a => pl1 o (sb σ a)
  | .o2 o a b => pl2 o (sb σ a) (sb σ b)
  | .o3 o a b c => pl3 o (sb σ a) (sb σ b) (sb σ c)
  | e => e
section
variable {v : Val} {σ : Sb}
theorem pl2_ok (o : O2) (a b : E) : den v (pl2 o a b) = den v (.o2 o a b) := by
  unfold pl2
  split
  · rename_i h
    rw [asI_ok, mk2_i _ _ _ h, ← isI_ok (by simp only [isI, h, Bool.true_or])]
  · split
    · rename_i h
      rw [asB_ok, mk2_b _ _ _ h, ← isB_ok (by simp only [isB, h, Bool.true_or])]
    · rfl
theorem pl1_ok (o : O1) (a : E) : den v (pl1 o a) = den v (.o1 o a) := by
  unfold pl1
  split
  · rw [asI_ok, mkW_ok]; rfl
  · rw [asI_ok, mkLen_ok]; rfl
  · rw [asI_ok, mkN_ok]; rfl
  · rw [asB_ok, mkNb_ok]; rfl
  · rw [asI_ok, mkBn_ok]; rfl
  · rw [asI_ok, mkEnc_ok]; rfl
  · rw [asS_ok, mkDec_ok]; rfl
  · rw [asB_ok, mkNot_ok]; rfl
  · rfl
theorem pl3_ok (o : O3) (a b c : E) : den v (pl3 o a b c) = den v (.o3 o a b c) := by
  unfold pl3
  split
  · rw [asI_ok, mkAt_ok]; simp [den, den3, mkI]
  · rfl
theorem sb_ok : ∀ (e : E), den v (sb σ e) = den (σ.val v) e
  | .vi n => by
    rw [sb, asI_ok]
    show _ = mkI (nth 0 (σ.i.map fun e => (den v e).i) n)
    exact congrArg mkI (nth_map (fun e => (den v e).i) (.ci 0) σ.i n).symm
  | .vb n => by
    rw [sb, asB_ok]
    show _ = mkB (nth false (σ.b.map fun e => (den v e).b) n)
    exact congrArg mkB (nth_map (fun e => (den v e).b) (.cb false) σ.b n).symm
  | .vr n => by
    rw [sb, asR_ok]
    show _ = mkR (nth [] (σ.r.map fun e => (den v e).r) n)
    exact congrArg mkR (nth_map (fun e => (den v e).r) .nr σ.r n).symm
  | .vs n => by
    rw [sb, asS_ok]
    show _ = mkS (nth ⟨#[]⟩ (σ.s.map fun e => (den v e).s) n)
    exact congrArg mkS (nth_map (fun e => (den v e).s) (.cs []) σ.s n).symm
  | .ci _ => rfl
  | .cb _ => rfl
  | .cs _ => rfl
  | .nl => rfl
  | .nr => rfl
  | .o1 o a => by rw [sb, pl1_ok]; simp only [den, sb_ok a]
  | .o2 o a b => by rw [sb, pl2_ok]; simp only [den, sb_ok a, sb_ok b]
  | .o3 o a b c => by rw [sb, pl3_ok]; simp only [den, sb_ok a, sb_ok b, sb_ok c]; rfl
end
def Sb.comp (τ σ : Sb) : Sb := { i := τ.i.map (sb σ), b := τ.b.map (sb σ), r := τ.r.map (sb σ), s := τ.s.map (sb σ) }
theorem comp_ok (v : Val) (τ σ : Sb) : (τ.comp σ).val v = τ.val (σ.val v) := by
  simp only [Sb.comp, Sb.val, List.map_map, Val.mk.injEq]
  refine ⟨?_, ?_, ?_, ?_, trivial⟩ <;> (apply List.map_congr_left; intro e _; simp only [Function.comp, sb_ok]; rfl)
/-! ### values, blocks: letters replaced, other names -/
def sbO (σ : Sb) : Option E → Option E
  | none => none
  | some e => some (sb σ e)
def sbL (σ : Sb) (ρ : Nat → Nat) : SL → SL
  | .bool b => .bool (sb σ b)
  | .int k e => .int k (sb σ e)
  | .str e => .str (sb σ e)
  | .nilp => .nilp
  | .nils => .nils
  | .nili => .nili
  | .nilf => .nilf
  | .ptr id k s => .ptr (ρ id) k (sbO σ s)
  | .slc id e n => .slc (ρ id) (sb σ e) (sb σ n)
  | .ifc t x => .ifc t (sbL σ ρ x)
  | .fn f => .fn f
  | .ite c x y => .ite (sb σ c) (sbL σ ρ x) (sbL σ ρ y)
def sbLs (σ : Sb) (ρ : Nat → Nat) (l : List SL) : List SL := l.map (sbL σ ρ)
def sbW (σ : Sb) (ρ : Nat → Nat) : SW → SW
  | .one l => .one (sbL σ ρ l)
  | .agg ls => .agg (sbLs σ ρ ls)
def sbV (σ : Sb) (ρ : Nat → Nat) : SV → SV
  | .one l => .one (sbL σ ρ l)
  | .agg ls => .agg (sbLs σ ρ ls)
  | .tup ls => .tup (ls.map (sbW σ ρ))
def sbR (σ : Sb) (ρ : Nat → Nat) : SR → SR
  | .sym r ks => .sym (sb σ r) ks
  | .lits els => .lits (els.map (sbLs σ ρ))
def sbB (σ : Sb) (ρ : Nat → Nat) : SB → SB
  | .cells vs => .cells (sbLs σ ρ vs)
  | .ro vs => .ro (sbLs σ ρ vs)
  | .row s z r => .row s z (sbR σ ρ r)
  | .old s z r => .old s z (sbR σ ρ r)
  | .iter s p => .iter (sb σ s) (sb σ p)
  | .dead => .dead
section
variable {v : Val} {σ : Sb} {ρ : Nat → Nat} {m1 m2 : Mp}
/-- What is named so, is so under the other names. -/
def Rho (ρ : Nat → Nat) (m1 m2 : Mp) : Prop := ∀ j i, m1 j = some i → m2 (ρ j) = some i
theorem sbO_ok (s : Option E) : spot v (sbO σ s) = spot (σ.val v) s := by
  cases s <;> simp only [sbO, spot, sb_ok]
theorem sbL_ok (hρ : Rho ρ m1 m2) : ∀ {x : SL} {u : Value}, VRel m1 (dl (σ.val v) x) u → VRel m2 (dl v (sbL σ ρ x)) u := by
  intro x
  induction x with
  | bool b => intro u h; rw [dl_bool] at h; cases h; rw [sbL, dl_bool, sb_ok]; exact .bool _
  | int k b => intro u h; rw [dl_int] at h; cases h; rw [sbL, dl_int, sb_ok]; exact .int _ _
  | str b => intro u h; rw [dl_str] at h; cases h; rw [sbL, dl_str, sb_ok]; exact .str _
  | nilp => intro u h; cases h; exact .nilp
  | nils => intro u h; cases h; exact .nils
  | nili => intro u h; cases h; exact .nili
  | nilf => intro u h; cases h; exact .nilf
  | ptr id k s =>
    intro u h
    rw [dl_ptr] at h
    rw [sbL, dl_ptr, sbO_ok]
    cases h with
    | ptr q qv => exact .ptr (hρ _ _ q) qv
  | slc id e n =>
    intro u h
    rw [dl_slc] at h
    rw [sbL, dl_slc, sb_ok, sb_ok]
    generalize (den (σ.val v) e).i.toNat = x at h ⊢
    generalize (den (σ.val v) n).i.toNat = y at h ⊢
    cases h with
    | slc q qv ql qc => exact .slc (hρ _ _ q) qv ql qc
    | vslc q qv => exact .vslc (hρ _ _ q) qv
    | eslc q qv => exact .eslc (hρ _ _ q) qv
  | ifc t x ih =>
    intro u h
    rw [dl_ifc] at h
    rw [sbL, dl_ifc]
    cases h with
    | iface q => exact .iface (ih q)
  | fn f =>
    intro u h
    cases h with
    | func hs h hs2 h2 => exact .func hs (fun j x y hx => by simp at hx) hs2 (fun j x y hx => by simp at hx)
  | ite c x y ihx ihy =>
    intro u h
    rw [dl_ite] at h
    rw [sbL, dl_ite, sb_ok]
    split at h
    · rename_i hc; rw [if_pos hc]; exact ihx h
    · rename_i hc; rw [if_neg hc]; exact ihy h
theorem sbLs_ok (hρ : Rho ρ m1 m2) : ∀ {xs : List SL} {us : List Value}, LRel m1 (dls (σ.val v) xs) us → LRel m2 (dls v (sbLs σ ρ xs)) us
  | [], us, h => by obtain rfl := h.nil_inv; exact .nil _
  | x :: xs, us, h => by
    obtain ⟨u, us', rfl, h1, h2⟩ := LRel.cons_inv (show LRel m1 (dl (σ.val v) x :: dls (σ.val v) xs) us from h)
    exact .cons (sbL_ok hρ h1) (sbLs_ok hρ h2)
theorem sbW_ok (hρ : Rho ρ m1 m2) {x : SW} {u : Value} (h : VRel m1 (dw (σ.val v) x) u) : VRel m2 (dw v (sbW σ ρ x)) u := by
  cases x with
  | one l => exact sbL_ok hρ h
  | agg ls =>
    obtain ⟨us, rfl, h2⟩ := agg_inv h
    exact .ofL (sbLs_ok hρ h2)
theorem sbV_ok (hρ : Rho ρ m1 m2) {x : SV} {u : Value} (h : VRel m1 (dv (σ.val v) x) u) : VRel m2 (dv v (sbV σ ρ x)) u := by
  cases x with
  | one l => exact sbL_ok hρ h
  | agg ls =>
    obtain ⟨us, rfl, h2⟩ := agg_inv h
    exact .ofL (sbLs_ok hρ h2)
  | tup ls =>
    obtain ⟨us, rfl, h2⟩ := tup_inv h
    refine tup_mk ?_
    rw [List.map_map]
    clear h
    induction ls generalizing us with
    | nil => obtain rfl := LRel.nil_inv h2; exact .nil _
    | cons y ys ih =>
      obtain ⟨u, us', rfl, g1, g2⟩ := LRel.cons_inv h2
      exact .cons (sbW_ok hρ g1) (ih us' g2)
theorem sbR_ok (hρ : Rho ρ m1 m2) {r : SR} : (dr v (sbR σ ρ r)).length = (dr (σ.val v) r).length ∧
    ∀ (e : Nat) (c : List Value), (dr v (sbR σ ρ r))[e]? = some c → ∃ c0, (dr (σ.val v) r)[e]? = some c0 ∧ c.length = c0.length ∧ (∀ x ∈ c, x.oneCell' = true) ∧ ∀ {us : List Value}, LRel m1 c0 us → LRel m2 c us := by
  cases r with
  | sym r ks =>
    simp only [sbR, dr, sb_ok]
    refine ⟨trivial, fun e c hc => ⟨c, hc, rfl, fun x hx => ?_, fun {us} hu => ⟨hu.1, fun j a b ha hb => ?_⟩⟩⟩
    · rw [List.getElem?_map] at hc
      cases hq : (den (σ.val v) r).r[e]? with
      | none => rw [hq] at hc; cases hc
      | some q => rw [hq] at hc; cases hc; have := toVs_scal _ _ x hx; cases x <;> simp [scal] at this <;> rfl
    · rw [List.getElem?_map] at hc
      cases hq : (den (σ.val v) r).r[e]? with
      | none => rw [hq] at hc; cases hc
      | some q => rw [hq] at hc; cases hc; exact scal_re (toVs_scal _ _ a (List.mem_of_getElem? ha)) (hu.2 j a b ha hb)
  | lits els =>
    simp only [sbR, dr, List.length_map, List.map_map]
    refine ⟨trivial, fun e c hc => ?_⟩
    rw [List.getElem?_map] at hc
    cases hq : els[e]? with
    | none => rw [hq] at hc; cases hc
    | some q =>
      rw [hq] at hc
      cases hc
      refine ⟨dls (σ.val v) q, by rw [List.getElem?_map, hq]; rfl, ?_, fun x hx => ?_, fun {us} hu => sbLs_ok hρ hu⟩
      · simp only [Function.comp, dls_len, sbLs, List.length_map]
      · exact List.all_eq_true.1 (dls_ones _ _) x hx
theorem sbB_own (b : SB) : (db v (sbB σ ρ b)).own = (db (σ.val v) b).own := by cases b <;> rfl
theorem sbB_live (b : SB) : (db v (sbB σ ρ b)).live = (db (σ.val v) b).live := by cases b <;> rfl
theorem sbB_ok (hρ : Rho ρ m1 m2) {b : SB} {w : World} {i : MI} (h : BRel m1 w i (db (σ.val v) b)) : BRel m2 w i (db v (sbB σ ρ b)) := by
  cases b with
  | cells vs =>
    obtain ⟨k1, k2, k3, cs, T, k5, k6⟩ := h
    exact ⟨k1, k2, k3, cs, T, k5, sbLs_ok hρ k6⟩
  | ro vs =>
    obtain ⟨k1, k2, k3, cs, T, k5, k6⟩ := h
    exact ⟨k1, k2, k3, cs, T, k5, sbLs_ok hρ k6⟩
  | row s z r =>
    obtain ⟨h1, h2⟩ := sbR_ok (v := v) (σ := σ) hρ (r := r)
    obtain ⟨k1, k2, k3, k4⟩ := h
    refine ⟨k1, k2, fun c hc => ?_, k4.imp ?_ ?_⟩
    · obtain ⟨e, he, rfl⟩ := List.getElem_of_mem hc
      obtain ⟨c0, g1, g2, g3, _⟩ := h2 e _ (List.getElem?_eq_getElem he)
      exact ⟨by rw [g2]; exact (k3 c0 (List.mem_of_getElem? g1)).1, g3⟩
    · rintro ⟨g1, g2, g3⟩
      exact ⟨g1, List.length_eq_zero_iff.1 (by rw [h1, g2]; rfl), g3⟩
    · rintro ⟨k5, cs, T, k7, k8, k9, k10⟩
      refine ⟨k5, cs, T, k7, k8, by rw [h1]; exact k9, fun e c he => ?_⟩
      obtain ⟨c0, g1, g2, _, g4⟩ := h2 e c he
      exact g4 (k10 e c0 g1)
  | old s z r =>
    obtain ⟨h1, h2⟩ := sbR_ok (v := v) (σ := σ) hρ (r := r)
    obtain ⟨k1, k3, k4⟩ := h
    refine ⟨k1, fun c hc => ?_, k4.imp ?_ ?_⟩
    · obtain ⟨e, he, rfl⟩ := List.getElem_of_mem hc
      obtain ⟨c0, g1, g2, g3, _⟩ := h2 e _ (List.getElem?_eq_getElem he)
      exact ⟨by rw [g2]; exact (k3 c0 (List.mem_of_getElem? g1)).1, g3⟩
    · rintro ⟨g1, g2, g3⟩
      exact ⟨g1, List.length_eq_zero_iff.1 (by rw [h1, g2]; rfl), g3⟩
    · rintro ⟨k5, k6, k7⟩
      refine ⟨k5, k6, fun e c k x he hx => ?_⟩
      obtain ⟨c0, g1, g2, _, g4⟩ := h2 e c he
      have hk : k < c0.length := by rw [← g2]; exact (List.getElem?_eq_some_iff.1 hx).1
      have hall : ∃ us : List Value, LRel m1 c0 us ∧ ∀ (j : Nat) (u : Value), us[j]? = some u → w.cell? ((⟨i.blk, i.off + e * z + 0, none⟩ : Addr).add j) = some u :=
        mem_vals fun j y hy => by
          obtain ⟨b, hb, hr⟩ := k7 e c0 j y g1 hy
          exact ⟨b, by rw [add_none]; simpa using hb, hr⟩
      obtain ⟨us, hu1, hu2⟩ := hall
      have hu3 := g4 hu1
      obtain ⟨u, hu, hr⟩ := hu3.get hx
      have := hu2 k u hu
      rw [add_none] at this
      exact ⟨u, by simpa using this, hr⟩
  | iter s p =>
    simp only [sbB, db, sb_ok]
    exact h
  | dead => trivial
end
end Go.Proofs.Ytckbckijpdnlaaa.Sy
