/- The second engine, part 22: contracts of functions that look whether a row lies somewhere: two ways. A lemma file: it claims nothing of the program. -/
import Derived.Test.YtpgkbdkkcladcaaOwnSC
set_option linter.unusedVariables false
set_option linter.unusedSimpArgs false
namespace Go.Proofs.Ytpgkbdkkcladcaa.Sy
open Go Go.Lib Go.Proofs.Ytpgkbdkkcladcaa.Eng
theorem match_sure {m : Mp} {w : World} {z : Nat} {els : List (List Value)} {H : AHeap} {i : MI} (hM : Match m (.old false z els :: H) w) (hi : m 0 = some i) (hv : i.void = false) : Match m (.old true z els :: H) w := by
  refine ⟨fun id j hj => ?_, fun id id' i1 i2 b b' h1 h2 h3 h4 h5 h6 h7 h8 h9 => ?_⟩
  · obtain ⟨b, hb, hr⟩ := hM.has id j hj
    cases id with
    | zero =>
      rw [hi] at hj; cases hj
      cases hb
      refine ⟨_, rfl, hr.1, hr.2.1, ?_⟩
      rcases hr.2.2 with ⟨g, _⟩ | g
      · rw [hv] at g; cases g
      · exact .inr g
    | succ id => exact ⟨b, hb, hr⟩
  · cases id with
    | zero => cases h3; cases h5
    | succ id =>
      cases id' with
      | zero =>
        cases h4
        exact hM.inj (id + 1) 0 i1 i2 b _ h1 h2 h3 rfl h5 rfl h7 h8 h9
      | succ id' => exact hM.inj (id + 1) (id' + 1) i1 i2 b b' h1 h2 h3 h4 h5 h6 h7 h8 h9
theorem owned_sure {m : Mp} {z : Nat} {els : List (List Value)} {H : AHeap} {k : Nat} (h : Owned m (.old true z els :: H) k) : Owned m (.old false z els :: H) k := by
  obtain ⟨id, i, b, h1, h2, h3, h4⟩ := h
  cases id with
  | zero => cases h2; cases h3
  | succ id => exact ⟨id + 1, i, b, h1, h2, h3, h4⟩
theorem owned_sure' {m : Mp} {z : Nat} {els : List (List Value)} {H : AHeap} {k : Nat} (h : Owned m (.old false z els :: H) k) : Owned m (.old true z els :: H) k := by
  obtain ⟨id, i, b, h1, h2, h3, h4⟩ := h
  cases id with
  | zero => cases h2; cases h3
  | succ id => exact ⟨id + 1, i, b, h1, h2, h3, h4⟩
theorem run_sure {m m' : Mp} {w w' : World} {z : Nat} {els : List (List Value)} {H H' : AHeap} (h : Run m (.old true z els :: H) w H' m' w') : Run m (.old false z els :: H) w H' m' w' where
  mt := h.mt
  ext := h.ext
  dom := h.dom
  len := h.len
  old := fun id b hl hb hlv => by
    obtain ⟨b0, g1, g2, g3⟩ := h.old id b hl hb hlv
    cases id with
    | zero => cases g1; exact ⟨_, rfl, rfl, fun k => g3 k⟩
    | succ id => exact ⟨b0, g1, g2, g3⟩
  new := fun id i b g1 g2 g3 g4 g5 => (h.new id i b g1 g2 g3 g4 g5).imp (fun q => q) owned_sure
  os := h.os
  tape := h.tape
  output := h.output
  size := h.size
  keep := fun k hk ho => h.keep k hk fun q => ho (owned_sure q)
/-- Two ways: the first slice lies somewhere, or it is nil. -/
theorem FC.Ok.two {P : Program} {u : Val} {c : FC} {z : Nat} {r : SR} {Hs : SH} {n : E} {as : List SV} (hH : c.H = .old false z r :: Hs) (ha : c.args = .one (.slc 0 (.ci 0) n) :: as)
    (hA : FC.Ok P u { c with H := .old true z r :: Hs }) (hB : dr u r = [] → FC.Ok P u { c with args := .one .nils :: as }) : FC.Ok P u c := by
  refine ⟨hA.fn, hA.post, fun hk m w args' hM hL => ?_⟩
  rw [ha] at hL
  obtain ⟨x, xs, rfl, h1, h2⟩ := LRel.cons_inv (show LRel m (dv u (.one (.slc 0 (.ci 0) n)) :: as.map (dv u)) args' from hL)
  have hM' := hM
  rw [hH] at hM'
  have hM2 : Match m (.old false z (dr u r) :: dH u Hs) w := hM'
  cases hi : m 0 with
  | none =>
    exfalso
    rw [dv_one, dl_slc] at h1
    generalize (den u n).i.toNat = q at h1
    generalize (den u (.ci 0)).i.toNat = q0 at h1
    cases h1 with
    | slc h => rw [hi] at h; cases h
    | vslc h => rw [hi] at h; cases h
    | eslc h => rw [hi] at h; cases h
  | some i =>
    cases hv : i.void with
    | false =>
      have k := hA.run hk m w (x :: xs) (match_sure hM2 hi hv) (by show LRel m (c.args.map (dv u)) _; rw [ha]; exact hL)
      refine k.mono ?_
      rintro e w' ⟨k, σ, po, rx, rH, x', m', g1, g2, g3, g4, g5⟩
      refine ⟨k, σ, po, rx, rH, x', m', g1, g2, g3, ?_, g5⟩
      rw [hH]
      exact run_sure g4
    | true =>
      have he : dr u r = [] := by
        obtain ⟨b, hb, hr⟩ := hM2.has 0 i hi
        cases hb
        rcases hr.2.2 with ⟨_, g, _⟩ | ⟨g, _⟩
        · exact g
        · rw [hv] at g; cases g
      have h3 : VRel m (dv u (.one .nils)) x := by
        rw [dv_one, dl_slc] at h1
        generalize (den u n).i.toNat = q at h1
        generalize (den u (.ci 0)).i.toNat = q0 at h1
        cases h1 with
        | slc h k => rw [hi] at h; cases h; rw [hv] at k; cases k
        | vslc h => exact .nils
        | eslc h k => rw [hi] at h; cases h; rw [hv] at k; cases k
      exact (hB he).run hk m w (x :: xs) hM (.cons h3 h2)
end Go.Proofs.Ytpgkbdkkcladcaa.Sy
