/- Parts S13, S14, S15, S16, S17, S18, S19, S20, S21, S22, S23 of the engine, in one text. A lemma file: it claims nothing of the program. -/
import Derived.Test.YtpgkbdkkcladcaaOwnSB
import Derived.Laws.BitsLemmas
set_option linter.unusedVariables false
set_option linter.unusedSimpArgs false
/- The second engine, part 13: cells of a row of numbers; a slice of numbers handed in. A lemma file: it claims nothing of the program. -/
namespace Go.Proofs.Ytpgkbdkkcladcaa.Sy
open Go Go.Lib Go.Proofs.Ytpgkbdkkcladcaa.Eng Go.RowKit

/-- The number that stands in a row of one column. -/
def cl (r : List (List Int)) (j : Int) : Int := nth 0 (r.getD j.toNat []) 0
theorem d_cl {v : Val} {a b : E} : (den v (.o3 .at a b (.ci 0))).i = cl (den v a).r (den v b).i := rfl
theorem cl_rep (n : Nat) (j : Int) : cl (List.replicate n [0]) j = 0 := by
  unfold cl
  rw [List.getD_eq_getElem?_getD, List.getElem?_replicate]
  split <;> rfl
theorem cl_set (r : List (List Int)) (i j x : Int) : cl (r.set i.toNat [x]) j = if i.toNat = j.toNat ∧ i.toNat < r.length then x else cl r j := by
  unfold cl
  rw [List.getD_eq_getElem?_getD, List.getD_eq_getElem?_getD, List.getElem?_set]
  by_cases h : i.toNat = j.toNat
  · rw [if_pos h]
    by_cases h2 : i.toNat < r.length
    · rw [if_pos h2, if_pos ⟨h, h2⟩]; rfl
    · rw [if_neg h2, if_neg (fun hh => h2 hh.2)]
      rw [List.getElem?_eq_none (by omega)]
  · rw [if_neg h, if_neg (fun hh => h hh.1)]
theorem cl_load (r : List (List Int)) (i j : Int) : cl (r.set i.toNat [cl r i]) j = cl r j := by
  rw [cl_set]
  split
  · rename_i h; unfold cl; rw [h.1]
  · rfl
theorem cl_self {r : List (List Int)} {i x : Int} (h0 : 0 ≤ i) (h1 : i < r.length) : cl (r.set i.toNat [x]) i = x := by
  rw [cl_set, if_pos ⟨rfl, by omega⟩]
theorem cl_other {r : List (List Int)} {i j x : Int} (h0 : 0 ≤ i) (h1 : 0 ≤ j) (h : i ≠ j) : cl (r.set i.toNat [x]) j = cl r j := by
  rw [cl_set, if_neg (fun hh => h (by omega))]
theorem cl_or (r : List (List Int)) (i j x : Int) : cl (r.set i.toNat [x]) j = x ∨ cl (r.set i.toNat [x]) j = cl r j := by
  rw [cl_set]
  split
  · exact .inl rfl
  · exact .inr rfl
end Go.Proofs.Ytpgkbdkkcladcaa.Sy
/- The second engine, part 14: going round. A lemma file: it claims nothing of the program. -/
namespace Go.Proofs.Ytpgkbdkkcladcaa.Sy
open Go Go.Lib Go.Proofs.Ytpgkbdkkcladcaa.Eng Go.RowKit

theorem mod_lt {a N : Int} (h0 : 0 ≤ a) (h : a < N) : a % N = a := Int.emod_eq_of_lt h0 h
theorem mod_ge {a N : Int} (h0 : N ≤ a) (h : a < N + N) : a % N = a - N := ((Int.ediv_emod_unique (a := a) (b := N) (q := 1) (r := a - N) (by omega)).2 ⟨by omega, by omega, by omega⟩).2
theorem mod_in {a N : Int} (h : 0 < N) : 0 ≤ a % N ∧ a % N < N := ⟨Int.emod_nonneg _ (by omega), Int.emod_lt_of_pos _ h⟩
/-- Two places of one round are not the same. -/
theorem mod_inj {st i j N : Int} (h1 : 0 ≤ st) (h2 : st < N) (h3 : 0 ≤ i) (h4 : i < N) (h5 : 0 ≤ j) (h6 : j < N) (h : (st + i) % N = (st + j) % N) : i = j := by
  rcases (by omega : st + i < N ∨ N ≤ st + i) with a | a <;> rcases (by omega : st + j < N ∨ N ≤ st + j) with b | b
  · rw [mod_lt (by omega) a, mod_lt (by omega) b] at h; omega
  · rw [mod_lt (by omega) a, mod_ge b (by omega)] at h; omega
  · rw [mod_ge a (by omega), mod_lt (by omega) b] at h; omega
  · rw [mod_ge a (by omega), mod_ge b (by omega)] at h; omega
/-- Each place is met in a round. -/
theorem mod_sur {st s N : Int} (h1 : 0 ≤ st) (h2 : st < N) (h3 : 0 ≤ s) (h4 : s < N) : ∃ q, 0 ≤ q ∧ q < N ∧ (st + q) % N = s := by
  rcases (by omega : st ≤ s ∨ s < st) with a | a
  · exact ⟨s - st, by omega, by omega, by rw [mod_lt (by omega) (by omega)]; omega⟩
  · exact ⟨s - st + N, by omega, by omega, by rw [mod_ge (by omega) (by omega)]; omega⟩
theorem cl_copy {r r' : List (List Int)} {i j : Int} (h0 : 0 ≤ i) (h1 : 0 ≤ j) (h : cl r j = cl r' j) : cl (r.set i.toNat [cl r' i]) j = cl r' j := by
  rw [cl_set]
  split
  · rename_i hh; have : i = j := by omega
    rw [this]
  · exact h
theorem prod4 {T S : Int} (h1 : 1 ≤ T) (h2 : T ≤ 4) (h3 : 1 ≤ S) (h4 : S ≤ 4) : 1 ≤ T * S ∧ T * S ≤ 16 := by
  rcases (by omega : T = 1 ∨ T = 2 ∨ T = 3 ∨ T = 4) with rfl | rfl | rfl | rfl <;> omega
end Go.Proofs.Ytpgkbdkkcladcaa.Sy
/- The second engine, part 15: loops by what holds at them, with more taken for granted at each state. A lemma file: it claims nothing of the program. -/
namespace Go.Proofs.Ytpgkbdkkcladcaa.Sy
open Go Go.Lib Go.Proofs.Ytpgkbdkkcladcaa.Eng
section
variable {P : Program} {I : Tab} {G : SSums}
/-- From what holds at each loop, that the function answers true. -/
theorem floyd2 (hI : TOk P I) {v0 : Val} {Inv : Nat → Val → Prop} (hG0 : GOk P v0 G) (hG : ∀ k v, Inv k v → GOk P v G) (hm : P.follows .mixedOrders = true) {fn : Func} {c : Code} {n0 nb : Nat} {tms : Tms} {ul : Pos → Bool} {T0 : ST} {H0 : SH} {kn0 : Kn} (hn : n0 = H0.length)
    (lt : Nat × Val → Nat × Val → Prop) (hwf : WellFounded lt)
    (hk0 : KV v0 kn0)
    (hstart : TOK v0 (fun _ g => LgOK v0 Inv g) (seg0 I G fn.ntmps c fn.results.toList n0 tms ul nb T0 H0 kn0))
    (hstep : ∀ k p tm, tms[k]? = some (p, tm) → ∀ v, Inv k v → ∃ kn, KV v kn ∧ TOK v (fun _ g => LgOK v (fun q u => Inv q u ∧ lt (q, u) (k, v)) g) (segLp I G fn.ntmps c fn.results.toList n0 tms ul nb p { tm with kn := kn })) :
    AW P fn.ntmps (dH v0 H0) c (dT v0 T0) (dH v0 H0) (Eng.Ends I fn fun u _ => u = .bool true) := by
  let Q : Exit → TM → AHeap → Prop := Eng.Ends I fn fun u _ => u = .bool true
  have hn' : n0 = (dH v0 H0).length := by rw [dH_len]; exact hn
  let Goal : Nat → Val → Prop := fun k u => ∀ p tm x K, tms[k]? = some (p, tm) → loc c p = some (.loop x, K) → ∃ n, AR P fn.ntmps (dH v0 H0) x n (dT u tm.T) (dH u tm.H) (KQ P fn.ntmps (dH v0 H0) n K Q)
  -- what a leaf owes
  have leaf : ∀ (v : Val) (J : Nat → Val → Prop) (l : Lf) (kn : Kn), KV v kn → WLf c l → (∀ k u, J k u → Goal k u) →
      TOK v (fun _ g => LgOK v J g) (toLg I fn.results.toList n0 tms l kn) → ∃ B, LfOK P fn.ntmps (dH v0 H0) v B Q l := by
    intro v J l kn hk hw hJ ht
    cases l with
    | norm T H =>
      obtain ⟨k, g, ho, hg⟩ := ht.ex
      obtain ⟨vs, h1, h2⟩ := resB_ok hk ho hg
      exact ⟨0, rfl, vs, h1, h2⟩
    | ret T H =>
      obtain ⟨k, g, ho, hg⟩ := ht.ex
      obtain ⟨vs, h1, h2⟩ := resB_ok hk ho hg
      exact ⟨0, rfl, vs, h1, h2⟩
    | ext id T H => exact ht.elim
    | loop p x K T H =>
      simp only [toLg] at ht
      cases hf : findTm n0 p T H 0 tms with
      | none => rw [hf] at ht; exact ht.elim
      | some r =>
        obtain ⟨k, σ⟩ := r
        rw [hf] at ht
        obtain ⟨i, tm, π, h1, h2, h3⟩ := findTm_ok hf
        rw [Nat.zero_add] at h1
        subst h1
        obtain ⟨n, hr⟩ := hJ k _ ht p tm x K h2 hw
        exact ⟨n, hr.weak (chk_ok hn' h3)⟩
  have run : ∀ (v : Val) (hGv : GOk P v G) (J : Nat → Val → Prop) (q : Pt) (K : List Fr) (T : ST) (H : SH) (kn : Kn), KV v kn → WPt c K q → (∀ k u, J k u → Goal k u) →
      TOK v (fun _ g => LgOK v J g) (strip ((srun I G fn.ntmps ul nb q K T H kn).bind (toLg I fn.results.toList n0 tms))) → ∃ B, PtOK P fn.ntmps (dH v0 H0) (nb + B) K Q (dT v T) (dH v H) q := by
    intro v hGv J q K T H kn0 hkv hq hJ ht
    have ht := tok_out ((tok_bind _ _).1 (tok_strip ht))
    have h2 : TOK v (fun kn l => ∃ B, KV v kn → LfOK P fn.ntmps (dH v0 H0) v B Q l) (srun I G fn.ntmps ul nb q K T H kn0) := ht.mono fun kn l h => by
      by_cases hk : KV v kn
      · obtain ⟨B, hB⟩ := leaf v J l kn hk (srun_at nb q K T H kn0 kn l hq h.2) hJ h.1
        exact ⟨B, fun _ => hB⟩
      · exact ⟨0, fun hk' => absurd hk' hk⟩
    obtain ⟨B, h3⟩ := tok_max (fun m n k l hmn h hk => by
      have h := h hk
      cases l with
      | norm T H => exact h
      | ret T H => exact h
      | ext id T H => exact h
      | loop p x K T H => exact AR.mono hmn (fun _ _ _ => KQ.mono hmn K fun _ _ _ h => h) h) h2
    exact ⟨B, srun_ok hI hGv hm nb q K T H kn0 hkv h3⟩
  have loops : ∀ pv : Nat × Val, Inv pv.1 pv.2 → Goal pv.1 pv.2 := by
    intro pv
    induction pv using hwf.induction with
    | _ pv ih =>
      obtain ⟨k, v⟩ := pv
      intro hinv p tm x K htm hloc
      obtain ⟨knv, hkv, hs⟩ := hstep k p tm htm v hinv
      unfold segLp at hs
      rw [hloc] at hs
      simp only at hs
      obtain ⟨B, hB⟩ := run v (hG k v hinv) _ (.code (0 :: p) x) (.loop p x :: K) tm.T tm.H knv hkv (by show loc c (0 :: p) = _; simp only [loc, hloc]; simp) (fun q u h2 => ih (q, u) h2.2 h2.1) hs
      exact ⟨nb + B + 1, AR.mono (Nat.le_refl _) (fun _ _ _ => KQ.mono (by omega) K fun _ _ _ h => h) (AR.succ hB)⟩
  obtain ⟨B, hB⟩ := run v0 hG0 Inv (.code [] c) [] T0 H0 kn0 hk0 rfl (fun q u h2 => loops (q, u) h2) hstart
  exact hB
end
end Go.Proofs.Ytpgkbdkkcladcaa.Sy
/- The second engine, part 16: words packed into numbers, bits as sums. A lemma file: it claims nothing of the program. -/
namespace Go.Proofs.Ytpgkbdkkcladcaa.Sy
open Go Go.Lib Go.Proofs.Ytpgkbdkkcladcaa.Eng Go.RowKit

theorem wu_pow (n : Int) (h0 : 0 ≤ n) (h1 : n < 2 ^ 64) : IntKind.u64.wrap n = n := by
  rw [wu64']
  omega
theorem and_u64 (i : Nat) (hi : i ≤ 64) {x : Int} (h0 : 0 ≤ x) (h1 : x < 18446744073709551616) : Go.bits .and .u64 x (2 ^ i - 1) = x % 2 ^ i :=
  Go.bits_mask .u64 64 (by decide) wu_pow i hi x h0 (by omega)
theorem or_hi (i : Nat) {x y : Int} (hx0 : 0 ≤ x) (hx : x < 2 ^ i) (hx1 : x < 18446744073709551616) (hy0 : 0 ≤ y) (hy : y % 2 ^ i = 0) (hy1 : y < 18446744073709551616) : Go.bits .or .u64 x y = x + y := by
  have h := Go.bits_join .u64 64 (by decide) wu_pow i y x hy0 hy (by omega) hx0 hx (by omega)
  obtain ⟨a, rfl⟩ := Int.eq_ofNat_of_zero_le hx0
  obtain ⟨b, rfl⟩ := Int.eq_ofNat_of_zero_le hy0
  rw [(Go.bits_nat .u64 64 (by decide) wu_pow b a (by omega) (by omega)).2] at h
  rw [(Go.bits_nat .u64 64 (by decide) wu_pow a b (by omega) (by omega)).2, Nat.or_comm, h, Int.add_comm]
theorem or_lo (i : Nat) {x y : Int} (hx0 : 0 ≤ x) (hx : x % 2 ^ i = 0) (hx1 : x < 18446744073709551616) (hy0 : 0 ≤ y) (hy : y < 2 ^ i) (hy1 : y < 18446744073709551616) : Go.bits .or .u64 x y = x + y :=
  Go.bits_join .u64 64 (by decide) wu_pow i x y hx0 hx (by omega) hy0 hy (by omega)
theorem xor_ne {x s : Int} (h0 : 0 ≤ x) (h1 : x < 18446744073709551616) (s0 : 0 < s) (s1 : s < 18446744073709551616) :
    0 ≤ Go.bits .xor .u64 x s ∧ Go.bits .xor .u64 x s < 18446744073709551616 ∧ Go.bits .xor .u64 x s ≠ x := by
  obtain ⟨a, rfl⟩ := Int.eq_ofNat_of_zero_le h0
  obtain ⟨b, rfl⟩ := Int.eq_ofNat_of_zero_le (show 0 ≤ s by omega)
  show 0 ≤ IntKind.u64.wrap (((BitVec.ofInt 64 (a : Int) ^^^ BitVec.ofInt 64 (b : Int)).toNat : Nat) : Int) ∧ IntKind.u64.wrap (((BitVec.ofInt 64 (a : Int) ^^^ BitVec.ofInt 64 (b : Int)).toNat : Nat) : Int) < 18446744073709551616 ∧ IntKind.u64.wrap (((BitVec.ofInt 64 (a : Int) ^^^ BitVec.ofInt 64 (b : Int)).toNat : Nat) : Int) ≠ a
  rw [BitVec.ofInt_natCast, BitVec.ofInt_natCast]
  have hlt : (BitVec.ofNat 64 a ^^^ BitVec.ofNat 64 b).toNat < 18446744073709551616 := (BitVec.ofNat 64 a ^^^ BitVec.ofNat 64 b).isLt
  rw [wu64 (by omega) (by omega)]
  refine ⟨by omega, by omega, fun h => ?_⟩
  have e1 : (BitVec.ofNat 64 a ^^^ BitVec.ofNat 64 b).toNat = (BitVec.ofNat 64 a).toNat := by
    have h5 : (BitVec.ofNat 64 a).toNat = a := by simp only [BitVec.toNat_ofNat]; omega
    rw [h5]
    omega
  have e2 : BitVec.ofNat 64 a ^^^ BitVec.ofNat 64 b = BitVec.ofNat 64 a := BitVec.eq_of_toNat_eq e1
  have e3 : BitVec.ofNat 64 a ^^^ (BitVec.ofNat 64 a ^^^ BitVec.ofNat 64 b) = BitVec.ofNat 64 a ^^^ BitVec.ofNat 64 a := by rw [e2]
  rw [← BitVec.xor_assoc, BitVec.xor_self, BitVec.zero_xor] at e3
  have e4 := congrArg BitVec.toNat e3
  simp only [BitVec.toNat_ofNat] at e4
  omega
/-- A word's number. -/
def pk (s e g lo hi : Int) : Int := s + 4 * e + 8 * g + 65536 * lo + 1099511627776 * hi
def RightW (s e g lo hi : Int) : Prop := 0 ≤ s ∧ s ≤ 2 ∧ 0 ≤ e ∧ e ≤ 1 ∧ 0 ≤ g ∧ g ≤ 8191 ∧ 0 ≤ lo ∧ lo ≤ 16777215 ∧ 0 ≤ hi ∧ hi ≤ 16777215
theorem d_or64 {v : Val} {a b : E} : (den v (.o2 (.bit .or .u64) a b)).i = Go.bits .or .u64 (den v a).i (den v b).i := rfl
theorem d_shl64 {v : Val} {a : E} {n : Nat} : (den v (.o2 (.shl .u64) a (.ci (n : Int)))).i = IntKind.u64.wrap ((den v a).i * 2 ^ (min n 64)) := by
  show IntKind.u64.wrap ((den v a).i * 2 ^ (min ((n : Int)).toNat 64)) = _
  rw [Int.toNat_natCast]
theorem d_shr64 {v : Val} {a : E} {n : Nat} : (den v (.o2 (.shr .u64) a (.ci (n : Int)))).i = (den v a).i.fdiv (2 ^ (min n 64)) := by
  show (den v a).i.fdiv (2 ^ (min ((n : Int)).toNat 64)) = _
  rw [Int.toNat_natCast]
/-- The bits of a word put together are its number. -/
theorem pack_sum {s e g lo hi : Int} (h : RightW s e g lo hi) :
    Go.bits .or .u64 (Go.bits .or .u64 (Go.bits .or .u64 (Go.bits .or .u64 s (IntKind.u64.wrap (e * 4))) (IntKind.u64.wrap (g * 8))) (IntKind.u64.wrap (lo * 65536))) (IntKind.u64.wrap (hi * 1099511627776)) = pk s e g lo hi := by
  obtain ⟨h0, h1, h2, h3, h4, h5, h6, h7, h8, h9⟩ := h
  rw [wu64 (x := e * 4) (by omega) (by omega), wu64 (x := g * 8) (by omega) (by omega), wu64 (x := lo * 65536) (by omega) (by omega), wu64 (x := hi * 1099511627776) (by omega) (by omega)]
  rw [or_hi 2 (x := s) (y := e * 4) (by omega) (by omega) (by omega) (by omega) (by omega) (by omega)]
  rw [or_hi 3 (x := s + e * 4) (y := g * 8) (by omega) (by omega) (by omega) (by omega) (by omega) (by omega)]
  rw [or_hi 16 (x := s + e * 4 + g * 8) (y := lo * 65536) (by omega) (by omega) (by omega) (by omega) (by omega) (by omega)]
  rw [or_hi 40 (x := s + e * 4 + g * 8 + lo * 65536) (y := hi * 1099511627776) (by omega) (by omega) (by omega) (by omega) (by omega) (by omega)]
  unfold pk
  omega
theorem pk_in {s e g lo hi : Int} (h : RightW s e g lo hi) : 0 ≤ pk s e g lo hi ∧ pk s e g lo hi < 18446744073709551616 := by
  obtain ⟨h0, h1, h2, h3, h4, h5, h6, h7, h8, h9⟩ := h
  unfold pk; omega
/-- A word's parts out of its number. -/
theorem pk_parts {s e g lo hi : Int} (h : RightW s e g lo hi) :
    pk s e g lo hi % 4 = s ∧ pk s e g lo hi / 4 % 2 = e ∧ pk s e g lo hi / 8 % 8192 = g ∧ pk s e g lo hi / 65536 % 16777216 = lo ∧ pk s e g lo hi / 1099511627776 % 16777216 = hi := by
  obtain ⟨h0, h1, h2, h3, h4, h5, h6, h7, h8, h9⟩ := h
  unfold pk
  refine ⟨by omega, by omega, by omega, by omega, by omega⟩
theorem d_shl2 {v : Val} {a : E} : (den v (.o2 (.shl .u64) a (.ci 2))).i = IntKind.u64.wrap ((den v a).i * 4) := rfl
theorem d_shr2 {v : Val} {a : E} : (den v (.o2 (.shr .u64) a (.ci 2))).i = (den v a).i.fdiv 4 := rfl
theorem d_shl3 {v : Val} {a : E} : (den v (.o2 (.shl .u64) a (.ci 3))).i = IntKind.u64.wrap ((den v a).i * 8) := rfl
theorem d_shr3 {v : Val} {a : E} : (den v (.o2 (.shr .u64) a (.ci 3))).i = (den v a).i.fdiv 8 := rfl
theorem d_shl16 {v : Val} {a : E} : (den v (.o2 (.shl .u64) a (.ci 16))).i = IntKind.u64.wrap ((den v a).i * 65536) := rfl
theorem d_shr16 {v : Val} {a : E} : (den v (.o2 (.shr .u64) a (.ci 16))).i = (den v a).i.fdiv 65536 := rfl
theorem d_shl40 {v : Val} {a : E} : (den v (.o2 (.shl .u64) a (.ci 40))).i = IntKind.u64.wrap ((den v a).i * 1099511627776) := rfl
theorem d_shr40 {v : Val} {a : E} : (den v (.o2 (.shr .u64) a (.ci 40))).i = (den v a).i.fdiv 1099511627776 := rfl
section
variable {s e g lo hi : Int}
theorem up_e (h : RightW s e g lo hi) : Go.bits .and .u64 ((pk s e g lo hi).fdiv 4) 1 = e := by
  have h1 := pk_in h
  rw [Int.fdiv_eq_ediv_of_nonneg _ (by omega), show (1 : Int) = 2 ^ 1 - 1 from rfl, and_u64 1 (by decide) (by omega) (by omega)]
  exact (pk_parts h).2.1
theorem up_g (h : RightW s e g lo hi) : Go.bits .and .u64 ((pk s e g lo hi).fdiv 8) 8191 = g := by
  have h1 := pk_in h
  rw [Int.fdiv_eq_ediv_of_nonneg _ (by omega), show (8191 : Int) = 2 ^ 13 - 1 from rfl, and_u64 13 (by decide) (by omega) (by omega)]
  exact (pk_parts h).2.2.1
theorem up_lo (h : RightW s e g lo hi) : Go.bits .and .u64 ((pk s e g lo hi).fdiv 65536) 16777215 = lo := by
  have h1 := pk_in h
  rw [Int.fdiv_eq_ediv_of_nonneg _ (by omega), show (16777215 : Int) = 2 ^ 24 - 1 from rfl, and_u64 24 (by decide) (by omega) (by omega)]
  exact (pk_parts h).2.2.2.1
theorem up_hi (h : RightW s e g lo hi) : Go.bits .and .u64 ((pk s e g lo hi).fdiv 1099511627776) 16777215 = hi := by
  have h1 := pk_in h
  rw [Int.fdiv_eq_ediv_of_nonneg _ (by omega), show (16777215 : Int) = 2 ^ 24 - 1 from rfl, and_u64 24 (by decide) (by omega) (by omega)]
  exact (pk_parts h).2.2.2.2
end
end Go.Proofs.Ytpgkbdkkcladcaa.Sy
/- The second engine, part 17: terms with letters replaced, blocks under other names: what a contract needs. A lemma file: it claims nothing of the program. -/
namespace Go.Proofs.Ytpgkbdkkcladcaa.Sy
open Go Go.Lib Go.Proofs.Ytpgkbdkkcladcaa.Eng

/-! ### what a term is -/
def isI : E → Bool
  | .vi _ => true
  | .ci _ => true
  | .o1 o _ => match o with
    | .w _ => true
    | .nn => true
    | .bn => true
    | .len => true
    | .slen => true
    | .neg => true
    | .enc => true
    | _ => false
  | .o2 o _ _ => isI2 o || (match o with
    | .sat => true
    | .rune => true
    | .rlen => true
    | _ => false)
  | .o3 o _ _ _ => match o with
    | .at => true
    | .api _ => true
    | _ => false
  | _ => false
def isB : E → Bool
  | .vb _ => true
  | .cb _ => true
  | .o1 o _ => match o with
    | .not => true
    | .nb => true
    | _ => false
  | .o2 o _ _ => isB2 o || (match o with
    | .eqb => true
    | .eqs => true
    | .and => true
    | .or => true
    | _ => false)
  | .o3 o _ _ _ => match o with
    | .apb _ => true
    | _ => false
  | _ => false
def isR : E → Bool
  | .vr _ => true
  | .nr => true
  | .o1 o _ => match o with
    | .one => true
    | _ => false
  | .o2 o _ _ => match o with
    | .app => true
    | .cat => true
    | .take => true
    | .drop => true
    | .rep => true
    | _ => false
  | .o3 o _ _ _ => match o with
    | .set => true
    | .apr _ => true
    | .aps _ => true
    | _ => false
  | _ => false
def isS : E → Bool
  | .vs _ => true
  | .cs _ => true
  | .o1 o _ => match o with
    | .dec => true
    | _ => false
  | .o2 o _ _ => match o with
    | .scat => true
    | _ => false
  | .o3 o _ _ _ => match o with
    | .sub => true
    | .apt _ => true
    | _ => false
  | _ => false
section
variable {v : Val}
theorem isI_ok {e : E} (h : isI e = true) : den v e = mkI (den v e).i := by
  cases e with
  | o1 o a => cases o <;> first | rfl | (simp [isI] at h)
  | o2 o a b => cases o <;> first | rfl | (simp [isI, isI2] at h)
  | o3 o a b c => cases o <;> first | rfl | (simp [isI] at h)
  | _ => first | rfl | (simp [isI] at h)
theorem isB_ok {e : E} (h : isB e = true) : den v e = mkB (den v e).b := by
  cases e with
  | o1 o a => cases o <;> first | rfl | (simp [isB] at h)
  | o2 o a b => cases o <;> first | rfl | (simp [isB, isB2] at h)
  | o3 o a b c => cases o <;> first | rfl | (simp [isB] at h)
  | _ => first | rfl | (simp [isB] at h)
theorem isR_ok {e : E} (h : isR e = true) : den v e = mkR (den v e).r := by
  cases e with
  | o1 o a => cases o <;> first | rfl | (simp [isR] at h)
  | o2 o a b => cases o <;> first | rfl | (simp [isR] at h)
  | o3 o a b c => cases o <;> first | rfl | (simp [isR] at h)
  | _ => first | rfl | (simp [isR] at h)
theorem isS_ok {e : E} (h : isS e = true) : den v e = mkS (den v e).s := by
  cases e with
  | o1 o a => cases o <;> first | rfl | (simp [isS] at h)
  | o2 o a b => cases o <;> first | rfl | (simp [isS] at h)
  | o3 o a b c => cases o <;> first | rfl | (simp [isS] at h)
  | _ => first | rfl | (simp [isS] at h)
end
/-! ### as that kind alone -/
def asI (e : E) : E := if isI e = true then e else .o2 .add e (.ci 0)
def asB (e : E) : E := if isB e = true then e else .o1 .not (.o1 .not e)
def asR (e : E) : E := if isR e = true then e else .o2 .cat e .nr
def asS (e : E) : E := if isS e = true then e else .o1 .dec (.o1 .enc e)
section
variable {v : Val}
theorem asI_ok (e : E) : den v (asI e) = mkI (den v e).i := by
  unfold asI; split
  · rename_i h; exact isI_ok h
  · simp [den, den2, mkI]
theorem asB_ok (e : E) : den v (asB e) = mkB (den v e).b := by
  unfold asB; split
  · rename_i h; exact isB_ok h
  · simp [den, den1, mkB]
theorem asR_ok (e : E) : den v (asR e) = mkR (den v e).r := by
  unfold asR; split
  · rename_i h; exact isR_ok h
  · simp [den, den2, mkR]
theorem asS_ok (e : E) : den v (asS e) = mkS (den v e).s := by
  unfold asS; split
  · rename_i h; exact isS_ok h
  · simp [den, den1, mkS, mkI, decS_enc]
end
/-! ### letters replaced -/
/-- An operation, made plain where that is the same. -/
def pl2 (o : O2) (a b : E) : E := if isI2 o = true then asI (mk2 o a b) else if isB2 o = true then asB (mk2 o a b) else .o2 o a b
def pl1 (o : O1) (a : E) : E := match o with
  | .w k => asI (mkW k a)
  | .len => asI (mkLen a)
  | .nn => asI (mkN a)
  | .nb => asB (mkNb a)
  | .bn => asI (mkBn a)
  | .enc => asI (mkEnc a)
  | .dec => asS (mkDec a)
  | .not => asB (mkNot a)
  | o => .o1 o a
def pl3 (o : O3) (a b c : E) : E := match o, c with
  | .at, .ci (.ofNat n) => asI (mkAt a b n)
  | o, c => .o3 o a b c
def sb (σ : Sb) : E → E
  | .vi n => asI (nth (.ci 0) σ.i n)
  | .vb n => asB (nth (.cb false) σ.b n)
  | .vr n => asR (nth .nr σ.r n)
  | .vs n => asS (nth (.cs []) σ.s n)
  | .o1 o a => pl1 o (sb σ a)
  | .o2 o a b => pl2 o (sb σ a) (sb σ b)
  | .o3 o a b c => pl3 o (sb σ a) (sb σ b) (sb σ c)
  | e => e
section
variable {v : Val} {σ : Sb}
theorem pl2_ok (o : O2) (a b : E) : den v (pl2 o a b) = den v (.o2 o a b) := by
  unfold pl2
  split
  · rename_i h
    rw [asI_ok, mk2_i _ _ _ h, ← isI_ok (by simp only [isI, h, Bool.true_or])]
  · split
    · rename_i h
      rw [asB_ok, mk2_b _ _ _ h, ← isB_ok (by simp only [isB, h, Bool.true_or])]
    · rfl
theorem pl1_ok (o : O1) (a : E) : den v (pl1 o a) = den v (.o1 o a) := by
  unfold pl1
  split
  · rw [asI_ok, mkW_ok]; rfl
  · rw [asI_ok, mkLen_ok]; rfl
  · rw [asI_ok, mkN_ok]; rfl
  · rw [asB_ok, mkNb_ok]; rfl
  · rw [asI_ok, mkBn_ok]; rfl
  · rw [asI_ok, mkEnc_ok]; rfl
  · rw [asS_ok, mkDec_ok]; rfl
  · rw [asB_ok, mkNot_ok]; rfl
  · rfl
theorem pl3_ok (o : O3) (a b c : E) : den v (pl3 o a b c) = den v (.o3 o a b c) := by
  unfold pl3
  split
  · rw [asI_ok, mkAt_ok]; simp [den, den3, mkI]
  · rfl
theorem sb_ok : ∀ (e : E), den v (sb σ e) = den (σ.val v) e
  | .vi n => by
    rw [sb, asI_ok]
    show _ = mkI (nth 0 (σ.i.map fun e => (den v e).i) n)
    exact congrArg mkI (nth_map (fun e => (den v e).i) (.ci 0) σ.i n).symm
  | .vb n => by
    rw [sb, asB_ok]
    show _ = mkB (nth false (σ.b.map fun e => (den v e).b) n)
    exact congrArg mkB (nth_map (fun e => (den v e).b) (.cb false) σ.b n).symm
  | .vr n => by
    rw [sb, asR_ok]
    show _ = mkR (nth [] (σ.r.map fun e => (den v e).r) n)
    exact congrArg mkR (nth_map (fun e => (den v e).r) .nr σ.r n).symm
  | .vs n => by
    rw [sb, asS_ok]
    show _ = mkS (nth ⟨#[]⟩ (σ.s.map fun e => (den v e).s) n)
    exact congrArg mkS (nth_map (fun e => (den v e).s) (.cs []) σ.s n).symm
  | .ci _ => rfl
  | .cb _ => rfl
  | .cs _ => rfl
  | .nl => rfl
  | .nr => rfl
  | .o1 o a => by rw [sb, pl1_ok]; simp only [den, sb_ok a]
  | .o2 o a b => by rw [sb, pl2_ok]; simp only [den, sb_ok a, sb_ok b]
  | .o3 o a b c => by rw [sb, pl3_ok]; simp only [den, sb_ok a, sb_ok b, sb_ok c]; rfl
end
def Sb.comp (τ σ : Sb) : Sb := { i := τ.i.map (sb σ), b := τ.b.map (sb σ), r := τ.r.map (sb σ), s := τ.s.map (sb σ) }
theorem comp_ok (v : Val) (τ σ : Sb) : (τ.comp σ).val v = τ.val (σ.val v) := by
  simp only [Sb.comp, Sb.val, List.map_map, Val.mk.injEq]
  refine ⟨?_, ?_, ?_, ?_, trivial⟩ <;> (apply List.map_congr_left; intro e _; simp only [Function.comp, sb_ok]; rfl)
/-! ### values, blocks: letters replaced, other names -/
def sbO (σ : Sb) : Option E → Option E
  | none => none
  | some e => some (sb σ e)
def sbL (σ : Sb) (ρ : Nat → Nat) : SL → SL
  | .bool b => .bool (sb σ b)
  | .int k e => .int k (sb σ e)
  | .str e => .str (sb σ e)
  | .nilp => .nilp
  | .nils => .nils
  | .nili => .nili
  | .nilf => .nilf
  | .ptr id k s => .ptr (ρ id) k (sbO σ s)
  | .slc id e n => .slc (ρ id) (sb σ e) (sb σ n)
  | .ifc t x => .ifc t (sbL σ ρ x)
  | .fn f => .fn f
  | .ite c x y => .ite (sb σ c) (sbL σ ρ x) (sbL σ ρ y)
def sbLs (σ : Sb) (ρ : Nat → Nat) (l : List SL) : List SL := l.map (sbL σ ρ)
def sbW (σ : Sb) (ρ : Nat → Nat) : SW → SW
  | .one l => .one (sbL σ ρ l)
  | .agg ls => .agg (sbLs σ ρ ls)
def sbV (σ : Sb) (ρ : Nat → Nat) : SV → SV
  | .one l => .one (sbL σ ρ l)
  | .agg ls => .agg (sbLs σ ρ ls)
  | .tup ls => .tup (ls.map (sbW σ ρ))
def sbR (σ : Sb) (ρ : Nat → Nat) : SR → SR
  | .sym r ks => .sym (sb σ r) ks
  | .lits els => .lits (els.map (sbLs σ ρ))
def sbB (σ : Sb) (ρ : Nat → Nat) : SB → SB
  | .cells vs => .cells (sbLs σ ρ vs)
  | .ro vs => .ro (sbLs σ ρ vs)
  | .row s z r => .row s z (sbR σ ρ r)
  | .old s z r => .old s z (sbR σ ρ r)
  | .iter s p => .iter (sb σ s) (sb σ p)
  | .dead => .dead
section
variable {v : Val} {σ : Sb} {ρ : Nat → Nat} {m1 m2 : Mp}
/-- What is named so, is so under the other names. -/
def Rho (ρ : Nat → Nat) (m1 m2 : Mp) : Prop := ∀ j i, m1 j = some i → m2 (ρ j) = some i
theorem sbO_ok (s : Option E) : spot v (sbO σ s) = spot (σ.val v) s := by
  cases s <;> simp only [sbO, spot, sb_ok]
theorem sbL_ok (hρ : Rho ρ m1 m2) : ∀ {x : SL} {u : Value}, VRel m1 (dl (σ.val v) x) u → VRel m2 (dl v (sbL σ ρ x)) u := by
  intro x
  induction x with
  | bool b => intro u h; rw [dl_bool] at h; cases h; rw [sbL, dl_bool, sb_ok]; exact .bool _
  | int k b => intro u h; rw [dl_int] at h; cases h; rw [sbL, dl_int, sb_ok]; exact .int _ _
  | str b => intro u h; rw [dl_str] at h; cases h; rw [sbL, dl_str, sb_ok]; exact .str _
  | nilp => intro u h; cases h; exact .nilp
  | nils => intro u h; cases h; exact .nils
  | nili => intro u h; cases h; exact .nili
  | nilf => intro u h; cases h; exact .nilf
  | ptr id k s =>
    intro u h
    rw [dl_ptr] at h
    rw [sbL, dl_ptr, sbO_ok]
    cases h with
    | ptr q qv => exact .ptr (hρ _ _ q) qv
  | slc id e n =>
    intro u h
    rw [dl_slc] at h
    rw [sbL, dl_slc, sb_ok, sb_ok]
    generalize (den (σ.val v) e).i.toNat = x at h ⊢
    generalize (den (σ.val v) n).i.toNat = y at h ⊢
    cases h with
    | slc q qv ql qc => exact .slc (hρ _ _ q) qv ql qc
    | vslc q qv => exact .vslc (hρ _ _ q) qv
    | eslc q qv => exact .eslc (hρ _ _ q) qv
  | ifc t x ih =>
    intro u h
    rw [dl_ifc] at h
    rw [sbL, dl_ifc]
    cases h with
    | iface q => exact .iface (ih q)
  | fn f =>
    intro u h
    cases h with
    | func hs h hs2 h2 => exact .func hs (fun j x y hx => by simp at hx) hs2 (fun j x y hx => by simp at hx)
  | ite c x y ihx ihy =>
    intro u h
    rw [dl_ite] at h
    rw [sbL, dl_ite, sb_ok]
    split at h
    · rename_i hc; rw [if_pos hc]; exact ihx h
    · rename_i hc; rw [if_neg hc]; exact ihy h
theorem sbLs_ok (hρ : Rho ρ m1 m2) : ∀ {xs : List SL} {us : List Value}, LRel m1 (dls (σ.val v) xs) us → LRel m2 (dls v (sbLs σ ρ xs)) us
  | [], us, h => by obtain rfl := h.nil_inv; exact .nil _
  | x :: xs, us, h => by
    obtain ⟨u, us', rfl, h1, h2⟩ := LRel.cons_inv (show LRel m1 (dl (σ.val v) x :: dls (σ.val v) xs) us from h)
    exact .cons (sbL_ok hρ h1) (sbLs_ok hρ h2)
theorem sbW_ok (hρ : Rho ρ m1 m2) {x : SW} {u : Value} (h : VRel m1 (dw (σ.val v) x) u) : VRel m2 (dw v (sbW σ ρ x)) u := by
  cases x with
  | one l => exact sbL_ok hρ h
  | agg ls =>
    obtain ⟨us, rfl, h2⟩ := agg_inv h
    exact .ofL (sbLs_ok hρ h2)
theorem sbV_ok (hρ : Rho ρ m1 m2) {x : SV} {u : Value} (h : VRel m1 (dv (σ.val v) x) u) : VRel m2 (dv v (sbV σ ρ x)) u := by
  cases x with
  | one l => exact sbL_ok hρ h
  | agg ls =>
    obtain ⟨us, rfl, h2⟩ := agg_inv h
    exact .ofL (sbLs_ok hρ h2)
  | tup ls =>
    obtain ⟨us, rfl, h2⟩ := tup_inv h
    refine tup_mk ?_
    rw [List.map_map]
    clear h
    induction ls generalizing us with
    | nil => obtain rfl := LRel.nil_inv h2; exact .nil _
    | cons y ys ih =>
      obtain ⟨u, us', rfl, g1, g2⟩ := LRel.cons_inv h2
      exact .cons (sbW_ok hρ g1) (ih us' g2)
theorem sbR_ok (hρ : Rho ρ m1 m2) {r : SR} : (dr v (sbR σ ρ r)).length = (dr (σ.val v) r).length ∧
    ∀ (e : Nat) (c : List Value), (dr v (sbR σ ρ r))[e]? = some c → ∃ c0, (dr (σ.val v) r)[e]? = some c0 ∧ c.length = c0.length ∧ (∀ x ∈ c, x.oneCell' = true) ∧ ∀ {us : List Value}, LRel m1 c0 us → LRel m2 c us := by
  cases r with
  | sym r ks =>
    simp only [sbR, dr, sb_ok]
    refine ⟨trivial, fun e c hc => ⟨c, hc, rfl, fun x hx => ?_, fun {us} hu => ⟨hu.1, fun j a b ha hb => ?_⟩⟩⟩
    · rw [List.getElem?_map] at hc
      cases hq : (den (σ.val v) r).r[e]? with
      | none => rw [hq] at hc; cases hc
      | some q => rw [hq] at hc; cases hc; have := toVs_scal _ _ x hx; cases x <;> simp [scal] at this <;> rfl
    · rw [List.getElem?_map] at hc
      cases hq : (den (σ.val v) r).r[e]? with
      | none => rw [hq] at hc; cases hc
      | some q => rw [hq] at hc; cases hc; exact scal_re (toVs_scal _ _ a (List.mem_of_getElem? ha)) (hu.2 j a b ha hb)
  | lits els =>
    simp only [sbR, dr, List.length_map, List.map_map]
    refine ⟨trivial, fun e c hc => ?_⟩
    rw [List.getElem?_map] at hc
    cases hq : els[e]? with
    | none => rw [hq] at hc; cases hc
    | some q =>
      rw [hq] at hc
      cases hc
      refine ⟨dls (σ.val v) q, by rw [List.getElem?_map, hq]; rfl, ?_, fun x hx => ?_, fun {us} hu => sbLs_ok hρ hu⟩
      · simp only [Function.comp, dls_len, sbLs, List.length_map]
      · exact List.all_eq_true.1 (dls_ones _ _) x hx
theorem sbB_own (b : SB) : (db v (sbB σ ρ b)).own = (db (σ.val v) b).own := by cases b <;> rfl
theorem sbB_live (b : SB) : (db v (sbB σ ρ b)).live = (db (σ.val v) b).live := by cases b <;> rfl
theorem sbB_ok (hρ : Rho ρ m1 m2) {b : SB} {w : World} {i : MI} (h : BRel m1 w i (db (σ.val v) b)) : BRel m2 w i (db v (sbB σ ρ b)) := by
  cases b with
  | cells vs =>
    obtain ⟨k1, k2, k3, cs, T, k5, k6⟩ := h
    exact ⟨k1, k2, k3, cs, T, k5, sbLs_ok hρ k6⟩
  | ro vs =>
    obtain ⟨k1, k2, k3, cs, T, k5, k6⟩ := h
    exact ⟨k1, k2, k3, cs, T, k5, sbLs_ok hρ k6⟩
  | row s z r =>
    obtain ⟨h1, h2⟩ := sbR_ok (v := v) (σ := σ) hρ (r := r)
    obtain ⟨k1, k2, k3, k4⟩ := h
    refine ⟨k1, k2, fun c hc => ?_, k4.imp ?_ ?_⟩
    · obtain ⟨e, he, rfl⟩ := List.getElem_of_mem hc
      obtain ⟨c0, g1, g2, g3, _⟩ := h2 e _ (List.getElem?_eq_getElem he)
      exact ⟨by rw [g2]; exact (k3 c0 (List.mem_of_getElem? g1)).1, g3⟩
    · rintro ⟨g1, g2, g3⟩
      exact ⟨g1, List.length_eq_zero_iff.1 (by rw [h1, g2]; rfl), g3⟩
    · rintro ⟨k5, cs, T, k7, k8, k9, k10⟩
      refine ⟨k5, cs, T, k7, k8, by rw [h1]; exact k9, fun e c he => ?_⟩
      obtain ⟨c0, g1, g2, _, g4⟩ := h2 e c he
      exact g4 (k10 e c0 g1)
  | old s z r =>
    obtain ⟨h1, h2⟩ := sbR_ok (v := v) (σ := σ) hρ (r := r)
    obtain ⟨k1, k3, k4⟩ := h
    refine ⟨k1, fun c hc => ?_, k4.imp ?_ ?_⟩
    · obtain ⟨e, he, rfl⟩ := List.getElem_of_mem hc
      obtain ⟨c0, g1, g2, g3, _⟩ := h2 e _ (List.getElem?_eq_getElem he)
      exact ⟨by rw [g2]; exact (k3 c0 (List.mem_of_getElem? g1)).1, g3⟩
    · rintro ⟨g1, g2, g3⟩
      exact ⟨g1, List.length_eq_zero_iff.1 (by rw [h1, g2]; rfl), g3⟩
    · rintro ⟨k5, k6, k7⟩
      refine ⟨k5, k6, fun e c k x he hx => ?_⟩
      obtain ⟨c0, g1, g2, _, g4⟩ := h2 e c he
      have hk : k < c0.length := by rw [← g2]; exact (List.getElem?_eq_some_iff.1 hx).1
      have hall : ∃ us : List Value, LRel m1 c0 us ∧ ∀ (j : Nat) (u : Value), us[j]? = some u → w.cell? ((⟨i.blk, i.off + e * z + 0, none⟩ : Addr).add j) = some u :=
        mem_vals fun j y hy => by
          obtain ⟨b, hb, hr⟩ := k7 e c0 j y g1 hy
          exact ⟨b, by rw [add_none]; simpa using hb, hr⟩
      obtain ⟨us, hu1, hu2⟩ := hall
      have hu3 := g4 hu1
      obtain ⟨u, hu, hr⟩ := hu3.get hx
      have := hu2 k u hu
      rw [add_none] at this
      exact ⟨u, by simpa using this, hr⟩
  | iter s p =>
    simp only [sbB, db, sb_ok]
    exact h
  | dead => trivial
end
end Go.Proofs.Ytpgkbdkkcladcaa.Sy
/- The second engine, part 18: contracts of functions, and their use at calls. A lemma file: it claims nothing of the program. -/
namespace Go.Proofs.Ytpgkbdkkcladcaa.Sy
open Go Go.Lib Go.Proofs.Ytpgkbdkkcladcaa.Eng

/-! ### other names, put to use -/
def own' (π : Nm) (pH : SH) (id : Nat) : Option Nat := (π.old.find? fun p => Nat.beq p.2 id && (sOwn (pH[p.1]?) && decide (π.at p.1 = some id))).map (·.1)
def rhoF (π : Nm) (L : Nat) (j : Nat) : Nat := match π.at j with
  | some id => id
  | none => L + j
def placeOld (τ : Sb) (ρ : Nat → Nat) (π : Nm) (pH rH : SH) : Nat → SH → SH
  | _, [] => []
  | k, b :: H => (match own' π pH k with
    | some j => (match rH[j]? with
      | some b' => sbB τ ρ b'
      | none => .dead)
    | none => b) :: placeOld τ ρ π pH rH (k + 1) H
def placeNew (τ : Sb) (ρ : Nat → Nat) (π : Nm) : Nat → SH → SH
  | _, [] => []
  | j, b :: r => (match π.at j with
    | some _ => .dead
    | none => sbB τ ρ b) :: placeNew τ ρ π (j + 1) r
def place (τ : Sb) (π : Nm) (pH rH Hr : SH) : SH := placeOld τ (rhoF π Hr.length) π pH rH 0 Hr ++ placeNew τ (rhoF π Hr.length) π 0 rH
section
variable {τ : Sb} {ρ : Nat → Nat} {π : Nm} {pH rH Hr : SH}
theorem placeOld_len : ∀ (k : Nat) (H : SH), (placeOld τ ρ π pH rH k H).length = H.length
  | _, [] => rfl
  | k, b :: H => by simp [placeOld, placeOld_len (k + 1) H]
theorem placeOld_get : ∀ (k : Nat) (H : SH) (i : Nat), (placeOld τ ρ π pH rH k H)[i]? = (H[i]?).map fun b => match own' π pH (k + i) with
    | some j => (match rH[j]? with
      | some b' => sbB τ ρ b'
      | none => .dead)
    | none => b
  | _, [], i => by simp [placeOld]
  | k, b :: H, 0 => by simp [placeOld]
  | k, b :: H, i + 1 => by
    simp only [placeOld, List.getElem?_cons_succ, placeOld_get (k + 1) H i, show k + 1 + i = k + (i + 1) by omega]
theorem placeNew_get : ∀ (k : Nat) (r : SH) (i : Nat), (placeNew τ ρ π k r)[i]? = (r[i]?).map fun b => match π.at (k + i) with
    | some _ => .dead
    | none => sbB τ ρ b
  | _, [], i => by simp [placeNew]
  | k, b :: H, 0 => by simp [placeNew]
  | k, b :: H, i + 1 => by
    simp only [placeNew, List.getElem?_cons_succ, placeNew_get (k + 1) H i, show k + 1 + i = k + (i + 1) by omega]
theorem own'_some {id j : Nat} (h : own' π pH id = some j) : π.at j = some id ∧ sOwn (pH[j]?) = true := by
  unfold own' at h
  cases hf : π.old.find? (fun p => Nat.beq p.2 id && (sOwn (pH[p.1]?) && decide (π.at p.1 = some id))) with
  | none => rw [hf] at h; cases h
  | some p =>
    rw [hf] at h
    cases h
    have := List.find?_some hf
    simp only [Bool.and_eq_true, decide_eq_true_eq] at this
    exact ⟨this.2.2, this.2.1⟩
theorem lookup_mem {α : Type} {j : Nat} {x : α} : ∀ {l : List (Nat × α)}, l.lookup j = some x → (j, x) ∈ l
  | [], h => by cases h
  | (a, b) :: l, h => by
    simp only [List.lookup_cons] at h
    cases hc : j == a with
    | true => rw [hc] at h; cases h; have : j = a := by simpa using hc
              subst this; exact List.mem_cons_self ..
    | false => rw [hc] at h; exact List.mem_cons_of_mem _ (lookup_mem h)
theorem own'_none {id j : Nat} (h : own' π pH id = none) (hj : π.at j = some id) : sOwn (pH[j]?) = false := by
  unfold own' at h
  rw [Option.map_eq_none_iff, List.find?_eq_none] at h
  have := h (j, id) (lookup_mem hj)
  cases ho : sOwn (pH[j]?) with
  | false => rfl
  | true =>
    exfalso
    apply this
    simp only [Bool.and_eq_true, decide_eq_true_eq]
    exact ⟨Nat.beq_refl id, ho, hj⟩
theorem sOwn1 (u : Val) (b : SB) : sOwn (some b) = (db u b).own := by cases b <;> rfl
/-- A run under the pattern's names, under one's own. -/
theorem relabel {m m1 : Mp} {w w' : World} {v : Val} {σ : Sb} (hM : Match m (dH v Hr) w) (hlt : ∀ j k, π.at j = some k → j < pH.length)
    (hown : ∀ j id b, π.at j = some id → pH[j]? = some b → (db (σ.val v) b).own = true → ∃ b', Hr[id]? = some b' ∧ (db v b').own = true)
    (hvn : ∀ j, π.void.contains j = true → π.at j = none)
    (h1 : Run (mapN π (dH (σ.val v) pH) m) (dH (σ.val v) pH) w (dH (τ.val v) rH) m1 w') :
    ∃ m2, Rho (rhoF π Hr.length) m1 m2 ∧ Run m (dH v Hr) w (dH v (place τ π pH rH Hr)) m2 w' := by
  let L := Hr.length
  let ρ := rhoF π L
  let m2 : Mp := fun id => if id < L then m id else if π.at (id - L) = none then m1 (id - L) else none
  have hmL : ∀ id i, m id = some i → id < L := fun id i hi => by have := hM.lt hi; rwa [dH_len] at this
  have m2old : ∀ id, id < L → m2 id = m id := fun id h => by simp only [m2, if_pos h]
  have m2new : ∀ j, π.at j = none → m2 (L + j) = m1 j := fun j h => by simp only [m2, if_neg (show ¬ L + j < L by omega), Nat.add_sub_cancel_left, if_pos h]
  have hpl := h1.len
  rw [dH_len, dH_len] at hpl
  -- what the names of the pattern stand for
  have m1pat : ∀ j id i, π.at j = some id → m1 j = some i → m id = some i := fun j id i hj hi => by
    rw [h1.dom j (by rw [dH_len]; exact hlt j id hj), mapN_at hj] at hi
    exact hi
  have m1void : ∀ j i, j < pH.length → π.at j = none → m1 j = some i → i.void = true := fun j i hj hn hi => by
    rw [h1.dom j (by rw [dH_len]; exact hj)] at hi
    unfold mapN at hi
    rw [hn] at hi
    simp only at hi
    split at hi
    · cases hi; rfl
    · cases hi
  have hρ : Rho ρ m1 m2 := fun j i hi => by
    show m2 (rhoF π L j) = some i
    unfold rhoF
    cases hj : π.at j with
    | some id =>
      have := m1pat j id i hj hi
      simp only
      rw [m2old id (hmL id i this)]; exact this
    | none => simp only; rw [m2new j hj]; exact hi
  have patOwned : ∀ k, Owned (mapN π (dH (σ.val v) pH) m) (dH (σ.val v) pH) k → ∃ j id i b b', π.at j = some id ∧ m id = some i ∧ pH[j]? = some b ∧ (db (σ.val v) b).own = true ∧ Hr[id]? = some b' ∧ (db v b').own = true ∧ i.void = false ∧ i.blk = k := by
    rintro k ⟨j, i, b, g1, g2, g3, g4, g5⟩
    rw [dH_get] at g2
    cases hb : pH[j]? with
    | none => rw [hb] at g2; cases g2
    | some b0 =>
      rw [hb] at g2
      cases g2
      unfold mapN at g1
      cases hj : π.at j with
      | none =>
        rw [hj] at g1
        simp only at g1
        split at g1
        · cases g1; cases g4
        · cases g1
      | some id =>
        rw [hj] at g1
        obtain ⟨b', e1, e2⟩ := hown j id b0 hj hb g3
        exact ⟨j, id, i, b0, b', hj, g1, hb, g3, e1, e2, g4, g5⟩
  have outOwned : ∀ k, Owned (mapN π (dH (σ.val v) pH) m) (dH (σ.val v) pH) k → Owned m (dH v Hr) k := fun k h => by
    obtain ⟨j, id, i, b, b', _, e2, _, _, e5, e6, e7, e8⟩ := patOwned k h
    exact ⟨id, i, db v b', e2, dH_get' e5, e6, e7, e8⟩
  -- blocks of one's own that the call does not have
  have kept : ∀ id i b, m id = some i → Hr[id]? = some b → own' π pH id = none → (db v b).live = true → i.void = false → i.blk < w.heap.size ∧ ¬ Owned (mapN π (dH (σ.val v) pH) m) (dH (σ.val v) pH) i.blk := by
    intro id i b hi hb hn hl hv
    obtain ⟨b1, hb1, hB⟩ := hM.has id i hi
    rw [dH_get' hb] at hb1
    cases hb1
    refine ⟨hB.live_lt hl hv, fun ho => ?_⟩
    obtain ⟨j, id', i', pb, b', e1, e2, e3, e4, e5, e6, e7, e8⟩ := patOwned _ ho
    have := hM.inj id' id i' i _ _ e2 hi (dH_get' e5) (dH_get' hb) e6 hl e7 hv e8
    subst this
    have := own'_none hn e1
    rw [e3, sOwn1 (σ.val v)] at this
    rw [this] at e4; cases e4
  have hH2 : ∀ id, (place τ π pH rH Hr)[id]? = if id < L then (Hr[id]?).map (fun b => match own' π pH id with
      | some j => (match rH[j]? with
        | some b' => sbB τ ρ b'
        | none => .dead)
      | none => b) else (rH[id - L]?).map fun b => match π.at (id - L) with
        | some _ => .dead
        | none => sbB τ ρ b := by
    intro id
    unfold place
    split
    · rename_i h
      rw [List.getElem?_append_left (by rw [placeOld_len]; exact h), placeOld_get, Nat.zero_add]
    · rename_i h
      rw [List.getElem?_append_right (by rw [placeOld_len]; omega), placeOld_len, placeNew_get, Nat.zero_add]
  -- a live block behind the call: kept, or one of the call's
  have src : ∀ id i b, m2 id = some i → (dH v (place τ π pH rH Hr))[id]? = some b → b.live = true → i.void = false →
      (id < L ∧ m id = some i ∧ own' π pH id = none ∧ ∃ c, Hr[id]? = some c ∧ b = db v c) ∨
      (∃ j c, ρ j = id ∧ m1 j = some i ∧ rH[j]? = some c ∧ b = db v (sbB τ ρ c) ∧ (id < L → own' π pH id = some j ∧ π.at j = some id) ∧ (L ≤ id → pH.length ≤ j)) := by
    intro id i b hi hb hl hv
    rw [dH_get, hH2] at hb
    by_cases h : id < L
    · rw [if_pos h] at hb
      rw [m2old id h] at hi
      cases hr : Hr[id]? with
      | none => rw [hr] at hb; cases hb
      | some c =>
        rw [hr] at hb
        simp only [Option.map_some, Option.some.injEq] at hb
        cases ho : own' π pH id with
        | none => rw [ho] at hb; exact .inl ⟨h, hi, rfl, c, rfl, hb.symm⟩
        | some j =>
          rw [ho] at hb
          simp only at hb
          have hat := (own'_some ho).1
          cases hrj : rH[j]? with
          | none => rw [hrj] at hb; subst hb; cases hl
          | some c' =>
            rw [hrj] at hb
            refine .inr ⟨j, c', ?_, ?_, hrj, hb.symm, fun _ => ⟨rfl, hat⟩, fun g => absurd h (by omega)⟩
            · show rhoF π L j = id; unfold rhoF; rw [hat]
            · rw [h1.dom j (by rw [dH_len]; exact hlt j id hat), mapN_at hat]; exact hi
    · rw [if_neg h] at hb
      cases hr : rH[id - L]? with
      | none => rw [hr] at hb; cases hb
      | some c =>
        rw [hr] at hb
        simp only [Option.map_some, Option.some.injEq] at hb
        cases hat : π.at (id - L) with
        | some q => rw [hat] at hb; subst hb; cases hl
        | none =>
          rw [hat] at hb
          have hi' : m1 (id - L) = some i := by
            have := m2new (id - L) hat
            rw [show L + (id - L) = id by omega] at this
            rw [← this]; exact hi
          refine .inr ⟨id - L, c, ?_, hi', hr, hb.symm, fun g => absurd g h, fun _ => ?_⟩
          · show rhoF π L (id - L) = id; unfold rhoF; rw [hat]; simp only; omega
          · rcases Nat.lt_or_ge (id - L) pH.length with g | g
            · have := m1void _ _ g hat hi'
              rw [hv] at this; cases this
            · exact g
  -- where a block of the call's lies
  have lies : ∀ j i c, m1 j = some i → rH[j]? = some c → (db (τ.val v) c).live = true → i.void = false → ∀ id, (id < L → own' π pH id = some j ∧ π.at j = some id) → (L ≤ id → pH.length ≤ j) →
      w.heap.size ≤ i.blk ∨ Owned (mapN π (dH (σ.val v) pH) m) (dH (σ.val v) pH) i.blk := by
    intro j i c hj hc hl hv id g1 g2
    rcases Nat.lt_or_ge id L with h | h
    · obtain ⟨e1, e2⟩ := g1 h
      have hs := (own'_some e1).2
      cases hp : pH[j]? with
      | none => rw [hp] at hs; cases hs
      | some pb =>
        rw [hp, sOwn1 (σ.val v)] at hs
        exact .inr ⟨j, i, db (σ.val v) pb, by rw [← h1.dom j (by rw [dH_len]; exact hlt j id e2)]; exact hj, dH_get' hp, hs, hv, rfl⟩
    · exact h1.new j i _ (by rw [dH_len]; exact g2 h) hj (dH_get' hc) hl hv
  refine ⟨m2, hρ, ⟨⟨fun id i hi => ?_, fun id id' i i' b b' a1 a2 a3 a4 a5 a6 a7 a8 a9 => ?_, h1.mt.base, fun id i b hi hb ho hv => (by
      rcases src id i b hi hb (ABlk.own_live ho) hv with ⟨c1, c2, c3, c, c4, c5⟩ | ⟨j, c, c1, c2, c3, c4, c5, c6⟩
      · subst c5; exact hM.ownb id i _ c2 (dH_get' c4) ho hv
      · subst c4; rw [sbB_own] at ho; exact h1.mt.ownb j i _ c2 (dH_get' c3) ho hv)⟩, fun id i hi => ?_, fun id hid => ?_, ?_, fun id b hid hb hl => ?_, fun id i b hid hi hb hl hv => ?_, h1.os, h1.tape, h1.output, h1.size, fun k hk hn => h1.keep k hk fun ho => hn (outOwned k ho)⟩⟩
  · by_cases h : id < L
    · rw [m2old id h] at hi
      obtain ⟨b, hb, hB⟩ := hM.has id i hi
      rw [dH_get] at hb
      cases hr : Hr[id]? with
      | none => rw [hr] at hb; cases hb
      | some c =>
        rw [hr] at hb
        cases hb
        cases ho : own' π pH id with
        | none =>
          refine ⟨db v c, by rw [dH_get, hH2, if_pos h, hr]; simp only [Option.map_some, ho], ?_⟩
          have hB2 : BRel m2 w i (db v c) := hB.mono fun q iq hq => by rw [m2old q (hmL q iq hq)]; exact hq
          cases hl : (db v c).live with
          | false => cases hd : db v c <;> rw [hd] at hl <;> first | trivial | cases hl
          | true => exact hB2.frame fun hv hlt' => h1.keep _ hlt' (kept id i c hi hr ho hl hv).2
        | some j =>
          have hat := (own'_some ho).1
          have hj : m1 j = some i := by rw [h1.dom j (by rw [dH_len]; exact hlt j id hat), mapN_at hat]; exact hi
          obtain ⟨b1, hb1, hB1⟩ := h1.mt.has j i hj
          rw [dH_get] at hb1
          cases hrj : rH[j]? with
          | none => rw [hrj] at hb1; cases hb1
          | some c' =>
            rw [hrj] at hb1
            cases hb1
            exact ⟨db v (sbB τ ρ c'), by rw [dH_get, hH2, if_pos h, hr]; simp only [Option.map_some, ho, hrj], sbB_ok hρ hB1⟩
    · have hi' : π.at (id - L) = none ∧ m1 (id - L) = some i := by
        simp only [m2, if_neg h] at hi
        split at hi
        · rename_i g; exact ⟨g, hi⟩
        · cases hi
      obtain ⟨b1, hb1, hB1⟩ := h1.mt.has _ i hi'.2
      rw [dH_get] at hb1
      cases hrj : rH[id - L]? with
      | none => rw [hrj] at hb1; cases hb1
      | some c' =>
        rw [hrj] at hb1
        cases hb1
        exact ⟨db v (sbB τ ρ c'), by rw [dH_get, hH2, if_neg h, hrj]; simp only [Option.map_some, hi'.1], sbB_ok hρ hB1⟩
  · have no : ∀ (id i c) (j' i' c' id'), m id = some i → own' π pH id = none → Hr[id]? = some c → (db v c).live = true → i.void = false → m1 j' = some i' → rH[j']? = some c' → (db (τ.val v) c').live = true → i'.void = false → (id' < L → own' π pH id' = some j' ∧ π.at j' = some id') → (L ≤ id' → pH.length ≤ j') → i.blk = i'.blk → False := by
      intro id i c j' i' c' id' g1 g2 g3 g4 g5 g6 g7 g8 g9 g10 g11 e
      obtain ⟨k1, k2⟩ := kept id i c g1 g3 g2 g4 g5
      rcases lies j' i' c' g6 g7 g8 g9 id' g10 g11 with h | h
      · omega
      · rw [← e] at h; exact k2 h
    rcases src id i b a1 a3 (ABlk.own_live a5) a7 with ⟨c1, c2, c3, c, c4, c5⟩ | ⟨j, c, c1, c2, c3, c4, c5, c6⟩ <;>
      rcases src id' i' b' a2 a4 a6 a8 with ⟨d1, d2, d3, d, d4, d5⟩ | ⟨j', d, d1, d2, d3, d4, d5, d6⟩
    · subst c5 d5
      exact hM.inj id id' i i' _ _ c2 d2 (dH_get' c4) (dH_get' d4) a5 a6 a7 a8 a9
    · subst c5 d4
      rw [sbB_live] at a6
      exact (no id i c j' i' d id' c2 c3 c4 (ABlk.own_live a5) a7 d2 d3 a6 a8 d5 d6 a9).elim
    · subst c4 d5
      have a5' := ABlk.own_live a5
      rw [sbB_live] at a5'
      exact (no id' i' d j i c id d2 d3 d4 a6 a8 c2 c3 a5' a7 c5 c6 a9.symm).elim
    · subst c4 d4
      rw [sbB_own] at a5
      rw [sbB_live] at a6
      have := h1.mt.inj j j' i i' _ _ c2 d2 (dH_get' c3) (dH_get' d3) a5 a6 a7 a8 a9
      subst this
      rw [← c1, ← d1]
  · rw [m2old id (hmL id i hi)]; exact hi
  · rw [dH_len] at hid; exact m2old id hid
  · rw [dH_len, dH_len, place, List.length_append, placeOld_len]; omega
  · rw [dH_len] at hid
    rw [dH_get, hH2, if_pos hid] at hb
    cases hr : Hr[id]? with
    | none => rw [hr] at hb; cases hb
    | some c =>
      rw [hr] at hb
      simp only [Option.map_some, Option.some.injEq] at hb
      cases ho : own' π pH id with
      | none => rw [ho] at hb; subst hb; exact ⟨_, dH_get' hr, hl, fun h => h⟩
      | some j =>
        obtain ⟨hat, hs⟩ := own'_some ho
        cases hp : pH[j]? with
        | none => rw [hp] at hs; cases hs
        | some pb =>
          rw [hp, sOwn1 (σ.val v)] at hs
          obtain ⟨b', e1, e2⟩ := hown j id pb hat hp hs
          rw [hr] at e1
          cases e1
          exact ⟨_, dH_get' hr, ABlk.own_live e2, fun _ => e2⟩
  · rw [dH_len] at hid
    rcases src id i b hi hb hl hv with ⟨c1, _⟩ | ⟨j, c, c1, c2, c3, c4, c5, c6⟩
    · omega
    · subst c4
      rw [sbB_live] at hl
      rcases h1.new j i _ (by rw [dH_len]; exact c6 hid) c2 (dH_get' c3) hl hv with h | h
      · exact .inl h
      · exact .inr (outOwned _ h)
end
end Go.Proofs.Ytpgkbdkkcladcaa.Sy
/- The second engine, part 19: contracts of functions: what they say, how they are used at calls, how they are proved. A lemma file: it claims nothing of the program. -/
namespace Go.Proofs.Ytpgkbdkkcladcaa.Sy
open Go Go.Lib Go.Proofs.Ytpgkbdkkcladcaa.Eng

/-- A function's contract: what it is handed (letters), what is taken for granted, what it may give, and which of it, by the letters. -/
structure FC where
  f : FuncId
  args : List SV
  H : SH
  ni : Nat
  nb : Nat
  nr : Nat
  ns : Nat
  kn : Kn
  rets : List (SV × SH)
  out : Tree (Nat × Sb × Kn)
def FC.tm (c : FC) : Tmpl := { T := sargs0 0 c.args, H := c.H, ni := c.ni, nb := c.nb, nr := c.nr, ns := c.ns }
def FC.tm0 (c : FC) : Tmpl := { T := [], H := c.H, ni := c.ni, nb := c.nb, nr := c.nr, ns := c.ns }
/-- Which way it is. -/
def Sel (v : Val) {α : Type} : Tree α → α → Prop
  | .leaf _ a, b => a = b
  | .br c t e, b => ((den v c).b = true ∧ Sel v t b) ∨ ((den v c).b = false ∧ Sel v e b)
  | .both _ _, _ => False
  | .bad _, _ => False
theorem Sel.uniq {v : Val} {α : Type} : ∀ {t : Tree α} {a b : α}, Sel v t a → Sel v t b → a = b
  | .leaf _ _, _, _, h, k => h.symm.trans k
  | .br c t e, a, b, h, k => by
    rcases h with ⟨h1, h2⟩ | ⟨h1, h2⟩ <;> rcases k with ⟨k1, k2⟩ | ⟨k1, k2⟩
    · exact Sel.uniq h2 k2
    · rw [h1] at k1; cases k1
    · rw [h1] at k1; cases k1
    · exact Sel.uniq h2 k2
  | .both _ _, _, _, h, _ => h.elim
  | .bad _, _, _, h, _ => h.elim
theorem Sel.t {v : Val} {α : Type} {c : E} {t e : Tree α} {a : α} (h : (den v c).b = true) (k : Sel v t a) : Sel v (.br c t e) a := .inl ⟨h, k⟩
theorem Sel.e {v : Val} {α : Type} {c : E} {t e : Tree α} {a : α} (h : (den v c).b = false) (k : Sel v e a) : Sel v (.br c t e) a := .inr ⟨h, k⟩
structure FC.Ok (P : Program) (u : Val) (c : FC) : Prop where
  fn : ∃ fn, P.funcs[c.f]? = some fn ∧ fn.name ≠ "runtime.NumGoroutine" ∧ fn.body.isSome = true
  post : KV u c.kn → ∀ k σ po, Sel u c.out (k, σ, po) → KV u po
  run : KV u c.kn → ∀ m w args', Match m (dH u c.H) w → LRel m (c.args.map (dv u)) args' → Calls P c.f args'.toArray w fun e w' =>
    ∃ k σ po rx rH x' m', Sel u c.out (k, σ, po) ∧ c.rets[k]? = some (rx, rH) ∧ e = .returned x' ∧ Run m (dH u c.H) w (dH (σ.val u) rH) m' w' ∧ VRel m' (dv (σ.val u) rx) x'

/-! ### use -/
def cmpSVs (π : Nm) (σ : Sb) : List SV → List SV → Bool
  | [], [] => true
  | a :: az, b :: bs => cmpSV π σ a b && cmpSVs π σ az bs
  | _, _ => false
def needs (σ : Sb) : Kn → SM Unit
  | [] => .pure ()
  | (c, b) :: l => SM.bind (ask (sb σ c)) fun q => match q == b with
    | true => needs σ l
    | false => .fail 341
def know (σ : Sb) (po : Kn) : SM Unit := fun kn => .leaf (po.map (fun p => (sb σ p.1, p.2)) ++ kn) ()
def useT (σ : Sb) : Tree (Nat × Sb × Kn) → SM (Nat × Sb)
  | .leaf _ r => SM.bind (know σ r.2.2) fun _ => .pure (r.1, r.2.1.comp σ)
  | .br c t e => SM.bind (ask (sb σ c)) fun b => match b with
    | true => useT σ t
    | false => useT σ e
  | .both _ _ => .fail 342
  | .bad n => .fail n
def forceV : SV → SM SV
  | .one l => SM.bind (forceL l) fun l => .pure (.one l)
  | .agg ls => SM.bind (forceLs ls) fun ls => .pure (.agg ls)
  | x => .pure x
def wIds (c : FC) (π : Nm) : List Nat := (π.old.filter fun p => sOwn (c.H[p.1]?)).map (·.2)
def sfc (c : FC) (args : List SV) (H : SH) : SRes := fun kn =>
  let M := amatch 0 c.tm (sargs0 0 args) H
  let W := wIds c M.2
  let Hr := srestr (M.2.old.map (·.2)) W 0 H
  if (chk 0 M.2 M.1 c.tm0 [] Hr && cmpSVs M.2 M.1 c.args args) = true then
    (SM.bind (needs M.1 c.kn) fun _ => SM.bind (useT M.1 c.out) fun r => match c.rets[r.1]? with
      | some q => SM.bind (forceV (sbV r.2 (rhoF M.2 Hr.length) q.1)) fun x => .pure (x, sjoin W 0 H (place r.2 M.2 c.H q.2 Hr), W.filter fun id => sOwn (H[id]?))
      | none => .fail 343) kn
  else .bad 344
section
variable {v : Val} {σ : Sb} {π : Nm} {m : Mp} {H' : AHeap}
theorem cmpSVs_ok (hvn : ∀ j, π.void.contains j = true → π.at j = none) : ∀ {az bs : List SV}, cmpSVs π σ az bs = true → ∀ {us : List Value}, LRel m (bs.map (dv v)) us → LRel (mapN π H' m) (az.map (dv (σ.val v))) us
  | [], [], _, us, hu => by obtain rfl := hu.nil_inv; exact .nil _
  | a :: az, b :: bs, h, us, hu => by
    simp only [cmpSVs, Bool.and_eq_true] at h
    obtain ⟨u, us', rfl, k1, k2⟩ := LRel.cons_inv (show LRel m (dv v b :: bs.map (dv v)) us from hu)
    exact .cons (cmpSV_ok hvn h.1 k1) (cmpSVs_ok hvn h.2 k2)
  | [], _ :: _, h, _, _ => by cases h
  | _ :: _, [], h, _, _ => by cases h
theorem Sat.needs : ∀ {l : Kn}, Sat v (Sy.needs σ l) fun _ => KV (σ.val v) l
  | [] => .pure fun p hp => by cases hp
  | (c, b) :: l => Sat.askB fun q hq => by
    split
    · rename_i hb
      refine Sat.needs.mono fun _ hk => ?_
      refine KV.cons ?_ hk
      rw [← sb_ok, hq]; exact eq_of_beq hb
    · exact .fail
theorem Sat.know {po : Kn} (h : KV (σ.val v) po) : Sat v (Sy.know σ po) fun _ => True := fun kn kn' a hk ho => by
  obtain ⟨rfl, rfl⟩ := ho
  refine ⟨fun p hp => ?_, trivial⟩
  rcases List.mem_append.1 hp with hp | hp
  · obtain ⟨q, hq, rfl⟩ := List.mem_map.1 hp
    simp only [sb_ok]; exact h q hq
  · exact hk p hp
theorem Sat.useT : ∀ {t : Tree (Nat × Sb × Kn)}, (∀ k τ po, Sel (σ.val v) t (k, τ, po) → KV (σ.val v) po) → Sat v (Sy.useT σ t) fun r => ∃ k τ po, Sel (σ.val v) t (k, τ, po) ∧ r = (k, τ.comp σ)
  | .leaf kn (k, τ, po), h => Sat.bind (Sat.know (h k τ po rfl)) fun _ _ => .pure ⟨k, τ, po, rfl, rfl⟩
  | .br c t e, h => Sat.askB fun b hb => by
    rw [sb_ok] at hb
    cases b with
    | true => exact (Sat.useT (t := t) fun k τ po hs => h k τ po (.t hb hs)).mono fun r ⟨k, τ, po, h1, h2⟩ => ⟨k, τ, po, .t hb h1, h2⟩
    | false => exact (Sat.useT (t := e) fun k τ po hs => h k τ po (.e hb hs)).mono fun r ⟨k, τ, po, h1, h2⟩ => ⟨k, τ, po, .e hb h1, h2⟩
  | .both _ _, _ => .fail
  | .bad _, _ => .fail
theorem Sat.forceV {x : SV} : Sat v (Sy.forceV x) fun x' => dv v x' = dv v x := by
  cases x with
  | one l => exact Sat.bind .forceL fun l' h => .pure h
  | agg ls => exact Sat.bind .forceLs fun l' h => .pure (by simp only [dv_agg, h])
  | tup ls => exact .pure rfl
/-- What a pattern that was met tells. -/
theorem chk_facts {n0 : Nat} {tm : Tmpl} {T : ST} {H : SH} (h : chk n0 π σ tm T H = true) : (∀ i j k, π.at i = some k → π.at j = some k → i = j) ∧ (∀ j k, π.at j = some k → j < tm.H.length) ∧ (∀ j, π.void.contains j = true → j < tm.H.length ∧ π.at j = none) ∧ (∀ (j : Nat) (b : SB), tm.H[j]? = some b → chkB n0 π σ H j b = true) := by
  simp only [chk, Bool.and_eq_true, decide_eq_true_eq, List.all_eq_true] at h
  obtain ⟨⟨⟨⟨⟨hlen, hnd⟩, hold⟩, hvoid⟩, hT⟩, hH⟩ := h
  exact ⟨fun i j k hi hj => nodup_inj hnd hi hj, fun j k hj => hold _ (lookup_mem hj), fun j hj => hvoid j (by simpa using hj), fun j b hb => by have := chkH_ok hH j b hb; simpa using this⟩
theorem Run.of_match {H : AHeap} {w : World} (h : Match m H w) : Run (fun _ => none) [] { w with heap := #[] } H m w where
  mt := h
  ext := fun id i hi => by cases hi
  dom := fun id hid => absurd hid (by simp)
  len := by simp
  old := fun id b hid => absurd hid (by simp)
  new := fun id i b _ hi hb hl hv => .inl (by simp)
  os := rfl
  tape := rfl
  output := rfl
  size := by simp
  keep := fun k hk => absurd hk (by simp)
theorem chk_match {tm : Tmpl} {T : ST} {H : SH} {w : World} (h : chk 0 π σ tm T H = true) (hM : Match m (dH v H) w) : Match (mapN π (dH (σ.val v) tm.H) m) (dH (σ.val v) tm.H) w := by
  obtain ⟨hinj, hlt, hvoid, hB⟩ := chk_facts h
  have hvn : ∀ j, π.void.contains j = true → π.at j = none := fun j hj => (hvoid j hj).2
  have hH' : ∀ (j : Nat) (b' : ABlk), (dH (σ.val v) tm.H)[j]? = some b' → ∃ b : SB, tm.H[j]? = some b ∧ b' = db (σ.val v) b := by
    intro j b' hb
    rw [dH_get] at hb
    cases hq : tm.H[j]? with
    | none => rw [hq] at hb; cases hb
    | some b => rw [hq] at hb; cases hb; exact ⟨b, rfl, rfl⟩
  refine (Run.norm (Run.of_match hM) (fun id i hi => by cases hi) (by simp) (fun j hj => absurd hj (by simp)) hinj (fun j k hj => by rw [dH_len]; exact hlt j k hj) (fun j hj => by rw [dH_len]; exact (hvoid j hj).1) ?_ ?_).mt
  · intro j b' id hb hid'
    obtain ⟨b, hb2, rfl⟩ := hH' j b' hb
    obtain ⟨_, c, hc, hcmp⟩ := chkB_some (hB j b hb2) hid'
    rcases cmpSB_ok (v := v) (m := m) (H' := dH (σ.val v) tm.H) hvn hcmp with g | ⟨g1, g2, g3⟩
    · exact .inl g
    · exact .inr ⟨db v c, dH_get' (H := H) hc, g1, g2, g3⟩
  · intro j b' hb hn' hc
    obtain ⟨b, hb2, rfl⟩ := hH' j b' hb
    exact chkB_void (v := v) (hB j b hb2) hn' hc
end
theorem tok_sat' {v : Val} {α β : Type} {m : SM α} {f : α → SM β} {φ : α → Prop} {ψ : Kn → β → Prop} {kn : Kn} (h : TOK v ψ ((SM.bind m f) kn)) (hs : Sat v m φ) (hk : KV v kn) : ∃ kn' a, KV v kn' ∧ φ a ∧ Out v (m kn) kn' a ∧ TOK v ψ (f a kn') := by
  have h := (tok_bind f (m kn)).1 h
  obtain ⟨kn', a, h1, h2⟩ := h.ex
  obtain ⟨h3, h4⟩ := hs _ _ _ hk h1
  exact ⟨kn', a, h3, h4, h1, h2⟩
/-- A contract that holds serves at calls. -/
theorem sfc_ok {P : Program} {v : Val} {c : FC} (hc : ∀ σ : Sb, FC.Ok P (σ.val v) c) : GOk P v fun g args H => if g = c.f then sfc c args H else .fail 330 := by
  refine ⟨fun g args H kn hk ht => ?_⟩
  by_cases hg : g = c.f
  · subst hg
    simp only [if_true] at ht ⊢
    refine ⟨(hc {}).fn, fun m0 H0 w0 m w args' hR hL => ?_⟩
    unfold sfc at ht ⊢
    dsimp only at ht ⊢
    generalize amatch 0 c.tm (sargs0 0 args) H = M at ht ⊢
    obtain ⟨σ, π⟩ := M
    dsimp only at ht ⊢
    split at ht
    · rename_i hchk
      rw [if_pos hchk]
      rw [Bool.and_eq_true] at hchk
      obtain ⟨h1, h2⟩ := hchk
      obtain ⟨hinj, hlt, hvoid, hB⟩ := chk_facts h1
      have hvn : ∀ j, π.void.contains j = true → π.at j = none := fun j hj => (hvoid j hj).2
      have ho := hc σ
      have hM := Match.restr2 hR.mt (π.old.map (·.2)) (wIds c π)
      rw [← srestr_ok] at hM
      have hMp := chk_match (v := v) h1 hM
      obtain ⟨k1, _, hk1, hkn, o1, ht⟩ := tok_sat' ht .needs hk
      obtain ⟨k2, r, hk2, ⟨kr, τ, po, hsel, rfl⟩, o2, ht⟩ := tok_sat' ht (.useT (ho.post hkn)) hk1
      dsimp only at ht
      have hLp : LRel (mapN π (dH (σ.val v) c.H) m) (c.args.map (dv (σ.val v))) args' := cmpSVs_ok hvn h2 hL
      refine (ho.run hkn _ w args' hMp hLp).mono ?_
      rintro e w' ⟨kr', τ', po', rx, rH, x', m1, hsel', hrets, rfl, hRun, hV⟩
      cases hsel.uniq hsel'
      rw [hrets] at ht
      obtain ⟨k3, x, hk3, hx, o3, ht⟩ := tok_sat' ht .forceV hk2
      rw [← comp_ok] at hRun hV
      obtain ⟨m2, hρ, hR2⟩ := relabel (pH := c.H) (rH := rH) (π := π) (σ := σ) hM hlt (fun j id b hj hb ho' => by
        obtain ⟨_, b', g1, g2⟩ := chkB_some (hB j b hb) hj
        refine ⟨b', g1, ?_⟩
        rcases cmpSB_ok (v := v) (m := m) (H' := dH (σ.val v) c.H) hvn g2 with g | g
        · rw [g] at ho'; cases ho'
        · exact g.1 ho') hvn hRun
      rw [srestr_ok] at hR2
      obtain ⟨j1, j2⟩ := Run.join2 hR hR2
      rw [← sjoin_ok] at j1
      have e : ((wIds c π).filter fun id => ownB ((dH v H)[id]?)) = (wIds c π).filter fun id => sOwn (H[id]?) := (filter_own v _ _).symm
      rw [e] at j2
      refine ⟨k3, x, _, _, m2, x', bind_out o1 (bind_out o2 ?_), hk3, rfl, j1, hR2.ext, ?_, j2⟩
      · dsimp only
        rw [hrets]
        exact bind_out o3 ⟨rfl, rfl⟩
      · rw [hx]; exact sbV_ok hρ hV
    · exact ht.elim
  · simp only [if_neg hg] at ht; exact ht.elim
end Go.Proofs.Ytpgkbdkkcladcaa.Sy
/- The second engine, part 20: how a function's contract is proved: pieces from loop to loop and to its ends, what holds at loops. A lemma file: it claims nothing of the program. -/
namespace Go.Proofs.Ytpgkbdkkcladcaa.Sy
open Go Go.Lib Go.Proofs.Ytpgkbdkkcladcaa.Eng

/-- What a function may give. -/
structure RP where
  x : SV
  H : SH
  ni : Nat
  nb : Nat
  nr : Nat
  ns : Nat
def RP.tm (r : RP) : Tmpl := { T := [(0, r.x)], H := r.H, ni := r.ni, nb := r.nb, nr := r.nr, ns := r.ns }
inductive LgF where
  | loop (k : Nat) (σ : Sb) | ret (k : Nat) (σ : Sb)
def rpTms (rps : List RP) : Tms := rps.map fun r => ([], r.tm)
def retF (I : Tab) (T : ST) (H : SH) (rs : List ResultVar) (n0 : Nat) (rps : List RP) : SM LgF := SM.bind (sares I T H rs) fun xs => SM.bind (opt 410 (sresult xs)) fun x => match findTm n0 [] [(0, x)] H 0 (rpTms rps) with
  | some (k, σ) => .pure (.ret k σ)
  | none => .fail 403
def toLgF (I : Tab) (rs : List ResultVar) (n0 : Nat) (tms : Tms) (rps : List RP) (l : Lf) : SM LgF := match l with
  | .norm T H => retF I T H rs n0 rps
  | .ret T H => retF I T H rs n0 rps
  | .ext _ _ _ => .fail 401
  | .loop p _ _ T H => match findTm n0 p T H 0 tms with
    | some (k, σ) => .pure (.loop k σ)
    | none => .fail 402
def LgFOK (v : Val) (J R : Nat → Val → Prop) : LgF → Prop
  | .loop k σ => J k (σ.val v)
  | .ret k σ => R k (σ.val v)
def seg0F (I : Tab) (G : SSums) (N : Nat) (c : Code) (rs : List ResultVar) (n0 : Nat) (tms : Tms) (rps : List RP) (ul : Pos → Bool) (nb : Nat) (T : ST) (H : SH) (kn : Kn) : Tree LgF :=
  strip ((srun I G N ul nb (.code [] c) [] T H kn).bind (toLgF I rs n0 tms rps))
def segLpF (I : Tab) (G : SSums) (N : Nat) (c : Code) (rs : List ResultVar) (n0 : Nat) (tms : Tms) (rps : List RP) (ul : Pos → Bool) (nb : Nat) (p : Pos) (tm : Tmpl) : Tree LgF := match loc c p with
  | some (.loop x, K) => strip ((srun I G N ul nb (.code (0 :: p) x) (.loop p x :: K) tm.T tm.H tm.kn).bind (toLgF I rs n0 tms rps))
  | _ => .bad 404
/-- What holds at a function's end. -/
def RetQ (I : Tab) (fn : Func) (H0 : AHeap) (rps : List RP) (R : Nat → Val → Prop) : Exit → TM → AHeap → Prop := fun e T H => retE e = true ∧ ∃ vs, ares I T H fn.results.toList = some vs ∧ ∃ k r u, rps[k]? = some r ∧ R k u ∧
  ∀ m0 w0 m w, Match m0 H0 w0 → Run m0 H0 w0 H m w → ∃ m', Run m0 H0 w0 (dH u r.H) m' w ∧ ∀ y, VRel m (aresult vs) y → VRel m' (dv u r.x) y
theorem chk_run {H0 : AHeap} {n0 : Nat} {π : Nm} {σ : Sb} {tm : Tmpl} {T : ST} {H : SH} {v : Val} {m0 m : Mp} {w0 w : World} (hn : n0 = H0.length) (h : chk n0 π σ tm T H = true) (hM : Match m0 H0 w0) (h1 : Run m0 H0 w0 (dH v H) m w) :
    ∃ m', Run m0 H0 w0 (dH (σ.val v) tm.H) m' w ∧ ∀ t x, tm.T.lookup t = some x → ∃ z, T.lookup t = some z ∧ ∀ y, VRel m (dv v z) y → VRel m' (dv (σ.val v) x) y := by
  obtain ⟨hinj, hlt, hvoid, hB⟩ := chk_facts h
  have hvn : ∀ j, π.void.contains j = true → π.at j = none := fun j hj => (hvoid j hj).2
  simp only [chk, Bool.and_eq_true, decide_eq_true_eq] at h
  obtain ⟨⟨⟨⟨⟨hlen, _⟩, _⟩, _⟩, hT⟩, _⟩ := h
  have hH' : ∀ (j : Nat) (b' : ABlk), (dH (σ.val v) tm.H)[j]? = some b' → ∃ b : SB, tm.H[j]? = some b ∧ b' = db (σ.val v) b := by
    intro j b' hb
    rw [dH_get] at hb
    cases hq : tm.H[j]? with
    | none => rw [hq] at hb; cases hb
    | some b => rw [hq] at hb; cases hb; exact ⟨b, rfl, rfl⟩
  have hid : ∀ j, j < H0.length → π.at j = some j := by
    intro j hj
    have hl : j < tm.H.length := by omega
    have := hB j _ (List.getElem?_eq_getElem hl)
    cases hp : π.at j with
    | none => have := chkB_none (v := v) this hp; omega
    | some id => rcases (chkB_some this hp).1 with g | g
                 · omega
                 · rw [g]
  refine ⟨mapN π (dH (σ.val v) tm.H) m, Run.norm h1 (fun id i hi => hM.lt hi) (by rw [dH_len]; omega) hid hinj (fun j k hj => by rw [dH_len]; exact hlt j k hj) (fun j hj => by rw [dH_len]; exact (hvoid j hj).1) ?_ ?_, ?_⟩
  · intro j b' id hb hid'
    obtain ⟨b, hb2, rfl⟩ := hH' j b' hb
    obtain ⟨_, c, hc, hcmp⟩ := chkB_some (hB j b hb2) hid'
    rcases cmpSB_ok (v := v) (m := m) (H' := dH (σ.val v) tm.H) hvn hcmp with g | ⟨g1, g2, g3⟩
    · exact .inl g
    · exact .inr ⟨db v c, dH_get' (H := H) hc, g1, g2, g3⟩
  · intro j b' hb hn' hc
    obtain ⟨b, hb2, rfl⟩ := hH' j b' hb
    exact chkB_void (v := v) (hB j b hb2) hn' hc
  · intro t x hx
    obtain ⟨z, hz, hcmp⟩ := chkT_ok hT t x hx
    exact ⟨z, hz, fun y hy => cmpSV_ok hvn hcmp hy⟩
section
variable {P : Program} {I : Tab} {G : SSums}
theorem retF_ok {v : Val} {T : ST} {H : SH} {H0 : AHeap} {n0 : Nat} {fn : Func} {rps : List RP} {kn kn' : Kn} {g : LgF} {J R : Nat → Val → Prop} (hn : n0 = H0.length) (hk : KV v kn) (ho : Out v (retF I T H fn.results.toList n0 rps kn) kn' g) (hg : LgFOK v J R g) {e : Exit} (he : retE e = true) : RetQ I fn H0 rps R e (dT v T) (dH v H) := by
  obtain ⟨k1, xs, h1, h2⟩ := out_bind _ _ ho
  obtain ⟨hk1, hx⟩ := sares_ok _ _ _ hk h1
  obtain ⟨k2, x, h3, h4⟩ := out_bind _ _ h2
  have hxs : sresult xs = some x := by
    cases hs : sresult xs with
    | none => rw [hs] at h3; exact h3.elim
    | some y => rw [hs] at h3; obtain ⟨_, rfl⟩ := h3; rfl
  refine ⟨he, _, hx, ?_⟩
  cases hf : findTm n0 [] [(0, x)] H 0 (rpTms rps) with
  | none => rw [hf] at h4; exact h4.elim
  | some q =>
    obtain ⟨k, σ⟩ := q
    rw [hf] at h4
    obtain ⟨_, rfl⟩ := h4
    obtain ⟨i, tm, π, e1, e2, e3⟩ := findTm_ok hf
    rw [Nat.zero_add] at e1
    subst e1
    unfold rpTms at e2
    rw [List.getElem?_map] at e2
    cases hr : rps[k]? with
    | none => rw [hr] at e2; cases e2
    | some r =>
      rw [hr] at e2
      simp only [Option.map_some, Option.some.injEq, Prod.mk.injEq, true_and] at e2
      subst e2
      refine ⟨k, r, σ.val v, hr, hg, fun m0 w0 m w hM h => ?_⟩
      obtain ⟨m', r1, r2⟩ := chk_run hn e3 hM h
      obtain ⟨z, hz, r3⟩ := r2 0 r.x rfl
      refine ⟨m', r1, fun y hy => r3 y ?_⟩
      have : z = x := by simpa using hz.symm
      rw [this]
      rw [sresult_ok hxs] at hy
      exact hy
/-- From what holds at each loop, what holds at the ends. -/
theorem floydF (hI : TOk P I) {v0 : Val} {Inv R : Nat → Val → Prop} (hG0 : GOk P v0 G) (hG : ∀ k v, Inv k v → GOk P v G) (hm : P.follows .mixedOrders = true) {fn : Func} {c : Code} {n0 nb : Nat} {tms : Tms} {rps : List RP} {ul : Pos → Bool} {T0 : ST} {H0 : SH} {kn0 : Kn} (hn : n0 = H0.length)
    (lt : Nat × Val → Nat × Val → Prop) (hwf : WellFounded lt)
    (hkn : ∀ k p tm, tms[k]? = some (p, tm) → ∀ v, Inv k v → KV v tm.kn)
    (hk0 : KV v0 kn0)
    (hstart : TOK v0 (fun _ g => LgFOK v0 Inv R g) (seg0F I G fn.ntmps c fn.results.toList n0 tms rps ul nb T0 H0 kn0))
    (hstep : ∀ k p tm, tms[k]? = some (p, tm) → ∀ v, Inv k v → TOK v (fun _ g => LgFOK v (fun q u => Inv q u ∧ lt (q, u) (k, v)) R g) (segLpF I G fn.ntmps c fn.results.toList n0 tms rps ul nb p tm)) :
    AW P fn.ntmps (dH v0 H0) c (dT v0 T0) (dH v0 H0) (RetQ I fn (dH v0 H0) rps R) := by
  let Q : Exit → TM → AHeap → Prop := RetQ I fn (dH v0 H0) rps R
  have hn' : n0 = (dH v0 H0).length := by rw [dH_len]; exact hn
  let Goal : Nat → Val → Prop := fun k u => ∀ p tm x K, tms[k]? = some (p, tm) → loc c p = some (.loop x, K) → ∃ n, AR P fn.ntmps (dH v0 H0) x n (dT u tm.T) (dH u tm.H) (KQ P fn.ntmps (dH v0 H0) n K Q)
  have leaf : ∀ (v : Val) (J : Nat → Val → Prop) (l : Lf) (kn : Kn), KV v kn → WLf c l → (∀ k u, J k u → Goal k u) →
      TOK v (fun _ g => LgFOK v J R g) (toLgF I fn.results.toList n0 tms rps l kn) → ∃ B, LfOK P fn.ntmps (dH v0 H0) v B Q l := by
    intro v J l kn hk hw hJ ht
    cases l with
    | norm T H =>
      obtain ⟨k, g, ho, hg⟩ := ht.ex
      exact ⟨0, retF_ok hn' hk ho hg rfl⟩
    | ret T H =>
      obtain ⟨k, g, ho, hg⟩ := ht.ex
      exact ⟨0, retF_ok hn' hk ho hg rfl⟩
    | ext id T H => exact ht.elim
    | loop p x K T H =>
      simp only [toLgF] at ht
      cases hf : findTm n0 p T H 0 tms with
      | none => rw [hf] at ht; exact ht.elim
      | some r =>
        obtain ⟨k, σ⟩ := r
        rw [hf] at ht
        obtain ⟨i, tm, π, h1, h2, h3⟩ := findTm_ok hf
        rw [Nat.zero_add] at h1
        subst h1
        obtain ⟨n, hr⟩ := hJ k _ ht p tm x K h2 hw
        exact ⟨n, hr.weak (chk_ok hn' h3)⟩
  have run : ∀ (v : Val) (hGv : GOk P v G) (J : Nat → Val → Prop) (q : Pt) (K : List Fr) (T : ST) (H : SH) (kn : Kn), KV v kn → WPt c K q → (∀ k u, J k u → Goal k u) →
      TOK v (fun _ g => LgFOK v J R g) (strip ((srun I G fn.ntmps ul nb q K T H kn).bind (toLgF I fn.results.toList n0 tms rps))) → ∃ B, PtOK P fn.ntmps (dH v0 H0) (nb + B) K Q (dT v T) (dH v H) q := by
    intro v hGv J q K T H kn0 hkv hq hJ ht
    have ht := tok_out ((tok_bind _ _).1 (tok_strip ht))
    have h2 : TOK v (fun kn l => ∃ B, KV v kn → LfOK P fn.ntmps (dH v0 H0) v B Q l) (srun I G fn.ntmps ul nb q K T H kn0) := ht.mono fun kn l h => by
      by_cases hk : KV v kn
      · obtain ⟨B, hB⟩ := leaf v J l kn hk (srun_at nb q K T H kn0 kn l hq h.2) hJ h.1
        exact ⟨B, fun _ => hB⟩
      · exact ⟨0, fun hk' => absurd hk' hk⟩
    obtain ⟨B, h3⟩ := tok_max (fun m n k l hmn h hk => by
      have h := h hk
      cases l with
      | norm T H => exact h
      | ret T H => exact h
      | ext id T H => exact h
      | loop p x K T H => exact AR.mono hmn (fun _ _ _ => KQ.mono hmn K fun _ _ _ h => h) h) h2
    exact ⟨B, srun_ok hI hGv hm nb q K T H kn0 hkv h3⟩
  have loops : ∀ pv : Nat × Val, Inv pv.1 pv.2 → Goal pv.1 pv.2 := by
    intro pv
    induction pv using hwf.induction with
    | _ pv ih =>
      obtain ⟨k, v⟩ := pv
      intro hinv p tm x K htm hloc
      have hs := hstep k p tm htm v hinv
      unfold segLpF at hs
      rw [hloc] at hs
      simp only at hs
      obtain ⟨B, hB⟩ := run v (hG k v hinv) _ (.code (0 :: p) x) (.loop p x :: K) tm.T tm.H tm.kn (hkn k p tm htm v hinv) (by show loc c (0 :: p) = _; simp only [loc, hloc]; simp) (fun q u h2 => ih (q, u) h2.2 h2.1) hs
      exact ⟨nb + B + 1, AR.mono (Nat.le_refl _) (fun _ _ _ => KQ.mono (by omega) K fun _ _ _ h => h) (AR.succ hB)⟩
  obtain ⟨B, hB⟩ := run v0 hG0 Inv (.code [] c) [] T0 H0 kn0 hk0 rfl (fun q u h2 => loops (q, u) h2) hstart
  exact hB
theorem FC.mkOk (hI : TOk P I) {c : FC} {u : Val} {fn : Func} {code : Code} (hf : P.funcs[c.f]? = some fn) (hcode : fn.body = some code) (hname : fn.name ≠ "runtime.NumGoroutine") (hl : c.args.length ≤ fn.ntmps) {rps : List RP} (hrets : c.rets = rps.map fun r => (r.x, r.H))
    (hpost : KV u c.kn → ∀ k σ po, Sel u c.out (k, σ, po) → KV u po)
    (hA : KV u c.kn → AW P fn.ntmps (dH u c.H) code (dT u (sargs0 0 c.args)) (dH u c.H) (RetQ I fn (dH u c.H) rps fun k u' => ∃ σ po, Sel u c.out (k, σ, po) ∧ u' = σ.val u)) : FC.Ok P u c := by
  refine ⟨⟨fn, hf, hname, by rw [hcode]; rfl⟩, hpost, fun hkn m w args' hM hL => ?_⟩
  refine calls_of_wp hf hcode ?_
  have hl' := hL.1
  have hA := hA hkn
  rw [sargs0_ok] at hA
  have hst := ASat.start (n := fn.ntmps) hM hL (by rw [← hl']; simpa using hl)
  refine Code.wp_mono (fun e' a' w' hp => ?_) (hA.run _ _ _ _ hM hst)
  obtain ⟨hnp, T', H', ⟨he, vs, hvs, k, r, u', hr, ⟨σ, po, hsel, rfl⟩, hren⟩, m', h1, h2, h3, h4⟩ := hp
  obtain ⟨y, h5, h6⟩ := aresult_ok hI h1 h2 hvs
  obtain ⟨m2, r1, r2⟩ := hren m w m' w' hM h1
  have key : a'.defers = [] ∧ ∃ q, (results fn a'.tmps).run P w' = .ok q w' ∧ ∃ k σ po rx rH x' m', Sel u c.out (k, σ, po) ∧ c.rets[k]? = some (rx, rH) ∧ Ending.returned q = .returned x' ∧ Run m (dH u c.H) w (dH (σ.val u) rH) m' w' ∧ VRel m' (dv (σ.val u) rx) x' :=
    ⟨h4, y, h6, k, σ, po, r.x, r.H, y, m2, hsel, by rw [hrets, List.getElem?_map, hr]; rfl, rfl, r1, r2 y h5⟩
  cases e' with
  | normal => exact key
  | ret => exact key
  | exit id => cases he
  | goto l => cases hnp
  | panic ch => cases hnp
  | outgrown => cases hnp
end
end Go.Proofs.Ytpgkbdkkcladcaa.Sy
/- The second engine, part 21: slices handed in that are sure not to be nil. A lemma file: it claims nothing of the program. -/
namespace Go.Proofs.Ytpgkbdkkcladcaa.Sy
open Go Go.Lib Go.Proofs.Ytpgkbdkkcladcaa.Eng Go.RowKit Go.WideShapes Go.ChangeShapes
/-- As h0Of, with what is sure of each. -/
def h0Of' : Nat → List (ArgS × Bool) → SH
  | _, [] => []
  | n, s :: l => .old s.2 s.1.ks.length (.sym (.vr n) s.1.ks) :: h0Of' (n + 1) l
theorem h0Of'_get : ∀ (n : Nat) (l : List (ArgS × Bool)) (j : Nat), (h0Of' n l)[j]? = (l[j]?).map fun s => .old s.2 s.1.ks.length (.sym (.vr (n + j)) s.1.ks)
  | _, [], j => by simp [h0Of']
  | n, s :: l, 0 => by simp [h0Of']
  | n, s :: l, j + 1 => by simp only [h0Of', List.getElem?_cons_succ]; rw [h0Of'_get (n + 1) l j, show n + 1 + j = n + (j + 1) by omega]
section
variable {P : Program} {I : Tab} {w : World} {l : List (ArgS × Bool)} {v : Val}
theorem m0_match' (hr : v.r = l.map (·.1.xs)) (hl : ∀ s ∈ l, ArgRow w s.1.ks s.1.A s.1.len s.1.cap s.1.xs) (hq : ∀ s ∈ l, s.2 = true → s.1.A ≠ none) (hB : Base w := by trivial) : Match (m0Of (l.map (·.1))) (dH v (h0Of' 0 l)) w := by
  refine ⟨fun id i hi => ?_, fun id id' i i' b b' h1 h2 h3 h4 h5 => ?_, hB, fun id i b hi hb ho => (by
    rw [dH_get, h0Of'_get] at hb
    cases hs : l[id]? with
    | none => rw [hs] at hb; cases hb
    | some s => rw [hs] at hb; cases hb; cases ho)⟩
  · unfold m0Of at hi
    rw [List.getElem?_map] at hi
    cases hs : l[id]? with
    | none => rw [hs] at hi; cases hi
    | some s =>
      rw [hs] at hi
      cases hi
      have hA := hl s (List.mem_of_getElem? hs)
      have hx : nth [] v.r id = s.1.xs := nth_get (by rw [hr, List.getElem?_map, hs]; rfl)
      refine ⟨_, dH_get' (by rw [h0Of'_get, hs, Nat.zero_add]; rfl), ?_⟩
      have hd : dr v (.sym (.vr id) s.1.ks) = s.1.xs.map (toVs s.1.ks) := by simp only [dr, den, mkR, hx]
      show BRel _ w (miOf s.1.ks.length s.1.A s.1.cap) (.old s.2 s.1.ks.length (dr v (.sym (.vr id) s.1.ks)))
      rw [hd]
      have hok : RowOk s.1.ks.length (s.1.xs.map (toVs s.1.ks)) := by
        intro c hc
        obtain ⟨x, _, rfl⟩ := List.mem_map.1 hc
        refine ⟨toVs_len _ _, fun u hu => ?_⟩
        have := toVs_scal _ _ u hu
        cases u <;> simp [scal] at this <;> rfl
      rcases hA.row with ⟨h1, h2, h3⟩ | ⟨a, h1, h2, h3, h4⟩
      · have hs2 : s.2 = false := by
          cases e : s.2 with
          | false => rfl
          | true => exact absurd h1 (hq s (List.mem_of_getElem? hs) e)
        refine ⟨by rw [h1]; rfl, hok, .inl ⟨by rw [h1]; rfl, ?_, hs2⟩⟩
        have : s.1.xs = [] := List.length_eq_zero_iff.1 (hA.hlen.trans h2)
        rw [this]; rfl
      · refine ⟨by rw [h1]; rfl, hok, .inr ⟨by rw [h1]; rfl, by rw [h1]; exact h3, fun e c k u he hk => ?_⟩⟩
        refine ⟨u, by rw [h1]; exact h4 e c k u he hk, ?_⟩
        rw [List.getElem?_map] at he
        cases hq : s.1.xs[e]? with
        | none => rw [hq] at he; cases he
        | some q =>
          rw [hq] at he
          cases he
          have := toVs_scal _ _ u (List.mem_of_getElem? hk)
          cases u <;> simp [scal] at this <;> constructor
  · rw [dH_get, h0Of'_get] at h3
    cases hs : l[id]? with
    | none => rw [hs] at h3; cases h3
    | some s => rw [hs] at h3; cases h3; cases h5
/-- A law, called; some slices are sure not to be nil. -/
theorem law_calls' (hI : TOk P I) {f : FuncId} {fn : Func} {c : Code} (hf : P.funcs[f]? = some fn) (hc : fn.body = some c) {args : List SV} {args' : List Value} (hlen : args.length ≤ fn.ntmps)
    (hr : v.r = l.map (·.1.xs)) (hl : ∀ s ∈ l, ArgRow w s.1.ks s.1.A s.1.len s.1.cap s.1.xs) (hq : ∀ s ∈ l, s.2 = true → s.1.A ≠ none) (hL : LRel (m0Of (l.map (·.1))) (args.map (dv v)) args')
    (hA : AW P fn.ntmps (dH v (h0Of' 0 l)) c (dT v (sargs0 0 args)) (dH v (h0Of' 0 l)) (Eng.Ends I fn fun u _ => u = .bool true)) (hB : Base w := by trivial) :
    Calls P f args'.toArray w fun e w' => e = .returned (.bool true) ∧ Below w.heap.size w w' := by
  refine calls_of_wp hf hc ?_
  have hM := m0_match' (w := w) hr hl hq hB
  have hl' := hL.1
  rw [sargs0_ok] at hA
  have hst := ASat.start (n := fn.ntmps) hM hL (by rw [← hl']; simpa using hlen)
  refine Code.wp_mono (fun e' a' w' hp => ?_) (hA.run _ _ _ _ hM hst)
  obtain ⟨hnp, T', H', ⟨he, vs, hvs, hz⟩, m', h1, h2, h3, h4⟩ := hp
  obtain ⟨u, h5, h6⟩ := aresult_ok hI h1 h2 hvs
  rw [hz] at h5
  cases h5
  have hno : ∀ k, ¬ Owned (m0Of (l.map (·.1))) (dH v (h0Of' 0 l)) k := by
    rintro k ⟨id, i, b, g1, g2, g3, _⟩
    rw [dH_get, h0Of'_get] at g2
    cases hs : l[id]? with
    | none => rw [hs] at g2; cases g2
    | some s => rw [hs] at g2; cases g2; cases g3
  have key : a'.defers = [] ∧ ∃ q, (results fn a'.tmps).run P w' = .ok q w' ∧ Ending.returned q = .returned (.bool true) ∧ Below w.heap.size w w' :=
    ⟨h4, _, h6, rfl, h1.os, h1.tape, h1.output, h1.size, fun k hk => h1.keep k hk (hno k)⟩
  cases e' with
  | normal => exact key
  | ret => exact key
  | exit id => cases he
  | goto l => cases hnp
  | panic ch => cases hnp
  | outgrown => cases hnp
end
end Go.Proofs.Ytpgkbdkkcladcaa.Sy
/- The second engine, part 22: contracts of functions that look whether a row lies somewhere: two ways. A lemma file: it claims nothing of the program. -/
namespace Go.Proofs.Ytpgkbdkkcladcaa.Sy
open Go Go.Lib Go.Proofs.Ytpgkbdkkcladcaa.Eng
theorem match_sure {m : Mp} {w : World} {z : Nat} {els : List (List Value)} {H : AHeap} {i : MI} (hM : Match m (.old false z els :: H) w) (hi : m 0 = some i) (hv : i.void = false) : Match m (.old true z els :: H) w := by
  refine ⟨fun id j hj => ?_, fun id id' i1 i2 b b' h1 h2 h3 h4 h5 h6 h7 h8 h9 => ?_, hM.base, fun id i1 b h1 h3 ho hv1 => (by
    cases id with
    | zero => cases h3; cases ho
    | succ id => exact hM.ownb (id + 1) i1 b h1 h3 ho hv1)⟩
  · obtain ⟨b, hb, hr⟩ := hM.has id j hj
    cases id with
    | zero =>
      rw [hi] at hj; cases hj
      cases hb
      refine ⟨_, rfl, hr.1, hr.2.1, ?_⟩
      rcases hr.2.2 with ⟨g, _⟩ | g
      · rw [hv] at g; cases g
      · exact .inr g
    | succ id => exact ⟨b, hb, hr⟩
  · cases id with
    | zero => cases h3; cases h5
    | succ id =>
      cases id' with
      | zero =>
        cases h4
        exact hM.inj (id + 1) 0 i1 i2 b _ h1 h2 h3 rfl h5 rfl h7 h8 h9
      | succ id' => exact hM.inj (id + 1) (id' + 1) i1 i2 b b' h1 h2 h3 h4 h5 h6 h7 h8 h9
theorem owned_sure {m : Mp} {z : Nat} {els : List (List Value)} {H : AHeap} {k : Nat} (h : Owned m (.old true z els :: H) k) : Owned m (.old false z els :: H) k := by
  obtain ⟨id, i, b, h1, h2, h3, h4⟩ := h
  cases id with
  | zero => cases h2; cases h3
  | succ id => exact ⟨id + 1, i, b, h1, h2, h3, h4⟩
theorem owned_sure' {m : Mp} {z : Nat} {els : List (List Value)} {H : AHeap} {k : Nat} (h : Owned m (.old false z els :: H) k) : Owned m (.old true z els :: H) k := by
  obtain ⟨id, i, b, h1, h2, h3, h4⟩ := h
  cases id with
  | zero => cases h2; cases h3
  | succ id => exact ⟨id + 1, i, b, h1, h2, h3, h4⟩
theorem run_sure {m m' : Mp} {w w' : World} {z : Nat} {els : List (List Value)} {H H' : AHeap} (h : Run m (.old true z els :: H) w H' m' w') : Run m (.old false z els :: H) w H' m' w' where
  mt := h.mt
  ext := h.ext
  dom := h.dom
  len := h.len
  old := fun id b hl hb hlv => by
    obtain ⟨b0, g1, g2, g3⟩ := h.old id b hl hb hlv
    cases id with
    | zero => cases g1; exact ⟨_, rfl, rfl, fun k => g3 k⟩
    | succ id => exact ⟨b0, g1, g2, g3⟩
  new := fun id i b g1 g2 g3 g4 g5 => (h.new id i b g1 g2 g3 g4 g5).imp (fun q => q) owned_sure
  os := h.os
  tape := h.tape
  output := h.output
  size := h.size
  keep := fun k hk ho => h.keep k hk fun q => ho (owned_sure q)
/-- Two ways: the first slice lies somewhere, or it is nil. -/
theorem FC.Ok.two {P : Program} {u : Val} {c : FC} {z : Nat} {r : SR} {Hs : SH} {n : E} {az : List SV} (hH : c.H = .old false z r :: Hs) (ha : c.args = .one (.slc 0 (.ci 0) n) :: az)
    (hA : FC.Ok P u { c with H := .old true z r :: Hs }) (hB : dr u r = [] → FC.Ok P u { c with args := .one .nils :: az }) : FC.Ok P u c := by
  refine ⟨hA.fn, hA.post, fun hk m w args' hM hL => ?_⟩
  rw [ha] at hL
  obtain ⟨x, xs, rfl, h1, h2⟩ := LRel.cons_inv (show LRel m (dv u (.one (.slc 0 (.ci 0) n)) :: az.map (dv u)) args' from hL)
  have hM' := hM
  rw [hH] at hM'
  have hM2 : Match m (.old false z (dr u r) :: dH u Hs) w := hM'
  cases hi : m 0 with
  | none =>
    exfalso
    rw [dv_one, dl_slc] at h1
    generalize (den u n).i.toNat = q at h1
    generalize (den u (.ci 0)).i.toNat = q0 at h1
    cases h1 with
    | slc h => rw [hi] at h; cases h
    | vslc h => rw [hi] at h; cases h
    | eslc h => rw [hi] at h; cases h
  | some i =>
    cases hv : i.void with
    | false =>
      have k := hA.run hk m w (x :: xs) (match_sure hM2 hi hv) (by show LRel m (c.args.map (dv u)) _; rw [ha]; exact hL)
      refine k.mono ?_
      rintro e w' ⟨k, σ, po, rx, rH, x', m', g1, g2, g3, g4, g5⟩
      refine ⟨k, σ, po, rx, rH, x', m', g1, g2, g3, ?_, g5⟩
      rw [hH]
      exact run_sure g4
    | true =>
      have he : dr u r = [] := by
        obtain ⟨b, hb, hr⟩ := hM2.has 0 i hi
        cases hb
        rcases hr.2.2 with ⟨_, g, _⟩ | ⟨g, _⟩
        · exact g
        · rw [hv] at g; cases g
      have h3 : VRel m (dv u (.one .nils)) x := by
        rw [dv_one, dl_slc] at h1
        generalize (den u n).i.toNat = q at h1
        generalize (den u (.ci 0)).i.toNat = q0 at h1
        cases h1 with
        | slc h k => rw [hi] at h; cases h; rw [hv] at k; cases k
        | vslc h => exact .nils
        | eslc h k => rw [hi] at h; cases h; rw [hv] at k; cases k
      exact (hB he).run hk m w (x :: xs) hM (.cons h3 h2)
end Go.Proofs.Ytpgkbdkkcladcaa.Sy
/- The second engine, part 23: contracts of functions that call themselves: each call within has a lesser rank. A lemma file: it claims nothing of the program. -/
namespace Go.Proofs.Ytpgkbdkkcladcaa.Sy
open Go Go.Lib Go.Proofs.Ytpgkbdkkcladcaa.Eng
/-- A contract that holds for what was met serves at that call. -/
theorem sfc_ok1 {P : Program} {v : Val} {c : FC} {args : List SV} {H : SH} {kn : Kn} (hc : FC.Ok P ((amatch 0 c.tm (sargs0 0 args) H).1.val v) c) (hk : KV v kn) (ht : TOK v (fun _ _ => True) (sfc c args H kn)) :
    (∃ fn, P.funcs[c.f]? = some fn ∧ fn.name ≠ "runtime.NumGoroutine" ∧ fn.body.isSome = true) ∧
    ∀ m0 H0 w0 m w args', Run m0 H0 w0 (dH v H) m w → LRel m (args.map (dv v)) args' → CallOuts P v (sfc c args H kn) m0 H0 w0 m c.f args'.toArray w := by
    refine ⟨hc.fn, fun m0 H0 w0 m w args' hR hL => ?_⟩
    unfold sfc at ht ⊢
    dsimp only at ht ⊢
    generalize amatch 0 c.tm (sargs0 0 args) H = M at ht hc ⊢
    obtain ⟨σ, π⟩ := M
    dsimp only at ht hc ⊢
    split at ht
    · rename_i hchk
      rw [if_pos hchk]
      rw [Bool.and_eq_true] at hchk
      obtain ⟨h1, h2⟩ := hchk
      obtain ⟨hinj, hlt, hvoid, hB⟩ := chk_facts h1
      have hvn : ∀ j, π.void.contains j = true → π.at j = none := fun j hj => (hvoid j hj).2
      have ho := hc
      have hM := Match.restr2 hR.mt (π.old.map (·.2)) (wIds c π)
      rw [← srestr_ok] at hM
      have hMp := chk_match (v := v) h1 hM
      obtain ⟨k1, _, hk1, hkn, o1, ht⟩ := tok_sat' ht .needs hk
      obtain ⟨k2, r, hk2, ⟨kr, τ, po, hsel, rfl⟩, o2, ht⟩ := tok_sat' ht (.useT (ho.post hkn)) hk1
      dsimp only at ht
      have hLp : LRel (mapN π (dH (σ.val v) c.H) m) (c.args.map (dv (σ.val v))) args' := cmpSVs_ok hvn h2 hL
      refine (ho.run hkn _ w args' hMp hLp).mono ?_
      rintro e w' ⟨kr', τ', po', rx, rH, x', m1, hsel', hrets, rfl, hRun, hV⟩
      cases hsel.uniq hsel'
      rw [hrets] at ht
      obtain ⟨k3, x, hk3, hx, o3, ht⟩ := tok_sat' ht .forceV hk2
      rw [← comp_ok] at hRun hV
      obtain ⟨m2, hρ, hR2⟩ := relabel (pH := c.H) (rH := rH) (π := π) (σ := σ) hM hlt (fun j id b hj hb ho' => by
        obtain ⟨_, b', g1, g2⟩ := chkB_some (hB j b hb) hj
        refine ⟨b', g1, ?_⟩
        rcases cmpSB_ok (v := v) (m := m) (H' := dH (σ.val v) c.H) hvn g2 with g | g
        · rw [g] at ho'; cases ho'
        · exact g.1 ho') hvn hRun
      rw [srestr_ok] at hR2
      obtain ⟨j1, j2⟩ := Run.join2 hR hR2
      rw [← sjoin_ok] at j1
      have e : ((wIds c π).filter fun id => ownB ((dH v H)[id]?)) = (wIds c π).filter fun id => sOwn (H[id]?) := (filter_own v _ _).symm
      rw [e] at j2
      refine ⟨k3, x, _, _, m2, x', bind_out o1 (bind_out o2 ?_), hk3, rfl, j1, hR2.ext, ?_, j2⟩
      · dsimp only
        rw [hrets]
        exact bind_out o3 ⟨rfl, rfl⟩
      · rw [hx]; exact sbV_ok hρ hV
    · exact ht.elim
/-- A contract's use within the function itself: the rank must be lesser there. -/
def sfcR (c : FC) (rk : E) (args : List SV) (H : SH) : SRes := SM.bind (need 345 (mk2 .lt (sb (amatch 0 c.tm (sargs0 0 args) H).1 rk) rk)) fun _ => sfc c args H
theorem sfcR_ok {P : Program} {v : Val} {c : FC} {rk : E} (hc : ∀ σ : Sb, (den (σ.val v) rk).i < (den v rk).i → FC.Ok P (σ.val v) c) : GOk P v fun g args H => if g = c.f then sfcR c rk args H else .fail 330 := by
  refine ⟨fun g args H kn hk ht => ?_⟩
  by_cases hg : g = c.f
  · subst hg
    simp only [if_true] at ht ⊢
    unfold sfcR at ht
    obtain ⟨k1, _, hk1, hlt, o1, ht⟩ := tok_sat' ht Sat.need hk
    have hlt := lt_b hlt
    rw [sb_ok] at hlt
    obtain ⟨h1, h2⟩ := sfc_ok1 (hc _ hlt) hk1 ht
    refine ⟨h1, fun m0 H0 w0 m w args' hR hL => ?_⟩
    refine (h2 m0 H0 w0 m w args' hR hL).mono ?_
    rintro e w' ⟨k3, x, H', tc, m2, x', ho, q1, q2, q3, q4, q5, q6⟩
    exact ⟨k3, x, H', tc, m2, x', bind_out o1 ho, q1, q2, q3, q4, q5, q6⟩
  · simp only [if_neg hg] at ht; exact ht.elim
end Go.Proofs.Ytpgkbdkkcladcaa.Sy
