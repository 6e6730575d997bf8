/- The second engine, part 16: words packed into numbers, bits as sums. A lemma file: it claims nothing of the program. -/
import Derived.Test.YtckbckijpdnlaaaOwnS14
import Derived.Laws.BitsLemmas
set_option linter.unusedVariables false
set_option linter.unusedSimpArgs false
namespace Go.Proofs.Ytckbckijpdnlaaa.Sy
open Go Go.Lib Go.Proofs.Ytckbckijpdnlaaa.Eng Go.RowKit

theorem wu_pow (n : Int) (h0 : 0 ≤ n) (h1 : n < 2 ^ 64) : IntKind.u64.wrap n = n := by
  rw [wu64']
  omega
theorem and_u64 (i : Nat) (hi : i ≤ 64) {x : Int} (h0 : 0 ≤ x) (h1 : x < 18446744073709551616) : Go.bits .and .u64 x (2 ^ i - 1) = x % 2 ^ i :=
  Go.bits_mask .u64 64 (by decide) wu_pow i hi x h0 (by omega)
theorem or_hi (i : Nat) {x y : Int} (hx0 : 0 ≤ x) (hx : x < 2 ^ i) (hx1 : x < 18446744073709551616) (hy0 : 0 ≤ y) (hy : y % 2 ^ i = 0) (hy1 : y < 18446744073709551616) : Go.bits .or .u64 x y = x + y := by
  have h := Go.bits_join .u64 64 (by decide) wu_pow i y x hy0 hy (by omega) hx0 hx (by omega)
  obtain ⟨a, rfl⟩ := Int.eq_ofNat_of_zero_le hx0
  obtain ⟨b, rfl⟩ := Int.eq_ofNat_of_zero_le hy0
  rw [(Go.bits_nat .u64 64 (by decide) wu_pow b a (by omega) (by omega)).2] at h
  rw [(Go.bits_nat .u64 64 (by decide) wu_pow a b (by omega) (by omega)).2, Nat.or_comm, h, Int.add_comm]
theorem or_lo (i : Nat) {x y : Int} (hx0 : 0 ≤ x) (hx : x % 2 ^ i = 0) (hx1 : x < 18446744073709551616) (hy0 : 0 ≤ y) (hy : y < 2 ^ i) (hy1 : y < 18446744073709551616) : Go.bits .or .u64 x y = x + y :=
  Go.bits_join .u64 64 (by decide) wu_pow i x y hx0 hx (by omega) hy0 hy (by omega)
theorem xor_ne {x s : Int} (h0 : 0 ≤ x) (h1 : x < 18446744073709551616) (s0 : 0 < s) (s1 : s < 18446744073709551616) :
    0 ≤ Go.bits .xor .u64 x s ∧ Go.bits .xor .u64 x s < 18446744073709551616 ∧ Go.bits .xor .u64 x s ≠ x := by
  obtain ⟨a, rfl⟩ := Int.eq_ofNat_of_zero_le h0
  obtain ⟨b, rfl⟩ := Int.eq_ofNat_of_zero_le (show 0 ≤ s by omega)
  show 0 ≤ IntKind.u64.wrap (((BitVec.ofInt 64 (a : Int) ^^^ BitVec.ofInt 64 (b : Int)).toNat : Nat) : Int) ∧ IntKind.u64.wrap (((BitVec.ofInt 64 (a : Int) ^^^ BitVec.ofInt 64 (b : Int)).toNat : Nat) : Int) < 18446744073709551616 ∧ IntKind.u64.wrap (((BitVec.ofInt 64 (a : Int) ^^^ BitVec.ofInt 64 (b : Int)).toNat : Nat) : Int) ≠ a
  rw [BitVec.ofInt_natCast, BitVec.ofInt_natCast]
  have hlt : (BitVec.ofNat 64 a ^^^ BitVec.ofNat 64 b).toNat < 18446744073709551616 := (BitVec.ofNat 64 a ^^^ BitVec.ofNat 64 b).isLt
  rw [wu64 (by omega) (by omega)]
  refine ⟨by omega, by omega, fun h => ?_⟩
  have e1 : (BitVec.ofNat 64 a ^^^ BitVec.ofNat 64 b).toNat = (BitVec.ofNat 64 a).toNat := by
    have h5 : (BitVec.ofNat 64 a).toNat = a := by simp only [BitVec.toNat_ofNat]; omega
    rw [h5]
    omega
  have e2 : BitVec.ofNat 64 a ^^^ BitVec.ofNat 64 b = BitVec.ofNat 64 a := BitVec.eq_of_toNat_eq e1
  have e3 : BitVec.ofNat 64 a ^^^ (BitVec.ofNat 64 a ^^^ BitVec.ofNat 64 b) = BitVec.ofNat 64 a ^^^ BitVec.ofNat 64 a := by rw [e2]
  rw [← BitVec.xor_assoc, BitVec.xor_self, BitVec.zero_xor] at e3
  have e4 := congrArg BitVec.toNat e3
  simp only [BitVec.toNat_ofNat] at e4
  omega
/-- A word's number. -/
def pk (s e g lo hi : Int) : Int := s + 4 * e + 8 * g + 65536 * lo + 1099511627776 * hi
def RightW (s e g lo hi : Int) : Prop := 0 ≤ s ∧ s ≤ 2 ∧ 0 ≤ e ∧ e ≤ 1 ∧ 0 ≤ g ∧ g ≤ 8191 ∧ 0 ≤ lo ∧ lo ≤ 16777215 ∧ 0 ≤ hi ∧ hi ≤ 16777215
theorem d_or64 {v : Val} {a b : E} : (den v (.o2 (.bit .or .u64) a b)).i = Go.bits .or .u64 (den v a).i (den v b).i := rfl
theorem d_shl64 {v : Val} {a : E} {n : Nat} : (den v (.o2 (.shl .u64) a (.ci (n : Int)))).i = IntKind.u64.wrap ((den v a).i * 2 ^ (min n 64)) := by
  show IntKind.u64.wrap ((den v a).i * 2 ^ (min ((n : Int)).toNat 64)) = _
  rw [Int.toNat_natCast]
theorem d_shr64 {v : Val} {a : E} {n : Nat} : (den v (.o2 (.shr .u64) a (.ci (n : Int)))).i = (den v a).i.fdiv (2 ^ (min n 64)) := by
  show (den v a).i.fdiv (2 ^ (min ((n : Int)).toNat 64)) = _
  rw [Int.toNat_natCast]
/-- The bits of a word put together are its number. -/
theorem pack_sum {s e g lo hi : Int} (h : RightW s e g lo hi) :
    Go.bits .or .u64 (Go.bits .or .u64 (Go.bits .or .u64 (Go.bits .or .u64 s (IntKind.u64.wrap (e * 4))) (IntKind.u64.wrap (g * 8))) (IntKind.u64.wrap (lo * 65536))) (IntKind.u64.wrap (hi * 1099511627776)) = pk s e g lo hi := by
  obtain ⟨h0, h1, h2, h3, h4, h5, h6, h7, h8, h9⟩ := h
  rw [wu64 (x := e * 4) (by omega) (by omega), wu64 (x := g * 8) (by omega) (by omega), wu64 (x := lo * 65536) (by omega) (by omega), wu64 (x := hi * 1099511627776) (by omega) (by omega)]
  rw [or_hi 2 (x := s) (y := e * 4) (by omega) (by omega) (by omega) (by omega) (by omega) (by omega)]
  rw [or_hi 3 (x := s + e * 4) (y := g * 8) (by omega) (by omega) (by omega) (by omega) (by omega) (by omega)]
  rw [or_hi 16 (x := s + e * 4 + g * 8) (y := lo * 65536) (by omega) (by omega) (by omega) (by omega) (by omega) (by omega)]
  rw [or_hi 40 (x := s + e * 4 + g * 8 + lo * 65536) (y := hi * 1099511627776) (by omega) (by omega) (by omega) (by omega) (by omega) (by omega)]
  unfold pk
  omega
theorem pk_in {s e g lo hi : Int} (h : RightW s e g lo hi) : 0 ≤ pk s e g lo hi ∧ pk s e g lo hi < 18446744073709551616 := by
  obtain ⟨h0, h1, h2, h3, h4, h5, h6, h7, h8, h9⟩ := h
  unfold pk; omega
/-- A word's parts out of its number. -/
theorem pk_parts {s e g lo hi : Int} (h : RightW s e g lo hi) :
    pk s e g lo hi % 4 = s ∧ pk s e g lo hi / 4 % 2 = e ∧ pk s e g lo hi / 8 % 8192 = g ∧ pk s e g lo hi / 65536 % 16777216 = lo ∧ pk s e g lo hi / 1099511627776 % 16777216 = hi := by
  obtain ⟨h0, h1, h2, h3, h4, h5, h6, h7, h8, h9⟩ := h
  unfold pk
  refine ⟨by omega, by omega, by omega, by omega, by omega⟩
theorem d_shl2 {v : Val} {a : E} : (den v (.o2 (.shl .u64) a (.ci 2))).i = IntKind.u64.wrap ((den v a).i * 4) := rfl
theorem d_shr2 {v : Val} {a : E} : (den v (.o2 (.shr .u64) a (.ci 2))).i = (den v a).i.fdiv 4 := rfl
theorem d_shl3 {v : Val} {a : E} : (den v (.o2 (.shl .u64) a (.ci 3))).i = IntKind.u64.wrap ((den v a).i * 8) := rfl
theorem d_shr3 {v : Val} {a : E} : (den v (.o2 (.shr .u64) a (.ci 3))).i = (den v a).i.fdiv 8 := rfl
theorem d_shl16 {v : Val} {a : E} : (den v (.o2 (.shl .u64) a (.ci 16))).i = IntKind.u64.wrap ((den v a).i * 65536) := rfl
theorem d_shr16 {v : Val} {a : E} : (den v (.o2 (.shr .u64) a (.ci 16))).i = (den v a).i.fdiv 65536 := rfl
theorem d_shl40 {v : Val} {a : E} : (den v (.o2 (.shl .u64) a (.ci 40))).i = IntKind.u64.wrap ((den v a).i * 1099511627776) := rfl
theorem d_shr40 {v : Val} {a : E} : (den v (.o2 (.shr .u64) a (.ci 40))).i = (den v a).i.fdiv 1099511627776 := rfl
section
variable {s e g lo hi : Int}
theorem up_e (h : RightW s e g lo hi) : Go.bits .and .u64 ((pk s e g lo hi).fdiv 4) 1 = e := by
  have h1 := pk_in h
  rw [Int.fdiv_eq_ediv_of_nonneg _ (by omega), show (1 : Int) = 2 ^ 1 - 1 from rfl, and_u64 1 (by decide) (by omega) (by omega)]
  exact (pk_parts h).2.1
theorem up_g (h : RightW s e g lo hi) : Go.bits .and .u64 ((pk s e g lo hi).fdiv 8) 8191 = g := by
  have h1 := pk_in h
  rw [Int.fdiv_eq_ediv_of_nonneg _ (by omega), show (8191 : Int) = 2 ^ 13 - 1 from rfl, and_u64 13 (by decide) (by omega) (by omega)]
  exact (pk_parts h).2.2.1
theorem up_lo (h : RightW s e g lo hi) : Go.bits .and .u64 ((pk s e g lo hi).fdiv 65536) 16777215 = lo := by
  have h1 := pk_in h
  rw [Int.fdiv_eq_ediv_of_nonneg _ (by omega), show (16777215 : Int) = 2 ^ 24 - 1 from rfl, and_u64 24 (by decide) (by omega) (by omega)]
  exact (pk_parts h).2.2.2.1
theorem up_hi (h : RightW s e g lo hi) : Go.bits .and .u64 ((pk s e g lo hi).fdiv 1099511627776) 16777215 = hi := by
  have h1 := pk_in h
  rw [Int.fdiv_eq_ediv_of_nonneg _ (by omega), show (16777215 : Int) = 2 ^ 24 - 1 from rfl, and_u64 24 (by decide) (by omega) (by omega)]
  exact (pk_parts h).2.2.2.2
end
end Go.Proofs.Ytckbckijpdnlaaa.Sy
