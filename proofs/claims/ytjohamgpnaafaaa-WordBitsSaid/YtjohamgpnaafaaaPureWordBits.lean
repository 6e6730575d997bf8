/- The pure law of WordBits, over numbers and lists alone: the printed Lean function of the law answers true for every argument. No condition. -/
import Derived.Test.YtjohamgpnaafaaaPWordBitsx3
import Derived.Laws.BitsLemmas
namespace Go.Proofs.Ytjohamgpnaafaaa.Pure
open Go.RowKit Go.Proofs.Ytjohamgpnaafaaa.PWordBits Go.Proofs.YtjohamgpnaafaaaW.PrintWords Go.Proofs.YtjohamgpnaafaaaW.PrintLast Go.Proofs.YtjohamgpnaafaaaW.PrintMore
set_option linter.unusedVariables false
set_option linter.unusedSimpArgs false

/-! ### numbers -/
theorem wf64 {a : Int} (h : (Lit.int .i64 a).wf = true) : -9223372036854775808 ≤ a ∧ a ≤ 9223372036854775807 := by
  simp only [Lit.wf, IntKind.min, IntKind.max, IntKind.signed, IntKind.bits, Bool.and_eq_true, decide_eq_true_eq, if_true] at h
  omega
theorem wfu {a : Int} (h : (Lit.int .u64 a).wf = true) : 0 ≤ a ∧ a < 18446744073709551616 := by
  simp [Lit.wf, IntKind.min, IntKind.max, IntKind.signed, IntKind.bits] at h
  omega
theorem w64 {a : Int} (h0 : -9223372036854775808 ≤ a) (h1 : a ≤ 9223372036854775807) : wrap64 a = a := by
  unfold wrap64
  omega
theorem wu (a : Int) : IntKind.u64.wrap a = a % 18446744073709551616 := by
  simp [IntKind.wrap, IntKind.bits, IntKind.signed]
theorem wuid {a : Int} (h0 : 0 ≤ a) (h1 : a < 18446744073709551616) : IntKind.u64.wrap a = a := by
  rw [wu]
  omega
theorem wu_pow (n : Int) (h0 : 0 ≤ n) (h1 : n < 2 ^ 64) : IntKind.u64.wrap n = n := by
  rw [wu]
  omega
/-! ### bits -/
theorem and_u64 (i : Nat) (hi : i ≤ 64) {x : Int} (h0 : 0 ≤ x) (h1 : x < 18446744073709551616) : Go.bits .and .u64 x (2 ^ i - 1) = x % 2 ^ i :=
  Go.bits_mask .u64 64 (by decide) wu_pow i hi x h0 (by omega)
theorem or_hi (i : Nat) {x y : Int} (hx0 : 0 ≤ x) (hx : x < 2 ^ i) (hx1 : x < 18446744073709551616) (hy0 : 0 ≤ y) (hy : y % 2 ^ i = 0) (hy1 : y < 18446744073709551616) : Go.bits .or .u64 x y = x + y := by
  have h := Go.bits_join .u64 64 (by decide) wu_pow i y x hy0 hy (by omega) hx0 hx (by omega)
  obtain ⟨a, rfl⟩ := Int.eq_ofNat_of_zero_le hx0
  obtain ⟨b, rfl⟩ := Int.eq_ofNat_of_zero_le hy0
  rw [(Go.bits_nat .u64 64 (by decide) wu_pow b a (by omega) (by omega)).2] at h
  rw [(Go.bits_nat .u64 64 (by decide) wu_pow a b (by omega) (by omega)).2, Nat.or_comm, h, Int.add_comm]
theorem or_lo (i : Nat) {x y : Int} (hx0 : 0 ≤ x) (hx : x % 2 ^ i = 0) (hx1 : x < 18446744073709551616) (hy0 : 0 ≤ y) (hy : y < 2 ^ i) (hy1 : y < 18446744073709551616) : Go.bits .or .u64 x y = x + y :=
  Go.bits_join .u64 64 (by decide) wu_pow i x y hx0 hx (by omega) hy0 hy (by omega)
theorem and_i64 (i : Nat) (hi : i ≤ 62) (x : Int) : Go.bits .and .i64 x (2 ^ i - 1) = x % 2 ^ i := by
  have hpos : 0 < 2 ^ i := Nat.two_pow_pos i
  have hle : 2 ^ i ≤ 2 ^ 62 := Nat.pow_le_pow_right (by decide) hi
  have hc : ((2 : Int) ^ i - 1) = ((2 ^ i - 1 : Nat) : Int) := by
    rw [Int.natCast_sub hpos]; simp
  have hm : (2 ^ i - 1) % 2 ^ 64 = 2 ^ i - 1 := Nat.mod_eq_of_lt (by omega)
  have ht : (BitVec.ofInt 64 x).toNat = (x % (2 ^ 64 : Int)).toNat := by simp [BitVec.toNat_ofInt]
  have hn : 0 ≤ x % (2 ^ 64 : Int) := Int.emod_nonneg _ (by decide)
  have hd : ((2 : Int) ^ i) ∣ (2 ^ 64 : Int) := ⟨2 ^ (64 - i), by rw [← Int.pow_add]; congr 1; omega⟩
  have hr : (((x % (2 ^ 64 : Int)).toNat % 2 ^ i : Nat) : Int) = x % 2 ^ i := by
    rw [Int.natCast_emod, Int.toNat_of_nonneg hn]
    rw [Int.natCast_pow]
    exact Int.emod_emod_of_dvd x hd
  have hb : 0 ≤ x % 2 ^ i ∧ x % 2 ^ i < 2 ^ 62 := by
    have hpz : (0 : Int) < 2 ^ i := by exact_mod_cast hpos
    have hlz : (2 : Int) ^ i ≤ 2 ^ 62 := by exact_mod_cast hle
    exact ⟨Int.emod_nonneg _ (by omega), Int.lt_of_lt_of_le (Int.emod_lt_of_pos _ hpz) hlz⟩
  rw [hc]
  show IntKind.i64.wrap (((BitVec.ofInt 64 x &&& BitVec.ofInt 64 ((2 ^ i - 1 : Nat) : Int)).toNat : Nat) : Int) = _
  rw [BitVec.ofInt_natCast, BitVec.toNat_and, BitVec.toNat_ofNat, hm, ht, Nat.and_two_pow_sub_one_eq_mod, hr, IntKind.wrap_i64]
  obtain ⟨b0, b1⟩ := hb
  generalize x % 2 ^ i = z at b0 b1 ⊢
  omega
theorem xor_ne {x s : Int} (h0 : 0 ≤ x) (h1 : x < 18446744073709551616) (s0 : 0 < s) (s1 : s < 18446744073709551616) :
    0 ≤ Go.bits .xor .u64 x s ∧ Go.bits .xor .u64 x s < 18446744073709551616 ∧ Go.bits .xor .u64 x s ≠ x := by
  obtain ⟨a, rfl⟩ := Int.eq_ofNat_of_zero_le h0
  obtain ⟨b, rfl⟩ := Int.eq_ofNat_of_zero_le (show 0 ≤ s by omega)
  show 0 ≤ IntKind.u64.wrap (((BitVec.ofInt 64 (a : Int) ^^^ BitVec.ofInt 64 (b : Int)).toNat : Nat) : Int) ∧ IntKind.u64.wrap (((BitVec.ofInt 64 (a : Int) ^^^ BitVec.ofInt 64 (b : Int)).toNat : Nat) : Int) < 18446744073709551616 ∧ IntKind.u64.wrap (((BitVec.ofInt 64 (a : Int) ^^^ BitVec.ofInt 64 (b : Int)).toNat : Nat) : Int) ≠ a
  rw [BitVec.ofInt_natCast, BitVec.ofInt_natCast]
  have hlt : (BitVec.ofNat 64 a ^^^ BitVec.ofNat 64 b).toNat < 18446744073709551616 := (BitVec.ofNat 64 a ^^^ BitVec.ofNat 64 b).isLt
  rw [wuid (by omega) (by omega)]
  refine ⟨by omega, by omega, fun h => ?_⟩
  have e1 : (BitVec.ofNat 64 a ^^^ BitVec.ofNat 64 b).toNat = (BitVec.ofNat 64 a).toNat := by
    have h5 : (BitVec.ofNat 64 a).toNat = a := by simp only [BitVec.toNat_ofNat]; omega
    rw [h5]
    omega
  have e2 : BitVec.ofNat 64 a ^^^ BitVec.ofNat 64 b = BitVec.ofNat 64 a := BitVec.eq_of_toNat_eq e1
  have e3 : BitVec.ofNat 64 a ^^^ (BitVec.ofNat 64 a ^^^ BitVec.ofNat 64 b) = BitVec.ofNat 64 a ^^^ BitVec.ofNat 64 a := by rw [e2]
  rw [← BitVec.xor_assoc, BitVec.xor_self, BitVec.zero_xor] at e3
  have e4 := congrArg BitVec.toNat e3
  simp only [BitVec.toNat_ofNat] at e4
  omega
/-! ### words -/
def RightW (s e g lo hi : Int) : Prop := 0 ≤ s ∧ s ≤ 2 ∧ 0 ≤ e ∧ e ≤ 1 ∧ 0 ≤ g ∧ g ≤ 8191 ∧ 0 ≤ lo ∧ lo ≤ 16777215 ∧ 0 ≤ hi ∧ hi ≤ 16777215
instance (s e g lo hi : Int) : Decidable (RightW s e g lo hi) := by unfold RightW; infer_instance
theorem Right_eq (s e g lo hi : Int) : word_Word_Right.f s e g lo hi = some (decide (RightW s e g lo hi)) := by
  unfold word_Word_Right.f RightW
  repeat' split
  all_goals (congr 1; first | (symm; apply decide_eq_false; omega) | (apply decide_eq_decide.2; omega))
theorem Pack_right {s e g lo hi : Int} (h : RightW s e g lo hi) : word_Word_Pack.f s e g lo hi = some (s + 4 * e + 8 * g + 65536 * lo + 1099511627776 * hi) := by
  unfold word_Word_Pack.f
  rw [Right_eq, decide_eq_true h]
  simp only [Option.bind_some, if_true]
  obtain ⟨h0, h1, h2, h3, h4, h5, h6, h7, h8, h9⟩ := h
  rw [wuid h0 (by omega), wuid h2 (by omega), wuid h4 (by omega), wuid h6 (by omega), wuid h8 (by omega)]
  rw [wuid (a := e * 4) (by omega) (by omega), wuid (a := g * 8) (by omega) (by omega), wuid (a := lo * 65536) (by omega) (by omega), wuid (a := hi * 1099511627776) (by omega) (by omega)]
  rw [or_hi 2 (x := s) (y := e * 4) (by omega) (by omega) (by omega) (by omega) (by omega) (by omega)]
  rw [or_hi 3 (x := s + e * 4) (y := g * 8) (by omega) (by omega) (by omega) (by omega) (by omega) (by omega)]
  rw [or_hi 16 (x := s + e * 4 + g * 8) (y := lo * 65536) (by omega) (by omega) (by omega) (by omega) (by omega) (by omega)]
  rw [or_hi 40 (x := s + e * 4 + g * 8 + lo * 65536) (y := hi * 1099511627776) (by omega) (by omega) (by omega) (by omega) (by omega) (by omega)]
  congr 1
  omega
theorem Pack_wrong {s e g lo hi : Int} (h : ¬ RightW s e g lo hi) : word_Word_Pack.f s e g lo hi = some 0 := by
  unfold word_Word_Pack.f
  rw [Right_eq, decide_eq_false h]
  rfl
theorem Unpack_eq {x : Int} (h0 : 0 ≤ x) (h1 : x < 18446744073709551616) : word_Unpack.f x = some (x % 4, x / 4 % 2, x / 8 % 8192, x / 65536 % 16777216, x / 1099511627776) := by
  unfold word_Unpack.f
  have e0 : Go.bits .and .u64 x 3 = x % 4 := and_u64 2 (by decide) h0 h1
  have e1 : Go.bits .and .u64 (x / 4) 1 = x / 4 % 2 := and_u64 1 (by decide) (by omega) (by omega)
  have e2 : Go.bits .and .u64 (x / 8) 8191 = x / 8 % 8192 := and_u64 13 (by decide) (by omega) (by omega)
  have e3 : Go.bits .and .u64 (x / 65536) 16777215 = x / 65536 % 16777216 := and_u64 24 (by decide) (by omega) (by omega)
  have e4 : Go.bits .and .u64 (x / 1099511627776) 16777215 = x / 1099511627776 % 16777216 := and_u64 24 (by decide) (by omega) (by omega)
  rw [e0, e1, e2, e3, e4]
  have e5 : x / 1099511627776 % 16777216 = x / 1099511627776 := by omega
  rw [e5]
  rw [w64 (by omega) (by omega), w64 (by omega) (by omega), w64 (by omega) (by omega), w64 (by omega) (by omega), w64 (by omega) (by omega)]
theorem head_true : stackyardlaw02_head.f = some true := by decide +kernel
theorem shl_one {b : Int} (h0 : 0 ≤ b) (h1 : b < 64) : 0 < shl .u64 1 b ∧ shl .u64 1 b < 18446744073709551616 := by
  unfold shl
  obtain ⟨n, rfl⟩ := Int.eq_ofNat_of_zero_le h0
  have hn : min (n : Int).toNat IntKind.u64.bits = n := by simp only [Int.toNat_natCast, IntKind.bits]; omega
  have hlt : (2 : Nat) ^ n < 2 ^ 64 := Nat.pow_lt_pow_right (by decide) (by omega)
  have hpos : 0 < (2 : Nat) ^ n := Nat.two_pow_pos n
  have hc : ((2 : Int) ^ n) = ((2 ^ n : Nat) : Int) := by simp
  rw [hn, Int.one_mul, hc, wuid (by omega) (by omega)]
  omega
theorem WordBits : stackyardlaw02_WordBits.Pure := by
  intro x bit w0 w1
  obtain ⟨h0, h1⟩ := wfu w0
  unfold stackyardlaw02_WordBits.f
  rw [head_true]
  have eb : Go.bits .and .i64 bit 63 = bit % 64 := and_i64 6 (by decide) bit
  rw [eb, wuid (a := bit % 64) (by omega) (by omega)]
  obtain ⟨s0, s1⟩ := shl_one (b := bit % 64) (by omega) (by omega)
  obtain ⟨y0, y1, hne⟩ := xor_ne h0 h1 s0 s1
  generalize Go.bits .xor .u64 x (shl .u64 1 (bit % 64)) = y at y0 y1 hne ⊢
  simp only [Option.bind_some, if_true, Unpack_eq h0 h1, Unpack_eq y0 y1, Right_eq]
  rw [if_pos (by omega : (0 : Int) ≤ bit % 64)]
  have key : (!(x % 4 == y % 4) || (!(x / 4 % 2 == y / 4 % 2) || (!(x / 8 % 8192 == y / 8 % 8192) || (!(x / 65536 % 16777216 == y / 65536 % 16777216) || !(x / 1099511627776 == y / 1099511627776))))) = true := by
    simp only [Bool.or_eq_true, Bool.not_eq_true', beq_eq_false_iff_ne]
    omega
  rw [if_pos key]
  have hp : ∀ z : Int, 0 ≤ z → z < 18446744073709551616 → RightW (z % 4) (z / 4 % 2) (z / 8 % 8192) (z / 65536 % 16777216) (z / 1099511627776) →
      word_Word_Pack.f (z % 4) (z / 4 % 2) (z / 8 % 8192) (z / 65536 % 16777216) (z / 1099511627776) = some z := fun z z0 z1 hr => by
    rw [Pack_right hr]
    congr 1
    omega
  by_cases hx : RightW (x % 4) (x / 4 % 2) (x / 8 % 8192) (x / 65536 % 16777216) (x / 1099511627776) <;>
    by_cases hy : RightW (y % 4) (y / 4 % 2) (y / 8 % 8192) (y / 65536 % 16777216) (y / 1099511627776)
  · simp [hx, hy, hp x h0 h1 hx, hp y y0 y1 hy]
  · simp [hx, hy, hp x h0 h1 hx]
  · simp [hx, hy, hp y y0 y1 hy]
  · simp [hx, hy]

end Go.Proofs.Ytjohamgpnaafaaa.Pure
