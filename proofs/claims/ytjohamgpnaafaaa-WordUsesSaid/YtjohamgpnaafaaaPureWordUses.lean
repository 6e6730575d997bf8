/- The pure law of WordUses, over numbers and lists alone: the printed Lean function of the law answers true for every argument. No condition. -/
import Derived.Test.YtjohamgpnaafaaaOwnWordUses3
import Derived.Laws.BitsLemmas
namespace Go.Proofs.Ytjohamgpnaafaaa.Pure
open Go.RowKit Go.Proofs.Ytjohamgpnaafaaa.PWordUses Go.Proofs.YtjohamgpnaafaaaW.PrintWords Go.Proofs.YtjohamgpnaafaaaW.PrintLast Go.Proofs.YtjohamgpnaafaaaW.PrintMore
set_option linter.unusedVariables false
set_option linter.unusedSimpArgs false

/-! ### numbers -/
theorem wf64 {a : Int} (h : (Lit.int .i64 a).wf = true) : -9223372036854775808 ≤ a ∧ a ≤ 9223372036854775807 := by
  simp only [Lit.wf, IntKind.min, IntKind.max, IntKind.signed, IntKind.bits, Bool.and_eq_true, decide_eq_true_eq, if_true] at h
  omega
theorem wfu {a : Int} (h : (Lit.int .u64 a).wf = true) : 0 ≤ a ∧ a < 18446744073709551616 := by
  simp [Lit.wf, IntKind.min, IntKind.max, IntKind.signed, IntKind.bits] at h
  omega
theorem w64 {a : Int} (h0 : -9223372036854775808 ≤ a) (h1 : a ≤ 9223372036854775807) : wrap64 a = a := by
  unfold wrap64
  omega
theorem wu (a : Int) : IntKind.u64.wrap a = a % 18446744073709551616 := by
  simp [IntKind.wrap, IntKind.bits, IntKind.signed]
theorem wuid {a : Int} (h0 : 0 ≤ a) (h1 : a < 18446744073709551616) : IntKind.u64.wrap a = a := by
  rw [wu]
  omega
theorem wu_pow (n : Int) (h0 : 0 ≤ n) (h1 : n < 2 ^ 64) : IntKind.u64.wrap n = n := by
  rw [wu]
  omega
/-! ### bits -/
theorem and_u64 (i : Nat) (hi : i ≤ 64) {x : Int} (h0 : 0 ≤ x) (h1 : x < 18446744073709551616) : Go.bits .and .u64 x (2 ^ i - 1) = x % 2 ^ i :=
  Go.bits_mask .u64 64 (by decide) wu_pow i hi x h0 (by omega)
theorem or_hi (i : Nat) {x y : Int} (hx0 : 0 ≤ x) (hx : x < 2 ^ i) (hx1 : x < 18446744073709551616) (hy0 : 0 ≤ y) (hy : y % 2 ^ i = 0) (hy1 : y < 18446744073709551616) : Go.bits .or .u64 x y = x + y := by
  have h := Go.bits_join .u64 64 (by decide) wu_pow i y x hy0 hy (by omega) hx0 hx (by omega)
  obtain ⟨a, rfl⟩ := Int.eq_ofNat_of_zero_le hx0
  obtain ⟨b, rfl⟩ := Int.eq_ofNat_of_zero_le hy0
  rw [(Go.bits_nat .u64 64 (by decide) wu_pow b a (by omega) (by omega)).2] at h
  rw [(Go.bits_nat .u64 64 (by decide) wu_pow a b (by omega) (by omega)).2, Nat.or_comm, h, Int.add_comm]
theorem or_lo (i : Nat) {x y : Int} (hx0 : 0 ≤ x) (hx : x % 2 ^ i = 0) (hx1 : x < 18446744073709551616) (hy0 : 0 ≤ y) (hy : y < 2 ^ i) (hy1 : y < 18446744073709551616) : Go.bits .or .u64 x y = x + y :=
  Go.bits_join .u64 64 (by decide) wu_pow i x y hx0 hx (by omega) hy0 hy (by omega)
theorem and_i64 (i : Nat) (hi : i ≤ 62) (x : Int) : Go.bits .and .i64 x (2 ^ i - 1) = x % 2 ^ i := by
  have hpos : 0 < 2 ^ i := Nat.two_pow_pos i
  have hle : 2 ^ i ≤ 2 ^ 62 := Nat.pow_le_pow_right (by decide) hi
  have hc : ((2 : Int) ^ i - 1) = ((2 ^ i - 1 : Nat) : Int) := by
    rw [Int.natCast_sub hpos]; simp
  have hm : (2 ^ i - 1) % 2 ^ 64 = 2 ^ i - 1 := Nat.mod_eq_of_lt (by omega)
  have ht : (BitVec.ofInt 64 x).toNat = (x % (2 ^ 64 : Int)).toNat := by simp [BitVec.toNat_ofInt]
  have hn : 0 ≤ x % (2 ^ 64 : Int) := Int.emod_nonneg _ (by decide)
  have hd : ((2 : Int) ^ i) ∣ (2 ^ 64 : Int) := ⟨2 ^ (64 - i), by rw [← Int.pow_add]; congr 1; omega⟩
  have hr : (((x % (2 ^ 64 : Int)).toNat % 2 ^ i : Nat) : Int) = x % 2 ^ i := by
    rw [Int.natCast_emod, Int.toNat_of_nonneg hn]
    rw [Int.natCast_pow]
    exact Int.emod_emod_of_dvd x hd
  have hb : 0 ≤ x % 2 ^ i ∧ x % 2 ^ i < 2 ^ 62 := by
    have hpz : (0 : Int) < 2 ^ i := by exact_mod_cast hpos
    have hlz : (2 : Int) ^ i ≤ 2 ^ 62 := by exact_mod_cast hle
    exact ⟨Int.emod_nonneg _ (by omega), Int.lt_of_lt_of_le (Int.emod_lt_of_pos _ hpz) hlz⟩
  rw [hc]
  show IntKind.i64.wrap (((BitVec.ofInt 64 x &&& BitVec.ofInt 64 ((2 ^ i - 1 : Nat) : Int)).toNat : Nat) : Int) = _
  rw [BitVec.ofInt_natCast, BitVec.toNat_and, BitVec.toNat_ofNat, hm, ht, Nat.and_two_pow_sub_one_eq_mod, hr, IntKind.wrap_i64]
  obtain ⟨b0, b1⟩ := hb
  generalize x % 2 ^ i = z at b0 b1 ⊢
  omega
theorem xor_ne {x s : Int} (h0 : 0 ≤ x) (h1 : x < 18446744073709551616) (s0 : 0 < s) (s1 : s < 18446744073709551616) :
    0 ≤ Go.bits .xor .u64 x s ∧ Go.bits .xor .u64 x s < 18446744073709551616 ∧ Go.bits .xor .u64 x s ≠ x := by
  obtain ⟨a, rfl⟩ := Int.eq_ofNat_of_zero_le h0
  obtain ⟨b, rfl⟩ := Int.eq_ofNat_of_zero_le (show 0 ≤ s by omega)
  show 0 ≤ IntKind.u64.wrap (((BitVec.ofInt 64 (a : Int) ^^^ BitVec.ofInt 64 (b : Int)).toNat : Nat) : Int) ∧ IntKind.u64.wrap (((BitVec.ofInt 64 (a : Int) ^^^ BitVec.ofInt 64 (b : Int)).toNat : Nat) : Int) < 18446744073709551616 ∧ IntKind.u64.wrap (((BitVec.ofInt 64 (a : Int) ^^^ BitVec.ofInt 64 (b : Int)).toNat : Nat) : Int) ≠ a
  rw [BitVec.ofInt_natCast, BitVec.ofInt_natCast]
  have hlt : (BitVec.ofNat 64 a ^^^ BitVec.ofNat 64 b).toNat < 18446744073709551616 := (BitVec.ofNat 64 a ^^^ BitVec.ofNat 64 b).isLt
  rw [wuid (by omega) (by omega)]
  refine ⟨by omega, by omega, fun h => ?_⟩
  have e1 : (BitVec.ofNat 64 a ^^^ BitVec.ofNat 64 b).toNat = (BitVec.ofNat 64 a).toNat := by
    have h5 : (BitVec.ofNat 64 a).toNat = a := by simp only [BitVec.toNat_ofNat]; omega
    rw [h5]
    omega
  have e2 : BitVec.ofNat 64 a ^^^ BitVec.ofNat 64 b = BitVec.ofNat 64 a := BitVec.eq_of_toNat_eq e1
  have e3 : BitVec.ofNat 64 a ^^^ (BitVec.ofNat 64 a ^^^ BitVec.ofNat 64 b) = BitVec.ofNat 64 a ^^^ BitVec.ofNat 64 a := by rw [e2]
  rw [← BitVec.xor_assoc, BitVec.xor_self, BitVec.zero_xor] at e3
  have e4 := congrArg BitVec.toNat e3
  simp only [BitVec.toNat_ofNat] at e4
  omega
/-! ### words -/
def RightW (s e g lo hi : Int) : Prop := 0 ≤ s ∧ s ≤ 2 ∧ 0 ≤ e ∧ e ≤ 1 ∧ 0 ≤ g ∧ g ≤ 8191 ∧ 0 ≤ lo ∧ lo ≤ 16777215 ∧ 0 ≤ hi ∧ hi ≤ 16777215
instance (s e g lo hi : Int) : Decidable (RightW s e g lo hi) := by unfold RightW; infer_instance
theorem Right_eq (s e g lo hi : Int) : word_Word_Right.f s e g lo hi = some (decide (RightW s e g lo hi)) := by
  unfold word_Word_Right.f RightW
  repeat' split
  all_goals (congr 1; first | (symm; apply decide_eq_false; omega) | (apply decide_eq_decide.2; omega))
theorem Pack_right {s e g lo hi : Int} (h : RightW s e g lo hi) : word_Word_Pack.f s e g lo hi = some (s + 4 * e + 8 * g + 65536 * lo + 1099511627776 * hi) := by
  unfold word_Word_Pack.f
  rw [Right_eq, decide_eq_true h]
  simp only [Option.bind_some, if_true]
  obtain ⟨h0, h1, h2, h3, h4, h5, h6, h7, h8, h9⟩ := h
  rw [wuid h0 (by omega), wuid h2 (by omega), wuid h4 (by omega), wuid h6 (by omega), wuid h8 (by omega)]
  rw [wuid (a := e * 4) (by omega) (by omega), wuid (a := g * 8) (by omega) (by omega), wuid (a := lo * 65536) (by omega) (by omega), wuid (a := hi * 1099511627776) (by omega) (by omega)]
  rw [or_hi 2 (x := s) (y := e * 4) (by omega) (by omega) (by omega) (by omega) (by omega) (by omega)]
  rw [or_hi 3 (x := s + e * 4) (y := g * 8) (by omega) (by omega) (by omega) (by omega) (by omega) (by omega)]
  rw [or_hi 16 (x := s + e * 4 + g * 8) (y := lo * 65536) (by omega) (by omega) (by omega) (by omega) (by omega) (by omega)]
  rw [or_hi 40 (x := s + e * 4 + g * 8 + lo * 65536) (y := hi * 1099511627776) (by omega) (by omega) (by omega) (by omega) (by omega) (by omega)]
  congr 1
  omega
theorem Pack_wrong {s e g lo hi : Int} (h : ¬ RightW s e g lo hi) : word_Word_Pack.f s e g lo hi = some 0 := by
  unfold word_Word_Pack.f
  rw [Right_eq, decide_eq_false h]
  rfl
theorem Unpack_eq {x : Int} (h0 : 0 ≤ x) (h1 : x < 18446744073709551616) : word_Unpack.f x = some (x % 4, x / 4 % 2, x / 8 % 8192, x / 65536 % 16777216, x / 1099511627776) := by
  unfold word_Unpack.f
  have e0 : Go.bits .and .u64 x 3 = x % 4 := and_u64 2 (by decide) h0 h1
  have e1 : Go.bits .and .u64 (x / 4) 1 = x / 4 % 2 := and_u64 1 (by decide) (by omega) (by omega)
  have e2 : Go.bits .and .u64 (x / 8) 8191 = x / 8 % 8192 := and_u64 13 (by decide) (by omega) (by omega)
  have e3 : Go.bits .and .u64 (x / 65536) 16777215 = x / 65536 % 16777216 := and_u64 24 (by decide) (by omega) (by omega)
  have e4 : Go.bits .and .u64 (x / 1099511627776) 16777215 = x / 1099511627776 % 16777216 := and_u64 24 (by decide) (by omega) (by omega)
  rw [e0, e1, e2, e3, e4]
  have e5 : x / 1099511627776 % 16777216 = x / 1099511627776 := by omega
  rw [e5]
  rw [w64 (by omega) (by omega), w64 (by omega) (by omega), w64 (by omega) (by omega), w64 (by omega) (by omega), w64 (by omega) (by omega)]
/-! ### lists of numbers, read -/
theorem rd_lt {xs ys : List Int} {i : Int} (h0 : 0 ≤ i) (h : i < (xs.length : Int)) : rd (xs ++ ys) i = rd xs i := by
  unfold rd
  rw [List.getD_eq_getElem?_getD, List.getD_eq_getElem?_getD, List.getElem?_append_left (by omega)]
theorem rd_end {xs : List Int} {a : Int} {i : Int} (h : i = (xs.length : Int)) : rd (xs ++ [a]) i = a := by
  unfold rd
  have : i.toNat = xs.length := by omega
  rw [List.getD_eq_getElem?_getD, this, List.getElem?_append_right (Nat.le_refl _), Nat.sub_self]
  rfl
theorem rd_take {xs : List Int} {n : Nat} {i : Int} (h0 : 0 ≤ i) (h : i < (n : Int)) : rd (xs.take n) i = rd xs i := by
  unfold rd
  rw [List.getD_eq_getElem?_getD, List.getD_eq_getElem?_getD, List.getElem?_take, if_pos (by omega)]
theorem head_true : stackyardlaw02_head.f = some true := by decide +kernel
def cm (p : Int) : Int := if p = 0 then 0 else if p % 2 = 1 then 1 else 2
def Inv (seen : List Int) (i : Int) : Prop := (seen.length : Int) = 2 * i + 1 ∧ ∀ p : Int, 0 ≤ p → p < 2 * i + 1 → rd seen p % 4 = cm p ∧ rd seen p / 8 % 8192 = (p + 1) / 2
theorem inv_apart {seen : List Int} {i p q : Int} (h : Inv seen i) (p0 : 0 ≤ p) (hpq : p < q) (q1 : q < 2 * i + 1) : rd seen q ≠ rd seen p := by
  intro e
  obtain ⟨a1, a2⟩ := h.2 p p0 (by omega)
  obtain ⟨b1, b2⟩ := h.2 q (by omega) q1
  rw [e] at b1 b2
  rw [a1] at b1
  rw [a2] at b2
  unfold cm at b1
  split at b1 <;> split at b1 <;> omega
theorem inv_next {seen : List Int} {i x y : Int} (h : Inv seen i) (hi : 0 ≤ i) (x1 : x % 4 = 1) (x2 : x / 8 % 8192 = i + 1) (y1 : y % 4 = 2) (y2 : y / 8 % 8192 = i + 1) : Inv ((seen ++ [x]) ++ [y]) (i + 1) := by
  obtain ⟨hl, hp⟩ := h
  have l1 : ((seen ++ [x]).length : Int) = 2 * i + 2 := by rw [List.length_append]; simp; omega
  refine ⟨by rw [List.length_append]; simp; omega, fun p p0 p1 => ?_⟩
  by_cases c0 : p < 2 * i + 1
  · rw [rd_lt p0 (by omega), rd_lt p0 (by omega)]
    exact hp p p0 c0
  · by_cases c1 : p = 2 * i + 1
    · rw [rd_lt p0 (by omega), rd_end (by omega), x1, x2]
      unfold cm
      rw [if_neg (by omega), if_pos (by omega)]
      omega
    · rw [rd_end (by omega), y1, y2]
      unfold cm
      rw [if_neg (by omega), if_neg (by omega)]
      omega
section
variable {l : List Bool} {seen : List Int} {n a b c d e : Int}
theorem WU2 (h : Inv seen n) (i : Int) (hi : i < 2 * n + 1) (i0 : 0 ≤ i) (hsm : n ≤ 60) (hnext : Ev (fun k => stackyardlaw02_WordUses.l1 k l seen seen (seen.length : Int) (wrap64 (i + 1)) a b c d e) true) :
    ∀ (m : Nat) (j : Int), 0 ≤ j → j ≤ i → i - j = m → Ev (fun k => stackyardlaw02_WordUses.l2 k l seen (rd seen i) seen (seen.length : Int) i (seen.take i.toNat) ((seen.take i.toNat).length : Int) j a b c d e) true := by
  have hlen : ((seen.take i.toNat).length : Int) = i := by rw [List.length_take]; have := h.1; omega
  intro m
  induction m with
  | zero =>
    intro j h0 h1 hm
    obtain ⟨K, hK⟩ := hnext
    refine ⟨K + 1, fun k hk => ?_⟩
    obtain ⟨k, rfl⟩ : ∃ m, k = m + 1 := ⟨k - 1, by omega⟩
    simp only [stackyardlaw02_WordUses.l2]
    rw [if_neg (by omega)]
    exact hK k (by omega)
  | succ m ih =>
    intro j h0 h1 hm
    obtain ⟨K, hK⟩ := ih (j + 1) (by omega) (by omega) (by omega)
    refine ⟨K + 1, fun k hk => ?_⟩
    obtain ⟨k, rfl⟩ : ∃ m, k = m + 1 := ⟨k - 1, by omega⟩
    simp only [stackyardlaw02_WordUses.l2]
    rw [if_pos (by omega), if_pos (by omega), if_pos (by omega), rd_take (by omega) (by omega), if_neg (inv_apart h h0 (by omega) hi), w64 (a := j + 1) (by omega) (by omega)]
    exact hK k (by omega)
theorem WU1 (h : Inv seen n) (hsm : n ≤ 60) (hn : n = (l.length : Int)) : ∀ (m : Nat) (i : Int), 0 ≤ i → i ≤ 2 * n + 1 → 2 * n + 1 - i = m → Ev (fun k => stackyardlaw02_WordUses.l1 k l seen seen (seen.length : Int) i a b n d e) true := by
  have hl := h.1
  intro m
  induction m with
  | zero =>
    intro i h0 h1 hm
    refine ⟨1, fun k hk => ?_⟩
    obtain ⟨k, rfl⟩ : ∃ m, k = m + 1 := ⟨k - 1, by omega⟩
    simp only [stackyardlaw02_WordUses.l1]
    rw [if_neg (by omega), hn, beq_self_eq_true]
  | succ m ih =>
    intro i h0 h1 hm
    have h3 := ih (i + 1) (by omega) (by omega) (by omega)
    obtain ⟨K, hK⟩ := WU2 (l := l) (a := a) (b := b) (c := n) (d := d) (e := e) h i (by omega) h0 hsm (by rw [w64 (a := i + 1) (by omega) (by omega)]; exact h3) i.toNat 0 (by omega) h0 (by omega)
    refine ⟨K + 1, fun k hk => ?_⟩
    obtain ⟨k, rfl⟩ : ∃ m, k = m + 1 := ⟨k - 1, by omega⟩
    simp only [stackyardlaw02_WordUses.l1]
    rw [if_pos (by omega), if_pos (by omega), if_pos (by omega), if_pos (by omega)]
    simp only [Option.bind_some]
    exact hK k (by omega)
theorem WU0 {lo hi : Int} (lo0 : 0 ≤ lo) (lohi : lo ≤ hi) (hi1 : hi < 16777215) (hsm : (l.length : Int) ≤ 60) : ∀ (m : Nat) (i : Int) (seen : List Int) (a b d e : Int), 0 ≤ i → i ≤ (l.length : Int) → (l.length : Int) - i = m → Inv seen i →
    Ev (fun k => stackyardlaw02_WordUses.l0 k l seen l (l.length : Int) i lo hi a b i d e) true := by
  intro m
  induction m with
  | zero =>
    intro i seen a b d e h0 h1 hm hI
    have hn : i = (l.length : Int) := by omega
    obtain ⟨K, hK⟩ := WU1 (l := l) (a := a) (b := b) (d := d) (e := e) hI (by omega) hn (2 * i + 1).toNat 0 (by omega) (by omega) (by omega)
    refine ⟨K + 1, fun k hk => ?_⟩
    obtain ⟨k, rfl⟩ : ∃ m, k = m + 1 := ⟨k - 1, by omega⟩
    simp only [stackyardlaw02_WordUses.l0]
    rw [if_neg (by omega)]
    exact hK k (by omega)
  | succ m ih =>
    intro i seen a b d e h0 h1 hm hI
    have hj : ∀ z : Int, z = 0 ∨ z = 1 → Ev (fun k => stackyardlaw02_WordUses.j2 k l seen z l (l.length : Int) i lo hi a b i d e) true := by
      intro z hz
      have r1 : RightW 1 z (i + 1) lo hi := by unfold RightW; omega
      have r2 : RightW 2 z (i + 1) lo hi := by unfold RightW; omega
      obtain ⟨K, hK⟩ := ih (i + 1) ((seen ++ [1 + 4 * z + 8 * (i + 1) + 65536 * lo + 1099511627776 * hi]) ++ [2 + 4 * z + 8 * (i + 1) + 65536 * lo + 1099511627776 * hi]) 2 z lo hi (by omega) (by omega) (by omega)
        (inv_next hI h0 (by omega) (by omega) (by omega) (by omega))
      refine ⟨K + 1, fun k hk => ?_⟩
      obtain ⟨k, rfl⟩ : ∃ m, k = m + 1 := ⟨k - 1, by omega⟩
      have hl := hI.1
      simp only [stackyardlaw02_WordUses.j2, word_Word_Next.f, word_Word_Taken.f, Option.bind_some]
      rw [w64 (a := i + 1) (by omega) (by omega), Pack_right r1, Pack_right r2]
      simp only [Option.bind_some]
      rw [if_pos (by omega), if_pos (by rw [List.length_append]; simp; omega)]
      exact hK k (by omega)
    obtain ⟨K0, hK0⟩ := hj 0 (.inl rfl)
    obtain ⟨K1, hK1⟩ := hj 1 (.inr rfl)
    refine ⟨K0 + K1 + 1, fun k hk => ?_⟩
    obtain ⟨k, rfl⟩ : ∃ m, k = m + 1 := ⟨k - 1, by omega⟩
    simp only [stackyardlaw02_WordUses.l0]
    rw [if_pos (by omega), if_pos (by omega), if_pos (by omega)]
    split
    · exact hK1 k (by omega)
    · exact hK0 k (by omega)
end
theorem WordUses : ∀ (l0 : List Bool) (a1_0 : Int) (a1_1 : Int), (∀ x ∈ l0, True) → ((Lit.int .i64 a1_0).wf = true) → ((Lit.int .i64 a1_1).wf = true) → ∃ k, stackyardlaw02_WordUses.f k l0 a1_0 a1_1 = some true := by
  intro l lo hi _ w0 w1
  by_cases hsm : (l.length : Int) ≤ 60
  · by_cases hr : 0 ≤ lo ∧ lo ≤ hi ∧ hi < 16777215
    · obtain ⟨r0, r1, r2⟩ := hr
      have I0 : Inv [0] 0 := by
        refine ⟨by simp, fun p p0 p1 => ?_⟩
        obtain rfl : p = 0 := by omega
        exact ⟨by simp [rd, cm], by simp [rd]⟩
      obtain ⟨K, hK⟩ := WU0 (l := l) r0 r1 r2 hsm l.length 0 [0] 0 0 0 0 (by omega) (by omega) (by omega) I0
      refine ⟨K + 1, ?_⟩
      unfold stackyardlaw02_WordUses.f
      rw [head_true]
      simp only [Option.bind_some, if_true]
      rw [if_neg (by omega)]
      have e : stamp_Stamp_Right.f lo hi = some true := by
        unfold stamp_Stamp_Right.f
        rw [if_pos (by omega), if_pos (by omega), decide_eq_true r2]
      have p0 : word_Word_Pack.f 0 0 0 0 0 = some 0 := by decide +kernel
      rw [e]
      simp only [Option.bind_some, stackyardlaw02_WordUses.j0]
      rw [if_neg (by decide), p0]
      exact hK K (Nat.le_refl _)
    · refine ⟨1, ?_⟩
      unfold stackyardlaw02_WordUses.f
      rw [head_true]
      simp only [Option.bind_some, if_true]
      rw [if_neg (by omega)]
      have e : stamp_Stamp_Right.f lo hi = some false := by
        unfold stamp_Stamp_Right.f
        repeat' split
        all_goals first | rfl | (congr 1; apply decide_eq_false; omega)
      rw [e]
      simp [stackyardlaw02_WordUses.j0]
  · refine ⟨1, ?_⟩
    unfold stackyardlaw02_WordUses.f
    rw [head_true]
    simp only [Option.bind_some, if_true]
    rw [if_pos (by omega)]
    simp [stackyardlaw02_WordUses.j0]

end Go.Proofs.Ytjohamgpnaafaaa.Pure
