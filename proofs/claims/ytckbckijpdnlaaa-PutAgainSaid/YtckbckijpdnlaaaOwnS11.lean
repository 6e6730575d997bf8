/- The second engine, part 11: words for the plain parts. A lemma file: it claims nothing of the program. -/
import Derived.Test.YtckbckijpdnlaaaOwnS10
import Derived.Laws.BitsLemmas
set_option linter.unusedVariables false
set_option linter.unusedSimpArgs false
namespace Go.Proofs.Ytckbckijpdnlaaa.Sy
open Go Go.Lib Go.Proofs.Ytckbckijpdnlaaa.Eng Go.RowKit

theorem w64 {x : Int} (h1 : -9223372036854775808 ≤ x) (h2 : x ≤ 9223372036854775807) : IntKind.i64.wrap x = x := by
  rw [IntKind.wrap_i64]; omega
theorem wu64 {x : Int} (h1 : 0 ≤ x) (h2 : x ≤ 18446744073709551615) : IntKind.u64.wrap x = x := by
  simp only [IntKind.wrap, IntKind.bits, IntKind.signed]
  simp
  omega
theorem wu64' (x : Int) : IntKind.u64.wrap x = x % 18446744073709551616 := by
  simp [IntKind.wrap, IntKind.bits, IntKind.signed]
theorem and_i64 (i : Nat) (hi : i ≤ 62) (x : Int) : Go.bits .and .i64 x (2 ^ i - 1) = x % 2 ^ i := by
  have hpos : 0 < 2 ^ i := Nat.two_pow_pos i
  have hle : 2 ^ i ≤ 2 ^ 62 := Nat.pow_le_pow_right (by decide) hi
  have hc : ((2 : Int) ^ i - 1) = ((2 ^ i - 1 : Nat) : Int) := by
    rw [Int.natCast_sub hpos]; simp
  have hm : (2 ^ i - 1) % 2 ^ 64 = 2 ^ i - 1 := Nat.mod_eq_of_lt (by omega)
  have ht : (BitVec.ofInt 64 x).toNat = (x % (2 ^ 64 : Int)).toNat := by simp [BitVec.toNat_ofInt]
  have hn : 0 ≤ x % (2 ^ 64 : Int) := Int.emod_nonneg _ (by decide)
  have hd : ((2 : Int) ^ i) ∣ (2 ^ 64 : Int) := ⟨2 ^ (64 - i), by rw [← Int.pow_add]; congr 1; omega⟩
  have hr : (((x % (2 ^ 64 : Int)).toNat % 2 ^ i : Nat) : Int) = x % 2 ^ i := by
    rw [Int.natCast_emod, Int.toNat_of_nonneg hn]
    rw [Int.natCast_pow]
    exact Int.emod_emod_of_dvd x hd
  have hb : 0 ≤ x % 2 ^ i ∧ x % 2 ^ i < 2 ^ 62 := by
    have hpz : (0 : Int) < 2 ^ i := by exact_mod_cast hpos
    have hlz : (2 : Int) ^ i ≤ 2 ^ 62 := by exact_mod_cast hle
    exact ⟨Int.emod_nonneg _ (by omega), Int.lt_of_lt_of_le (Int.emod_lt_of_pos _ hpz) hlz⟩
  rw [hc]
  show IntKind.i64.wrap (((BitVec.ofInt 64 x &&& BitVec.ofInt 64 ((2 ^ i - 1 : Nat) : Int)).toNat : Nat) : Int) = _
  rw [BitVec.ofInt_natCast, BitVec.toNat_and, BitVec.toNat_ofNat, hm, ht, Nat.and_two_pow_sub_one_eq_mod, hr, IntKind.wrap_i64]
  obtain ⟨b0, b1⟩ := hb
  generalize x % 2 ^ i = z at b0 b1 ⊢
  omega
theorem and1 (x : Int) : Go.bits .and .i64 x 1 = x % 2 := and_i64 1 (by decide) x
theorem and3 (x : Int) : Go.bits .and .i64 x 3 = x % 4 := and_i64 2 (by decide) x
theorem and7 (x : Int) : Go.bits .and .i64 x 7 = x % 8 := and_i64 3 (by decide) x
theorem and15 (x : Int) : Go.bits .and .i64 x 15 = x % 16 := and_i64 4 (by decide) x
theorem and65535 (x : Int) : Go.bits .and .i64 x 65535 = x % 65536 := and_i64 16 (by decide) x
theorem and24 (x : Int) : Go.bits .and .i64 x 16777215 = x % 16777216 := and_i64 24 (by decide) x
theorem tmod_pos {a b : Int} (h : 0 ≤ a) : a.tmod b = a % b := Int.tmod_eq_emod_of_nonneg h
theorem tdiv_pos {a b : Int} (h : 0 ≤ a) : a.tdiv b = a / b := Int.tdiv_eq_ediv_of_nonneg h
section
variable {v : Val} {α : Type} {ψ : Kn → α → Prop}
theorem TOK.br' {c : E} {t e : Tree α} (h1 : (den v c).b = true → TOK v ψ t) (h2 : (den v c).b = false → TOK v ψ e) : TOK v ψ (.br c t e) := ⟨h1, h2⟩
theorem TOK.need' {c : E} {t : Tree α} {n : Nat} (h : (den v c).b = true) (h1 : TOK v ψ t) : TOK v ψ (.br c t (.bad n)) := ⟨fun _ => h1, fun h2 => (by rw [h] at h2; cases h2)⟩
theorem TOK.needn' {c : E} {t : Tree α} {n : Nat} (h : (den v c).b = false) (h1 : TOK v ψ t) : TOK v ψ (.br c (.bad n) t) := ⟨fun h2 => (by rw [h] at h2; cases h2), fun _ => h1⟩
theorem TOK.leaf' {kn : Kn} {a : α} (h : ψ kn a) : TOK v ψ (.leaf kn a) := h
theorem lit_i64 {a : Int} (h : (Lit.int .i64 a).wf = true) : -9223372036854775808 ≤ a ∧ a ≤ 9223372036854775807 := by
  simpa [Lit.wf, IntKind.min, IntKind.max, IntKind.signed, IntKind.bits] using h
theorem lit_u64 {a : Int} (h : (Lit.int .u64 a).wf = true) : 0 ≤ a ∧ a ≤ 18446744073709551615 := by
  simpa [Lit.wf, IntKind.min, IntKind.max, IntKind.signed, IntKind.bits] using h
end
theorem nth0 {α : Type} (d x : α) (l : List α) : nth d (x :: l) 0 = x := rfl
theorem nthS {α : Type} (d x : α) (l : List α) (n : Nat) : nth d (x :: l) (n + 1) = nth d l n := rfl
/-! what terms stand for, one by one -/
section
variable {v : Val} {a b c : E}
theorem d_vi (n : Nat) : (den v (.vi n)).i = nth 0 v.i n := rfl
theorem d_vb (n : Nat) : (den v (.vb n)).b = nth false v.b n := rfl
theorem d_vr (n : Nat) : (den v (.vr n)).r = nth [] v.r n := rfl
theorem d_ci (z : Int) : (den v (.ci z)).i = z := rfl
theorem d_cb (z : Bool) : (den v (.cb z)).b = z := rfl
theorem d_nr : (den v .nr).r = [] := rfl
theorem d_nl : (den v .nl).l = [] := rfl
theorem d_add : (den v (.o2 .add a b)).i = (den v a).i + (den v b).i := rfl
theorem d_sub : (den v (.o2 .sub a b)).i = (den v a).i - (den v b).i := rfl
theorem d_mul : (den v (.o2 .mul a b)).i = (den v a).i * (den v b).i := rfl
theorem d_rem : (den v (.o2 .rem a b)).i = (den v a).i.tmod (den v b).i := rfl
theorem d_quo (k : IntKind) : (den v (.o2 (.quo k) a b)).i = k.wrap ((den v a).i.tdiv (den v b).i) := rfl
theorem d_bit (o : BinOp) (k : IntKind) : (den v (.o2 (.bit o k) a b)).i = bits o k (den v a).i (den v b).i := rfl
theorem d_mn : (den v (.o2 .mn a b)).i = if (den v b).i < (den v a).i then (den v b).i else (den v a).i := rfl
theorem d_mx : (den v (.o2 .mx a b)).i = if (den v a).i < (den v b).i then (den v b).i else (den v a).i := rfl
theorem d_w (k : IntKind) : (den v (.o1 (.w k) a)).i = k.wrap (den v a).i := rfl
theorem d_nn : (den v (.o1 .nn a)).i = ((den v a).i.toNat : Int) := rfl
theorem d_bn : (den v (.o1 .bn a)).i = if (den v a).b = true then 1 else 0 := rfl
theorem d_len : (den v (.o1 .len a)).i = ((den v a).r.length : Int) := rfl
theorem d_neg : (den v (.o1 .neg a)).i = 0 - (den v a).i := rfl
theorem d_at (n : Nat) : (den v (.o3 .at a b (.ci (n : Int)))).i = nth 0 ((den v a).r.getD (den v b).i.toNat []) n := by simp [den, den3, mkI]
theorem d_at0 : (den v (.o3 .at a b (.ci 0))).i = nth 0 ((den v a).r.getD (den v b).i.toNat []) 0 := rfl
theorem d_at1 : (den v (.o3 .at a b (.ci 1))).i = nth 0 ((den v a).r.getD (den v b).i.toNat []) 1 := rfl
theorem d_at2 : (den v (.o3 .at a b (.ci 2))).i = nth 0 ((den v a).r.getD (den v b).i.toNat []) 2 := rfl
theorem d_at3 : (den v (.o3 .at a b (.ci 3))).i = nth 0 ((den v a).r.getD (den v b).i.toNat []) 3 := rfl
theorem d_at4 : (den v (.o3 .at a b (.ci 4))).i = nth 0 ((den v a).r.getD (den v b).i.toNat []) 4 := rfl
theorem d_at5 : (den v (.o3 .at a b (.ci 5))).i = nth 0 ((den v a).r.getD (den v b).i.toNat []) 5 := rfl
theorem d_at6 : (den v (.o3 .at a b (.ci 6))).i = nth 0 ((den v a).r.getD (den v b).i.toNat []) 6 := rfl
theorem d_at7 : (den v (.o3 .at a b (.ci 7))).i = nth 0 ((den v a).r.getD (den v b).i.toNat []) 7 := rfl
theorem d_set : (den v (.o3 .set a b c)).r = (den v a).r.set (den v b).i.toNat (den v c).l := rfl
theorem d_app : (den v (.o2 .app a b)).r = (den v a).r ++ [(den v b).l] := rfl
theorem d_cat : (den v (.o2 .cat a b)).r = (den v a).r ++ (den v b).r := rfl
theorem d_take : (den v (.o2 .take a b)).r = (den v b).r.take (den v a).i.toNat := rfl
theorem d_drop : (den v (.o2 .drop a b)).r = (den v b).r.drop (den v a).i.toNat := rfl
theorem d_rep : (den v (.o2 .rep a b)).r = List.replicate (den v a).i.toNat (den v b).l := rfl
theorem d_cons : (den v (.o2 .cons a b)).l = (den v a).i :: (den v b).l := rfl
theorem d_lt_t : ((den v (.o2 .lt a b)).b = true) = ((den v a).i < (den v b).i) := by simp [den, den2, mkB]
theorem d_lt_f : ((den v (.o2 .lt a b)).b = false) = ((den v b).i ≤ (den v a).i) := by simp [den, den2, mkB]
theorem d_le_t : ((den v (.o2 .le a b)).b = true) = ((den v a).i ≤ (den v b).i) := by simp [den, den2, mkB]
theorem d_le_f : ((den v (.o2 .le a b)).b = false) = ((den v b).i < (den v a).i) := by simp [den, den2, mkB]
theorem d_eqi_t : ((den v (.o2 .eqi a b)).b = true) = ((den v a).i = (den v b).i) := by simp [den, den2, mkB]
theorem d_eqi_f : ((den v (.o2 .eqi a b)).b = false) = (¬ (den v a).i = (den v b).i) := by simp [den, den2, mkB]
theorem d_eqb_t : ((den v (.o2 .eqb a b)).b = true) = ((den v a).b = (den v b).b) := by simp [den, den2, mkB]
theorem d_eqb_f : ((den v (.o2 .eqb a b)).b = false) = (¬ (den v a).b = (den v b).b) := by simp [den, den2, mkB]
theorem d_lt_b : (den v (.o2 .lt a b)).b = decide ((den v a).i < (den v b).i) := rfl
theorem d_le_b : (den v (.o2 .le a b)).b = decide ((den v a).i ≤ (den v b).i) := rfl
theorem d_eqi_b : (den v (.o2 .eqi a b)).b = ((den v a).i == (den v b).i) := rfl
theorem d_eqb_b : (den v (.o2 .eqb a b)).b = ((den v a).b == (den v b).b) := rfl
theorem d_and_b : (den v (.o2 .and a b)).b = ((den v a).b && (den v b).b) := rfl
theorem d_or_b : (den v (.o2 .or a b)).b = ((den v a).b || (den v b).b) := rfl
theorem d_not_b : (den v (.o1 .not a)).b = !(den v a).b := rfl
theorem d_nb_t : ((den v (.o1 .nb a)).b = true) = (¬ (den v a).i = 0) := by simp [den, den1, mkB]
theorem d_nb_f : ((den v (.o1 .nb a)).b = false) = ((den v a).i = 0) := by simp [den, den1, mkB]
theorem d_nb_b : (den v (.o1 .nb a)).b = decide ((den v a).i ≠ 0) := rfl
end
end Go.Proofs.Ytckbckijpdnlaaa.Sy
