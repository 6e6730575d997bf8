/- Plain lemmas on texts: what is put in, what is cut out. A lemma file: it claims nothing of the program. -/
import Derived.Test.YtpgkbdkkcladcaaDoorOwnPhi20
set_option linter.unusedVariables false
set_option linter.unusedSimpArgs false
namespace Go.Proofs.YtpgkbdkkcladcaaDoor.Sy
open Go Go.Lib Go.Proofs.YtpgkbdkkcladcaaDoor.Tx
theorem ins_iff {a b : Bs} {k : Int} : insE a k b = 0 ↔ validD a = true ∧ validD b = true ∧ 0 ≤ k ∧ k ≤ ((sg a).length : Int) ∧ ((sg a).length : Int) + ((sg b).length : Int) ≤ 4000 := by
  unfold insE
  by_cases h : validD a = true ∧ validD b = true
  · rw [if_pos h]
    by_cases hk : 0 ≤ k ∧ k ≤ ((sg a).length : Int)
    · rw [if_pos hk]
      by_cases hn : 4000 < ((sg a).length : Int) + ((sg b).length : Int)
      · rw [if_pos hn]; exact ⟨fun g => by omega, fun g => by omega⟩
      · rw [if_neg hn]; exact ⟨fun _ => ⟨h.1, h.2, hk.1, hk.2, by omega⟩, fun _ => rfl⟩
    · rw [if_neg hk]; exact ⟨fun g => by omega, fun g => absurd ⟨g.2.2.1, g.2.2.2.1⟩ hk⟩
  · rw [if_neg h]; exact ⟨fun g => by omega, fun g => absurd ⟨g.1, g.2.1⟩ h⟩
theorem ins_t {a b : Bs} {k : Int} (h : insE a k b = 0) : insT a k b = ((sg a).take k.toNat).flatten ++ b ++ ((sg a).drop k.toNat).flatten := by unfold insT; rw [if_pos h]
theorem ins_sg {a b : Bs} {k : Int} (h : insE a k b = 0) : sg (insT a k b) = (sg a).take k.toNat ++ sg b ++ (sg a).drop k.toNat ∧ validD (insT a k b) = true := by
  obtain ⟨h1, h2, h3, h4, h5⟩ := ins_iff.1 h
  have m1 := mem_take (valid_all a h1) k.toNat
  have m2 := mem_drop (valid_all a h1) k.toNat
  rw [ins_t h, List.append_assoc]
  constructor
  · rw [sg_join m1, sg_cat h2, sg_flat' m2, List.append_assoc]
  · rw [valid_join m1, valid_cat h2, valid_flat m2]
theorem cut_iff {a : Bs} {k n : Int} : cutE a k n = 0 ↔ validD a = true ∧ 0 ≤ k ∧ k ≤ ((sg a).length : Int) ∧ 0 ≤ n ∧ n ≤ ((sg a).length : Int) - k := by
  unfold cutE
  by_cases h : validD a = true
  · rw [if_pos h]
    by_cases hk : (0 ≤ k ∧ k ≤ ((sg a).length : Int)) ∧ 0 ≤ n ∧ n ≤ ((sg a).length : Int) - k
    · rw [if_pos hk]; exact ⟨fun _ => ⟨h, hk.1.1, hk.1.2, hk.2.1, hk.2.2⟩, fun _ => rfl⟩
    · rw [if_neg hk]; exact ⟨fun g => by omega, fun g => absurd ⟨⟨g.2.1, g.2.2.1⟩, g.2.2.2⟩ hk⟩
  · rw [if_neg h]; exact ⟨fun g => by omega, fun g => absurd g.1 h⟩
theorem cut_t {a : Bs} {k n : Int} (h : cutE a k n = 0) : cutR a k n = ((sg a).take k.toNat).flatten ++ ((sg a).drop (k.toNat + n.toNat)).flatten ∧ cutC a k n = (((sg a).drop k.toNat).take n.toNat).flatten := by
  unfold cutR cutC; rw [if_pos h, if_pos h]; exact ⟨rfl, rfl⟩
theorem cut_sg {a : Bs} {k n : Int} (h : cutE a k n = 0) : sg (cutR a k n) = (sg a).take k.toNat ++ (sg a).drop (k.toNat + n.toNat) ∧ validD (cutR a k n) = true ∧ sg (cutC a k n) = ((sg a).drop k.toNat).take n.toNat ∧ validD (cutC a k n) = true := by
  obtain ⟨h1, h2, h3, h4, h5⟩ := cut_iff.1 h
  obtain ⟨e1, e2⟩ := cut_t h
  have m := valid_all a h1
  rw [e1, e2]
  refine ⟨?_, ?_, sg_flat' (mem_take (mem_drop m _) _), valid_flat (mem_take (mem_drop m _) _)⟩
  · rw [sg_join (mem_take m _), sg_flat' (mem_drop m _)]
  · rw [valid_join (mem_take m _), valid_flat (mem_drop m _)]
theorem sg_parts (a : Bs) (k : Nat) : ((sg a).take k).flatten ++ ((sg a).drop k).flatten = a := by rw [← List.flatten_append, List.take_append_drop, sg_flat]
/-- Put in, and cut out again. -/
theorem back1 {a b : Bs} {k : Int} (h : insE a k b = 0) : cutE (insT a k b) k ((sg b).length : Int) = 0 ∧ cutR (insT a k b) k ((sg b).length : Int) = a ∧ cutC (insT a k b) k ((sg b).length : Int) = b := by
  obtain ⟨h1, h2, h3, h4, h5⟩ := ins_iff.1 h
  obtain ⟨e1, e2⟩ := ins_sg h
  have hk : ((sg a).take k.toNat).length = k.toNat := by rw [List.length_take]; omega
  have hl : (sg (insT a k b)).length = (sg a).length + (sg b).length := by rw [e1]; simp only [List.length_append, List.length_take, List.length_drop]; omega
  have hc : cutE (insT a k b) k ((sg b).length : Int) = 0 := cut_iff.2 ⟨e2, h3, by omega, by omega, by omega⟩
  obtain ⟨c1, c2⟩ := cut_t hc
  rw [e1] at c1 c2
  refine ⟨hc, ?_, ?_⟩
  · rw [c1, List.append_assoc, List.take_left' hk, Int.toNat_natCast, ← List.append_assoc, List.drop_left' (by rw [List.length_append, hk]), sg_parts]
  · rw [c2, List.append_assoc, List.drop_left' hk, Int.toNat_natCast, List.take_left' rfl, sg_flat]
/-- Cut out, and put in again. -/
theorem back2 {a : Bs} {k n : Int} (h : cutE a k n = 0) (hm : ((sg a).length : Int) ≤ 4000) : insE (cutR a k n) k (cutC a k n) = 0 ∧ insT (cutR a k n) k (cutC a k n) = a := by
  obtain ⟨h1, h2, h3, h4, h5⟩ := cut_iff.1 h
  obtain ⟨e1, e2, e3, e4⟩ := cut_sg h
  have hk : ((sg a).take k.toNat).length = k.toNat := by rw [List.length_take]; omega
  have hi : insE (cutR a k n) k (cutC a k n) = 0 := by
    refine ins_iff.2 ⟨e2, e4, h2, ?_, ?_⟩
    · rw [e1, List.length_append, hk]; omega
    · rw [e1, e3]; simp only [List.length_append, List.length_take, List.length_drop]; omega
  refine ⟨hi, ?_⟩
  rw [ins_t hi, e1, List.take_left' hk, List.drop_left' hk, (cut_t h).2, ← List.drop_drop, List.append_assoc, ← List.flatten_append, List.take_append_drop, sg_parts]
theorem ins3 {a : Bs} {k : Int} {b : Bs} (h : validD a = false) : insE a k b = 3 := by unfold insE; rw [if_neg (by rw [h]; simp)]
theorem cut3 {a : Bs} {k n : Int} (h : validD a = false) : cutE a k n = 3 := by unfold cutE; rw [h]; rfl
/-- Two texts at one place. -/
theorem ins_two {s t u : Bs} {k : Int} (hs : validD s = true) (ht : validD t = true) (hu : validD u = true) (h0 : 0 ≤ k) (h1 : k ≤ ((sg s).length : Int)) (hl : ((sg s).length : Int) + ((sg t).length : Int) + ((sg u).length : Int) ≤ 4000) :
    insE s k t = 0 ∧ insE (insT s k t) k u = 0 ∧ insE (insT s k t) (k + ((sg t).length : Int)) u = 0 ∧ insE s k (u ++ t) = 0 ∧ insE s k (t ++ u) = 0 ∧
    insT (insT s k t) k u = insT s k (u ++ t) ∧ insT (insT s k t) (k + ((sg t).length : Int)) u = insT s k (t ++ u) := by
  have e1 : insE s k t = 0 := ins_iff.2 ⟨hs, ht, h0, h1, by omega⟩
  obtain ⟨g1, g2⟩ := ins_sg e1
  have hk : ((sg s).take k.toNat).length = k.toNat := by rw [List.length_take]; omega
  have hgl : (sg (insT s k t)).length = (sg s).length + (sg t).length := by rw [g1]; simp only [List.length_append, List.length_take, List.length_drop]; omega
  have e2 : insE (insT s k t) k u = 0 := ins_iff.2 ⟨g2, hu, h0, by omega, by omega⟩
  have e3 : insE (insT s k t) (k + ((sg t).length : Int)) u = 0 := ins_iff.2 ⟨g2, hu, by omega, by omega, by omega⟩
  have e4 : insE s k (u ++ t) = 0 := ins_iff.2 ⟨hs, by rw [valid_cat hu]; exact ht, h0, h1, by rw [sg_cat hu, List.length_append]; omega⟩
  have e5 : insE s k (t ++ u) = 0 := ins_iff.2 ⟨hs, by rw [valid_cat ht]; exact hu, h0, h1, by rw [sg_cat ht, List.length_append]; omega⟩
  refine ⟨e1, e2, e3, e4, e5, ?_, ?_⟩
  · rw [ins_t e2, ins_t e4, g1, List.append_assoc ((sg s).take k.toNat), List.take_left' hk, List.drop_left' hk, List.flatten_append, sg_flat]
    simp only [List.append_assoc]
  · have hk2 : ((sg s).take k.toNat ++ sg t).length = (k + ((sg t).length : Int)).toNat := by rw [List.length_append, hk]; omega
    rw [ins_t e3, ins_t e5, g1, List.take_left' hk2, List.drop_left' hk2, List.flatten_append, sg_flat]
    simp only [List.append_assoc]
end Go.Proofs.YtpgkbdkkcladcaaDoor.Sy
