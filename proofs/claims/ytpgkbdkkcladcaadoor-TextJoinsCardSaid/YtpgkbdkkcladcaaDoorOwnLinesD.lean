/- text.Lines, walked over the library's contracts: for every text of at most 2^45 bytes. A lemma file: the bound is its condition. -/
import Derived.Test.YtpgkbdkkcladcaaDoorOwnShelf
import Derived.WalkKit
import Derived.BigCall
set_option linter.unusedVariables false
set_option linter.unusedSimpArgs false
namespace Go.Proofs
open Go.RowKit
namespace YtpgkbdkkcladcaaDoorLn
/-- A sign, as it is shown. -/
def lnR (r : Nat) : Nat := if r = 10 then 9166 else if r = 9 then 8677 else r
def linesFrom (s : ByteArray) : Nat → Nat → List UInt8
  | 0, _ => []
  | fuel + 1, pos => if pos < s.size then Lib.encodeRune (lnR (Utf8.decode s pos).1) ++ linesFrom s fuel (pos + (Utf8.decode s pos).2) else []
def lines (s : ByteArray) : List UInt8 := linesFrom s s.size 0
theorem width_pos (s : ByteArray) (pos : Nat) (h : pos < s.size) : 1 ≤ (Utf8.decode s pos).2 := by
  by_cases ha : (s[pos]'h).toNat < 128
  · rw [decode_ascii s pos h ha]
    exact Nat.le_refl _
  · exact (decode_high s pos h (by omega)).2
theorem linesFrom_end (s : ByteArray) (fuel pos : Nat) (h : ¬ pos < s.size) : linesFrom s fuel pos = [] := by
  cases fuel with
  | zero => rfl
  | succ f => simp [linesFrom, h]
set_option maxHeartbeats 4000000 in
set_option maxRecDepth 1000000 in
theorem lines_walk (s : ByteArray) (w : World) (hs : s.size ≤ 35184372088832) :
    Calls Tryd.prog 23 #[.string s] w fun e w' => e = .returned (.string ⟨(lines s).toArray⟩) ∧ Below w.heap.size w w' := by
  go_enter Tryd.func23, Tryd.ntmps23
  go_wp2
  go_loopw [] (fun wr => ∃ (pos fuel : Nat) (acc : List UInt8), Lib.IsBuilderF 79 5 w.heap.size w.heap.size (Lib.byteCells acc) wr ∧ wr.heap[w.heap.size + 1]? = some (.stringIter s pos) ∧ Below w.heap.size w wr ∧ acc ++ linesFrom s fuel pos = lines s ∧ s.size ≤ pos + fuel ∧ acc.length ≤ 4 * pos) (fun wr => s.size - wr.iterPos (w.heap.size + 1))
  case atStart =>
    refine ⟨0, s.size, [], (Lib.IsBuilderF.of (Lib.fresh_isBuilder 79 5 w)).alloc _, ?_, ((Below.refl _ w).alloc (Nat.le_refl _) _).alloc (by simp) _, rfl, by omega, by simp⟩
    have := World.iter_heap (w.alloc (.cells #[.pointer none, .slice none 0 0] 79)) s 0
    simpa using this
  case round =>
    obtain ⟨pos, fuel, acc, hI, hit, hbw, hacc, hfu, hal⟩ := hrel
    have hsz : w.heap.size + 1 < wr.heap.size := (Array.getElem?_eq_some_iff.1 hit).1
    by_cases hp : pos < s.size
    · have hnx : ∀ ty, (Instr.next (.pointer (some ⟨w.heap.size + 1, 0, none⟩)) true ty).run Tryd.prog wr = _ := fun ty => Lib.run_next_any_at wr (w.heap.size + 1) s pos ty hit hp
      have hwd := width_pos s pos hp
      have hd1 := decode_le s pos
      have hI2 := hI.iterAt hit (pos + (Utf8.decode s pos).2)
      have hit2 := Lib.iterAt_heap wr (w.heap.size + 1) s pos (pos + (Utf8.decode s pos).2) hit
      have hbw2 := Lib.below_iterAt hbw (k := w.heap.size + 1) (by omega) s (pos + (Utf8.decode s pos).2)
      have hsz2 : w.heap.size ≤ (wr.iterAt (w.heap.size + 1) s (pos + (Utf8.decode s pos).2)).heap.size := by rw [Lib.iterAt_size]; omega
      obtain ⟨f, rfl⟩ : ∃ f, fuel = f + 1 := ⟨fuel - 1, by omega⟩
      by_cases h10 : (Utf8.decode s pos).1 = 10
      · have hr : lnR (Utf8.decode s pos).1 = 9166 := by rw [h10]; rfl
        go_wp2_with (go_at_call 37; refine (Tryd.Builder_WriteRune_k w.heap.size w.heap.size _ 9166 (by omega) (by omega) _ hI2 (by rw [Lib.byteCells_length]; omega) hsz2).mono ?_)
        rintro e W1 ⟨rfl, h1, b1, k1⟩
        go_wp2
        go_roundw
        case rel =>
          have hl4 := Lib.runeCells_le (9166 : Int)
          rw [Lib.runeCells_length] at hl4
          refine ⟨pos + (Utf8.decode s pos).2, f, acc ++ Lib.encodeRune 9166, ?_, k1.iter hit2 (by omega), hbw2.trans b1, ?_, by omega, by simp; omega⟩
          · rw [Lib.byteCells_append, Lib.byteCells_encodeRune]; exact Or.inr h1
          · rw [← hacc]; simp [linesFrom, hp, hr]
        case measure =>
          simp only [World.iterPos, k1.iter hit2 (by omega), hit]
          omega
      · by_cases h9 : (Utf8.decode s pos).1 = 9
        · have hr : lnR (Utf8.decode s pos).1 = 8677 := by rw [h9]; rfl
          go_wp2_with (go_at_call 37; refine (Tryd.Builder_WriteRune_k w.heap.size w.heap.size _ 8677 (by omega) (by omega) _ hI2 (by rw [Lib.byteCells_length]; omega) hsz2).mono ?_)
          rintro e W1 ⟨rfl, h1, b1, k1⟩
          go_wp2
          go_roundw
          case rel =>
            have hl4 := Lib.runeCells_le (8677 : Int)
            rw [Lib.runeCells_length] at hl4
            refine ⟨pos + (Utf8.decode s pos).2, f, acc ++ Lib.encodeRune 8677, ?_, k1.iter hit2 (by omega), hbw2.trans b1, ?_, by omega, by simp; omega⟩
            · rw [Lib.byteCells_append, Lib.byteCells_encodeRune]; exact Or.inr h1
            · rw [← hacc]; simp [linesFrom, hp, hr]
          case measure =>
            simp only [World.iterPos, k1.iter hit2 (by omega), hit]
            omega
        · have hr : lnR (Utf8.decode s pos).1 = (Utf8.decode s pos).1 := by unfold lnR; rw [if_neg h10, if_neg h9]
          go_wp2_with (go_at_call 37; refine (Tryd.Builder_WriteRune_k w.heap.size w.heap.size _ _ (by omega) (by omega) _ hI2 (by rw [Lib.byteCells_length]; omega) hsz2).mono ?_)
          rintro e W1 ⟨rfl, h1, b1, k1⟩
          go_wp2
          go_roundw
          case rel =>
            have hl4 := Lib.runeCells_le ((Utf8.decode s pos).1 : Int)
            rw [Lib.runeCells_length] at hl4
            refine ⟨pos + (Utf8.decode s pos).2, f, acc ++ Lib.encodeRune (Utf8.decode s pos).1, ?_, k1.iter hit2 (by omega), hbw2.trans b1, ?_, by omega, by simp; omega⟩
            · rw [Lib.byteCells_append, Lib.byteCells_encodeRune]; exact Or.inr h1
            · rw [← hacc]; simp [linesFrom, hp, hr]
          case measure =>
            simp only [World.iterPos, k1.iter hit2 (by omega), hit]
            omega
    · have hnx : ∀ ty, (Instr.next (.pointer (some ⟨w.heap.size + 1, 0, none⟩)) true ty).run Tryd.prog wr = _ := fun ty => Lib.run_next_end_at wr (w.heap.size + 1) s pos ty hit hp
      go_wp2_with (go_at_call 38; refine (Tryd.Builder_String_any_k w.heap.size w.heap.size acc _ hI (by omega)).mono ?_)
      rintro e W1 ⟨rfl, _, b1, _⟩
      go_wp2
      go_ret
      rw [linesFrom_end s fuel pos hp, List.append_nil] at hacc
      subst hacc
      exact ⟨rfl, hbw.trans b1⟩
end YtpgkbdkkcladcaaDoorLn
end Go.Proofs
