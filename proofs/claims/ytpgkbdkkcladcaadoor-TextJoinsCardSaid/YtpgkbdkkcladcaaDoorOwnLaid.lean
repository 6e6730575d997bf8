/- What the listed variables hold when a call begins, and a world that meets it. A lemma file: it claims nothing of the program's own. -/
import Derived.Test.YtpgkbdkkcladcaaDoorOwnShelf
import Derived.Test.YtpgkbdkkcladcaaDoorOwnEA
import Derived.Test.YtpgkbdkkcladcaaDoorRows
import Derived.Lib.LaidIn
import Derived.Lib.LaidU8T
import Derived.LaidHandle
import Derived.LaidLaws
set_option linter.unusedVariables false
set_option maxRecDepth 100000
namespace Go.Proofs.YtpgkbdkkcladcaaDoor.Ld
open Go Go.Shelf Go.Lib
abbrev laid : List (String × DataW Unit) := [("unicode/utf8.acceptRanges", Rows.laid_unicode_utf8_acceptRanges), ("unicode/utf8.first", Rows.laid_unicode_utf8_first)]
theorem e1 : Rows.laid_unicode_utf8_first = Lib.firstData := by kernel_rfl
theorem e2 : (Rows.laid_unicode_utf8_acceptRanges : DataW Unit) = Lib.acceptData := by kernel_rfl
theorem tabs {W : World} (h : laidMetH Tryd.prog laid W) : Lib.Utf8Tabs 0 1 W := by
  have h' : laidMet Tryd.prog laid W := h
  refine utf8Tabs_of_readsT (ρ := Tryd.lays196_ren) (U8Types.of196 Tryd.lays196) ⟨by kernel_rfl, by kernel_rfl, by kernel_rfl, by kernel_rfl, by kernel_rfl, by kernel_rfl, by kernel_rfl⟩ ?_ ?_
  · rw [← e1]; exact Lib.laidMet.reads h' (.tail _ (.head _))
  · rw [← e2]; exact Lib.laidMet.reads h' (.head _)
theorem cell_lt {W : World} {b o : Nat} {v : Value} (h : W.cell? ⟨b, o, none⟩ = some v) : b < W.heap.size := by
  rcases Nat.lt_or_ge b W.heap.size with g | g
  · exact g
  · exfalso
    unfold World.cell? at h
    simp [Array.getElem?_eq_none g] at h
theorem base {W : World} (h : laidMetH Tryd.prog laid W) : Eng.Base W := by
  have t := tabs h
  exact ⟨t, cell_lt (t.1 0 (by omega)), cell_lt (t.2 0 (by omega)).1⟩
/-- A world that meets it: the settled one, the two variables laid. -/
noncomputable def laidWorld (os : Os) : World :=
  let w0 := World.holding Tryd.prog os ⟨#[], #[], []⟩
  let put (h : Array Obj) (g : Nat) (cs : Array Value) : Array Obj := h.modify g fun
    | .cells _ t frozen => .cells cs t frozen
    | o => o
  let h1 := put w0.heap 0 (Lib.firstTab.map fun z => Value.int .u8 z).toArray
  let h2 := put h1 1 ((List.range 16).flatMap fun i => [Value.int .u8 (Lib.accLo i), Value.int .u8 (Lib.accHi i)]).toArray
  { w0 with heap := h2 }
theorem laidWorld_met (os : Os) (args : Array Value) : laidMetH Tryd.prog laid ((laidWorld os).forCall (fun _ _ => 0) ⟨#[], args, []⟩).memory :=
  (LaidIn.of_run (l := laid) [1, 0] 8 (by kernel_rfl) (by kernel_rfl) (by kernel_rfl) (by kernel_rfl)).met
end Go.Proofs.YtpgkbdkkcladcaaDoor.Ld
