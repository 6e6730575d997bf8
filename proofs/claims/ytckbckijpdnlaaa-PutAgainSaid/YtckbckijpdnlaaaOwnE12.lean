/- The engine, part 12: the program's own tables; a call that is handed nothing. A lemma file: it claims nothing of the program. -/
import Derived.Test.YtckbckijpdnlaaaOwnE11
set_option linter.unusedVariables false
set_option linter.unusedSimpArgs false
namespace Go.Proofs.Ytckbckijpdnlaaa.Eng
open Go Go.Lib Go.RowKit

/-! ### equality of structs of numbers, bools, texts -/
def fieldsEq (P : Program) (rec : TypeId → Option (List CK)) : Nat → List Field → Option (List CK)
  | _, [] => some []
  | o, f :: fs => if f.offset = o ∧ f.name ≠ "_" then match rec f.type, fieldsEq P rec (o + P.cellsOf f.type) fs with
    | some a, some b => if a.length = P.cellsOf f.type then some (a ++ b) else none
    | _, _ => none
    else none
def eqOk (P : Program) : Nat → TypeId → Option (List CK)
  | 0, _ => none
  | d + 1, t => match P.underlying t with
    | some (.int k) => if P.cellsOf t = 1 then some [.i k] else none
    | some .bool => if P.cellsOf t = 1 then some [.b] else none
    | some .string => if P.cellsOf t = 1 then some [.s] else none
    | some (.struct fs) => if P.stoodInHeld t = false then fieldsEq P (eqOk P d) 0 fs.toList else none
    | _ => none
def isAggT (P : Program) (t : TypeId) : Bool := match P.underlying t with
  | some (.struct _) => true
  | some (.array _ _) => true
  | _ => false
/-- A value of a type, out of its cells. -/
def valOf (P : Program) (t : TypeId) (cs : List Value) : Value := if isAggT P t = true then .agg cs.toArray else cs.headD undef
section
variable {P : Program} {w : World}
theorem eqL_len : ∀ {cs : List CK} {xs ys : List Value} {b : Bool}, eqL cs xs ys = some b → xs.length = cs.length ∧ ys.length = cs.length
  | [], [], [], _, _ => ⟨rfl, rfl⟩
  | [], [], _ :: _, _, h => by simp [eqL] at h
  | [], _ :: _, _, _, h => by simp [eqL] at h
  | _ :: _, [], _, _, h => by simp [eqL] at h
  | _ :: _, _ :: _, [], _, h => by simp [eqL] at h
  | c :: cs, x :: xs, y :: ys, b, h => by
    simp only [eqL] at h
    split at h
    · rename_i p q hp hq; simp [eqL_len hq]
    · cases h
theorem eqL_part : ∀ (as : List CK) {bs : List CK} {xs ys : List Value} {b : Bool}, eqL (as ++ bs) xs ys = some b → ∃ p q, eqL as (xs.take as.length) (ys.take as.length) = some p ∧ eqL bs (xs.drop as.length) (ys.drop as.length) = some q ∧ b = (p && q)
  | [], bs, xs, ys, b, h => ⟨true, b, by simp [eqL], by simpa using h, by simp⟩
  | a :: as, _, [], [], b, h => by simp [eqL] at h
  | a :: as, _, [], _ :: _, _, h => by simp [eqL] at h
  | a :: as, _, _ :: _, [], _, h => by simp [eqL] at h
  | a :: as, bs, x :: xs, y :: ys, b, h => by
    simp only [List.cons_append, eqL] at h
    split at h
    · rename_i p q hp hq
      cases h
      obtain ⟨p', q', h1, h2, rfl⟩ := eqL_part as hq
      refine ⟨p && p', q', ?_, by simpa using h2, by simp [Bool.and_assoc]⟩
      simp only [List.length_cons, List.take_succ_cons, eqL, hp, h1]
    · cases h
theorem run_part_val {t : TypeId} {d : TypeDesc} (hu : P.underlying t = some d) (hs : (sizeOf t).run P w = .ok (P.cellsOf t) w) {cs : List Value} {off : Nat} (h1 : isAggT P t = false → P.cellsOf t = 1) (hl : isAggT P t = false → off + P.cellsOf t ≤ cs.length) :
    (part t cs.toArray off).run P w = .ok (valOf P t ((cs.drop off).take (P.cellsOf t))) w := by
  have hagg : (isAgg t).run P w = .ok (isAggT P t) w := by
    unfold Go.isAgg isAggT
    rw [Sem.run_bind, run_underlying hu w, Result.andThen_ok, hu]
    cases d <;> rfl
  unfold part valOf
  rw [Sem.run_bind, hagg, Result.andThen_ok]
  cases hq : isAggT P t with
  | true =>
    simp only [if_true, Sem.run_bind, hs, Result.andThen_ok, Sem.run_pure]
    congr 2
    apply Array.ext'
    simp [List.extract_eq_take_drop]
  | false =>
    have := h1 hq
    have hl := hl hq
    rw [this] at hl ⊢
    have hlt : off < cs.length := by omega
    have e1 : cs.toArray[off]? = some cs[off] := by simp [hlt]
    have e2 : ((cs.drop off).take 1).headD undef = cs[off] := by
      rw [List.drop_eq_getElem_cons hlt]
      rw [List.take_succ_cons, List.headD_cons]
    simp only [Bool.false_eq_true, if_false, e1, e2, Sem.run_pure]
theorem sizeOf_run {t : TypeId} {d : TypeDesc} (hu : P.underlying t = some d) : (sizeOf t).run P w = .ok (P.cellsOf t) w := by
  unfold Program.underlying at hu
  cases hq : P.info? t with
  | none => rw [hq] at hu; cases hu
  | some i => simp [sizeOf, typeInfo, hq, Program.cellsOf]
theorem eqOk_und : ∀ {d : Nat} {t : TypeId} {cs : List CK}, eqOk P d t = some cs → ∃ u, P.underlying t = some u ∧ (isAggT P t = false → P.cellsOf t = 1)
  | 0, _, _, h => by cases h
  | d + 1, t, cs, h => by
    simp only [eqOk] at h
    split at h
    · rename_i hu; split at h
      · rename_i hc; exact ⟨_, hu, fun _ => hc⟩
      · cases h
    · rename_i hu; split at h
      · rename_i hc; exact ⟨_, hu, fun _ => hc⟩
      · cases h
    · rename_i hu; split at h
      · rename_i hc; exact ⟨_, hu, fun _ => hc⟩
      · cases h
    · rename_i fs hu; exact ⟨_, hu, fun h => by simp [isAggT, hu] at h⟩
    · cases h
theorem eqOne {c : CK} {xs ys : List Value} {b : Bool} (he : eqL [c] xs ys = some b) : ∃ x y, xs = [x] ∧ ys = [y] ∧ eqV c x y = some b := by
  match xs, ys, he with
  | [x], [y], he =>
    refine ⟨x, y, rfl, rfl, ?_⟩
    simp only [eqL] at he
    split at he
    · rename_i p q hp hq
      cases hq
      cases he
      simpa using hp
    · cases he
  | [], [], he => simp [eqL] at he
  | [], _ :: _, he => simp [eqL] at he
  | _ :: _, [], he => simp [eqL] at he
  | [_], _ :: _ :: _, he => simp [eqL] at he
  | _ :: _ :: _, [_], he => simp [eqL] at he
  | _ :: _ :: _, _ :: _ :: _, he => simp [eqL] at he
theorem eqOk_run : ∀ (d : Nat) (t : TypeId) (D : Nat) (cs : List CK) (xs ys : List Value) (b : Bool), eqOk P d t = some cs → d ≤ D → eqL cs xs ys = some b → (Op.equalIn D t (valOf P t xs) (valOf P t ys)).run P w = .ok b w
  | 0, _, _, _, _, _, _, h, _, _ => by cases h
  | d + 1, t, D, cs, xs, ys, b, h, hD, he => by
    obtain ⟨D, rfl⟩ : ∃ D', D = D' + 1 := ⟨D - 1, by omega⟩
    simp only [eqOk] at h
    split at h
    · rename_i k hu
      split at h
      · cases h
        obtain ⟨x, y, rfl, rfl, h3⟩ := eqOne he
        have ha : isAggT P t = false := by simp [isAggT, hu]
        simp only [valOf, ha, Bool.false_eq_true, if_false, List.headD_cons]
        cases x <;> cases y <;> simp only [eqV] at h3 <;> first | (cases h3; done) | skip
        split at h3
        · rename_i hk; obtain ⟨rfl, rfl⟩ := hk; cases h3; exact run_equalIn_int w D t _ _ _ _ hu
        · cases h3
      · cases h
    · rename_i hu
      split at h
      · cases h
        obtain ⟨x, y, rfl, rfl, h3⟩ := eqOne he
        have ha : isAggT P t = false := by simp [isAggT, hu]
        simp only [valOf, ha, Bool.false_eq_true, if_false, List.headD_cons]
        cases x <;> cases y <;> simp only [eqV] at h3 <;> first | (cases h3; done) | skip
        cases h3; exact run_equalIn_bool' w D t _ _ hu
      · cases h
    · rename_i hu
      split at h
      · cases h
        obtain ⟨x, y, rfl, rfl, h3⟩ := eqOne he
        have ha : isAggT P t = false := by simp [isAggT, hu]
        simp only [valOf, ha, Bool.false_eq_true, if_false, List.headD_cons]
        cases x <;> cases y <;> simp only [eqV] at h3 <;> first | (cases h3; done) | skip
        cases h3
        exact run_equalIn_string w D t _ _ hu
      · cases h
    · rename_i fs hu
      split at h
      · rename_i hp
        have ha : isAggT P t = true := by simp [isAggT, hu]
        have hfo : P.fieldsOf t = fs := by simp [Program.fieldsOf, hu]
        have e1 : valOf P t xs = .agg xs.toArray := by simp [valOf, ha]
        have e2 : valOf P t ys = .agg ys.toArray := by simp [valOf, ha]
        rw [e1, e2, run_equalIn_struct w D t _ _ (by rw [hfo]; exact hu) hp, hfo]
        have key : ∀ (fs : List Field) (o : Nat) (cs : List CK) (b : Bool), fieldsEq P (eqOk P d) o fs = some cs → eqL cs (xs.drop o) (ys.drop o) = some b → (Op.eqFields D xs.toArray ys.toArray fs).run P w = .ok b w := by
          intro fs
          induction fs with
          | nil =>
            intro o cs b hfe hb
            cases hfe
            have : b = true := by
              have := eqL_len hb
              simp only [List.length_nil, List.length_eq_zero_iff] at this
              rw [this.1, this.2] at hb
              simp [eqL] at hb; rw [hb]
            subst this
            simp [Op.eqFields]
          | cons f fs ih =>
            intro o cs b hfe hb
            simp only [fieldsEq] at hfe
            split at hfe
            · rename_i hc
              obtain ⟨c1, c2⟩ := hc
              split at hfe
              · rename_i as bs has hbs
                split at hfe
                · rename_i hal
                  cases hfe
                  have hlen := eqL_len hb
                  simp only [List.length_drop, List.length_append] at hlen
                  obtain ⟨u, hu', hone⟩ := eqOk_und has
                  obtain ⟨p, q, h1, h2, rfl⟩ := eqL_part as hb
                  have hs := sizeOf_run (w := w) hu'
                  have hpx := run_part_val (w := w) hu' hs (cs := xs) (off := o) hone (fun h0 => by have := hone h0; omega)
                  have hpy := run_part_val (w := w) hu' hs (cs := ys) (off := o) hone (fun h0 => by have := hone h0; omega)
                  rw [hal] at h1
                  have hrec := eqOk_run d f.type D _ _ _ p has (by omega) h1
                  have ht := ih _ _ q hbs (by rw [hal, List.drop_drop, List.drop_drop] at h2; exact h2)
                  unfold Op.eqFields
                  rw [if_pos c2]
                  simp only [Sem.run_bind, c1, hpx, hpy, Result.andThen_ok, hrec]
                  cases p with
                  | false => simp
                  | true => simp [ht]
                · cases hfe
              · cases hfe
            · cases hfe
        exact key fs.toList 0 _ b h (by simpa using he)
      · cases h
    · cases h
end
def tinfoT (P : Program) : Tab := fun t => match P.underlying t, P.info? t with
  | some u, some inf => match inf.zero with
    | some z => some ⟨tdOf u, inf.size, inf.bytes, z, if isAggT P t = true ∧ P.eqGuardType P.depth t = false then (match eqOk P 8 t with | some cs => if cs.length = inf.size then some cs else none | none => none) else none⟩
    | none => none
  | _, _ => none
theorem tinfoT_ok (P : Program) : TOk P (tinfoT P) := by
  refine ⟨fun t i h => ?_, fun t i cs h he => ?_⟩
  · unfold tinfoT at h
    split at h
    · rename_i u inf hu hinf
      split at h
      · rename_i z hz
        cases h
        exact ⟨u, inf, hu, hinf, rfl, rfl, rfl, hz⟩
      · cases h
    · cases h
  · unfold tinfoT at h
    split at h
    · rename_i u inf hu hinf
      split at h
      · cases h
        dsimp only at he
        split at he
        · rename_i hc
          split at he
          · rename_i cs' hk
            split at he
            · cases he
              refine ⟨hc.2, fun xs ys b w hl hb => ?_⟩
              have := eqOk_run (w := w) 8 t 10000 _ xs ys b hk (by omega) hb
              simpa [valOf, hc.1] using this
            · cases he
          · cases he
        · cases he
      · cases h
    · cases h
def funsT (P : Program) : Funs := fun f => P.funcs[f]?
/-- A call that is handed nothing, reckoned: it answers true. -/
def isTrue (r : Res) : Bool := match r with
  | some (.bool b, _, _) => b
  | _ => false
theorem true_calls {P : Program} {I : Tab} {F : Funs} {n : Nat} {f : FuncId} (hI : TOk P I) (hm : P.follows .mixedOrders = true) (hF : ∀ f fn, F f = some fn → P.funcs[f]? = some fn) (h : isTrue (acall I F n f [] []) = true) (w : World) :
    Calls P f #[] w fun e w' => e = .returned (.bool true) ∧ Below w.heap.size w w' := by
  cases hr : acall I F n f [] [] with
  | none => rw [hr] at h; cases h
  | some r =>
    obtain ⟨v, H', tc⟩ := r
    rw [hr] at h
    have hv : v = .bool true := by cases v <;> simp [isTrue] at h; rw [h]
    subst hv
    have hM : Match (fun _ => none) [] w := ⟨fun _ _ h => (by cases h), fun _ _ _ _ _ _ h => (by cases h)⟩
    refine ((acall_ok hI hm hF n).ok f [] [] _ _ _ hr _ _ _ _ _ [] (.start hM) (.nil _)).mono ?_
    rintro e w' ⟨m', v', rfl, h1, h2, h3, h4⟩
    cases h3
    refine ⟨rfl, h1.os, h1.tape, h1.output, h1.size, fun k hk => h1.keep k hk ?_⟩
    rintro ⟨id, i, b, h, _⟩
    cases h
end Go.Proofs.Ytckbckijpdnlaaa.Eng
