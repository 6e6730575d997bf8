/- Parts S6, S7, S8, S9, S10, S11, S12 of the engine, in one text. A lemma file: it claims nothing of the program. -/
import Derived.Test.YtpgkbdkkcladcaaOwnSA
import Derived.Deep.Slices
import Derived.ChangeArms
import Derived.DataReads
import Derived.ProofKit
import Derived.Below
import Derived.Laws.BitsLemmas
set_option linter.unusedVariables false
set_option linter.unusedSimpArgs false
/- The second engine, part 6: code, and whole calls. A lemma file: it claims nothing of the program. -/
namespace Go.Proofs.Ytpgkbdkkcladcaa.Sy
open Go Go.Lib Go.Proofs.Ytpgkbdkkcladcaa.Eng

/-- A place in code: steps from the root, the last first. -/
abbrev Pos := List Nat
/-- What is still to be done behind a piece of code. -/
inductive Fr where
  | seq (p : Pos) (y : Code) | block (id : Nat) | loop (p : Pos) (x : Code)
/-- Where the reckoning stands. -/
inductive Pt where
  | code (p : Pos) (c : Code) | pop | exit (id : Nat)
/-- Where the reckoning ends. -/
inductive Lf where
  | norm (T : ST) (H : SH) | ret (T : ST) (H : SH) | ext (id : Nat) (T : ST) (H : SH) | loop (p : Pos) (x : Code) (K : List Fr) (T : ST) (H : SH)
def sch0 (ops : Array Oper) : Sch := mkSch ops ops.size (Array.replicate ops.size false)
def boolE (n : Nat) (x : Option SV) : SM E := match x with
  | some (.one (.bool b)) => .pure b
  | _ => .fail n
theorem boolE_ok {v : Val} {n : Nat} {x : Option SV} : Sat v (boolE n x) fun b => x = some (.one (.bool b)) := by
  unfold boolE
  split
  · exact .pure rfl
  · exact .fail
def srun (I : Tab) (G : SSums) (N : Nat) (ul : Pos → Bool) : Nat → Pt → List Fr → ST → SH → SM Lf
  | 0, _, _, _, _ => .fail 300
  | n + 1, q, K, T, H => match q with
    | .code p c => match c with
      | .skip => srun I G N ul n .pop K T H
      | .seq x y => srun I G N ul n (.code (0 :: p) x) (.seq (1 :: p) y :: K) T H
      | .cond o x y => SM.bind (boolE 301 (sev T o)) fun b => SM.bind (ask b) fun q => match q with
          | true => srun I G N ul n (.code (0 :: p) x) K T H
          | false => srun I G N ul n (.code (1 :: p) y) K T H
      | .block id x => srun I G N ul n (.code (0 :: p) x) (.block id :: K) T H
      | .loop x => match ul p with
        | true => srun I G N ul n (.code (0 :: p) x) (.loop p x :: K) T H
        | false => .pure (.loop p x K T H)
      | .exit id => srun I G N ul n (.exit id) K T H
      | .ret => .pure (.ret T H)
      | .region _ ops dr => match dr with
        | false => SM.bind (sreg I G N ops ops.toList T H) fun r => srun I G N ul n .pop K r.1 r.2
        | true => if (Region.noSelect ops && schOk ops (sch0 ops) true ops.size (Array.replicate ops.size false)) = true then
            SM.bind (sdreg I G N ops (sch0 ops) T H []) fun r => srun I G N ul n .pop K r.1 r.2
          else .fail 302
      | _ => .fail 303
    | .pop => match K with
      | [] => .pure (.norm T H)
      | .seq p y :: K => srun I G N ul n (.code p y) K T H
      | .block _ :: K => srun I G N ul n .pop K T H
      | .loop p x :: K => match ul p with
        | true => srun I G N ul n (.code (0 :: p) x) (.loop p x :: K) T H
        | false => .pure (.loop p x K T H)
    | .exit id => match K with
      | [] => .pure (.ext id T H)
      | .block id' :: K => if id = id' then srun I G N ul n .pop K T H else srun I G N ul n (.exit id) K T H
      | .seq _ _ :: K => srun I G N ul n (.exit id) K T H
      | .loop _ _ :: K => srun I G N ul n (.exit id) K T H

/-- So many rounds at most. -/
structure AR (P : Program) (N : Nat) (H0 : AHeap) (x : Code) (r : Nat) (T : TM) (H : AHeap) (Q : Exit → TM → AHeap → Prop) : Prop where
  run : ∀ m0 w0 a w, Match m0 H0 w0 → ASat N m0 H0 w0 T H a w → Code.rounds P x (Post N m0 H0 w0 Q) r a w
section
variable {P : Program} {N : Nat} {H0 : AHeap}
theorem rounds_mono {x : Code} {Q Q' : Exit → Act → World → Prop} (hq : ∀ e a w, Q e a w → Q' e a w) : ∀ {m n : Nat} {a : Act} {w : World}, m ≤ n → Code.rounds P x Q m a w → Code.rounds P x Q' n a w
  | 0, _, _, _, _, h => h.elim
  | m + 1, n, a, w, hl, h => by
    obtain ⟨n, rfl⟩ : ∃ k, n = k + 1 := ⟨n - 1, by omega⟩
    rw [rounds_succ] at h ⊢
    refine Code.wp_mono (fun e a w h => ?_) h
    cases e with
    | normal => exact rounds_mono hq (by omega) h
    | exit id => exact hq _ _ _ h
    | goto l => exact hq _ _ _ h
    | ret => exact hq _ _ _ h
    | panic ch => exact hq _ _ _ h
    | outgrown => exact hq _ _ _ h
theorem AR.mono {x : Code} {m n : Nat} {T : TM} {H : AHeap} {Q Q' : Exit → TM → AHeap → Prop} (hl : m ≤ n) (hq : ∀ e T H, Q e T H → Q' e T H) (h : AR P N H0 x m T H Q) : AR P N H0 x n T H Q' :=
  ⟨fun m0 w0 a w hM hs => rounds_mono (fun e a w ⟨h1, T, H, h2, h3⟩ => ⟨h1, T, H, hq _ _ _ h2, h3⟩) hl (h.run m0 w0 a w hM hs)⟩
theorem AR.loop {x : Code} {n : Nat} {T : TM} {H : AHeap} {Q : Exit → TM → AHeap → Prop} (h : AR P N H0 x n T H Q) : AW P N H0 (.loop x) T H Q :=
  ⟨fun m0 w0 a w hM hs => wp_loop_rounds n (h.run m0 w0 a w hM hs)⟩
theorem AR.succ {x : Code} {n : Nat} {T : TM} {H : AHeap} {Q : Exit → TM → AHeap → Prop} (h : AW P N H0 x T H (thenQ (fun T H => AR P N H0 x n T H Q) Q)) : AR P N H0 x (n + 1) T H Q :=
  ⟨fun m0 w0 a w hM hs => by
    rw [rounds_succ]
    refine Code.wp_mono (fun e a w hp => ?_) (h.run m0 w0 a w hM hs)
    obtain ⟨h1, T, H, h2, h3⟩ := hp
    cases e with
    | normal => exact h2.run m0 w0 a w hM h3
    | exit id => exact ⟨h1, T, H, h2, h3⟩
    | goto l => cases h1
    | ret => exact ⟨h1, T, H, h2, h3⟩
    | panic ch => cases h1
    | outgrown => cases h1⟩
/-- What must hold behind a piece of code, by what is still to be done. -/
def KQ (P : Program) (N : Nat) (H0 : AHeap) (n : Nat) : List Fr → (Exit → TM → AHeap → Prop) → Exit → TM → AHeap → Prop
  | [], Q => Q
  | .seq _ y :: K, Q => thenQ (fun T H => AW P N H0 y T H (KQ P N H0 n K Q)) (KQ P N H0 n K Q)
  | .block id :: K, Q => blockQ id (KQ P N H0 n K Q)
  | .loop _ x :: K, Q => thenQ (fun T H => AR P N H0 x n T H (KQ P N H0 n K Q)) (KQ P N H0 n K Q)
theorem thenQ.mono {A A' : TM → AHeap → Prop} {Q Q' : Exit → TM → AHeap → Prop} (h1 : ∀ T H, A T H → A' T H) (h2 : ∀ e T H, Q e T H → Q' e T H) {e : Exit} {T : TM} {H : AHeap} (h : thenQ A Q e T H) : thenQ A' Q' e T H := by
  cases e <;> first | exact h1 _ _ h | exact h2 _ _ _ h
theorem blockQ.mono {id : Nat} {Q Q' : Exit → TM → AHeap → Prop} (h2 : ∀ e T H, Q e T H → Q' e T H) {e : Exit} {T : TM} {H : AHeap} (h : blockQ id Q e T H) : blockQ id Q' e T H := by
  cases e with
  | exit i =>
    simp only [blockQ] at h ⊢
    split at h
    · rename_i hi; rw [if_pos hi]; exact h2 _ _ _ h
    · rename_i hi; rw [if_neg hi]; exact h2 _ _ _ h
  | _ => exact h2 _ _ _ h
theorem KQ.mono {m n : Nat} (hl : m ≤ n) : ∀ (K : List Fr) {Q Q' : Exit → TM → AHeap → Prop}, (∀ e T H, Q e T H → Q' e T H) → ∀ {e : Exit} {T : TM} {H : AHeap}, KQ P N H0 m K Q e T H → KQ P N H0 n K Q' e T H
  | [], _, _, hq, _, _, _, h => hq _ _ _ h
  | .seq _ y :: K, _, _, hq, _, _, _, h => thenQ.mono (fun _ _ h => h.mono fun _ _ _ => KQ.mono hl K hq) (fun _ _ _ => KQ.mono hl K hq) h
  | .block id :: K, _, _, hq, _, _, _, h => blockQ.mono (fun _ _ _ => KQ.mono hl K hq) h
  | .loop _ x :: K, _, _, hq, _, _, _, h => thenQ.mono (fun _ _ h => h.mono hl fun _ _ _ => KQ.mono hl K hq) (fun _ _ _ => KQ.mono hl K hq) h
/-- What must hold where the reckoning ends. -/
def LfOK (P : Program) (N : Nat) (H0 : AHeap) (v : Val) (B : Nat) (Q : Exit → TM → AHeap → Prop) : Lf → Prop
  | .norm T H => Q .normal (dT v T) (dH v H)
  | .ret T H => Q .ret (dT v T) (dH v H)
  | .ext id T H => Q (.exit id) (dT v T) (dH v H)
  | .loop _ x K T H => AR P N H0 x B (dT v T) (dH v H) (KQ P N H0 B K Q)
def PtOK (P : Program) (N : Nat) (H0 : AHeap) (n : Nat) (K : List Fr) (Q : Exit → TM → AHeap → Prop) (T : TM) (H : AHeap) : Pt → Prop
  | .code _ c => AW P N H0 c T H (KQ P N H0 n K Q)
  | .pop => KQ P N H0 n K Q .normal T H
  | .exit id => KQ P N H0 n K Q (.exit id) T H
theorem KQ.ret {n : Nat} : ∀ (K : List Fr) {Q : Exit → TM → AHeap → Prop} {T : TM} {H : AHeap}, Q .ret T H → KQ P N H0 n K Q .ret T H
  | [], _, _, _, h => h
  | .seq _ y :: K, _, _, _, h => KQ.ret K h
  | .block id :: K, _, _, _, h => KQ.ret K h
  | .loop _ x :: K, _, _, _, h => KQ.ret K h
end
section
variable {P : Program} {I : Tab} {v : Val} {G : SSums} {N : Nat} {H0 : AHeap} {Q : Exit → TM → AHeap → Prop}
theorem srun_ok (hI : TOk P I) (hG : GOk P v G) (hm : P.follows .mixedOrders = true) {ul : Pos → Bool} {B : Nat} : ∀ (n : Nat) (q : Pt) (K : List Fr) (T : ST) (H : SH) (kn : Kn), KV v kn →
    TOK v (fun kn l => KV v kn → LfOK P N H0 v B Q l) (srun I G N ul n q K T H kn) → PtOK P N H0 (n + B) K Q (dT v T) (dH v H) q
  | 0, q, K, T, H, kn, hk, h => h.elim
  | n + 1, q, K, T, H, kn, hk, h => by
    have ih := srun_ok hI hG hm (ul := ul) (B := B) n
    have up : ∀ (K : List Fr) {e : Exit} {T : TM} {H : AHeap}, KQ P N H0 (n + B) K Q e T H → KQ P N H0 (n + 1 + B) K Q e T H := fun K {_ _ _} h => KQ.mono (by omega) K (fun _ _ _ h => h) h
    have upB : ∀ (K : List Fr) {e : Exit} {T : TM} {H : AHeap}, KQ P N H0 B K Q e T H → KQ P N H0 (n + 1 + B) K Q e T H := fun K {_ _ _} h => KQ.mono (by omega) K (fun _ _ _ h => h) h
    have e1 : n + 1 + B = n + B + 1 := by omega
    cases q with
    | code p c =>
      show AW P N H0 c _ _ _
      cases c with
      | skip => exact AW.skip (up _ (ih .pop K T H kn hk h))
      | seq x y => exact (AW.seq (ih (.code (0 :: p) x) (.seq (1 :: p) y :: K) T H kn hk h)).mono fun _ _ _ => up K
      | cond o x y =>
        obtain ⟨kn0, b, hk0, hb, h⟩ := tok_sat h boolE_ok hk
        obtain ⟨kn1, q, hk1, hq, h⟩ := tok_sat h .ask hk0
        have hb := sev_ok (v := v) hb
        refine AW.cond (b := q) (by rw [hb, dv_one, dl_bool, hq]) ?_
        cases q with
        | true => exact AW.mono (ih (.code (0 :: p) x) K T H kn1 hk1 h) fun _ _ _ => up K
        | false => exact AW.mono (ih (.code (1 :: p) y) K T H kn1 hk1 h) fun _ _ _ => up K
      | block id x => exact (AW.block (ih (.code (0 :: p) x) (.block id :: K) T H kn hk h)).mono fun _ _ _ => up K
      | loop x =>
        cases hu : ul p with
        | true =>
          simp only [srun, hu] at h
          exact (AR.loop (AR.succ (ih (.code (0 :: p) x) (.loop p x :: K) T H kn hk h))).mono fun _ _ _ => up K
        | false =>
          simp only [srun, hu] at h
          exact (AR.loop (h hk)).mono fun _ _ _ => upB K
      | exit id => exact AW.exit (up _ (ih (.exit id) K T H kn hk h))
      | ret => exact AW.ret (KQ.ret K (h hk))
      | region id ops dr =>
        cases dr with
        | false =>
          have h := (tok_bind _ _).1 h
          exact AW.regionS hI hG hk (h.mono fun kn' r hr hk' => up K (ih .pop K r.1 r.2 kn' hk' hr))
        | true =>
          simp only [srun] at h
          split at h
          · rename_i hs
            simp only [Bool.and_eq_true] at hs
            have h := (tok_bind _ _).1 h
            exact AW.drawS hI hG hm hk hs.1 hs.2 (h.mono fun kn' r hr hk' => up K (ih .pop K r.1 r.2 kn' hk' hr))
          · exact h.elim
      | _ => exact h.elim
    | pop =>
      cases K with
      | nil => exact h hk
      | cons f K =>
        cases f with
        | seq p y => exact AW.mono (ih (.code p y) K T H kn hk h) fun _ _ _ => up K
        | block id => exact up K (ih .pop K T H kn hk h)
        | loop p x =>
          show AR P N H0 x (n + 1 + B) _ _ (KQ P N H0 (n + 1 + B) K Q)
          cases hu : ul p with
          | true =>
            simp only [srun, hu] at h
            have := AR.succ (ih (.code (0 :: p) x) (.loop p x :: K) T H kn hk h)
            exact AR.mono (by omega) (fun _ _ _ => up K) this
          | false =>
            simp only [srun, hu] at h
            exact AR.mono (by omega) (fun _ _ _ => upB K) (h hk)
    | exit id =>
      cases K with
      | nil => exact h hk
      | cons f K =>
        cases f with
        | seq p y => exact up K (ih (.exit id) K T H kn hk h)
        | block id' =>
          simp only [srun] at h
          show blockQ id' _ (.exit id) _ _
          simp only [blockQ]
          split at h
          · rename_i he; rw [if_pos he]; exact up K (ih .pop K T H kn hk h)
          · rename_i he; rw [if_neg he]; exact up K (ih (.exit id) K T H kn hk h)
        | loop p x => exact up K (ih (.exit id) K T H kn hk h)
end

/-! ### places in code -/
def loc (c : Code) : Pos → Option (Code × List Fr)
  | [] => some (c, [])
  | d :: p => match loc c p with
    | some (.seq x y, K) => if d = 0 then some (x, .seq (1 :: p) y :: K) else if d = 1 then some (y, K) else none
    | some (.cond _ x y, K) => if d = 0 then some (x, K) else if d = 1 then some (y, K) else none
    | some (.block id x, K) => if d = 0 then some (x, .block id :: K) else none
    | some (.loop x, K) => if d = 0 then some (x, .loop p x :: K) else none
    | _ => none
def WK (c : Code) : List Fr → Prop
  | [] => True
  | .seq p y :: K => loc c p = some (y, K) ∧ WK c K
  | .block _ :: K => WK c K
  | .loop p x :: K => loc c p = some (.loop x, K) ∧ WK c K
theorem loc_WK {c : Code} : ∀ (p : Pos) {x : Code} {K : List Fr}, loc c p = some (x, K) → WK c K
  | [], x, K, h => by cases h; trivial
  | d :: p, x, K, h => by
    simp only [loc] at h
    split at h
    · rename_i a b K' hp
      have := loc_WK p hp
      split at h
      · cases h
        refine ⟨?_, this⟩
        simp only [loc, hp]; simp
      · split at h
        · cases h; exact this
        · cases h
    · rename_i o a b K' hp
      have := loc_WK p hp
      split at h
      · cases h; exact this
      · split at h
        · cases h; exact this
        · cases h
    · rename_i id a K' hp
      have := loc_WK p hp
      split at h
      · cases h; exact this
      · cases h
    · rename_i a K' hp
      have := loc_WK p hp
      split at h
      · cases h; exact ⟨hp, this⟩
      · cases h
    · cases h
def WPt (c : Code) (K : List Fr) : Pt → Prop
  | .code p x => loc c p = some (x, K)
  | _ => WK c K
def WLf (c : Code) : Lf → Prop
  | .loop p x K _ _ => loc c p = some (.loop x, K)
  | _ => True
theorem srun_at {c : Code} {I : Tab} {v : Val} {G : SSums} {N : Nat} {ul : Pos → Bool} : ∀ (n : Nat) (q : Pt) (K : List Fr) (T : ST) (H : SH) (kn kn' : Kn) (l : Lf), WPt c K q → Out v (srun I G N ul n q K T H kn) kn' l → WLf c l
  | 0, q, K, T, H, kn, kn', l, hq, ho => ho.elim
  | n + 1, q, K, T, H, kn, kn', l, hq, ho => by
    have ih := srun_at (c := c) (I := I) (v := v) (G := G) (N := N) (ul := ul) n
    cases q with
    | code p x =>
      have hW := loc_WK p hq
      cases x with
      | skip => exact ih .pop K T H kn kn' l hW ho
      | seq x y => exact ih (.code (0 :: p) x) _ T H kn kn' l (by show loc c (0 :: p) = _; simp only [loc, show loc c p = _ from hq]; simp) ho
      | cond o x y =>
        obtain ⟨k0, b, _, ho⟩ := out_bind _ _ ho
        obtain ⟨k1, q, _, ho⟩ := out_bind _ _ ho
        cases q with
        | true => exact ih (.code (0 :: p) x) _ T H k1 kn' l (by show loc c (0 :: p) = _; simp only [loc, show loc c p = _ from hq]; simp) ho
        | false => exact ih (.code (1 :: p) y) _ T H k1 kn' l (by show loc c (1 :: p) = _; simp only [loc, show loc c p = _ from hq]; simp) ho
      | block id x => exact ih (.code (0 :: p) x) _ T H kn kn' l (by show loc c (0 :: p) = _; simp only [loc, show loc c p = _ from hq]; simp) ho
      | loop x =>
        cases hu : ul p with
        | true =>
          simp only [srun, hu] at ho
          exact ih (.code (0 :: p) x) _ T H kn kn' l (by show loc c (0 :: p) = _; simp only [loc, show loc c p = _ from hq]; simp) ho
        | false =>
          simp only [srun, hu] at ho
          obtain ⟨rfl, rfl⟩ := ho; exact hq
      | exit id => exact ih (.exit id) K T H kn kn' l hW ho
      | ret => obtain ⟨rfl, rfl⟩ := ho; trivial
      | region id ops dr =>
        cases dr with
        | false =>
          obtain ⟨k0, r, _, ho⟩ := out_bind _ _ ho
          exact ih .pop K r.1 r.2 k0 kn' l hW ho
        | true =>
          simp only [srun] at ho
          split at ho
          · obtain ⟨k0, r, _, ho⟩ := out_bind _ _ ho
            exact ih .pop K r.1 r.2 k0 kn' l hW ho
          · exact ho.elim
      | _ => exact ho.elim
    | pop =>
      cases K with
      | nil => obtain ⟨rfl, rfl⟩ := ho; trivial
      | cons f K =>
        cases f with
        | seq p y => exact ih (.code p y) K T H kn kn' l hq.1 ho
        | block id => exact ih .pop K T H kn kn' l hq ho
        | loop p x =>
          have hq' : loc c p = some (.loop x, K) := hq.1
          cases hu : ul p with
          | true =>
            simp only [srun, hu] at ho
            exact ih (.code (0 :: p) x) _ T H kn kn' l (by show loc c (0 :: p) = _; simp only [loc, hq']; simp) ho
          | false =>
            simp only [srun, hu] at ho
            obtain ⟨rfl, rfl⟩ := ho; exact hq'
    | exit id =>
      cases K with
      | nil => obtain ⟨rfl, rfl⟩ := ho; trivial
      | cons f K =>
        cases f with
        | seq p y => exact ih (.exit id) K T H kn kn' l hq.2 ho
        | block id' =>
          simp only [srun] at ho
          split at ho
          · exact ih .pop K T H kn kn' l hq ho
          · exact ih (.exit id) K T H kn kn' l hq ho
        | loop p x => exact ih (.exit id) K T H kn kn' l hq.2 ho

/-! ### what a call is handed -/
/-- What is handed to a call: some to be turned, some to be read alone. -/
def roB : ABlk → ABlk
  | .cells vs => .ro vs
  | .row s z els => .old s z els
  | .iter _ _ => .dead
  | b => b
def restr2 (R W : List Nat) : Nat → AHeap → AHeap
  | _, [] => []
  | k, b :: H => (if W.contains k = true then b else if R.contains k = true then roB b else .dead) :: restr2 R W (k + 1) H
theorem restr2_len (R W : List Nat) : ∀ (k : Nat) (H : AHeap), (restr2 R W k H).length = H.length
  | _, [] => rfl
  | k, b :: H => by simp [restr2, restr2_len R W (k + 1) H]
theorem restr2_get (R W : List Nat) : ∀ (k : Nat) (H : AHeap) (id : Nat), (restr2 R W k H)[id]? = (H[id]?).map fun b => if W.contains (k + id) = true then b else if R.contains (k + id) = true then roB b else .dead
  | _, [], id => by simp [restr2]
  | k, b :: H, 0 => by simp [restr2]
  | k, b :: H, id + 1 => by
    simp only [restr2, List.getElem?_cons_succ]
    rw [restr2_get R W (k + 1) H id]
    congr 1
    funext c
    rw [show k + 1 + id = k + (id + 1) by omega]
theorem roB_own (b : ABlk) : (roB b).own = false := by cases b <;> rfl
theorem roB_live {b : ABlk} (h : (roB b).live = true) : b.live = true := by cases b <;> first | rfl | exact h
theorem roB_rel {m : Mp} {w : World} {i : MI} {b : ABlk} (h : BRel m w i b) : BRel m w i (roB b) := by
  cases b with
  | cells vs => exact h
  | ro vs => exact h
  | old s z els => exact h
  | iter s p => trivial
  | dead => trivial
  | row s z els =>
    have hB := h
    obtain ⟨h1, h2, h3, h4⟩ := h
    refine ⟨h1, h3, h4.imp id ?_⟩
    rintro ⟨h5, cs, T, h7, h8, h9, h10⟩
    refine ⟨h5, heap_lt h7, fun e c k v he hk => ?_⟩
    have hl := (h3 c (List.mem_of_getElem? he)).1
    have hr : rd (.row s z els) (some e) 0 c.length = some c := by simp [rd, he]
    obtain ⟨u, hu, hv⟩ := rd_cell hB hr h5 k v hk
    refine ⟨u, ?_, hv⟩
    rw [← hu]
    simp [h1]
section
variable {P : Program} {m0 : Mp} {H0 : AHeap} {w0 : World} {H H1 : AHeap} {m m' : Mp} {w w' : World} {R W : List Nat}
theorem Match.restr2 (h : Match m H w) (R W : List Nat) : Match m (restr2 R W 0 H) w := by
  have g : ∀ (q : Nat) (b : ABlk), (Sy.restr2 R W 0 H)[q]? = some b → b.live = true → ∃ c, H[q]? = some c ∧ c.live = true ∧ (b.own = true → c = b) := by
    intro q b hq hl
    rw [restr2_get] at hq
    cases hH : H[q]? with
    | none => rw [hH] at hq; cases hq
    | some c =>
      rw [hH] at hq
      simp only [Option.map_some, Option.some.injEq] at hq
      split at hq
      · exact ⟨c, rfl, by rw [hq]; exact hl, fun _ => hq⟩
      · split at hq
        · subst hq; exact ⟨c, rfl, roB_live hl, fun ho => by rw [roB_own] at ho; cases ho⟩
        · subst hq; cases hl
  refine ⟨fun id i hi => ?_, fun id id' i i' b b' h1 h2 h3 h4 h5 h6 h7 h8 h9 => ?_, h.base, fun id i b hi hb ho hv => (by
    obtain ⟨c, e1, _, e3⟩ := g _ _ hb (ABlk.own_live ho)
    exact h.ownb id i c hi e1 (by rw [e3 ho]; exact ho) hv)⟩
  · obtain ⟨b, hb, hB⟩ := h.has id i hi
    rw [restr2_get, hb]
    by_cases hc : W.contains (0 + id) = true
    · exact ⟨b, by simp only [Option.map_some, hc, if_true], hB⟩
    · by_cases hc2 : R.contains (0 + id) = true
      · exact ⟨roB b, by simp only [Option.map_some, if_neg hc, hc2, if_true], roB_rel hB⟩
      · exact ⟨.dead, by simp only [Option.map_some, if_neg hc, if_neg hc2], trivial⟩
  · obtain ⟨c1, e1, e2, e3⟩ := g _ _ h3 (ABlk.own_live h5)
    obtain ⟨c2, f1, f2, f3⟩ := g _ _ h4 h6
    exact h.inj id id' i i' c1 c2 h1 h2 e1 f1 (by rw [e3 h5]; exact h5) f2 h7 h8 h9
theorem owned_restr2 (h : Match m H w) {k : Nat} (ho : Owned m (restr2 R W 0 H) k) : ∃ id i b, W.contains id = true ∧ m id = some i ∧ H[id]? = some b ∧ b.own = true ∧ i.void = false ∧ i.blk = k := by
  obtain ⟨id, i, b, h1, h2, h3, h4, h5⟩ := ho
  rw [restr2_get, Nat.zero_add] at h2
  cases hH : H[id]? with
  | none => rw [hH] at h2; cases h2
  | some c =>
    rw [hH] at h2
    simp only [Option.map_some, Option.some.injEq] at h2
    split at h2
    · rename_i hc; subst h2; exact ⟨id, i, c, hc, h1, hH, h3, h4, h5⟩
    · split at h2
      · subst h2; rw [roB_own] at h3; cases h3
      · subst h2; cases h3
/-- A call that was handed a part of what is known: all that was put aside is as it was. -/
theorem Run.join2 (h : Run m0 H0 w0 H m w) (h1 : Run m (restr2 R W 0 H) w H1 m' w') : Run m0 H0 w0 (join W 0 H H1) m' w' ∧ Eng.Frame m (W.filter fun id => ownB (H[id]?)) w w' := by
  have hlen : H.length ≤ H1.length := by have := h1.len; rwa [restr2_len] at this
  have hdom : ∀ id, id < H.length → m' id = m id := fun id hid => h1.dom id (by rw [restr2_len]; exact hid)
  -- blocks of what was put aside
  have haside : ∀ id i b, id < H.length → W.contains id = false → m id = some i → H[id]? = some b → b.live = true → i.void = false → i.blk < w.heap.size ∧ ¬ Owned m (Sy.restr2 R W 0 H) i.blk := by
    intro id i b hid hc hi hb hl hv
    obtain ⟨b', hb', hB⟩ := h.mt.has id i hi
    rw [hb] at hb'
    cases hb'
    refine ⟨hB.live_lt hl hv, fun ho => ?_⟩
    obtain ⟨q, iq, bq, q1, q2, q3, q4, q5, q6⟩ := owned_restr2 h.mt ho
    have := h.mt.inj q id iq i bq b q2 hi q3 hb q4 hl q5 hv q6
    subst this
    rw [hc] at q1
    cases q1
  have hg := join_get W 0 H H1 hlen
  simp only [Nat.zero_add] at hg
  have hsz := h1.size
  have hin : ∀ (id : Nat) (b : ABlk), (Eng.join W 0 H H1)[id]? = some b → (id < H.length ∧ W.contains id = false ∧ H[id]? = some b) ∨ (¬ (id < H.length ∧ W.contains id = false) ∧ H1[id]? = some b) := by
    intro id b hb
    rw [hg] at hb
    by_cases hc : id < H.length ∧ W.contains id = false
    · rw [if_pos hc] at hb; exact .inl ⟨hc.1, hc.2, hb⟩
    · rw [if_neg hc] at hb; exact .inr ⟨hc, hb⟩
  -- live blocks of the call's own end lie in new memory, or in what it was handed
  have hlive : ∀ (id : Nat) (i : MI) (b : ABlk), m' id = some i → H1[id]? = some b → b.live = true → i.void = false → ¬ (id < H.length ∧ W.contains id = false) →
      ∀ id2 i2 b2, id2 < H.length → W.contains id2 = false → m id2 = some i2 → H[id2]? = some b2 → b2.live = true → i2.void = false → (b.own = true ∨ b2.own = true) → i.blk ≠ i2.blk := by
    intro id i b hi hb hl hv hn id2 i2 b2 hid2 hc2 hi2 hb2 hl2 hv2 hown e
    obtain ⟨g1, g2⟩ := haside id2 i2 b2 hid2 hc2 hi2 hb2 hl2 hv2
    rcases Nat.lt_or_ge id H.length with hid | hid
    · obtain ⟨b0, r1, r2, r3⟩ := h1.old id b (by rw [restr2_len]; exact hid) hb hl
      rw [restr2_get, Nat.zero_add] at r1
      cases hH : H[id]? with
      | none => rw [hH] at r1; cases r1
      | some c =>
        rw [hH] at r1
        simp only [Option.map_some, Option.some.injEq] at r1
        split at r1
        · rename_i hc
          subst r1
          rw [hdom id hid] at hi
          rcases hown with ho | ho
          · have := h.mt.inj id id2 i i2 c b2 hi hi2 hH hb2 (r3 ho) hl2 hv hv2 e
            subst this
            rw [hc] at hc2; cases hc2
          · have := h.mt.inj id2 id i2 i b2 c hi2 hi hb2 hH ho r2 hv2 hv e.symm
            subst this
            rw [hc] at hc2; cases hc2
        · rename_i hnc; exfalso; first | exact hn ⟨hid, by simpa using hnc⟩ | exact c1 ⟨hidH, by simpa using hnc⟩ | exact c1 ⟨hid, by simpa using hnc⟩
    · rcases h1.new id i b (by rw [restr2_len]; exact hid) hi hb hl hv with h' | h'
      · omega
      · rw [e] at h'; exact g2 h'
  refine ⟨⟨⟨fun id i hi => ?_, fun id id' i i' b b' a1 a2 a3 a4 a5 a6 a7 a8 a9 => ?_, h1.mt.base, fun id i b hi hb ho hv => (by
      rcases hin id b hb with ⟨c1, c2, c3⟩ | ⟨c1, c3⟩
      · exact h.mt.ownb id i b (by rw [← hdom id c1]; exact hi) c3 ho hv
      · exact h1.mt.ownb id i b hi c3 ho hv)⟩, Mp.le_trans h.ext h1.ext, fun id hid => ?_, ?_, fun id b hid hb hl => ?_, fun id i b hid hi hb hl hv => ?_, h1.os.trans h.os, h1.tape.trans h.tape, h1.output.trans h.output, Nat.le_trans h.size h1.size, fun k hk hn => ?_⟩, ⟨h1.size, fun k hk hno => ?_⟩⟩
  · by_cases hc : id < H.length ∧ W.contains id = false
    · obtain ⟨b, hb, hB⟩ := h.mt.has id i (by rw [← hdom id hc.1]; exact hi)
      refine ⟨b, by rw [hg, if_pos hc]; exact hb, ?_⟩
      cases hl : b.live with
      | false => cases b <;> first | trivial | cases hl
      | true =>
        refine (hB.mono h1.ext).frame fun hv hlt => ?_
        exact h1.keep _ hlt (haside id i b hc.1 hc.2 (by rw [← hdom id hc.1]; exact hi) hb hl hv).2
    · obtain ⟨b, hb, hB⟩ := h1.mt.has id i hi
      exact ⟨b, by rw [hg, if_neg hc]; exact hb, hB⟩
  · rcases hin id b a3 with ⟨c1, c2, c3⟩ | ⟨c1, c3⟩ <;> rcases hin id' b' a4 with ⟨d1, d2, d3⟩ | ⟨d1, d3⟩
    · exact h.mt.inj id id' i i' b b' (by rw [← hdom id c1]; exact a1) (by rw [← hdom id' d1]; exact a2) c3 d3 a5 a6 a7 a8 a9
    · exact absurd a9.symm (hlive id' i' b' a2 d3 a6 a8 d1 id i b c1 c2 (by rw [← hdom id c1]; exact a1) c3 (ABlk.own_live a5) a7 (.inr a5))
    · exact absurd a9 (hlive id i b a1 c3 (ABlk.own_live a5) a7 c1 id' i' b' d1 d2 (by rw [← hdom id' d1]; exact a2) d3 a6 a8 (.inl a5))
    · exact h1.mt.inj id id' i i' b b' a1 a2 c3 d3 a5 a6 a7 a8 a9
  · rw [hdom id (Nat.lt_of_lt_of_le hid h.len)]; exact h.dom id hid
  · rw [join_len W 0 H H1 hlen]; exact Nat.le_trans h.len hlen
  · rcases hin id b hb with ⟨c1, c2, c3⟩ | ⟨c1, c3⟩
    · exact h.old id b hid c3 hl
    · have hidH : id < H.length := Nat.lt_of_lt_of_le hid h.len
      obtain ⟨b0, r1, r2, r3⟩ := h1.old id b (by rw [restr2_len]; exact hidH) c3 hl
      rw [restr2_get, Nat.zero_add] at r1
      cases hH : H[id]? with
      | none => rw [hH] at r1; cases r1
      | some c =>
        rw [hH] at r1
        simp only [Option.map_some, Option.some.injEq] at r1
        split at r1
        · subst r1
          obtain ⟨b1, s1, s2, s3⟩ := h.old id c hid hH r2
          exact ⟨b1, s1, s2, fun ho => s3 (r3 ho)⟩
        · rename_i hnc; exfalso; first | exact hn ⟨hid, by simpa using hnc⟩ | exact c1 ⟨hidH, by simpa using hnc⟩ | exact c1 ⟨hid, by simpa using hnc⟩
  · rcases hin id b hb with ⟨c1, c2, c3⟩ | ⟨c1, c3⟩
    · exact h.new id i b hid (by rw [← hdom id c1]; exact hi) c3 hl hv
    · rcases Nat.lt_or_ge id H.length with hidH | hidH
      · obtain ⟨b0, r1, r2, r3⟩ := h1.old id b (by rw [restr2_len]; exact hidH) c3 hl
        rw [restr2_get, Nat.zero_add] at r1
        cases hH : H[id]? with
        | none => rw [hH] at r1; cases r1
        | some c =>
          rw [hH] at r1
          simp only [Option.map_some, Option.some.injEq] at r1
          split at r1
          · subst r1
            exact h.new id i c hid (by rw [← hdom id hidH]; exact hi) hH r2 hv
          · rename_i hnc; exfalso; first | exact hn ⟨hid, by simpa using hnc⟩ | exact c1 ⟨hidH, by simpa using hnc⟩ | exact c1 ⟨hid, by simpa using hnc⟩
      · rcases h1.new id i b (by rw [restr2_len]; exact hidH) hi c3 hl hv with h' | h'
        · exact .inl (Nat.le_trans h.size h')
        · obtain ⟨q, iq, bq, q1, q2, q3, q4, q5, q6⟩ := owned_restr2 h.mt h'
          exact h.orig _ ⟨q, iq, bq, q2, q3, q4, q5, q6⟩
  · have hnk : ¬ Owned m (Sy.restr2 R W 0 H) k := fun ho => by
      obtain ⟨q, iq, bq, q1, q2, q3, q4, q5, q6⟩ := owned_restr2 h.mt ho
      rcases h.orig k ⟨q, iq, bq, q2, q3, q4, q5, q6⟩ with h' | h'
      · omega
      · exact hn h'
    rw [h1.keep k (Nat.lt_of_lt_of_le hk h.size) hnk]
    exact h.keep k hk hn
  · refine h1.keep k hk fun ho => ?_
    obtain ⟨q, iq, bq, q1, q2, q3, q4, q5, q6⟩ := owned_restr2 h.mt ho
    exact hno q (List.mem_filter.2 ⟨by simpa using q1, by rw [q3]; exact q4⟩) iq q2 q5 q6

end
/-! ### calls -/
def sids : SL → List Nat
  | .ptr id _ _ => [id]
  | .slc id _ _ => [id]
  | .ifc _ x => sids x
  | .ite _ x y => sids x ++ sids y
  | _ => []
def svids : SV → List Nat
  | .one l => sids l
  | .agg ls => ls.flatMap sids
  | .tup vs => vs.flatMap fun w => match w with
    | .one l => sids l
    | .agg ls => ls.flatMap sids
def srids : SR → List Nat
  | .sym _ _ => []
  | .lits els => els.flatMap fun c => c.flatMap sids
def sblkIds : Option SB → List Nat
  | some (.cells vs) => vs.flatMap sids
  | some (.ro vs) => vs.flatMap sids
  | some (.row _ _ r) => srids r
  | some (.old _ _ r) => srids r
  | _ => []
def sreach (H : SH) : Nat → List Nat → List Nat → List Nat
  | 0, _, R => R
  | n + 1, todo, R => match todo with
    | [] => R
    | i :: rest => if R.contains i = true then sreach H n rest R else sreach H n (sblkIds (H[i]?) ++ rest) (i :: R)
def sroB : SB → SB
  | .cells vs => .ro vs
  | .row s z els => .old s z els
  | .iter _ _ => .dead
  | b => b
def srestr (R W : List Nat) : Nat → SH → SH
  | _, [] => []
  | k, b :: H => (if W.contains k = true then b else if R.contains k = true then sroB b else .dead) :: srestr R W (k + 1) H
def sjoin (R : List Nat) : Nat → SH → SH → SH
  | _, [], H1 => H1
  | _, _, [] => []
  | k, b :: H, b1 :: H1 => (if R.contains k = true then b1 else b) :: sjoin R (k + 1) H H1
theorem sroB_ok (v : Val) (b : SB) : db v (sroB b) = roB (db v b) := by cases b <;> rfl
theorem srestr_ok (v : Val) (R W : List Nat) : ∀ (k : Nat) (H : SH), dH v (srestr R W k H) = restr2 R W k (dH v H)
  | _, [] => rfl
  | k, b :: H => by
    have := srestr_ok v R W (k + 1) H
    simp only [dH] at this
    simp only [srestr, dH, List.map_cons, restr2, this]
    split
    · rfl
    · split
      · rw [sroB_ok]
      · rfl
theorem sjoin_ok (v : Val) (R : List Nat) : ∀ (k : Nat) (H H1 : SH), dH v (sjoin R k H H1) = join R k (dH v H) (dH v H1)
  | _, [], _ => by simp [sjoin, dH, join]
  | _, _ :: _, [] => by simp [sjoin, dH, join]
  | k, b :: H, b1 :: H1 => by
    have := sjoin_ok v R (k + 1) H H1
    simp only [dH] at this
    simp only [sjoin, dH, List.map_cons, join, this]
    split <;> rfl
def sares (I : Tab) (T : ST) (H : SH) : List ResultVar → SM (List SV)
  | [] => .pure []
  | .tmp t :: r => SM.bind (opt 310 (T.lookup t)) fun x => SM.bind (sares I T H r) fun xs => .pure (x :: xs)
  | .cell p t :: r => SM.bind (opt 311 (T.lookup p)) fun u => SM.bind (sLoad I t u H) fun y => SM.bind (sares I T H r) fun xs => .pure (y.1 :: xs)
def tow : SV → Option SW
  | .one l => some (.one l)
  | .agg ls => some (.agg ls)
  | .tup _ => none
def tows : List SV → Option (List SW)
  | [] => some []
  | x :: xs => match tow x, tows xs with
    | some w, some ws => some (w :: ws)
    | _, _ => none
def sresult (xs : List SV) : Option SV := match xs with
  | [x] => some x
  | xs => match tows xs with
    | some ws => some (.tup ws)
    | none => none
def sargs0 : Nat → List SV → ST
  | _, [] => []
  | k, x :: xs => (k, x) :: sargs0 (k + 1) xs
section
variable {v : Val} {I : Tab}
theorem sares_ok {T : ST} {H : SH} : ∀ {rs : List ResultVar}, Sat v (sares I T H rs) fun xs => ares I (dT v T) (dH v H) rs = some (xs.map (dv v))
  | [] => .pure rfl
  | .tmp t :: r => Sat.optB fun x hx => Sat.bind sares_ok fun xs hxs => .pure (by simp only [ares, dT_lookup, hx, Option.map_some, hxs, List.map_cons])
  | .cell p t :: r => Sat.optB fun u hu => Sat.bind sLoad_ok fun y hy => Sat.bind sares_ok fun xs hxs => .pure (by simp only [ares, dT_lookup, hu, Option.map_some, hxs, List.map_cons, hy, dres])
theorem tows_ok : ∀ {xs : List SV} {ws : List SW}, tows xs = some ws → ws.map (dw v) = xs.map (dv v)
  | [], ws, h => by cases h; rfl
  | x :: xs, ws, h => by
    simp only [tows] at h
    split at h
    · rename_i w us h1 h2
      cases h
      rw [List.map_cons, List.map_cons, tows_ok h2]
      cases x <;> cases h1 <;> rfl
    · cases h
theorem sresult_ok {xs : List SV} {x : SV} (h : sresult xs = some x) : aresult (xs.map (dv v)) = dv v x := by
  unfold sresult at h
  split at h
  · cases h; rfl
  · rename_i hn
    split at h
    · rename_i ws hws
      cases h
      rw [dv_tup, tows_ok hws]
      unfold aresult
      split
      · rename_i y hy
        cases xs with
        | nil => cases hy
        | cons a az => cases az with
          | nil => exact absurd rfl (hn a)
          | cons b bs => simp at hy
      · rfl
    · cases h
theorem sargs0_ok : ∀ (k : Nat) (xs : List SV), dT v (sargs0 k xs) = args0 k (xs.map (dv v))
  | _, [] => rfl
  | k, x :: xs => by
    have := sargs0_ok (k + 1) xs
    simp only [dT] at this
    simp only [sargs0, dT, List.map_cons, args0, this]
end
def sfin (I : Tab) (fn : Func) (W : List Nat) (H : SH) (lf : Lf) : SRes := match lf with
  | .norm T H1 => SM.bind (sares I T H1 fn.results.toList) fun xs => SM.bind (opt 312 (sresult xs)) fun x => .pure (x, sjoin W 0 H H1, W.filter fun id => sOwn (H[id]?))
  | .ret T H1 => SM.bind (sares I T H1 fn.results.toList) fun xs => SM.bind (opt 313 (sresult xs)) fun x => .pure (x, sjoin W 0 H H1, W.filter fun id => sOwn (H[id]?))
  | _ => .fail 314
/-- A function's own code, reckoned. -/
def sbody (I : Tab) (G : SSums) (nb : Nat) (fn : Func) (c : Code) (R W : List Nat) (args : List SV) (H : SH) : SRes :=
  SM.bind (srun I G fn.ntmps (fun _ => true) nb (.code [] c) [] (sargs0 0 args) (srestr R W 0 H)) (sfin I fn W H)
/-- Which arguments a callee may write through, as a table (the others: all). -/
def wrOf (l : List (Nat × List Nat)) (f : FuncId) (a : List SV) : List SV := match l.lookup f with
  | some is => is.filterMap fun i => a[i]?
  | none => a
/-- Calls, with all that they call; some by what is said of them. -/
def scall (I : Tab) (F : Funs) (X : FuncId → Option (List SV → SH → SRes)) (wr : FuncId → List SV → List SV) (nb : Nat) : Nat → SSums
  | 0 => fun _ _ _ => .fail 320
  | n + 1 => fun f args H => match X f with
    | some s => s args H
    | none => match F f with
      | some fn => match fn.body with
        | some c => if fnOk fn = true ∧ args.length ≤ fn.ntmps then
            sbody I (scall I F X wr nb n) nb fn c (sreach H 1000 (args.flatMap svids) []) (sreach H 1000 ((wr f args).flatMap svids) []) args H
          else .fail 321
        | none => .fail 322
      | none => .fail 323
section
variable {P : Program} {I : Tab} {v : Val}
theorem tok_out {α : Type} {ψ : Kn → α → Prop} : ∀ {t : Tree α}, TOK v ψ t → TOK v (fun kn a => ψ kn a ∧ Out v t kn a) t
  | .leaf kn a, h => ⟨h, rfl, rfl⟩
  | .br c t e, h => ⟨fun hc => (tok_out (h.1 hc)).mono fun kn a h => ⟨h.1, .inl ⟨hc, h.2⟩⟩, fun hc => (tok_out (h.2 hc)).mono fun kn a h => ⟨h.1, .inr ⟨hc, h.2⟩⟩⟩
  | .both t e, h => ⟨(tok_out h.1).mono fun kn a h => ⟨h.1, .inl h.2⟩, (tok_out h.2).mono fun kn a h => ⟨h.1, .inr h.2⟩⟩
  | .bad _, h => h.elim
theorem bind_out {α β : Type} {f : α → SM β} : ∀ {t : Tree α} {kn kn' : Kn} {a : α} {b : β}, Out v t kn a → Out v (f a kn) kn' b → Out v (t.bind f) kn' b
  | .leaf kn a, _, _, _, _, h, k => by obtain ⟨rfl, rfl⟩ := h; exact k
  | .br c t e, _, _, _, _, h, k => by
    rcases h with ⟨hc, h⟩ | ⟨hc, h⟩
    · exact .inl ⟨hc, bind_out h k⟩
    · exact .inr ⟨hc, bind_out h k⟩
  | .both t e, _, _, _, _, h, k => by
    rcases h with h | h
    · exact .inl (bind_out h k)
    · exact .inr (bind_out h k)
  | .bad _, _, _, _, _, h, _ => h.elim
theorem filter_own (v : Val) (R : List Nat) (H : SH) : (R.filter fun id => sOwn (H[id]?)) = R.filter fun id => ownB ((dH v H)[id]?) := by
  congr 1; funext id; rw [sOwn_ok]
theorem sbody_ok (hI : TOk P I) {G : SSums} (hG : GOk P v G) (hm : P.follows .mixedOrders = true) {f : FuncId} {fn : Func} {c : Code} {nb : Nat} {R W : List Nat} {args : List SV} {H : SH} {kn : Kn} (hf : P.funcs[f]? = some fn) (hc : fn.body = some c) (hl : args.length ≤ fn.ntmps) (hk : KV v kn)
    (ht : TOK v (fun _ _ => True) (sbody I G nb fn c R W args H kn)) {m0 : Mp} {H0 : AHeap} {w0 : World} {m : Mp} {w : World} {args' : List Value} (hR : Run m0 H0 w0 (dH v H) m w) (hL : LRel m (args.map (dv v)) args') :
    CallOuts P v (sbody I G nb fn c R W args H kn) m0 H0 w0 m f args'.toArray w := by
  have ht := (tok_bind _ _).1 ht
  have ht := tok_out ht
  let Q : Exit → TM → AHeap → Prop := fun e T' H' => retE e = true ∧ ∃ (kn1 : Kn) (T : ST) (H1 : SH) (xs : List Value) (x : SV) (kn2 : Kn), T' = dT v T ∧ H' = dH v H1 ∧ KV v kn2 ∧ ares I T' H' fn.results.toList = some xs ∧ aresult xs = dv v x ∧
    Out v (sbody I G nb fn c R W args H kn) kn2 (x, sjoin W 0 H H1, W.filter fun id => sOwn (H[id]?)) ∧ kn1 = kn1
  have hfin : ∀ (e : Exit) (lf : Lf) (T : ST) (H1 : SH) (kn1 : Kn), retE e = true → KV v kn1 → Out v (srun I G fn.ntmps (fun _ => true) nb (.code [] c) [] (sargs0 0 args) (srestr R W 0 H) kn) kn1 lf → (lf = .norm T H1 ∨ lf = .ret T H1) →
      TOK v (fun _ _ => True) (sfin I fn W H lf kn1) → Q e (dT v T) (dH v H1) := by
    intro e lf T H1 kn1 he hk1 ho hlf ht
    have hex := ht
    refine ⟨he, kn1, T, H1, ?_⟩
    obtain ⟨kn2, ⟨x, H', tc⟩, ho2, _⟩ := ht.ex
    have hall := bind_out ho ho2
    have hx : ∀ (nn : Nat), Out v ((SM.bind (sares I T H1 fn.results.toList) fun xs => SM.bind (opt nn (sresult xs)) fun x => SM.pure (x, sjoin W 0 H H1, W.filter fun id => sOwn (H[id]?))) kn1) kn2 (x, H', tc) →
        KV v kn2 ∧ ∃ xs, ares I (dT v T) (dH v H1) fn.results.toList = some (xs.map (dv v)) ∧ sresult xs = some x ∧ H' = sjoin W 0 H H1 ∧ tc = W.filter fun id => sOwn (H[id]?) := by
      intro nn ho
      have hs : Sat v (SM.bind (sares I T H1 fn.results.toList) fun xs => SM.bind (opt nn (sresult xs)) fun x => SM.pure (x, sjoin W 0 H H1, W.filter fun id => sOwn (H[id]?)))
          (fun r => ∃ xs, ares I (dT v T) (dH v H1) fn.results.toList = some (xs.map (dv v)) ∧ sresult xs = some r.1 ∧ r.2.1 = sjoin W 0 H H1 ∧ r.2.2 = W.filter fun id => sOwn (H[id]?)) :=
        Sat.bind sares_ok fun xs hxs => Sat.optB fun x hx => Sat.pure ⟨xs, hxs, hx, rfl, rfl⟩
      exact hs _ _ _ hk1 ho
    have : KV v kn2 ∧ ∃ xs, ares I (dT v T) (dH v H1) fn.results.toList = some (xs.map (dv v)) ∧ sresult xs = some x ∧ H' = sjoin W 0 H H1 ∧ tc = W.filter fun id => sOwn (H[id]?) := by
      rcases hlf with rfl | rfl
      · exact hx 312 ho2
      · exact hx 313 ho2
    obtain ⟨hk2, xs, g1, g2, rfl, rfl⟩ := this
    exact ⟨xs.map (dv v), x, kn2, rfl, rfl, hk2, g1, sresult_ok g2, hall, rfl⟩
  have hAW : AW P fn.ntmps (restr2 R W 0 (dH v H)) c (args0 0 (args.map (dv v))) (restr2 R W 0 (dH v H)) Q := by
    have := srun_ok (N := fn.ntmps) (H0 := restr2 R W 0 (dH v H)) (Q := Q) hI hG hm (ul := fun _ => true) (B := 0) nb (.code [] c) [] (sargs0 0 args) (srestr R W 0 H) kn hk (ht.mono fun kn1 lf h hk1 => by
      obtain ⟨h1, h2⟩ := h
      cases lf with
      | norm T H1 => exact hfin .normal _ T H1 kn1 rfl hk1 h2 (.inl rfl) h1
      | ret T H1 => exact hfin .ret _ T H1 kn1 rfl hk1 h2 (.inr rfl) h1
      | ext id T H1 => exact h1.elim
      | loop p x K T H1 => exact h1.elim)
    rw [sargs0_ok, srestr_ok] at this
    exact this
  refine calls_of_wp hf hc ?_
  have hl' := hL.1
  have hM := Match.restr2 hR.mt R W
  have hst := ASat.start (n := fn.ntmps) hM hL (by rw [← hl']; simpa using hl)
  refine Code.wp_mono (fun e' a' w' hp => ?_) (hAW.run _ _ _ _ hM hst)
  obtain ⟨hnp, T', H', ⟨he, kn1, T, H1, xs, x, kn2, rfl, rfl, hk2, g1, g2, g3, _⟩, m', h1, h2, h3, h4⟩ := hp
  obtain ⟨u, h5, h6⟩ := aresult_ok hI h1 h2 g1
  obtain ⟨j1, j2⟩ := Run.join2 hR h1
  rw [g2] at h5
  rw [← sjoin_ok] at j1
  rw [← filter_own] at j2
  have key : a'.defers = [] ∧ ∃ q, (results fn a'.tmps).run P w' = .ok q w' ∧ ∃ (kn : Kn) (x' : SV) (H' : SH) (tc : List Nat) (m' : Mp) (u : Value), Out v (sbody I G nb fn c R W args H _) kn (x', H', tc) ∧ KV v kn ∧ Ending.returned q = .returned u ∧ Run m0 H0 w0 (dH v H') m' w' ∧ Mp.le m m' ∧ VRel m' (dv v x') u ∧ Eng.Frame m tc w w' :=
    ⟨h4, u, h6, kn2, x, _, _, m', u, g3, hk2, rfl, j1, h1.ext, h5, j2⟩
  cases e' with
  | normal => exact key
  | ret => exact key
  | exit id => cases he
  | goto l => cases hnp
  | panic ch => cases hnp
  | outgrown => cases hnp
/-- What is said of some is true. -/
def XOk (P : Program) (v : Val) (X : FuncId → Option (List SV → SH → SRes)) : Prop := ∀ f s, X f = some s → GOk P v fun g args H => if g = f then s args H else .fail 330
theorem scall_ok (hI : TOk P I) (hm : P.follows .mixedOrders = true) {F : Funs} (hF : ∀ f fn, F f = some fn → P.funcs[f]? = some fn) {X : FuncId → Option (List SV → SH → SRes)} (hX : XOk P v X) {wr : FuncId → List SV → List SV} (nb : Nat) : ∀ n, GOk P v (scall I F X wr nb n)
  | 0 => ⟨fun _ _ _ _ _ h => h.elim⟩
  | n + 1 => by
    have ih := scall_ok hI hm hF hX (wr := wr) nb n
    refine ⟨fun f args H kn hk h => ?_⟩
    simp only [scall] at h ⊢
    cases hx : X f with
    | some s =>
      rw [hx] at h
      have := (hX f s hx).ok f args H kn hk
      simp only [if_true] at this
      exact this h
    | none =>
      rw [hx] at h
      simp only at h ⊢
      cases hfn : F f with
      | none => rw [hfn] at h; exact h.elim
      | some fn =>
        rw [hfn] at h
        simp only at h ⊢
        cases hc : fn.body with
        | none => rw [hc] at h; exact h.elim
        | some c =>
          rw [hc] at h
          simp only at h ⊢
          by_cases hok : fnOk fn = true ∧ args.length ≤ fn.ntmps
          · rw [if_pos hok] at h ⊢
            refine ⟨⟨fn, hF f fn hfn, by simpa [fnOk] using hok.1, by rw [hc]; rfl⟩, fun m0 H0 w0 m w args' hR hL => ?_⟩
            exact sbody_ok hI ih hm (hF f fn hfn) hc hok.2 hk h hR hL
          · rw [if_neg hok] at h; exact h.elim
def noX : FuncId → Option (List SV → SH → SRes) := fun _ => none
theorem noX_ok (P : Program) (v : Val) : XOk P v noX := fun _ _ h => by cases h
end
end Go.Proofs.Ytpgkbdkkcladcaa.Sy
/- The second engine, part 7: what is known, told by a pattern; loops by what holds at them. A lemma file: it claims nothing of the program. -/
namespace Go.Proofs.Ytpgkbdkkcladcaa.Sy
open Go Go.Lib Go.Proofs.Ytpgkbdkkcladcaa.Eng

/-! ### letters replaced -/
structure Sb where
  i : List E := []
  b : List E := []
  r : List E := []
  s : List E := []
def Sb.val (v : Val) (σ : Sb) : Val := { i := σ.i.map fun e => (den v e).i, b := σ.b.map fun e => (den v e).b, r := σ.r.map fun e => (den v e).r, s := σ.s.map fun e => (den v e).s, f := v.f }
/-- A pattern's term, as it stands for what is found. -/
def cmpI (σ : Sb) (t e : E) : Bool := match t with
  | .vi n => E.eq (nth (.ci 0) σ.i n) e
  | .ci z => E.eq (.ci z) e
  | .o1 .len (.vr n) => E.eq (mkLen (nth .nr σ.r n)) e
  | _ => false
def cmpB (σ : Sb) (t e : E) : Bool := match t with
  | .vb n => E.eq (nth (.cb false) σ.b n) e
  | .cb z => E.eq (.cb z) e
  | _ => false
def cmpR (σ : Sb) (t e : E) : Bool := match t with
  | .vr n => E.eq (nth .nr σ.r n) e
  | _ => false
def cmpS (σ : Sb) (t e : E) : Bool := match t with
  | .vs n => E.eq (nth (.cs []) σ.s n) e
  | .cs z => E.eq (.cs z) e
  | _ => false
theorem nth_map {α β : Type} (f : α → β) (d : α) : ∀ (l : List α) (n : Nat), nth (f d) (l.map f) n = f (nth d l n)
  | [], _ => rfl
  | _ :: _, 0 => rfl
  | _ :: xs, n + 1 => nth_map f d xs n
section
variable {v : Val} {σ : Sb}
theorem cmpI_ok {t e : E} (h : cmpI σ t e = true) : (den (σ.val v) t).i = (den v e).i := by
  unfold cmpI at h
  split at h <;> first | (cases h; done) | skip
  all_goals have h := E.eq_ok _ _ h; subst h
  · exact nth_map (fun e => (den v e).i) (.ci 0) σ.i _
  · rfl
  · rename_i n
    rw [mkLen_ok]
    show ((nth [] (σ.r.map fun e => (den v e).r) n).length : Int) = _
    rw [show ([] : List (List Int)) = (den v .nr).r from rfl, nth_map (fun e => (den v e).r) .nr σ.r n]
theorem cmpB_ok {t e : E} (h : cmpB σ t e = true) : (den (σ.val v) t).b = (den v e).b := by
  unfold cmpB at h
  split at h <;> first | (cases h; done) | skip
  all_goals have h := E.eq_ok _ _ h; subst h
  · exact nth_map (fun e => (den v e).b) (.cb false) σ.b _
  · rfl
theorem cmpR_ok {t e : E} (h : cmpR σ t e = true) : (den (σ.val v) t).r = (den v e).r := by
  unfold cmpR at h
  split at h <;> first | (cases h; done) | skip
  have h := E.eq_ok _ _ h; subst h
  exact nth_map (fun e => (den v e).r) .nr σ.r _
theorem cmpS_ok {t e : E} (h : cmpS σ t e = true) : (den (σ.val v) t).s = (den v e).s := by
  unfold cmpS at h
  split at h <;> first | (cases h; done) | skip
  all_goals have h := E.eq_ok _ _ h; subst h
  · exact nth_map (fun e => (den v e).s) (.cs []) σ.s _
  · rfl
end

/-! ### what is known, held against a pattern -/
/-- A pattern: what is kept, and how many letters of each kind it has. -/
structure Tmpl where
  T : ST
  H : SH
  ni : Nat
  nb : Nat
  nr : Nat
  ns : Nat
  kn : Kn := []
/-- Which old name a new one is; a row that lies nowhere. -/
structure Nm where
  old : List (Nat × Nat)
  void : List Nat
def Nm.at (π : Nm) (j : Nat) : Option Nat := π.old.lookup j
def spotC (σ : Sb) : Option E → Option E → Bool
  | none, none => true
  | some t, some e => cmpI σ t e
  | _, _ => false
def cmpSL (π : Nm) (σ : Sb) : SL → SL → Bool
  | .bool a, .bool b => cmpB σ a b
  | .int k a, .int k' b => decide (k = k') && cmpI σ a b
  | .str a, .str b => cmpS σ a b
  | .nilp, .nilp => true
  | .nils, .nils => true
  | .nili, .nili => true
  | .nilf, .nilf => true
  | .ptr id k s, .ptr id' k' s' => decide (π.at id = some id') && decide (k = k') && spotC σ s s'
  | .slc id e n, .slc id' e' n' => decide (π.at id = some id') && cmpI σ e e' && cmpI σ n n'
  | .slc id e n, .nils => π.void.contains id && cmpI σ e (.ci 0) && cmpI σ n (.ci 0)
  | .ifc t x, .ifc t' x' => decide (t = t') && cmpSL π σ x x'
  | .fn f, .fn g => decide (f = g)
  | .ite t x y, b => (cmpB σ t (.cb true) && cmpSL π σ x b) || ((cmpB σ t (.cb false) && cmpSL π σ y b) || (match b with
    | .ite e x' y' => cmpB σ t e && (cmpSL π σ x x' && cmpSL π σ y y')
    | _ => false))
  | _, _ => false
def cmpSLs (π : Nm) (σ : Sb) : List SL → List SL → Bool
  | [], [] => true
  | a :: az, b :: bs => cmpSL π σ a b && cmpSLs π σ az bs
  | _, _ => false
def cmpSW (π : Nm) (σ : Sb) : SW → SW → Bool
  | .one a, .one b => cmpSL π σ a b
  | .agg a, .agg b => cmpSLs π σ a b
  | _, _ => false
def cmpSWs (π : Nm) (σ : Sb) : List SW → List SW → Bool
  | [], [] => true
  | a :: az, b :: bs => cmpSW π σ a b && cmpSWs π σ az bs
  | _, _ => false
def cmpSV (π : Nm) (σ : Sb) : SV → SV → Bool
  | .one a, .one b => cmpSL π σ a b
  | .agg a, .agg b => cmpSLs π σ a b
  | .tup a, .tup b => cmpSWs π σ a b
  | _, _ => false
def cmpSLss (π : Nm) (σ : Sb) : List (List SL) → List (List SL) → Bool
  | [], [] => true
  | a :: az, b :: bs => cmpSLs π σ a b && cmpSLss π σ az bs
  | _, _ => false
def cmpSR (π : Nm) (σ : Sb) : SR → SR → Bool
  | .sym r ks, .sym r' ks' => decide (ks = ks') && cmpR σ r r'
  | .sym r ks, .lits [] => cmpR σ r .nr
  | .lits a, .lits b => cmpSLss π σ a b
  | _, _ => false
def cmpSB (π : Nm) (σ : Sb) : SB → SB → Bool
  | .dead, _ => true
  | .cells a, .cells b => cmpSLs π σ a b
  | .ro a, .ro b => cmpSLs π σ a b
  | .row s z r, .row s' z' r' => (!s || s') && decide (z = z') && cmpSR π σ r r'
  | .old s z r, .old s' z' r' => (!s || s') && decide (z = z') && cmpSR π σ r r'
  | .iter s p, .iter s' p' => cmpS σ s s' && cmpI σ p p'
  | _, _ => false
def nodupB : List Nat → Bool
  | [] => true
  | x :: xs => !xs.contains x && nodupB xs
def chkB (n0 : Nat) (π : Nm) (σ : Sb) (H : SH) (j : Nat) : SB → Bool
  | .row s z r => (match π.at j with
    | some id => (decide (n0 ≤ j) || decide (id = j)) && (match H[id]? with
      | some b => cmpSB π σ (.row s z r) b
      | none => false)
    | none => decide (n0 ≤ j) && (!π.void.contains j || ((!s) && (match r with
      | .sym r _ => cmpR σ r .nr
      | .lits [] => true
      | _ => false))))
  | .old s z r => (match π.at j with
    | some id => (decide (n0 ≤ j) || decide (id = j)) && (match H[id]? with
      | some b => cmpSB π σ (.old s z r) b
      | none => false)
    | none => decide (n0 ≤ j) && (!π.void.contains j || ((!s) && (match r with
      | .sym r _ => cmpR σ r .nr
      | .lits [] => true
      | _ => false))))
  | b => (match π.at j with
    | some id => (decide (n0 ≤ j) || decide (id = j)) && (match H[id]? with
      | some b' => cmpSB π σ b b'
      | none => false)
    | none => decide (n0 ≤ j) && !π.void.contains j)
def chkH (n0 : Nat) (π : Nm) (σ : Sb) (H : SH) : Nat → SH → Bool
  | _, [] => true
  | j, b :: bs => chkB n0 π σ H j b && chkH n0 π σ H (j + 1) bs
def chkT (π : Nm) (σ : Sb) (T : ST) : ST → Bool
  | [] => true
  | (t, x) :: ts => (match T.lookup t with
    | some y => cmpSV π σ x y
    | none => false) && chkT π σ T ts
def chk (n0 : Nat) (π : Nm) (σ : Sb) (tm : Tmpl) (T : ST) (H : SH) : Bool :=
  decide (n0 ≤ tm.H.length) && nodupB (π.old.map (·.2)) && π.old.all (fun p => decide (p.1 < tm.H.length)) && π.void.all (fun j => decide (j < tm.H.length) && decide (π.at j = none)) && chkT π σ T tm.T && chkH n0 π σ H 0 tm.H

/-- Names, told anew. -/
def zOf (H : AHeap) (j : Nat) : Nat := match H[j]? with
  | some (.row _ z _) => z
  | some (.old _ z _) => z
  | _ => 0
def mapN (π : Nm) (H' : AHeap) (m : Mp) : Mp := fun j => match π.at j with
  | some id => m id
  | none => if π.void.contains j = true then some ⟨0, 0, zOf H' j, 0, true⟩ else none
section
variable {m0 : Mp} {H0 : AHeap} {w0 : World} {H : AHeap} {m : Mp} {w w' : World}
theorem Run.norm (h : Run m0 H0 w0 H m w) (h0 : ∀ id i, m0 id = some i → id < H0.length) {π : Nm} {H' : AHeap} (hlen : H0.length ≤ H'.length) (hid : ∀ j, j < H0.length → π.at j = some j)
    (hinj : ∀ i j k, π.at i = some k → π.at j = some k → i = j) (hlt : ∀ j k, π.at j = some k → j < H'.length) (hvlt : ∀ j, π.void.contains j = true → j < H'.length)
    (hb : ∀ j b' id, H'[j]? = some b' → π.at j = some id → b' = .dead ∨ ∃ b, H[id]? = some b ∧ (b'.own = true → b.own = true) ∧ (b'.live = true → b.live = true) ∧ ∀ w i, BRel m w i b → BRel (mapN π H' m) w i b')
    (hv : ∀ j b', H'[j]? = some b' → π.at j = none → π.void.contains j = true → ∃ z, b' = .row false z [] ∨ b' = .old false z []) : Run m0 H0 w0 H' (mapN π H' m) w := by
  have hm : ∀ j i, mapN π H' m j = some i → i.void = false → ∃ id, π.at j = some id ∧ m id = some i := by
    intro j i hj hvi
    unfold mapN at hj
    split at hj
    · rename_i id hid; exact ⟨id, hid, hj⟩
    · split at hj
      · cases hj; cases hvi
      · cases hj
  have hlv : ∀ j b' id, H'[j]? = some b' → π.at j = some id → b'.live = true → ∃ b, H[id]? = some b ∧ (b'.own = true → b.own = true) ∧ b.live = true := by
    intro j b' id hj hid hl
    rcases hb j b' id hj hid with rfl | ⟨b, h1, h2, h3, _⟩
    · cases hl
    · exact ⟨b, h1, h2, h3 hl⟩
  refine ⟨⟨fun j i hj => ?_, fun j j' i1 i2 b1 b2 h1 h2 h3 h4 h5 h6 h7 h8 h9 => ?_, h.mt.base, fun j i b hj hbj ho hvj => (by
      obtain ⟨id1, q1, p1⟩ := hm _ _ hj hvj
      obtain ⟨c1, e1, e2, _⟩ := hlv _ _ _ hbj q1 (ABlk.own_live ho)
      exact h.mt.ownb id1 i c1 p1 e1 (e2 ho) hvj)⟩, fun id i hi => ?_, fun q hq => ?_, hlen, fun q bq hq hbq hl => ?_, fun q iq bq hq hiq hbq hl hvq => ?_, h.os, h.tape, h.output, h.size, h.keep⟩
  · unfold mapN at hj
    split at hj
    · rename_i id hid
      have hl := hlt j id hid
      refine ⟨H'[j], List.getElem?_eq_getElem hl, ?_⟩
      rcases hb j _ id (List.getElem?_eq_getElem hl) hid with e | ⟨b, g1, _, _, g4⟩
      · rw [e]; trivial
      · obtain ⟨b2, g5, g6⟩ := h.mt.has _ _ hj
        rw [g1] at g5
        cases g5
        exact g4 w i g6
    · rename_i hn
      split at hj
      · rename_i hc
        cases hj
        have hl := hvlt j hc
        obtain ⟨z, hz⟩ := hv j _ (List.getElem?_eq_getElem hl) hn hc
        refine ⟨_, List.getElem?_eq_getElem hl, ?_⟩
        rcases hz with hz | hz
        · have : zOf H' j = z := by unfold zOf; rw [List.getElem?_eq_getElem hl, hz]
          rw [this, hz]
          exact ⟨rfl, rfl, RowOk.nil z, .inl ⟨rfl, rfl, rfl⟩⟩
        · have : zOf H' j = z := by unfold zOf; rw [List.getElem?_eq_getElem hl, hz]
          rw [this, hz]
          exact ⟨rfl, RowOk.nil z, .inl ⟨rfl, rfl, rfl⟩⟩
      · cases hj
  · obtain ⟨id1, q1, p1⟩ := hm _ _ h1 h7
    obtain ⟨id2, q2, p2⟩ := hm _ _ h2 h8
    obtain ⟨c1, e1, e2, e3⟩ := hlv _ _ _ h3 q1 (ABlk.own_live h5)
    obtain ⟨c2, f1, f2, f3⟩ := hlv _ _ _ h4 q2 h6
    have := h.mt.inj _ _ i1 i2 c1 c2 p1 p2 e1 f1 (e2 h5) f3 h7 h8 h9
    subst this
    exact hinj _ _ _ q1 q2
  · have hl := h0 id i hi
    unfold mapN
    rw [hid id hl]
    exact h.ext _ _ hi
  · unfold mapN
    rw [hid q hq]
    exact h.dom q hq
  · obtain ⟨c, e1, e2, e3⟩ := hlv _ _ _ hbq (hid q hq) hl
    obtain ⟨b0, g1, g2, g3⟩ := h.old q c hq e1 e3
    exact ⟨b0, g1, g2, fun ho => g3 (e2 ho)⟩
  · obtain ⟨id, l, hiq⟩ := hm _ _ hiq hvq
    obtain ⟨c, e1, e2, e3⟩ := hlv _ _ _ hbq l hl
    refine h.new id iq c ?_ hiq e1 e3 hvq
    rcases Nat.lt_or_ge id H0.length with hlt' | hge
    · have := hinj id q id (hid _ hlt') l
      omega
    · exact hge
end
section
variable {v : Val} {π : Nm} {σ : Sb} {m : Mp} {H' : AHeap}
theorem mapN_at {j id : Nat} (h : π.at j = some id) : mapN π H' m j = m id := by unfold mapN; rw [h]
theorem spotC_ok {s s' : Option E} (h : spotC σ s s' = true) : spot (σ.val v) s = spot v s' := by
  cases s <;> cases s' <;> simp only [spotC] at h <;> first | (cases h; done) | rfl | skip
  simp only [spot, cmpI_ok (v := v) h]
theorem cmpSL_ok (hvn : ∀ j, π.void.contains j = true → π.at j = none) : ∀ {a b : SL}, cmpSL π σ a b = true → ∀ {u : Value}, VRel m (dl v b) u → VRel (mapN π H' m) (dl (σ.val v) a) u := by
  intro a
  induction a with
  | bool a =>
    intro b h u hu
    cases b <;> first | (cases h; done) | skip
    cases hu; rw [dl_bool, cmpB_ok (v := v) h]; exact .bool _
  | int k a =>
    intro b h u hu
    cases b <;> first | (cases h; done) | skip
    simp only [cmpSL, Bool.and_eq_true, decide_eq_true_eq] at h
    obtain ⟨rfl, h⟩ := h
    cases hu; rw [dl_int, cmpI_ok (v := v) h]; exact .int _ _
  | str a =>
    intro b h u hu
    cases b <;> first | (cases h; done) | skip
    cases hu; rw [dl_str, cmpS_ok (v := v) h]; exact .str _
  | nilp => intro b h u hu; cases b <;> first | (cases h; done) | (cases hu; exact .nilp)
  | nils => intro b h u hu; cases b <;> first | (cases h; done) | (cases hu; exact .nils)
  | nili => intro b h u hu; cases b <;> first | (cases h; done) | (cases hu; exact .nili)
  | nilf => intro b h u hu; cases b <;> first | (cases h; done) | (cases hu; exact .nilf)
  | ptr id k s =>
    intro b h u hu
    cases b <;> first | (cases h; done) | skip
    simp only [cmpSL, Bool.and_eq_true, decide_eq_true_eq] at h
    obtain ⟨⟨h1, rfl⟩, h3⟩ := h
    rw [dl_ptr] at hu
    rw [dl_ptr, spotC_ok (v := v) h3]
    cases hu with
    | ptr q qv => exact .ptr (by rw [mapN_at h1]; exact q) qv
  | slc id e n =>
    intro b h u hu
    cases b with
    | slc id' e' n' =>
      simp only [cmpSL, Bool.and_eq_true, decide_eq_true_eq] at h
      obtain ⟨⟨h1, h2⟩, h3⟩ := h
      rw [dl_slc] at hu
      rw [dl_slc, cmpI_ok (v := v) h2, cmpI_ok (v := v) h3]
      generalize (den v e').i.toNat = x at hu ⊢
      generalize (den v n').i.toNat = y at hu ⊢
      cases hu with
      | slc q qv ql qc => exact .slc (by rw [mapN_at h1]; exact q) qv ql qc
      | vslc q qv => exact .vslc (by rw [mapN_at h1]; exact q) qv
      | eslc q qv => exact .eslc (by rw [mapN_at h1]; exact q) qv
    | nils =>
      simp only [cmpSL, Bool.and_eq_true, decide_eq_true_eq] at h
      obtain ⟨⟨h1, h2⟩, h3⟩ := h
      cases hu
      rw [dl_slc, cmpI_ok (v := v) h2, cmpI_ok (v := v) h3]
      refine .vslc (i := ⟨0, 0, zOf H' id, 0, true⟩) ?_ rfl
      unfold mapN
      rw [hvn id h1, if_pos h1]
    | _ => cases h
  | ifc t x ih =>
    intro b h u hu
    cases b <;> first | (cases h; done) | skip
    simp only [cmpSL, Bool.and_eq_true, decide_eq_true_eq] at h
    obtain ⟨rfl, h⟩ := h
    cases hu with
    | iface q => exact .iface (ih h q)
  | fn f =>
    intro b h u hu
    cases b <;> first | (cases h; done) | skip
    simp only [cmpSL, decide_eq_true_eq] at h
    subst h
    cases hu with
    | func hs h hs2 h2 => exact .func hs (fun j x y hx => by simp at hx) hs2 (fun j x y hx => by simp at hx)
  | ite t x y ihx ihy =>
    intro b h u hu
    rw [dl_ite]
    simp only [cmpSL, Bool.and_eq_true, Bool.or_eq_true] at h
    rcases h with ⟨h1, h2⟩ | ⟨h1, h2⟩ | h
    · have e : (den (σ.val v) t).b = true := cmpB_ok (v := v) h1
      rw [if_pos e]; exact ihx h2 hu
    · have e : (den (σ.val v) t).b = false := cmpB_ok (v := v) h1
      rw [if_neg (by rw [e]; decide)]; exact ihy h2 hu
    · split at h
      · simp only [Bool.and_eq_true] at h
        obtain ⟨h1, h2, h3⟩ := h
        rw [dl_ite] at hu
        rw [cmpB_ok (v := v) h1]
        split at hu
        · rename_i hc; rw [if_pos hc]; exact ihx h2 hu
        · rename_i hc; rw [if_neg hc]; exact ihy h3 hu
      · cases h
theorem cmpSLs_ok (hvn : ∀ j, π.void.contains j = true → π.at j = none) : ∀ {az bs : List SL}, cmpSLs π σ az bs = true → ∀ {us : List Value}, LRel m (dls v bs) us → LRel (mapN π H' m) (dls (σ.val v) az) us
  | [], [], _, us, hu => by obtain rfl := hu.nil_inv; exact .nil _
  | a :: az, b :: bs, h, us, hu => by
    simp only [cmpSLs, Bool.and_eq_true] at h
    obtain ⟨u, us', rfl, k1, k2⟩ := LRel.cons_inv (show LRel m (dl v b :: dls v bs) us from hu)
    exact .cons (cmpSL_ok hvn h.1 k1) (cmpSLs_ok hvn h.2 k2)
  | [], _ :: _, h, _, _ => by cases h
  | _ :: _, [], h, _, _ => by cases h
theorem agg_inv {vs : List Value} {u : Value} (h : VRel m (.agg vs.toArray) u) : ∃ us : List Value, u = .agg us.toArray ∧ LRel m vs us := by
  cases h with
  | @agg _ ds ks kk => exact ⟨ds.toList, by simp, by simpa using ks, fun j a b ha hb => kk j a b (by simpa using ha) (by simpa using hb)⟩
theorem tup_inv {vs : List Value} {u : Value} (h : VRel m (.tuple vs.toArray) u) : ∃ us : List Value, u = .tuple us.toArray ∧ LRel m vs us := by
  cases h with
  | @tuple _ ds ks kk => exact ⟨ds.toList, by simp, by simpa using ks, fun j a b ha hb => kk j a b (by simpa using ha) (by simpa using hb)⟩
theorem tup_mk {vs us : List Value} (h : LRel m vs us) : VRel m (.tuple vs.toArray) (.tuple us.toArray) := .tuple (by simpa using h.1) fun j a b ha hb => h.2 j a b (by simpa using ha) (by simpa using hb)
theorem cmpSW_ok (hvn : ∀ j, π.void.contains j = true → π.at j = none) {a b : SW} (h : cmpSW π σ a b = true) {u : Value} (hu : VRel m (dw v b) u) : VRel (mapN π H' m) (dw (σ.val v) a) u := by
  cases a <;> cases b <;> first | (cases h; done) | skip
  · exact cmpSL_ok hvn h hu
  · obtain ⟨us, rfl, hu2⟩ := agg_inv hu
    exact .ofL (cmpSLs_ok hvn h hu2)
theorem cmpSWs_ok (hvn : ∀ j, π.void.contains j = true → π.at j = none) : ∀ {az bs : List SW}, cmpSWs π σ az bs = true → ∀ {us : List Value}, LRel m (bs.map (dw v)) us → LRel (mapN π H' m) (az.map (dw (σ.val v))) us
  | [], [], _, us, hu => by obtain rfl := hu.nil_inv; exact .nil _
  | a :: az, b :: bs, h, us, hu => by
    simp only [cmpSWs, Bool.and_eq_true] at h
    obtain ⟨u, us', rfl, k1, k2⟩ := LRel.cons_inv (show LRel m (dw v b :: bs.map (dw v)) us from hu)
    exact .cons (cmpSW_ok hvn h.1 k1) (cmpSWs_ok hvn h.2 k2)
  | [], _ :: _, h, _, _ => by cases h
  | _ :: _, [], h, _, _ => by cases h
theorem cmpSV_ok (hvn : ∀ j, π.void.contains j = true → π.at j = none) {a b : SV} (h : cmpSV π σ a b = true) {u : Value} (hu : VRel m (dv v b) u) : VRel (mapN π H' m) (dv (σ.val v) a) u := by
  cases a <;> cases b <;> first | (cases h; done) | skip
  · exact cmpSL_ok hvn h hu
  · obtain ⟨us, rfl, hu2⟩ := agg_inv hu
    exact .ofL (cmpSLs_ok hvn h hu2)
  · obtain ⟨us, rfl, hu2⟩ := tup_inv hu
    exact tup_mk (cmpSWs_ok hvn h hu2)
theorem cmpSLss_ok (hvn : ∀ j, π.void.contains j = true → π.at j = none) : ∀ {az bs : List (List SL)}, cmpSLss π σ az bs = true → az.length = bs.length ∧ ∀ (e : Nat) (c : List Value), (az.map (dls (σ.val v)))[e]? = some c → ∃ c0, (bs.map (dls v))[e]? = some c0 ∧ c.length = c0.length ∧ (∀ x ∈ c, x.oneCell' = true) ∧ ∀ {us : List Value}, LRel m c0 us → LRel (mapN π H' m) c us
  | [], [], _ => ⟨rfl, fun e c h => by simp at h⟩
  | a :: az, b :: bs, h => by
    simp only [cmpSLss, Bool.and_eq_true] at h
    obtain ⟨h1, h2⟩ := cmpSLss_ok hvn h.2
    refine ⟨by simp [h1], fun e c hc => ?_⟩
    cases e with
    | zero =>
      simp at hc; subst hc
      refine ⟨_, rfl, ?_, fun x hx => ?_, fun hu => cmpSLs_ok hvn h.1 hu⟩
      · have : ∀ {az bs : List SL}, cmpSLs π σ az bs = true → az.length = bs.length := by
          intro az
          induction az with
          | nil => intro bs h; cases bs <;> first | rfl | cases h
          | cons x xs ih => intro bs h; cases bs with
            | nil => cases h
            | cons y ys => simp only [cmpSLs, Bool.and_eq_true] at h; simp [ih h.2]
        rw [dls_len, dls_len, this h.1]
      · exact List.all_eq_true.1 (dls_ones _ _) x hx
    | succ e => simpa using h2 e c (by simpa using hc)
  | [], _ :: _, h => by cases h
  | _ :: _, [], h => by cases h
theorem colV_scal (k : CC) (x : Int) : scal (colV k x) = true := by cases k <;> rfl
theorem toVs_scal : ∀ (ks : List CC) (e : List Int) (x : Value), x ∈ toVs ks e → scal x = true
  | [], _, x, h => by cases h
  | k :: ks, e, x, h => by
    rcases List.mem_cons.1 h with rfl | h
    · exact colV_scal _ _
    · exact toVs_scal ks _ x h
theorem scal_re {m m' : Mp} {x u : Value} (h : scal x = true) (k : VRel m x u) : VRel m' x u := by cases x <;> simp [scal] at h <;> cases k <;> constructor
/-- Elements of a row, told anew. -/
theorem cmpSR_ok (hvn : ∀ j, π.void.contains j = true → π.at j = none) {r r' : SR} (h : cmpSR π σ r r' = true) : (dr (σ.val v) r).length = (dr v r').length ∧
    ∀ (e : Nat) (c : List Value), (dr (σ.val v) r)[e]? = some c → ∃ c0, (dr v r')[e]? = some c0 ∧ c.length = c0.length ∧ (∀ x ∈ c, x.oneCell' = true) ∧ ∀ {us : List Value}, LRel m c0 us → LRel (mapN π H' m) c us := by
  unfold cmpSR at h
  split at h
  · simp only [Bool.and_eq_true, decide_eq_true_eq] at h
    obtain ⟨rfl, h⟩ := h
    have h := cmpR_ok (v := v) h
    simp only [dr, h]
    refine ⟨trivial, fun e c hc => ⟨c, hc, rfl, fun x hx => ?_, fun {us} hu => ⟨hu.1, fun j a b ha hb => ?_⟩⟩⟩
    · rw [List.getElem?_map] at hc
      cases hq : (den v _).r[e]? with
      | none => rw [hq] at hc; cases hc
      | some q => rw [hq] at hc; cases hc; have := toVs_scal _ _ x hx; cases x <;> simp [scal] at this <;> rfl
    · rw [List.getElem?_map] at hc
      cases hq : (den v _).r[e]? with
      | none => rw [hq] at hc; cases hc
      | some q => rw [hq] at hc; cases hc; exact scal_re (toVs_scal _ _ a (List.mem_of_getElem? ha)) (hu.2 j a b ha hb)
  · have h := cmpR_ok (v := v) h
    simp only [dr, h, den, mkR]
    exact ⟨rfl, fun e c hc => by simp at hc⟩
  · obtain ⟨h1, h2⟩ := cmpSLss_ok (v := v) (m := m) (H' := H') hvn h
    exact ⟨by simpa [dr] using h1, h2⟩
  · cases h
theorem cmpSB_ok (hvn : ∀ j, π.void.contains j = true → π.at j = none) {b b' : SB} (h : cmpSB π σ b b' = true) : db (σ.val v) b = .dead ∨ (((db (σ.val v) b).own = true → (db v b').own = true) ∧ ((db (σ.val v) b).live = true → (db v b').live = true) ∧
    ∀ (w : World) (i : MI), BRel m w i (db v b') → BRel (mapN π H' m) w i (db (σ.val v) b)) := by
  unfold cmpSB at h
  split at h
  · exact .inl rfl
  · refine .inr ⟨id, id, ?_⟩
    rintro w i ⟨k1, k2, k3, cs, T, k5, k6⟩
    exact ⟨k1, k2, k3, cs, T, k5, cmpSLs_ok hvn h k6⟩
  · refine .inr ⟨id, id, ?_⟩
    rintro w i ⟨k1, k2, k3, cs, T, k5, k6⟩
    exact ⟨k1, k2, k3, cs, T, k5, cmpSLs_ok hvn h k6⟩
  · rename_i s z r s' z' r'
    simp only [Bool.and_eq_true, decide_eq_true_eq, Bool.or_eq_true, Bool.not_eq_true'] at h
    obtain ⟨⟨hs, rfl⟩, h⟩ := h
    obtain ⟨h1, h2⟩ := cmpSR_ok (v := v) (m := m) (H' := H') hvn h
    refine .inr ⟨id, id, ?_⟩
    rintro w i ⟨k1, k2, k3, k4⟩
    refine ⟨k1, k2, fun c hc => ?_, k4.imp ?_ ?_⟩
    · obtain ⟨e, he, rfl⟩ := List.getElem_of_mem hc
      obtain ⟨c0, g1, g2, g3, _⟩ := h2 e _ (List.getElem?_eq_getElem he)
      exact ⟨by rw [g2]; exact (k3 c0 (List.mem_of_getElem? g1)).1, g3⟩
    · rintro ⟨g1, g2, g3⟩
      refine ⟨g1, List.length_eq_zero_iff.1 (by rw [h1, g2]; rfl), ?_⟩
      rcases hs with hs | hs
      · exact hs
      · rw [g3] at hs; cases hs
    · rintro ⟨k5, cs, T, k7, k8, k9, k10⟩
      refine ⟨k5, cs, T, k7, k8, by rw [h1]; exact k9, fun e c he => ?_⟩
      obtain ⟨c0, g1, g2, _, g4⟩ := h2 e c he
      exact g4 (k10 e c0 g1)
  · rename_i s z r s' z' r'
    simp only [Bool.and_eq_true, decide_eq_true_eq, Bool.or_eq_true, Bool.not_eq_true'] at h
    obtain ⟨⟨hs, rfl⟩, h⟩ := h
    obtain ⟨h1, h2⟩ := cmpSR_ok (v := v) (m := m) (H' := H') hvn h
    refine .inr ⟨id, id, ?_⟩
    rintro w i ⟨k1, k3, k4⟩
    refine ⟨k1, fun c hc => ?_, k4.imp ?_ ?_⟩
    · obtain ⟨e, he, rfl⟩ := List.getElem_of_mem hc
      obtain ⟨c0, g1, g2, g3, _⟩ := h2 e _ (List.getElem?_eq_getElem he)
      exact ⟨by rw [g2]; exact (k3 c0 (List.mem_of_getElem? g1)).1, g3⟩
    · rintro ⟨g1, g2, g3⟩
      refine ⟨g1, List.length_eq_zero_iff.1 (by rw [h1, g2]; rfl), ?_⟩
      rcases hs with hs | hs
      · exact hs
      · rw [g3] at hs; cases hs
    · rintro ⟨k5, k6, k7⟩
      refine ⟨k5, k6, fun e c k x he hx => ?_⟩
      obtain ⟨c0, g1, g2, _, g4⟩ := h2 e c he
      have hk : k < c0.length := by rw [← g2]; exact (List.getElem?_eq_some_iff.1 hx).1
      -- the cells of the element, as values
      have hall : ∃ us : List Value, LRel m c0 us ∧ ∀ (j : Nat) (u : Value), us[j]? = some u → w.cell? ((⟨i.blk, i.off + e * z + 0, none⟩ : Addr).add j) = some u :=
        mem_vals fun j y hy => by
          obtain ⟨b, hb, hr⟩ := k7 e c0 j y g1 hy
          exact ⟨b, by rw [add_none]; simpa using hb, hr⟩
      obtain ⟨us, hu1, hu2⟩ := hall
      have hu3 := g4 hu1
      obtain ⟨u, hu, hr⟩ := hu3.get hx
      have := hu2 k u hu
      rw [add_none] at this
      exact ⟨u, by simpa using this, hr⟩
  · rename_i s p s' p'
    simp only [Bool.and_eq_true] at h
    simp only [db, cmpS_ok (v := v) h.1, cmpI_ok (v := v) h.2]
    exact .inr ⟨id, id, fun w i h => h⟩
  · cases h
end
theorem nodup_inj : ∀ {l : List (Nat × Nat)}, nodupB (l.map (·.2)) = true → ∀ {i j k : Nat}, l.lookup i = some k → l.lookup j = some k → i = j
  | [], _, _, _, _, h, _ => by cases h
  | (a, b) :: l, hn, i, j, k, hi, hj => by
    simp only [List.map_cons, nodupB, Bool.and_eq_true, Bool.not_eq_true'] at hn
    have hmem : ∀ {x : Nat}, l.lookup x = some k → k ∈ l.map (·.2) := by
      intro x hx
      have : ∀ {l : List (Nat × Nat)}, l.lookup x = some k → k ∈ l.map (·.2) := by
        intro l
        induction l with
        | nil => intro h; cases h
        | cons p l ih =>
          intro h
          obtain ⟨c, d⟩ := p
          simp only [List.lookup_cons] at h
          cases hc : x == c with
          | true => rw [hc] at h; cases h; simp
          | false => rw [hc] at h; simp only [List.map_cons, List.mem_cons]; exact .inr (ih h)
      exact this hx
    simp only [List.lookup_cons] at hi hj
    cases ci : i == a <;> cases cj : j == a <;> rw [ci] at hi <;> rw [cj] at hj <;> simp only at hi hj
    · exact nodup_inj hn.2 hi hj
    · cases hj
      have := hmem hi
      have hc := hn.1
      simp at hc
      simp at this
      obtain ⟨q, hq⟩ := this
      exact absurd hq (hc q)
    · cases hi
      have := hmem hj
      have hc := hn.1
      simp at hc
      simp at this
      obtain ⟨q, hq⟩ := this
      exact absurd hq (hc q)
    · have := beq_iff_eq.1 ci; have := beq_iff_eq.1 cj; omega
theorem chkT_ok {π : Nm} {σ : Sb} {T : ST} : ∀ {ts : ST}, chkT π σ T ts = true → ∀ t x, ts.lookup t = some x → ∃ y, T.lookup t = some y ∧ cmpSV π σ x y = true
  | [], _, t, x, h => by cases h
  | (u, z) :: ts, h, t, x, hx => by
    simp only [chkT, Bool.and_eq_true] at h
    simp only [List.lookup_cons] at hx
    cases hc : t == u with
    | true =>
      rw [hc] at hx
      cases hx
      have : t = u := by simpa using hc
      subst this
      have h1 := h.1
      split at h1
      · rename_i y hy; exact ⟨y, hy, h1⟩
      · cases h1
    | false => rw [hc] at hx; exact chkT_ok h.2 t x hx
theorem chkH_ok {n0 : Nat} {π : Nm} {σ : Sb} {H : SH} : ∀ {k : Nat} {bs : SH}, chkH n0 π σ H k bs = true → ∀ j b, bs[j]? = some b → chkB n0 π σ H (k + j) b = true
  | k, [], _, j, b, h => by simp at h
  | k, c :: bs, h, 0, b, hb => by
    simp only [chkH, Bool.and_eq_true] at h
    simp at hb; subst hb; exact h.1
  | k, c :: bs, h, j + 1, b, hb => by
    simp only [chkH, Bool.and_eq_true] at h
    have := chkH_ok h.2 j b (by simpa using hb)
    rwa [show k + 1 + j = k + (j + 1) by omega] at this
theorem chkB_some {n0 : Nat} {π : Nm} {σ : Sb} {H : SH} {j id : Nat} {b : SB} (h : chkB n0 π σ H j b = true) (hid : π.at j = some id) : (n0 ≤ j ∨ id = j) ∧ ∃ b', H[id]? = some b' ∧ cmpSB π σ b b' = true := by
  cases b <;> simp only [chkB, hid, Bool.and_eq_true, Bool.or_eq_true, decide_eq_true_eq] at h <;> (refine ⟨h.1, ?_⟩; have h2 := h.2; split at h2 <;> first | (rename_i b' hb; exact ⟨b', hb, h2⟩) | cases h2)
theorem chkB_none {n0 : Nat} {π : Nm} {σ : Sb} {H : SH} {v : Val} {j : Nat} {b : SB} (h : chkB n0 π σ H j b = true) (hid : π.at j = none) : n0 ≤ j := by
  cases b <;> simp only [chkB, hid, Bool.and_eq_true, decide_eq_true_eq] at h <;> exact h.1
theorem chkB_void {n0 : Nat} {π : Nm} {σ : Sb} {H : SH} {v : Val} {j : Nat} {b : SB} (h : chkB n0 π σ H j b = true) (hid : π.at j = none) (hc : π.void.contains j = true) : ∃ z, db (σ.val v) b = .row false z [] ∨ db (σ.val v) b = .old false z [] := by
  cases b <;> simp only [chkB, hid, hc, Bool.and_eq_true, decide_eq_true_eq, Bool.not_true, Bool.false_or, Bool.not_eq_true', Bool.false_eq_true, and_false] at h
  · rename_i s z r
    obtain ⟨h1, rfl, h4⟩ := h
    refine ⟨z, .inl ?_⟩
    split at h4
    · have := cmpR_ok (v := v) h4
      simp only [db, dr, this]; rfl
    · rfl
    · cases h4
  · rename_i s z r
    obtain ⟨h1, rfl, h4⟩ := h
    refine ⟨z, .inr ?_⟩
    split at h4
    · have := cmpR_ok (v := v) h4
      simp only [db, dr, this]; rfl
    · rfl
    · cases h4
/-- What is known is no less than the pattern tells. -/
theorem chk_ok {N : Nat} {H0 : AHeap} {n0 : Nat} {π : Nm} {σ : Sb} {tm : Tmpl} {T : ST} {H : SH} {v : Val} (hn : n0 = H0.length) (h : chk n0 π σ tm T H = true) : Le N H0 (dT v T) (dH v H) (dT (σ.val v) tm.T) (dH (σ.val v) tm.H) := by
  rintro m0 w0 a w hM ⟨m, h1, h2, h3, h4⟩
  simp only [chk, Bool.and_eq_true, decide_eq_true_eq, List.all_eq_true] at h
  obtain ⟨⟨⟨⟨⟨hlen, hnd⟩, hold⟩, hvoid⟩, hT⟩, hH⟩ := h
  have hvn : ∀ j, π.void.contains j = true → π.at j = none := fun j hj => (hvoid j (by simpa using hj)).2
  have hlt : ∀ j k, π.at j = some k → j < tm.H.length := by
    intro j k hj
    have : ∀ {l : List (Nat × Nat)}, l.lookup j = some k → (j, k) ∈ l := by
      intro l
      induction l with
      | nil => intro h; cases h
      | cons p l ih =>
        intro h
        obtain ⟨c, d⟩ := p
        simp only [List.lookup_cons] at h
        cases hc : j == c with
        | true => rw [hc] at h; cases h; have : j = c := by simpa using hc
                  subst this; simp
        | false => rw [hc] at h; exact List.mem_cons_of_mem _ (ih h)
    exact hold _ (this hj)
  have hB : ∀ (j : Nat) (b : SB), tm.H[j]? = some b → chkB n0 π σ H j b = true := fun j b hb => by have := chkH_ok hH j b hb; simpa using this
  have hH' : ∀ (j : Nat) (b' : ABlk), (dH (σ.val v) tm.H)[j]? = some b' → ∃ b : SB, tm.H[j]? = some b ∧ b' = db (σ.val v) b := by
    intro j b' hb
    rw [dH_get] at hb
    cases hq : tm.H[j]? with
    | none => rw [hq] at hb; cases hb
    | some b => rw [hq] at hb; cases hb; exact ⟨b, rfl, rfl⟩
  have hid : ∀ j, j < H0.length → π.at j = some j := by
    intro j hj
    have hl : j < tm.H.length := by omega
    have := hB j _ (List.getElem?_eq_getElem hl)
    cases hp : π.at j with
    | none => have := chkB_none (v := v) this hp; omega
    | some id => rcases (chkB_some this hp).1 with g | g
                 · omega
                 · rw [g]
  refine ⟨mapN π (dH (σ.val v) tm.H) m, Run.norm h1 (fun id i hi => hM.lt hi) (by rw [dH_len]; omega) hid (fun i j k hi hj => nodup_inj hnd hi hj) (fun j k hj => by rw [dH_len]; exact hlt j k hj) (fun j hj => by rw [dH_len]; exact (hvoid j (by simpa using hj)).1) ?_ ?_, ?_, h3, h4⟩
  · intro j b' id hb hid'
    obtain ⟨b, hb2, rfl⟩ := hH' j b' hb
    obtain ⟨_, c, hc, hcmp⟩ := chkB_some (hB j b hb2) hid'
    rcases cmpSB_ok (v := v) (m := m) (H' := dH (σ.val v) tm.H) hvn hcmp with g | ⟨g1, g2, g3⟩
    · exact .inl g
    · exact .inr ⟨db v c, dH_get' (H := H) hc, g1, g2, g3⟩
  · intro j b' hb hn' hc
    obtain ⟨b, hb2, rfl⟩ := hH' j b' hb
    exact chkB_void (v := v) (hB j b hb2) hn' hc
  · intro t x hx
    rw [dT_lookup] at hx
    cases hq : tm.T.lookup t with
    | none => rw [hq] at hx; cases hx
    | some y =>
      rw [hq] at hx
      cases hx
      obtain ⟨z, hz, hcmp⟩ := chkT_ok hT t y hq
      obtain ⟨g1, g2⟩ := h2 t (dv v z) (by rw [dT_lookup, hz]; rfl)
      exact ⟨g1, cmpSV_ok hvn hcmp g2⟩
end Go.Proofs.Ytpgkbdkkcladcaa.Sy
/- The second engine, part 8: a function's pieces from loop to loop, and what follows of them all. A lemma file: it claims nothing of the program. -/
namespace Go.Proofs.Ytpgkbdkkcladcaa.Sy
open Go Go.Lib Go.Proofs.Ytpgkbdkkcladcaa.Eng

/-! ### how a pattern is met: found, then looked at (S7) -/
structure Mt where
  i : List (Nat × E) := []
  b : List (Nat × E) := []
  r : List (Nat × E) := []
  s : List (Nat × E) := []
  old : List (Nat × Nat) := []
  void : List Nat := []
  todo : List (Nat × Nat) := []
def Mt.ptr (M : Mt) (a b : Nat) : Mt := match M.old.lookup a with
  | some _ => M
  | none => { M with old := (a, b) :: M.old, todo := (a, b) :: M.todo }
def mtE (t e : E) (M : Mt) : Mt := match t with
  | .vi n => match M.i.lookup n with
    | some _ => M
    | none => { M with i := (n, e) :: M.i }
  | .vb n => match M.b.lookup n with
    | some _ => M
    | none => { M with b := (n, e) :: M.b }
  | .vr n => match M.r.lookup n with
    | some _ => M
    | none => { M with r := (n, e) :: M.r }
  | .vs n => match M.s.lookup n with
    | some _ => M
    | none => { M with s := (n, e) :: M.s }
  | _ => M
def fits : SL → SL → Bool
  | .ptr _ _ _, .ptr _ _ _ => true
  | .slc _ _ _, .slc _ _ _ => true
  | .nilp, .nilp => true
  | .nili, .nili => true
  | .nils, .nils => true
  | .ifc t x, .ifc t' x' => decide (t = t') && fits x x'
  | _, _ => false
def mtSL : SL → SL → Mt → Mt
  | .bool a, .bool b, M => mtE a b M
  | .int _ a, .int _ b, M => mtE a b M
  | .str a, .str b, M => mtE a b M
  | .ptr i _ s, .ptr j _ s', M => (match s, s' with
    | some a, some b => mtE a b (M.ptr i j)
    | _, _ => M.ptr i j)
  | .slc i e n, .slc j e' n', M => mtE n n' (mtE e e' (M.ptr i j))
  | .slc i _ _, .nils, M => if M.void.contains i = true then M else { M with void := i :: M.void }
  | .ifc _ x, .ifc _ y, M => mtSL x y M
  | .ite t x y, b, M => (match b with
    | .ite e x' y' => mtSL y y' (mtSL x x' (mtE t e M))
    | b => match fits x b with
      | true => mtSL x b (mtE t (.cb true) M)
      | false => mtSL y b (mtE t (.cb false) M))
  | _, _, M => M
def mtSLs : List SL → List SL → Mt → Mt
  | a :: az, b :: bs, M => mtSLs az bs (mtSL a b M)
  | _, _, M => M
def mtSWs : List SW → List SW → Mt → Mt
  | .one a :: az, .one b :: bs, M => mtSWs az bs (mtSL a b M)
  | .agg a :: az, .agg b :: bs, M => mtSWs az bs (mtSLs a b M)
  | _, _, M => M
def mtSV : SV → SV → Mt → Mt
  | .one a, .one b, M => mtSL a b M
  | .agg a, .agg b, M => mtSLs a b M
  | .tup a, .tup b, M => mtSWs a b M
  | _, _, M => M
def mtSR : SR → SR → Mt → Mt
  | .sym r _, .sym r' _, M => mtE r r' M
  | .sym r _, .lits _, M => mtE r .nr M
  | .lits a, .lits b, M => mtLL a b M
  | _, _, M => M
where mtLL : List (List SL) → List (List SL) → Mt → Mt
  | a :: az, b :: bs, M => mtLL az bs (mtSLs a b M)
  | _, _, M => M
def mtSB : SB → SB → Mt → Mt
  | .cells a, .cells b, M => mtSLs a b M
  | .ro a, .ro b, M => mtSLs a b M
  | .ro a, .cells b, M => mtSLs a b M
  | .row _ _ r, .row _ _ r', M => mtSR r r' M
  | .old _ _ r, .old _ _ r', M => mtSR r r' M
  | .old _ _ r, .row _ _ r', M => mtSR r r' M
  | .iter s p, .iter s' p', M => mtE p p' (mtE s s' M)
  | _, _, M => M
def mtRun (tm : Tmpl) (H : SH) : Nat → Mt → Mt
  | 0, M => M
  | n + 1, M => match M.todo with
    | [] => M
    | (a, b) :: rest => mtRun tm H n (match tm.H[a]?, H[b]? with
      | some x, some y => mtSB x y { M with todo := rest }
      | _, _ => { M with todo := rest })
def mtT (T : ST) : ST → Mt → Mt
  | [], M => M
  | (t, x) :: ts, M => mtT T ts (match T.lookup t with
    | some y => mtSV x y M
    | none => M)
def mtVoid (tm : Tmpl) : List Nat → Mt → Mt
  | [], M => M
  | j :: js, M => mtVoid tm js (match tm.H[j]? with
    | some (.row _ _ (.sym r _)) => mtE r .nr M
    | some (.old _ _ (.sym r _)) => mtE r .nr M
    | _ => M)
def amatch (n0 : Nat) (tm : Tmpl) (T : ST) (H : SH) : Sb × Nm :=
  let M0 : Mt := { old := (List.range n0).map fun j => (j, j), todo := (List.range n0).map fun j => (j, j) }
  let M1 := mtRun tm H 1000 (mtT T tm.T M0)
  let M := mtVoid tm M1.void M1
  ({ i := (List.range tm.ni).map fun n => (M.i.lookup n).getD (.ci 0), b := (List.range tm.nb).map fun n => (M.b.lookup n).getD (.cb false), r := (List.range tm.nr).map fun n => (M.r.lookup n).getD .nr, s := (List.range tm.ns).map fun n => (M.s.lookup n).getD (.cs []) },
   { old := M.old, void := M.void })

/-! ### pieces -/
inductive Lg where
  | loop (k : Nat) (σ : Sb) | ret (b : E)
abbrev Tms := List (Pos × Tmpl)
def resB (I : Tab) (T : ST) (H : SH) (rs : List ResultVar) : SM Lg := SM.bind (sares I T H rs) fun xs => match xs with
  | [.one (.bool b)] => .pure (.ret b)
  | _ => .fail 400
/-- The first pattern of that place that is met. -/
def findTm (n0 : Nat) (p : Pos) (T : ST) (H : SH) : Nat → Tms → Option (Nat × Sb)
  | _, [] => none
  | k, (q, tm) :: r => if p = q then
      let M := amatch n0 tm T H
      if chk n0 M.2 M.1 tm T H = true then some (k, M.1) else findTm n0 p T H (k + 1) r
    else findTm n0 p T H (k + 1) r
theorem findTm_ok {n0 : Nat} {p : Pos} {T : ST} {H : SH} : ∀ {k : Nat} {l : Tms} {j : Nat} {σ : Sb}, findTm n0 p T H k l = some (j, σ) → ∃ i tm π, j = k + i ∧ l[i]? = some (p, tm) ∧ chk n0 π σ tm T H = true
  | _, [], _, _, h => by cases h
  | k, (q, tm) :: r, j, σ, h => by
    have rec' : findTm n0 p T H (k + 1) r = some (j, σ) → ∃ i tm' π, j = k + i ∧ ((q, tm) :: r)[i]? = some (p, tm') ∧ chk n0 π σ tm' T H = true := by
      intro h
      obtain ⟨i, tm', π, h1, h2, h3⟩ := findTm_ok h
      exact ⟨i + 1, tm', π, by omega, by simpa using h2, h3⟩
    simp only [findTm] at h
    split at h
    · rename_i hpq
      subst hpq
      split at h
      · rename_i hc; cases h; exact ⟨0, tm, _, rfl, rfl, hc⟩
      · exact rec' h
    · exact rec' h
def toLg (I : Tab) (rs : List ResultVar) (n0 : Nat) (tms : Tms) (l : Lf) : SM Lg := match l with
  | .norm T H => resB I T H rs
  | .ret T H => resB I T H rs
  | .ext _ _ _ => .fail 401
  | .loop p _ _ T H => match findTm n0 p T H 0 tms with
    | some (k, σ) => .pure (.loop k σ)
    | none => .fail 402
def LgOK (v : Val) (J : Nat → Val → Prop) : Lg → Prop
  | .loop k σ => J k (σ.val v)
  | .ret b => (den v b).b = true
/-- What is noted on the way is left out. -/
def strip {α : Type} : Tree α → Tree α
  | .leaf _ a => .leaf [] a
  | .br c t e => .br c (strip t) (strip e)
  | .both t e => .both (strip t) (strip e)
  | .bad n => .bad n
theorem tok_strip {v : Val} {α : Type} {φ : α → Prop} : ∀ {t : Tree α}, TOK v (fun _ a => φ a) (strip t) → TOK v (fun _ a => φ a) t
  | .leaf _ _, h => h
  | .br c t e, h => ⟨fun hc => tok_strip (h.1 hc), fun hc => tok_strip (h.2 hc)⟩
  | .both t e, h => ⟨tok_strip h.1, tok_strip h.2⟩
  | .bad _, h => h
/-- From the begin. -/
def seg0 (I : Tab) (G : SSums) (N : Nat) (c : Code) (rs : List ResultVar) (n0 : Nat) (tms : Tms) (ul : Pos → Bool) (nb : Nat) (T : ST) (H : SH) (kn : Kn) : Tree Lg :=
  strip ((srun I G N ul nb (.code [] c) [] T H kn).bind (toLg I rs n0 tms))
/-- From a loop. -/
def segLp (I : Tab) (G : SSums) (N : Nat) (c : Code) (rs : List ResultVar) (n0 : Nat) (tms : Tms) (ul : Pos → Bool) (nb : Nat) (p : Pos) (tm : Tmpl) : Tree Lg := match loc c p with
  | some (.loop x, K) => strip ((srun I G N ul nb (.code (0 :: p) x) (.loop p x :: K) tm.T tm.H tm.kn).bind (toLg I rs n0 tms))
  | _ => .bad 404
theorem tok_max {v : Val} {α : Type} {P : Nat → Kn → α → Prop} (hm : ∀ m n k a, m ≤ n → P m k a → P n k a) : ∀ {t : Tree α}, TOK v (fun k a => ∃ n, P n k a) t → ∃ n, TOK v (P n) t
  | .leaf _ _, ⟨n, h⟩ => ⟨n, h⟩
  | .br c t e, h => by
    cases hc : (den v c).b with
    | true =>
      obtain ⟨n, g⟩ := tok_max hm (h.1 hc)
      exact ⟨n, fun _ => g, fun h' => by rw [hc] at h'; cases h'⟩
    | false =>
      obtain ⟨n, g⟩ := tok_max hm (h.2 hc)
      exact ⟨n, fun h' => (by rw [hc] at h'; cases h'), fun _ => g⟩
  | .both t e, h => by
    obtain ⟨n, g⟩ := tok_max hm h.1
    obtain ⟨m, k⟩ := tok_max hm h.2
    exact ⟨max n m, g.mono fun _ _ => hm _ _ _ _ (Nat.le_max_left _ _), k.mono fun _ _ => hm _ _ _ _ (Nat.le_max_right _ _)⟩
  | .bad _, h => h.elim
section
variable {P : Program} {I : Tab} {G : SSums}
theorem AR.weak {N : Nat} {H0 : AHeap} {x : Code} {n : Nat} {T T' : TM} {H H' : AHeap} {Q : Exit → TM → AHeap → Prop} (hl : Le N H0 T' H' T H) (h : AR P N H0 x n T H Q) : AR P N H0 x n T' H' Q :=
  ⟨fun m0 w0 a w hM hs => h.run m0 w0 a w hM (hl m0 w0 a w hM hs)⟩
theorem resB_ok {v : Val} {T : ST} {H : SH} {rs : List ResultVar} {kn kn' : Kn} {g : Lg} {J : Nat → Val → Prop} (hk : KV v kn) (ho : Out v (resB I T H rs kn) kn' g) (hg : LgOK v J g) : ∃ vs, ares I (dT v T) (dH v H) rs = some vs ∧ aresult vs = .bool true := by
  obtain ⟨k1, xs, h1, h2⟩ := out_bind _ _ ho
  obtain ⟨hk1, hx⟩ := sares_ok _ _ _ hk h1
  refine ⟨_, hx, ?_⟩
  split at h2
  · rename_i b
    obtain ⟨rfl, rfl⟩ := h2
    have hg : (den v b).b = true := hg
    simp only [List.map_cons, List.map_nil, aresult, dv_one, dl_bool, hg]
  · exact h2.elim
/-- From what holds at each loop, that the function answers true. -/
theorem floyd (hI : TOk P I) {v0 : Val} {Inv : Nat → Val → Prop} (hG0 : GOk P v0 G) (hG : ∀ k v, Inv k v → GOk P v G) (hm : P.follows .mixedOrders = true) {fn : Func} {c : Code} {n0 nb : Nat} {tms : Tms} {ul : Pos → Bool} {T0 : ST} {H0 : SH} {kn0 : Kn} (hn : n0 = H0.length)
    (lt : Nat × Val → Nat × Val → Prop) (hwf : WellFounded lt)
    (hkn : ∀ k p tm, tms[k]? = some (p, tm) → ∀ v, Inv k v → KV v tm.kn)
    (hk0 : KV v0 kn0)
    (hstart : TOK v0 (fun _ g => LgOK v0 Inv g) (seg0 I G fn.ntmps c fn.results.toList n0 tms ul nb T0 H0 kn0))
    (hstep : ∀ k p tm, tms[k]? = some (p, tm) → ∀ v, Inv k v → TOK v (fun _ g => LgOK v (fun q u => Inv q u ∧ lt (q, u) (k, v)) g) (segLp I G fn.ntmps c fn.results.toList n0 tms ul nb p tm)) :
    AW P fn.ntmps (dH v0 H0) c (dT v0 T0) (dH v0 H0) (Eng.Ends I fn fun u _ => u = .bool true) := by
  let Q : Exit → TM → AHeap → Prop := Eng.Ends I fn fun u _ => u = .bool true
  have hn' : n0 = (dH v0 H0).length := by rw [dH_len]; exact hn
  let Goal : Nat → Val → Prop := fun k u => ∀ p tm x K, tms[k]? = some (p, tm) → loc c p = some (.loop x, K) → ∃ n, AR P fn.ntmps (dH v0 H0) x n (dT u tm.T) (dH u tm.H) (KQ P fn.ntmps (dH v0 H0) n K Q)
  -- what a leaf owes
  have leaf : ∀ (v : Val) (J : Nat → Val → Prop) (l : Lf) (kn : Kn), KV v kn → WLf c l → (∀ k u, J k u → Goal k u) →
      TOK v (fun _ g => LgOK v J g) (toLg I fn.results.toList n0 tms l kn) → ∃ B, LfOK P fn.ntmps (dH v0 H0) v B Q l := by
    intro v J l kn hk hw hJ ht
    cases l with
    | norm T H =>
      obtain ⟨k, g, ho, hg⟩ := ht.ex
      obtain ⟨vs, h1, h2⟩ := resB_ok hk ho hg
      exact ⟨0, rfl, vs, h1, h2⟩
    | ret T H =>
      obtain ⟨k, g, ho, hg⟩ := ht.ex
      obtain ⟨vs, h1, h2⟩ := resB_ok hk ho hg
      exact ⟨0, rfl, vs, h1, h2⟩
    | ext id T H => exact ht.elim
    | loop p x K T H =>
      simp only [toLg] at ht
      cases hf : findTm n0 p T H 0 tms with
      | none => rw [hf] at ht; exact ht.elim
      | some r =>
        obtain ⟨k, σ⟩ := r
        rw [hf] at ht
        obtain ⟨i, tm, π, h1, h2, h3⟩ := findTm_ok hf
        rw [Nat.zero_add] at h1
        subst h1
        obtain ⟨n, hr⟩ := hJ k _ ht p tm x K h2 hw
        exact ⟨n, hr.weak (chk_ok hn' h3)⟩
  have run : ∀ (v : Val) (hGv : GOk P v G) (J : Nat → Val → Prop) (q : Pt) (K : List Fr) (T : ST) (H : SH) (kn : Kn), KV v kn → WPt c K q → (∀ k u, J k u → Goal k u) →
      TOK v (fun _ g => LgOK v J g) (strip ((srun I G fn.ntmps ul nb q K T H kn).bind (toLg I fn.results.toList n0 tms))) → ∃ B, PtOK P fn.ntmps (dH v0 H0) (nb + B) K Q (dT v T) (dH v H) q := by
    intro v hGv J q K T H kn0 hkv hq hJ ht
    have ht := tok_out ((tok_bind _ _).1 (tok_strip ht))
    have h2 : TOK v (fun kn l => ∃ B, KV v kn → LfOK P fn.ntmps (dH v0 H0) v B Q l) (srun I G fn.ntmps ul nb q K T H kn0) := ht.mono fun kn l h => by
      by_cases hk : KV v kn
      · obtain ⟨B, hB⟩ := leaf v J l kn hk (srun_at nb q K T H kn0 kn l hq h.2) hJ h.1
        exact ⟨B, fun _ => hB⟩
      · exact ⟨0, fun hk' => absurd hk' hk⟩
    obtain ⟨B, h3⟩ := tok_max (fun m n k l hmn h hk => by
      have h := h hk
      cases l with
      | norm T H => exact h
      | ret T H => exact h
      | ext id T H => exact h
      | loop p x K T H => exact AR.mono hmn (fun _ _ _ => KQ.mono hmn K fun _ _ _ h => h) h) h2
    exact ⟨B, srun_ok hI hGv hm nb q K T H kn0 hkv h3⟩
  have loops : ∀ pv : Nat × Val, Inv pv.1 pv.2 → Goal pv.1 pv.2 := by
    intro pv
    induction pv using hwf.induction with
    | _ pv ih =>
      obtain ⟨k, v⟩ := pv
      intro hinv p tm x K htm hloc
      have hs := hstep k p tm htm v hinv
      unfold segLp at hs
      rw [hloc] at hs
      simp only at hs
      obtain ⟨B, hB⟩ := run v (hG k v hinv) _ (.code (0 :: p) x) (.loop p x :: K) tm.T tm.H tm.kn (hkn k p tm htm v hinv) (by show loc c (0 :: p) = _; simp only [loc, hloc]; simp) (fun q u h2 => ih (q, u) h2.2 h2.1) hs
      exact ⟨nb + B + 1, AR.mono (Nat.le_refl _) (fun _ _ _ => KQ.mono (by omega) K fun _ _ _ h => h) (AR.succ hB)⟩
  obtain ⟨B, hB⟩ := run v0 hG0 Inv (.code [] c) [] T0 H0 kn0 hk0 rfl (fun q u h2 => loops (q, u) h2) hstart
  exact hB
end
/-! ### how a law's proof is put together -/
theorem tms_nil {J : Nat → Pos → Tmpl → Prop} {n : Nat} : ∀ k p tm, ([] : Tms)[k]? = some (p, tm) → J (n + k) p tm := fun k p tm h => by simp at h
theorem tms_cons {J : Nat → Pos → Tmpl → Prop} {n : Nat} {q : Pos} {t : Tmpl} {r : Tms} (h : J n q t) (hr : ∀ k p tm, r[k]? = some (p, tm) → J (n + 1 + k) p tm) : ∀ k p tm, ((q, t) :: r : Tms)[k]? = some (p, tm) → J (n + k) p tm := fun k p tm hl => by
  cases k with
  | zero => simp at hl; obtain ⟨rfl, rfl⟩ := hl; exact h
  | succ k => have := hr k p tm (by simpa using hl); rwa [show n + (k + 1) = n + 1 + k by omega]
theorem tms_all {J : Nat → Pos → Tmpl → Prop} {l : Tms} (h : ∀ k p tm, l[k]? = some (p, tm) → J (0 + k) p tm) : ∀ k p tm, l[k]? = some (p, tm) → J k p tm := fun k p tm hl => by have := h k p tm hl; rwa [Nat.zero_add] at this
theorem KV.nil {v : Val} : KV v [] := fun p hp => by cases hp
/-- Pairs of numbers, the first one first. -/
def lt2 (μ : Nat × Val → Nat × Nat) (a b : Nat × Val) : Prop := (μ a).1 < (μ b).1 ∨ ((μ a).1 = (μ b).1 ∧ (μ a).2 < (μ b).2)
theorem lt2_wf (μ : Nat × Val → Nat × Nat) : WellFounded (lt2 μ) := by
  have h : WellFounded (fun a b : Nat × Nat => a.1 < b.1 ∨ (a.1 = b.1 ∧ a.2 < b.2)) := by
    refine ⟨fun a => ?_⟩
    obtain ⟨x, y⟩ := a
    induction x using Nat.strongRecOn generalizing y with
    | _ x ihx =>
      induction y using Nat.strongRecOn with
      | _ y ihy =>
        refine ⟨_, fun b hb => ?_⟩
        obtain ⟨p, q⟩ := b
        rcases hb with hb | ⟨hb1, hb2⟩
        · exact ihx p hb q
        · cases hb1; exact ihy q hb2
  exact InvImage.wf μ h
/-- Where all loops are unrolled: the tree is 'true'. -/
def isT : Tree Lg → Bool
  | .leaf _ (.ret (.cb true)) => true
  | .br _ a b => isT a && isT b
  | .both a b => isT a && isT b
  | _ => false
theorem isT_ok {v : Val} {J : Nat → Val → Prop} : ∀ {t : Tree Lg}, isT t = true → TOK v (fun _ g => LgOK v J g) t
  | .leaf _ (.ret (.cb true)), _ => rfl
  | .leaf _ (.ret (.cb false)), h => by cases h
  | .leaf _ (.ret (.vi _)), h => by cases h
  | .leaf _ (.ret (.vb _)), h => by cases h
  | .leaf _ (.ret (.vr _)), h => by cases h
  | .leaf _ (.ret (.vs _)), h => by cases h
  | .leaf _ (.ret (.ci _)), h => by cases h
  | .leaf _ (.ret (.cs _)), h => by cases h
  | .leaf _ (.ret .nl), h => by cases h
  | .leaf _ (.ret .nr), h => by cases h
  | .leaf _ (.ret (.o1 _ _)), h => by cases h
  | .leaf _ (.ret (.o2 _ _ _)), h => by cases h
  | .leaf _ (.ret (.o3 _ _ _ _)), h => by cases h
  | .leaf _ (.loop _ _), h => by cases h
  | .br c a b, h => by
    simp only [isT, Bool.and_eq_true] at h
    exact ⟨fun _ => isT_ok h.1, fun _ => isT_ok h.2⟩
  | .both a b, h => by
    simp only [isT, Bool.and_eq_true] at h
    exact ⟨isT_ok h.1, isT_ok h.2⟩
  | .bad _, h => by cases h
/-- A law whose run is told whole. -/
theorem whole {P : Program} {I : Tab} {G : SSums} (hI : TOk P I) {v0 : Val} (hG : GOk P v0 G) (hm : P.follows .mixedOrders = true) {fn : Func} {c : Code} {nb : Nat} {T0 : ST} {H0 : SH} {kn0 : Kn} (hk0 : KV v0 kn0)
    (h : isT (seg0 I G fn.ntmps c fn.results.toList H0.length [] (fun _ => true) nb T0 H0 kn0) = true) :
    AW P fn.ntmps (dH v0 H0) c (dT v0 T0) (dH v0 H0) (Eng.Ends I fn fun u _ => u = .bool true) :=
  floyd hI (Inv := fun _ _ => False) hG (fun _ _ h => h.elim) hm (tms := []) rfl (lt2 fun _ => (0, 0)) (lt2_wf _) (fun k p tm h => by simp at h) hk0 (isT_ok h) (fun k p tm h => by simp at h)
end Go.Proofs.Ytpgkbdkkcladcaa.Sy
/- The second engine, part 9: arguments, and a law's statement out of what was reckoned. A lemma file: it claims nothing of the program. -/
namespace Go.Proofs.Ytpgkbdkkcladcaa.Sy
open Go Go.Lib Go.Proofs.Ytpgkbdkkcladcaa.Eng Go.RowKit Go.WideShapes Go.ChangeShapes

inductive Leaf where
  | int (k : IntKind)
  | bool
  | str

def Leaf.ok : Leaf → Value → Prop
  | .int k, v => ∃ n, v = .int k n ∧ (Lit.int k n).wf = true
  | .bool, v => ∃ b, v = .bool b
  | .str, v => ∃ s : ByteArray, v = .string s ∧ s.size ≤ maxLen

def All2 : List Leaf → List Value → Prop
  | [], [] => True
  | l :: ls, v :: vs => l.ok v ∧ All2 ls vs
  | _, _ => False

theorem All2.len : ∀ {ls : List Leaf} {vs : List Value}, All2 ls vs → vs.length = ls.length
  | [], [], _ => rfl
  | _ :: _, _ :: _, h => by simp [All2.len h.2]
  | [], _ :: _, h => h.elim
  | _ :: _, [], h => h.elim

theorem All2.app : ∀ {l1 : List Leaf} {c1 : List Value} {l2 : List Leaf} {c2 : List Value}, All2 l1 c1 → All2 l2 c2 → All2 (l1 ++ l2) (c1 ++ c2)
  | [], [], _, _, _, h2 => h2
  | _ :: _, _ :: _, _, _, h1, h2 => ⟨h1.1, All2.app h1.2 h2⟩
  | [], _ :: _, _, _, h, _ => h.elim
  | _ :: _, [], _, _, h, _ => h.elim

theorem All2.cons_inv {l : Leaf} {ls : List Leaf} {vs : List Value} (h : All2 (l :: ls) vs) : ∃ v us, vs = v :: us ∧ l.ok v ∧ All2 ls us := by
  cases vs with
  | nil => exact h.elim
  | cons v us => exact ⟨v, us, rfl, h.1, h.2⟩

theorem All2.nil_inv {vs : List Value} (h : All2 [] vs) : vs = [] := by
  cases vs with
  | nil => rfl
  | cons v us => exact h.elim

def fieldLeaves (P : Program) (rec : TypeId → Option (List Leaf)) : Nat → List Field → Option (List Leaf)
  | _, [] => some []
  | o, f :: fs =>
    if f.offset = o then
      match rec f.type with
      | none => none
      | some l =>
        if P.cellsOf f.type = l.length then
          match fieldLeaves P rec (o + l.length) fs with
          | none => none
          | some r => some (l ++ r)
        else none
    else none

def leaves (P : Program) : Nat → TypeId → Option (List Leaf)
  | 0, _ => none
  | d + 1, t =>
    match P.underlying t with
    | some (.int k) => some [.int k]
    | some .bool => some [.bool]
    | some .string => some [.str]
    | some (.struct fs) =>
      match fieldLeaves P (leaves P d) 0 fs.toList with
      | none => none
      | some ls => if P.cellsOf t = ls.length then some ls else none
    | _ => none

section
variable {H : Type} {enc : TypeId × Value → H} {P : Program} {w : World} {base : Nat} {spare : Nat → Bool} {held : Bool}

theorem fields_all (rec : TypeId → Option (List Leaf)) (n : Nat) (cs : List Value)
    (hrec : ∀ t ls c x, rec t = some ls → DataW.trod enc P w base spare held n t c = some x → All2 ls c) :
    ∀ (fs : List Field) (o : Nat) (ls : List Leaf), fieldLeaves P rec o fs = some ls →
      (∀ (i : Nat) (f : Field), fs[i]? = some f → ∃ y, DataW.trod enc P w base spare held n f.type ((cs.drop f.offset).take (P.cellsOf f.type)) = some y) →
      All2 ls ((cs.drop o).take ls.length)
  | [], o, ls, h, _ => by
    simp only [fieldLeaves, Option.some.injEq] at h
    subst h
    simp [All2]
  | f :: fs, o, ls, h, hf => by
    simp only [fieldLeaves] at h
    split at h
    · rename_i ho
      split at h
      · cases h
      · rename_i l hl
        split at h
        · rename_i hc
          split at h
          · cases h
          · rename_i r hr
            simp only [Option.some.injEq] at h
            subst h
            obtain ⟨y, hy⟩ := hf 0 f rfl
            have h1 := hrec _ _ _ _ hl hy
            rw [ho, hc] at h1
            have h2 := fields_all rec n cs hrec fs (o + l.length) r hr (fun i g hg => hf (i + 1) g (by simpa using hg))
            rw [List.length_append, List.take_add, List.drop_drop]
            exact h1.app h2
        · cases h
    · cases h

theorem leaves_all : ∀ (d : Nat) (t : TypeId) (ls : List Leaf) (fuel : Nat) (cs : List Value) (x : DataW H × List MemPlace),
    leaves P d t = some ls → DataW.trod enc P w base spare held fuel t cs = some x → All2 ls cs
  | 0, _, _, _, _, _, h, _ => by simp [leaves] at h
  | d + 1, t, ls, fuel, cs, x, h, hx => by
    simp only [leaves] at h
    split at h
    · rename_i k hk
      cases h
      obtain ⟨m, rfl, _, hm⟩ := DataW.trod_int hk hx
      exact ⟨⟨m, rfl, hm⟩, trivial⟩
    · rename_i hk
      cases h
      obtain ⟨m, rfl, _⟩ := DataW.trod_bool hk hx
      exact ⟨⟨m, rfl⟩, trivial⟩
    · rename_i hk
      cases h
      obtain ⟨m, rfl, _, hm⟩ := DataW.trod_string hk hx
      exact ⟨⟨m, rfl, hm⟩, trivial⟩
    · rename_i fs hk
      split at h
      · cases h
      · rename_i l hl
        split at h
        · rename_i hc
          simp only [Option.some.injEq] at h
          subst h
          obtain ⟨xs, n, _, _, hlen, hxs, hf⟩ := DataW.trod_struct hk hx
          have h2 := fields_all (enc := enc) (w := w) (base := base) (spare := spare) (held := held) (P := P) (leaves P d) n cs (fun t ls c x h1 h2 => leaves_all d t ls n c x h1 h2) fs.toList 0 l hl (fun i f hi => by
            have hi' : fs[i]? = some f := by simpa using hi
            have hlt : i < xs.length := by
              rw [hxs]
              rcases Nat.lt_or_ge i fs.size with h' | h'
              · exact h'
              · rw [Array.getElem?_eq_none h'] at hi'; cases hi'
            exact ⟨xs[i], by rw [hf i f hi', List.getElem?_eq_getElem hlt]⟩)
          rw [List.drop_zero, List.take_of_length_le (by rw [hlen, hc]; exact Nat.le_refl _)] at h2
          exact h2
        · cases h
    · cases h

theorem choose_list {α : Type} {p : Nat → α → Prop} : ∀ (n : Nat), (∀ i, i < n → ∃ x, p i x) → ∃ xs : List α, xs.length = n ∧ ∀ i x, xs[i]? = some x → p i x
  | 0, _ => ⟨[], rfl, by simp⟩
  | n + 1, h => by
    obtain ⟨xs, hl, hx⟩ := choose_list n (fun i hi => h i (by omega))
    obtain ⟨y, hy⟩ := h n (by omega)
    refine ⟨xs ++ [y], by simp [hl], fun i x hi => ?_⟩
    rcases Nat.lt_or_ge i n with h' | h'
    · rw [List.getElem?_append_left (by omega)] at hi
      exact hx i x hi
    · rw [List.getElem?_append_right (by omega)] at hi
      have hin : i - xs.length = 0 := by
        rcases Nat.lt_or_ge (i - xs.length) 1 with h2 | h2
        · omega
        · rw [List.getElem?_eq_none (by simpa using h2)] at hi; cases hi
      rw [hin] at hi
      have : i = n := by omega
      subst this
      simp only [List.getElem?_cons_zero, Option.some.injEq] at hi
      subst hi
      exact hy

theorem add_add (a : Addr) (m n : Nat) : (a.add m).add n = a.add (m + n) := by
  unfold Addr.add
  by_cases hm : m = 0
  · subst hm; simp
  · by_cases hn : n = 0
    · subst hn; simp
    · have : ¬ (m + n = 0) := by omega
      simp [hm, hn, Nat.add_assoc]

/-- A struct by value that is such. -/
theorem open_struct {t : TypeId} {fs : Array Field} {dep : Nat} {ls : List Leaf} {v : Value} {d : DataW H} {p : List MemPlace} {r : Reach} {b0 : Nat}
    (ht : P.underlying t = some (.struct fs)) (he : leaves P dep t = some ls) (hv : Value.okWide P w r b0 t v)
    (h : DataW.Trod enc P w base spare held t v d p) : ∃ cs : List Value, v = .agg cs.toArray ∧ All2 ls cs := by
  obtain ⟨cs, rfl, _⟩ := okWide_struct ht hv
  obtain ⟨fuel, hf⟩ := h
  exact ⟨cs.toList, by simp, leaves_all _ _ _ _ _ _ he (by simpa [Value.cells] using hf)⟩
end
/-! ### rows of numbers and bools -/
def Leaf.cc : Leaf → Option CC
  | .int k => some (.i k)
  | .bool => some .b
  | .str => some .s
def ccs : List Leaf → Option (List CC)
  | [] => some []
  | l :: ls => match l.cc, ccs ls with
    | some k, some ks => some (k :: ks)
    | _, _ => none
/-- An element's columns are what they may be. -/
def goodL : List CC → List Int → Prop
  | [], [] => True
  | .i k :: ks, x :: xs => (Lit.int k x).wf = true ∧ goodL ks xs
  | .b :: ks, x :: xs => (x = 0 ∨ x = 1) ∧ goodL ks xs
  | .s :: ks, x :: xs => (∃ t : ByteArray, x = encS t ∧ t.size ≤ maxLen) ∧ goodL ks xs
  | _, _ => False
theorem cols_all : ∀ {ls : List Leaf} {ks : List CC} {cs : List Value}, ccs ls = some ks → All2 ls cs → ∃ x : List Int, cs = toVs ks x ∧ goodL ks x
  | [], ks, cs, h, ha => by
    cases h
    obtain rfl := ha.nil_inv
    exact ⟨[], rfl, trivial⟩
  | l :: ls, ks, cs, h, ha => by
    obtain ⟨u, us, rfl, h1, h2⟩ := ha.cons_inv
    simp only [ccs] at h
    split at h
    · rename_i k ks' hk hks
      cases h
      obtain ⟨x, rfl, hg⟩ := cols_all hks h2
      cases l with
      | int q =>
        cases hk
        obtain ⟨n, rfl, hn⟩ := h1
        exact ⟨n :: x, by simp [toVs, nth, colV], hn, hg⟩
      | bool =>
        cases hk
        obtain ⟨b, rfl⟩ := h1
        refine ⟨(if b = true then 1 else 0) :: x, ?_, ?_, hg⟩
        · cases b <;> simp [toVs, nth, colV]
        · cases b <;> simp
      | str =>
        cases hk
        obtain ⟨t, rfl, ht⟩ := h1
        exact ⟨encS t :: x, by simp [toVs, nth, colV, decS_enc], ⟨t, rfl, ht⟩, hg⟩
    · cases h
/-- A slice that was handed in, of such elements. -/
structure ArgRow (W : World) (ks : List CC) (A : Option Addr) (len cap : Nat) (xs : List (List Int)) : Prop where
  hlen : xs.length = len
  hle : len ≤ cap
  row : (A = none ∧ len = 0 ∧ cap = 0) ∨ ∃ a, A = some a ∧ a.spot = none ∧ a.block < W.heap.size ∧
    ∀ (e : Nat) (c : List Value) (k : Nat) (v : Value), (xs.map (toVs ks))[e]? = some c → c[k]? = some v → W.cell? ⟨a.block, a.off + e * ks.length + k, none⟩ = some v
  good : ∀ x ∈ xs, goodL ks x
section
variable {H : Type} {enc : TypeId × Value → H} {P : Program} {w : World} {base : Nat} {spare : Nat → Bool} {held : Bool}
theorem open_argrow {t e : TypeId} {A : Option Addr} {len cap dep : Nat} {ls : List Leaf} {ks : List CC} {d : DataW H} {p : List MemPlace} {r : Reach} {b0 : Nat}
    (ht : P.underlying t = some (.slice e)) (he : leaves P dep e = some ls) (hks : ccs ls = some ks) (hc : P.cellsOf e = ks.length)
    (hv : Value.okWide P w r b0 t (.slice A len cap)) (h : DataW.Trod enc P w base spare held t (.slice A len cap) d p) : ∃ xs : List (List Int), ArgRow w ks A len cap xs := by
  have hok : (A = none ∧ len = 0 ∧ cap = 0) ∨ ∃ a, A = some a ∧ a.spot = none ∧ a.block < w.heap.size ∧ len ≤ cap := by
    simp only [Value.okWide, ht, Cell.okWide] at hv
    cases A with
    | none =>
      left
      cases len with
      | zero => cases cap with
        | zero => exact ⟨rfl, rfl, rfl⟩
        | succ n => simp [Cell.ok, ht] at hv
      | succ n => simp [Cell.ok, ht] at hv
    | some a =>
      right
      simp only [Cell.ok, ht] at hv
      obtain ⟨h1, h2, h3, h4, row, cells, h5, h6⟩ := hv
      refine ⟨a, rfl, h4, ?_, h1⟩
      unfold World.shape? at h5
      rcases Nat.lt_or_ge a.block w.heap.size with g | g
      · exact g
      · rw [Array.getElem?_eq_none g] at h5; cases h5
  obtain ⟨fuel, hf⟩ := h
  have hf' : DataW.trod enc P w base spare held fuel t [.slice A len cap] = some (d, p) := by simpa [Value.cells] using hf
  rcases Go.Deep.open_slice ht hf' with ⟨h0, _⟩ | ⟨a, len', cap', m, n, D, Pl, h0, _, hl, hm, hmm, _, hx⟩
  · simp only [List.cons.injEq, Value.slice.injEq, and_true] at h0
    obtain ⟨rfl, rfl, rfl⟩ := h0
    exact ⟨[], rfl, Nat.le_refl _, .inl ⟨rfl, rfl, rfl⟩, by simp⟩
  · simp only [List.cons.injEq, Value.slice.injEq, and_true] at h0
    obtain ⟨rfl, rfl, rfl⟩ := h0
    have hlm : len ≤ m := by rw [hmm]; split <;> omega
    obtain ⟨xs, hxl, hxs⟩ := choose_list (α := List Int) (p := fun i x => (∀ j u, (toVs ks x)[j]? = some u → w.cell? (a.add (i * ks.length + j)) = some u) ∧ goodL ks x) len (fun i hi => by
      obtain ⟨cs, h1, h2⟩ := hx i (by omega)
      obtain ⟨_, hcl, hcell⟩ := World.cells?_some h1
      have hA := leaves_all _ _ _ _ _ _ he h2
      obtain ⟨x, rfl, hg⟩ := cols_all hks hA
      refine ⟨x, fun j u hj => ?_, hg⟩
      have hjl : j < P.cellsOf e := by
        rw [← hcl]
        exact (List.getElem?_eq_some_iff.1 hj).1
      have := hcell j hjl
      rw [add_add, hc] at this
      rw [this, hj])
    rcases hok with ⟨g, _⟩ | ⟨a', g, hs, hb, hle⟩
    · cases g
    · cases g
      refine ⟨xs, hxl, hl, .inr ⟨a, rfl, hs, hb, fun e' c k u he' hk => ?_⟩, fun x hx' => ?_⟩
      · rw [List.getElem?_map] at he'
        cases hq : xs[e']? with
        | none => rw [hq] at he'; cases he'
        | some x =>
          rw [hq] at he'
          cases he'
          have := (hxs e' x hq).1 k u hk
          have ha : a = ⟨a.block, a.off, none⟩ := by cases a; simp_all
          rw [ha, add_none] at this
          rw [← this, Nat.add_assoc]
      · obtain ⟨j, hj, rfl⟩ := List.getElem_of_mem hx'
        exact (hxs j _ (List.getElem?_eq_getElem hj)).2
end

/-! ### what a call is handed -/
def miOf (z : Nat) (A : Option Addr) (cap : Nat) : MI := match A with
  | none => ⟨0, 0, z, 0, true⟩
  | some a => ⟨a.block, a.off, z, a.off + cap * z, false⟩
/-- A slice that was handed in. -/
structure ArgS where
  A : Option Addr
  len : Nat
  cap : Nat
  ks : List CC
  xs : List (List Int)
def m0Of (l : List ArgS) : Mp := fun id => (l[id]?).map fun s => miOf s.ks.length s.A s.cap
def h0Of : Nat → List ArgS → SH
  | _, [] => []
  | n, s :: l => .old false s.ks.length (.sym (.vr n) s.ks) :: h0Of (n + 1) l
theorem h0Of_get : ∀ (n : Nat) (l : List ArgS) (j : Nat), (h0Of n l)[j]? = (l[j]?).map fun s => .old false s.ks.length (.sym (.vr (n + j)) s.ks)
  | _, [], j => by simp [h0Of]
  | n, s :: l, 0 => by simp [h0Of]
  | n, s :: l, j + 1 => by simp only [h0Of, List.getElem?_cons_succ]; rw [h0Of_get (n + 1) l j, show n + 1 + j = n + (j + 1) by omega]
theorem h0Of_len : ∀ (n : Nat) (l : List ArgS), (h0Of n l).length = l.length
  | _, [] => rfl
  | n, s :: l => by simp [h0Of, h0Of_len]
section
variable {P : Program} {I : Tab} {w : World} {l : List ArgS} {v : Val}
theorem m0_match (hr : v.r = l.map (·.xs)) (hl : ∀ s ∈ l, ArgRow w s.ks s.A s.len s.cap s.xs) (hB : Base w := by trivial) : Match (m0Of l) (dH v (h0Of 0 l)) w := by
  refine ⟨fun id i hi => ?_, fun id id' i i' b b' h1 h2 h3 h4 h5 => ?_, hB, fun id i b hi hb ho => (by
    rw [dH_get, h0Of_get] at hb
    cases hs : l[id]? with
    | none => rw [hs] at hb; cases hb
    | some s => rw [hs] at hb; cases hb; cases ho)⟩
  · unfold m0Of at hi
    cases hs : l[id]? with
    | none => rw [hs] at hi; cases hi
    | some s =>
      rw [hs] at hi
      cases hi
      have hA := hl s (List.mem_of_getElem? hs)
      have hx : nth [] v.r id = s.xs := nth_get (by rw [hr, List.getElem?_map, hs]; rfl)
      refine ⟨_, dH_get' (by rw [h0Of_get, hs, Nat.zero_add]; rfl), ?_⟩
      have hd : dr v (.sym (.vr id) s.ks) = s.xs.map (toVs s.ks) := by simp only [dr, den, mkR, hx]
      show BRel _ w (miOf s.ks.length s.A s.cap) (.old false s.ks.length (dr v (.sym (.vr id) s.ks)))
      rw [hd]
      have hok : RowOk s.ks.length (s.xs.map (toVs s.ks)) := by
        intro c hc
        obtain ⟨x, _, rfl⟩ := List.mem_map.1 hc
        refine ⟨toVs_len _ _, fun u hu => ?_⟩
        have := toVs_scal _ _ u hu
        cases u <;> simp [scal] at this <;> rfl
      rcases hA.row with ⟨h1, h2, h3⟩ | ⟨a, h1, h2, h3, h4⟩
      · refine ⟨by rw [h1]; rfl, hok, .inl ⟨by rw [h1]; rfl, ?_, rfl⟩⟩
        have : s.xs = [] := List.length_eq_zero_iff.1 (hA.hlen.trans h2)
        rw [this]; rfl
      · refine ⟨by rw [h1]; rfl, hok, .inr ⟨by rw [h1]; rfl, by rw [h1]; exact h3, fun e c k u he hk => ?_⟩⟩
        refine ⟨u, by rw [h1]; exact h4 e c k u he hk, ?_⟩
        rw [List.getElem?_map] at he
        cases hq : s.xs[e]? with
        | none => rw [hq] at he; cases he
        | some q =>
          rw [hq] at he
          cases he
          have := toVs_scal _ _ u (List.mem_of_getElem? hk)
          cases u <;> simp [scal] at this <;> constructor
  · rw [dH_get, h0Of_get] at h3
    cases hs : l[id]? with
    | none => rw [hs] at h3; cases h3
    | some s => rw [hs] at h3; cases h3; cases h5
theorem arg_slice {id : Nat} {s : ArgS} (hr : v.r = l.map (·.xs)) (hs : l[id]? = some s) (hA : ArgRow w s.ks s.A s.len s.cap s.xs) : VRel (m0Of l) (dv v (.one (.slc id (.ci 0) (.o1 .len (.vr id))))) (.slice s.A s.len s.cap) := by
  have hx : nth [] v.r id = s.xs := nth_get (by rw [hr, List.getElem?_map, hs]; rfl)
  have hm : m0Of l id = some (miOf s.ks.length s.A s.cap) := by unfold m0Of; rw [hs]; rfl
  have e1 : dv v (.one (.slc id (.ci 0) (.o1 .len (.vr id)))) = .slice (some ⟨id, 0, none⟩) s.len 0 := by
    simp only [dv_one, dl_slc, ci_i, den, den1, mkI, mkR, hx, hA.hlen, Int.toNat_natCast]; rfl
  rw [e1]
  rcases hA.row with ⟨h1, h2, h3⟩ | ⟨a, h1, h2, h3, h4⟩
  · rw [h2, h3, h1]
    exact .vslc hm (by rw [h1]; rfl)
  · rw [h1] at hm ⊢
    have ha : a = ⟨a.block, a.off, none⟩ := by cases a; simp_all
    have := VRel.slc (m := m0Of l) (id := id) (e := 0) (cp := 0) (cap := s.cap) (len := s.len) hm rfl hA.hle (by simp [miOf])
    simp only [miOf, Nat.zero_mul, Nat.add_zero] at this
    rw [ha]
    exact this
/-- A law, called. -/
theorem law_calls (hI : TOk P I) {f : FuncId} {fn : Func} {c : Code} (hf : P.funcs[f]? = some fn) (hc : fn.body = some c) {args : List SV} {args' : List Value} (hlen : args.length ≤ fn.ntmps)
    (hr : v.r = l.map (·.xs)) (hl : ∀ s ∈ l, ArgRow w s.ks s.A s.len s.cap s.xs) (hL : LRel (m0Of l) (args.map (dv v)) args')
    (hA : AW P fn.ntmps (dH v (h0Of 0 l)) c (dT v (sargs0 0 args)) (dH v (h0Of 0 l)) (Eng.Ends I fn fun u _ => u = .bool true)) (hB : Base w := by trivial) :
    Calls P f args'.toArray w fun e w' => e = .returned (.bool true) ∧ Below w.heap.size w w' := by
  refine calls_of_wp hf hc ?_
  have hM := m0_match (w := w) hr hl hB
  have hl' := hL.1
  rw [sargs0_ok] at hA
  have hst := ASat.start (n := fn.ntmps) hM hL (by rw [← hl']; simpa using hlen)
  refine Code.wp_mono (fun e' a' w' hp => ?_) (hA.run _ _ _ _ hM hst)
  obtain ⟨hnp, T', H', ⟨he, vs, hvs, hz⟩, m', h1, h2, h3, h4⟩ := hp
  obtain ⟨u, h5, h6⟩ := aresult_ok hI h1 h2 hvs
  rw [hz] at h5
  cases h5
  have hno : ∀ k, ¬ Owned (m0Of l) (dH v (h0Of 0 l)) k := by
    rintro k ⟨id, i, b, g1, g2, g3, _⟩
    rw [dH_get, h0Of_get] at g2
    cases hs : l[id]? with
    | none => rw [hs] at g2; cases g2
    | some s => rw [hs] at g2; cases g2; cases g3
  have key : a'.defers = [] ∧ ∃ q, (results fn a'.tmps).run P w' = .ok q w' ∧ Ending.returned q = .returned (.bool true) ∧ Below w.heap.size w w' :=
    ⟨h4, _, h6, rfl, h1.os, h1.tape, h1.output, h1.size, fun k hk => h1.keep k hk (hno k)⟩
  cases e' with
  | normal => exact key
  | ret => exact key
  | exit id => cases he
  | goto l => cases hnp
  | panic ch => cases hnp
  | outgrown => cases hnp
end
end Go.Proofs.Ytpgkbdkkcladcaa.Sy
/- The second engine, part 10: calls that are known to answer true. A lemma file: it claims nothing of the program. -/
namespace Go.Proofs.Ytpgkbdkkcladcaa.Sy
open Go Go.Lib Go.Proofs.Ytpgkbdkkcladcaa.Eng Go.RowKit

section
variable {P : Program} {v : Val} {m0 : Mp} {H0 : AHeap} {w0 : World} {H : AHeap} {m : Mp} {w w' : World}
theorem Run.below (h : Run m0 H0 w0 H m w) (hb : Below w.heap.size w w') : Run m0 H0 w0 H m w' where
  mt := ⟨fun id i hi => by obtain ⟨b, hb', hr⟩ := h.mt.has id i hi; exact ⟨b, hb', hr.frame (fun _ hl => hb.block _ hl)⟩, h.mt.inj, base_keep h.mt.base hb.size (fun k hk _ => hb.block k hk), h.mt.ownb⟩
  ext := h.ext
  dom := h.dom
  len := h.len
  old := h.old
  new := h.new
  os := hb.os.trans h.os
  tape := hb.tape.trans h.tape
  output := hb.output.trans h.output
  size := Nat.le_trans h.size hb.size
  keep := fun k hk hn => by rw [hb.block k (Nat.lt_of_lt_of_le hk h.size)]; exact h.keep k hk hn
/-- A call that is handed nothing, and answers true. -/
def sTrue : List SV → SH → SRes := fun args H => match args with
  | [] => .pure (.one (.bool (.cb true)), H, [])
  | _ => .fail 500
def oneX (f : FuncId) (s : List SV → SH → SRes) (X : FuncId → Option (List SV → SH → SRes)) : FuncId → Option (List SV → SH → SRes) := fun g => if g = f then some s else X g
theorem oneX_ok {f : FuncId} {s : List SV → SH → SRes} {X : FuncId → Option (List SV → SH → SRes)} (h : GOk P v fun g args H => if g = f then s args H else .fail 330) (hX : XOk P v X) : XOk P v (oneX f s X) := by
  intro g t hg
  unfold oneX at hg
  split at hg
  · rename_i e; subst e; cases hg; exact h
  · exact hX g t hg
theorem sTrue_ok {f : FuncId} {fn : Func} (hf : P.funcs[f]? = some fn) (hn : fn.name ≠ "runtime.NumGoroutine") (hb : fn.body.isSome = true) (hc : ∀ w, Calls P f #[] w fun e w' => e = .returned (.bool true) ∧ Below w.heap.size w w') :
    GOk P v fun g args H => if g = f then sTrue args H else .fail 330 := by
  refine ⟨fun g args H kn hk ht => ?_⟩
  by_cases hg : g = f
  · subst hg
    simp only [if_true] at ht ⊢
    cases args with
    | cons a az => exact ht.elim
    | nil =>
      refine ⟨⟨fn, hf, hn, hb⟩, fun m0 H0 w0 m w args' hR hL => ?_⟩
      obtain rfl := LRel.nil_inv hL
      refine (hc w).mono ?_
      rintro e w' ⟨rfl, hbw⟩
      exact ⟨kn, _, H, [], m, .bool true, ⟨rfl, rfl⟩, hk, rfl, Run.below hR hbw, Mp.le_refl _, .bool _, ⟨hbw.size, fun k hk _ => hbw.block k hk⟩⟩
  · simp only [if_neg hg] at ht; exact ht.elim
end
end Go.Proofs.Ytpgkbdkkcladcaa.Sy
/- The second engine, part 11: words for the plain parts. A lemma file: it claims nothing of the program. -/
namespace Go.Proofs.Ytpgkbdkkcladcaa.Sy
open Go Go.Lib Go.Proofs.Ytpgkbdkkcladcaa.Eng Go.RowKit

theorem w64 {x : Int} (h1 : -9223372036854775808 ≤ x) (h2 : x ≤ 9223372036854775807) : IntKind.i64.wrap x = x := by
  rw [IntKind.wrap_i64]; omega
theorem wu64 {x : Int} (h1 : 0 ≤ x) (h2 : x ≤ 18446744073709551615) : IntKind.u64.wrap x = x := by
  simp only [IntKind.wrap, IntKind.bits, IntKind.signed]
  simp
  omega
theorem wu64' (x : Int) : IntKind.u64.wrap x = x % 18446744073709551616 := by
  simp [IntKind.wrap, IntKind.bits, IntKind.signed]
theorem and_i64 (i : Nat) (hi : i ≤ 62) (x : Int) : Go.bits .and .i64 x (2 ^ i - 1) = x % 2 ^ i := by
  have hpos : 0 < 2 ^ i := Nat.two_pow_pos i
  have hle : 2 ^ i ≤ 2 ^ 62 := Nat.pow_le_pow_right (by decide) hi
  have hc : ((2 : Int) ^ i - 1) = ((2 ^ i - 1 : Nat) : Int) := by
    rw [Int.natCast_sub hpos]; simp
  have hm : (2 ^ i - 1) % 2 ^ 64 = 2 ^ i - 1 := Nat.mod_eq_of_lt (by omega)
  have ht : (BitVec.ofInt 64 x).toNat = (x % (2 ^ 64 : Int)).toNat := by simp [BitVec.toNat_ofInt]
  have hn : 0 ≤ x % (2 ^ 64 : Int) := Int.emod_nonneg _ (by decide)
  have hd : ((2 : Int) ^ i) ∣ (2 ^ 64 : Int) := ⟨2 ^ (64 - i), by rw [← Int.pow_add]; congr 1; omega⟩
  have hr : (((x % (2 ^ 64 : Int)).toNat % 2 ^ i : Nat) : Int) = x % 2 ^ i := by
    rw [Int.natCast_emod, Int.toNat_of_nonneg hn]
    rw [Int.natCast_pow]
    exact Int.emod_emod_of_dvd x hd
  have hb : 0 ≤ x % 2 ^ i ∧ x % 2 ^ i < 2 ^ 62 := by
    have hpz : (0 : Int) < 2 ^ i := by exact_mod_cast hpos
    have hlz : (2 : Int) ^ i ≤ 2 ^ 62 := by exact_mod_cast hle
    exact ⟨Int.emod_nonneg _ (by omega), Int.lt_of_lt_of_le (Int.emod_lt_of_pos _ hpz) hlz⟩
  rw [hc]
  show IntKind.i64.wrap (((BitVec.ofInt 64 x &&& BitVec.ofInt 64 ((2 ^ i - 1 : Nat) : Int)).toNat : Nat) : Int) = _
  rw [BitVec.ofInt_natCast, BitVec.toNat_and, BitVec.toNat_ofNat, hm, ht, Nat.and_two_pow_sub_one_eq_mod, hr, IntKind.wrap_i64]
  obtain ⟨b0, b1⟩ := hb
  generalize x % 2 ^ i = z at b0 b1 ⊢
  omega
theorem and1 (x : Int) : Go.bits .and .i64 x 1 = x % 2 := and_i64 1 (by decide) x
theorem and3 (x : Int) : Go.bits .and .i64 x 3 = x % 4 := and_i64 2 (by decide) x
theorem and7 (x : Int) : Go.bits .and .i64 x 7 = x % 8 := and_i64 3 (by decide) x
theorem and15 (x : Int) : Go.bits .and .i64 x 15 = x % 16 := and_i64 4 (by decide) x
theorem and65535 (x : Int) : Go.bits .and .i64 x 65535 = x % 65536 := and_i64 16 (by decide) x
theorem and24 (x : Int) : Go.bits .and .i64 x 16777215 = x % 16777216 := and_i64 24 (by decide) x
theorem tmod_pos {a b : Int} (h : 0 ≤ a) : a.tmod b = a % b := Int.tmod_eq_emod_of_nonneg h
theorem tdiv_pos {a b : Int} (h : 0 ≤ a) : a.tdiv b = a / b := Int.tdiv_eq_ediv_of_nonneg h
section
variable {v : Val} {α : Type} {ψ : Kn → α → Prop}
theorem TOK.br' {c : E} {t e : Tree α} (h1 : (den v c).b = true → TOK v ψ t) (h2 : (den v c).b = false → TOK v ψ e) : TOK v ψ (.br c t e) := ⟨h1, h2⟩
theorem TOK.need' {c : E} {t : Tree α} {n : Nat} (h : (den v c).b = true) (h1 : TOK v ψ t) : TOK v ψ (.br c t (.bad n)) := ⟨fun _ => h1, fun h2 => (by rw [h] at h2; cases h2)⟩
theorem TOK.needn' {c : E} {t : Tree α} {n : Nat} (h : (den v c).b = false) (h1 : TOK v ψ t) : TOK v ψ (.br c (.bad n) t) := ⟨fun h2 => (by rw [h] at h2; cases h2), fun _ => h1⟩
theorem TOK.leaf' {kn : Kn} {a : α} (h : ψ kn a) : TOK v ψ (.leaf kn a) := h
theorem lit_i64 {a : Int} (h : (Lit.int .i64 a).wf = true) : -9223372036854775808 ≤ a ∧ a ≤ 9223372036854775807 := by
  simpa [Lit.wf, IntKind.min, IntKind.max, IntKind.signed, IntKind.bits] using h
theorem lit_u64 {a : Int} (h : (Lit.int .u64 a).wf = true) : 0 ≤ a ∧ a ≤ 18446744073709551615 := by
  simpa [Lit.wf, IntKind.min, IntKind.max, IntKind.signed, IntKind.bits] using h
end
theorem nth0 {α : Type} (d x : α) (l : List α) : nth d (x :: l) 0 = x := rfl
theorem nthS {α : Type} (d x : α) (l : List α) (n : Nat) : nth d (x :: l) (n + 1) = nth d l n := rfl
/-! what terms stand for, one by one -/
section
variable {v : Val} {a b c : E}
theorem d_vi (n : Nat) : (den v (.vi n)).i = nth 0 v.i n := rfl
theorem d_vb (n : Nat) : (den v (.vb n)).b = nth false v.b n := rfl
theorem d_vr (n : Nat) : (den v (.vr n)).r = nth [] v.r n := rfl
theorem d_ci (z : Int) : (den v (.ci z)).i = z := rfl
theorem d_cb (z : Bool) : (den v (.cb z)).b = z := rfl
theorem d_nr : (den v .nr).r = [] := rfl
theorem d_nl : (den v .nl).l = [] := rfl
theorem d_add : (den v (.o2 .add a b)).i = (den v a).i + (den v b).i := rfl
theorem d_sub : (den v (.o2 .sub a b)).i = (den v a).i - (den v b).i := rfl
theorem d_mul : (den v (.o2 .mul a b)).i = (den v a).i * (den v b).i := rfl
theorem d_rem : (den v (.o2 .rem a b)).i = (den v a).i.tmod (den v b).i := rfl
theorem d_quo (k : IntKind) : (den v (.o2 (.quo k) a b)).i = k.wrap ((den v a).i.tdiv (den v b).i) := rfl
theorem d_bit (o : BinOp) (k : IntKind) : (den v (.o2 (.bit o k) a b)).i = bits o k (den v a).i (den v b).i := rfl
theorem d_mn : (den v (.o2 .mn a b)).i = if (den v b).i < (den v a).i then (den v b).i else (den v a).i := rfl
theorem d_mx : (den v (.o2 .mx a b)).i = if (den v a).i < (den v b).i then (den v b).i else (den v a).i := rfl
theorem d_w (k : IntKind) : (den v (.o1 (.w k) a)).i = k.wrap (den v a).i := rfl
theorem d_nn : (den v (.o1 .nn a)).i = ((den v a).i.toNat : Int) := rfl
theorem d_bn : (den v (.o1 .bn a)).i = if (den v a).b = true then 1 else 0 := rfl
theorem d_len : (den v (.o1 .len a)).i = ((den v a).r.length : Int) := rfl
theorem d_neg : (den v (.o1 .neg a)).i = 0 - (den v a).i := rfl
theorem d_at (n : Nat) : (den v (.o3 .at a b (.ci (n : Int)))).i = nth 0 ((den v a).r.getD (den v b).i.toNat []) n := by simp [den, den3, mkI]
theorem d_at0 : (den v (.o3 .at a b (.ci 0))).i = nth 0 ((den v a).r.getD (den v b).i.toNat []) 0 := rfl
theorem d_at1 : (den v (.o3 .at a b (.ci 1))).i = nth 0 ((den v a).r.getD (den v b).i.toNat []) 1 := rfl
theorem d_at2 : (den v (.o3 .at a b (.ci 2))).i = nth 0 ((den v a).r.getD (den v b).i.toNat []) 2 := rfl
theorem d_at3 : (den v (.o3 .at a b (.ci 3))).i = nth 0 ((den v a).r.getD (den v b).i.toNat []) 3 := rfl
theorem d_at4 : (den v (.o3 .at a b (.ci 4))).i = nth 0 ((den v a).r.getD (den v b).i.toNat []) 4 := rfl
theorem d_at5 : (den v (.o3 .at a b (.ci 5))).i = nth 0 ((den v a).r.getD (den v b).i.toNat []) 5 := rfl
theorem d_at6 : (den v (.o3 .at a b (.ci 6))).i = nth 0 ((den v a).r.getD (den v b).i.toNat []) 6 := rfl
theorem d_at7 : (den v (.o3 .at a b (.ci 7))).i = nth 0 ((den v a).r.getD (den v b).i.toNat []) 7 := rfl
theorem d_set : (den v (.o3 .set a b c)).r = (den v a).r.set (den v b).i.toNat (den v c).l := rfl
theorem d_app : (den v (.o2 .app a b)).r = (den v a).r ++ [(den v b).l] := rfl
theorem d_cat : (den v (.o2 .cat a b)).r = (den v a).r ++ (den v b).r := rfl
theorem d_take : (den v (.o2 .take a b)).r = (den v b).r.take (den v a).i.toNat := rfl
theorem d_drop : (den v (.o2 .drop a b)).r = (den v b).r.drop (den v a).i.toNat := rfl
theorem d_rep : (den v (.o2 .rep a b)).r = List.replicate (den v a).i.toNat (den v b).l := rfl
theorem d_cons : (den v (.o2 .cons a b)).l = (den v a).i :: (den v b).l := rfl
theorem d_lt_t : ((den v (.o2 .lt a b)).b = true) = ((den v a).i < (den v b).i) := by simp [den, den2, mkB]
theorem d_lt_f : ((den v (.o2 .lt a b)).b = false) = ((den v b).i ≤ (den v a).i) := by simp [den, den2, mkB]
theorem d_le_t : ((den v (.o2 .le a b)).b = true) = ((den v a).i ≤ (den v b).i) := by simp [den, den2, mkB]
theorem d_le_f : ((den v (.o2 .le a b)).b = false) = ((den v b).i < (den v a).i) := by simp [den, den2, mkB]
theorem d_eqi_t : ((den v (.o2 .eqi a b)).b = true) = ((den v a).i = (den v b).i) := by simp [den, den2, mkB]
theorem d_eqi_f : ((den v (.o2 .eqi a b)).b = false) = (¬ (den v a).i = (den v b).i) := by simp [den, den2, mkB]
theorem d_eqb_t : ((den v (.o2 .eqb a b)).b = true) = ((den v a).b = (den v b).b) := by simp [den, den2, mkB]
theorem d_eqb_f : ((den v (.o2 .eqb a b)).b = false) = (¬ (den v a).b = (den v b).b) := by simp [den, den2, mkB]
theorem d_lt_b : (den v (.o2 .lt a b)).b = decide ((den v a).i < (den v b).i) := rfl
theorem d_le_b : (den v (.o2 .le a b)).b = decide ((den v a).i ≤ (den v b).i) := rfl
theorem d_eqi_b : (den v (.o2 .eqi a b)).b = ((den v a).i == (den v b).i) := rfl
theorem d_eqb_b : (den v (.o2 .eqb a b)).b = ((den v a).b == (den v b).b) := rfl
theorem d_and_b : (den v (.o2 .and a b)).b = ((den v a).b && (den v b).b) := rfl
theorem d_or_b : (den v (.o2 .or a b)).b = ((den v a).b || (den v b).b) := rfl
theorem d_not_b : (den v (.o1 .not a)).b = !(den v a).b := rfl
theorem d_nb_t : ((den v (.o1 .nb a)).b = true) = (¬ (den v a).i = 0) := by simp [den, den1, mkB]
theorem d_nb_f : ((den v (.o1 .nb a)).b = false) = ((den v a).i = 0) := by simp [den, den1, mkB]
theorem d_nb_b : (den v (.o1 .nb a)).b = decide ((den v a).i ≠ 0) := rfl
end
end Go.Proofs.Ytpgkbdkkcladcaa.Sy
/- The second engine, part 12: a law whose run is told whole, case by case: some numbers are told one by one, as their bounds allow. A lemma file: it claims nothing of the program. -/
namespace Go.Proofs.Ytpgkbdkkcladcaa.Sy
open Go Go.Lib Go.Proofs.Ytpgkbdkkcladcaa.Eng Go.RowKit

def upTo (f : Int → List Kn) : Nat → Int → List Kn
  | 0, lo => f lo
  | n + 1, lo => f lo ++ upTo f n (lo + 1)
theorem upTo_mem {f : Int → List Kn} {k : Kn} {z : Int} : ∀ (n : Nat) (lo : Int), lo ≤ z → z ≤ lo + n → k ∈ f z → k ∈ upTo f n lo
  | 0, lo, h1, h2, h => by
    have : z = lo := by omega
    subst this; exact h
  | n + 1, lo, h1, h2, h => by
    by_cases he : z = lo
    · subst he; exact List.mem_append_left _ h
    · exact List.mem_append_right _ (upTo_mem n (lo + 1) (by omega) (by omega) h)
/-- Is it to be told here? -/
def wantS (kn : Kn) : List (E × Int) → Bool
  | [] => true
  | (g, z) :: gs => match knVal kn g with
    | some x => ieq x z && wantS kn gs
    | none => false
/-- All cases of numbers whose bounds are told (some only where another one is so). -/
def split : List (E × List (E × Int)) → Kn → List Kn
  | [], kn => [kn]
  | (e, g) :: es, kn => match wantS kn g, (iv kn e).1, (iv kn e).2 with
    | true, some l, some h => upTo (fun z => split es ((.o2 .eqi e (.ci z), true) :: kn)) (h - l).toNat l
    | _, _, _ => split es kn
theorem split_ok {v : Val} : ∀ (es : List (E × List (E × Int))) {kn : Kn}, KV v kn → ∃ k ∈ split es kn, KV v k
  | [], kn, hk => ⟨kn, List.mem_singleton.2 rfl, hk⟩
  | (e, g) :: es, kn, hk => by
    have hi := iv_ok hk e
    unfold split
    split
    · rename_i l h eg el eh
      obtain ⟨k, hm, hv⟩ := split_ok es (kn := (.o2 .eqi e (.ci (den v e).i), true) :: kn) (.cons (by simp [den, den2, mkB, mkI]) hk)
      exact ⟨k, upTo_mem _ _ (hi.lo el) (by have := hi.lo el; have := hi.hi eh; omega) hm, hv⟩
    · exact split_ok es hk
theorem all_getD {α : Type} {p : α → Prop} {l : List α} {d : α} (h : ∀ i, i < l.length → p (l.getD i d)) : ∀ c ∈ l, p c := by
  intro c hc
  obtain ⟨i, hi, rfl⟩ := List.getElem_of_mem hc
  have := h i hi
  rwa [List.getD_eq_getElem?_getD, List.getElem?_eq_getElem hi, Option.getD_some] at this
/-- A law whose run is told whole in each case. -/
theorem wholes {P : Program} {I : Tab} {G : SSums} (hI : TOk P I) {v0 : Val} (hG : GOk P v0 G) (hm : P.follows .mixedOrders = true) {fn : Func} {c : Code} {nb : Nat} {T0 : ST} {H0 : SH} {kn0 : Kn} (hk0 : KV v0 kn0) (es : List (E × List (E × Int)))
    (h : ∀ k ∈ split es kn0, isT (seg0 I G fn.ntmps c fn.results.toList H0.length [] (fun _ => true) nb T0 H0 k) = true) :
    AW P fn.ntmps (dH v0 H0) c (dT v0 T0) (dH v0 H0) (Eng.Ends I fn fun u _ => u = .bool true) := by
  obtain ⟨k, hm', hv⟩ := split_ok es hk0
  exact whole hI hG hm hv (h k hm')
end Go.Proofs.Ytpgkbdkkcladcaa.Sy
