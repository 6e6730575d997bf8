/- The second engine, part 6: code, and whole calls. A lemma file: it claims nothing of the program. -/
import Derived.Test.YtckbckijpdnlaaaOwnS5
set_option linter.unusedVariables false
set_option linter.unusedSimpArgs false
namespace Go.Proofs.Ytckbckijpdnlaaa.Sy
open Go Go.Lib Go.Proofs.Ytckbckijpdnlaaa.Eng

/-- A place in code: steps from the root, the last first. -/
abbrev Pos := List Nat
/-- What is still to be done behind a piece of code. -/
inductive Fr where
  | seq (p : Pos) (y : Code) | block (id : Nat) | loop (p : Pos) (x : Code)
/-- Where the reckoning stands. -/
inductive Pt where
  | code (p : Pos) (c : Code) | pop | exit (id : Nat)
/-- Where the reckoning ends. -/
inductive Lf where
  | norm (T : ST) (H : SH) | ret (T : ST) (H : SH) | ext (id : Nat) (T : ST) (H : SH) | loop (p : Pos) (x : Code) (K : List Fr) (T : ST) (H : SH)
def sch0 (ops : Array Oper) : Sch := mkSch ops ops.size (Array.replicate ops.size false)
def boolE (n : Nat) (x : Option SV) : SM E := match x with
  | some (.one (.bool b)) => .pure b
  | _ => .fail n
theorem boolE_ok {v : Val} {n : Nat} {x : Option SV} : Sat v (boolE n x) fun b => x = some (.one (.bool b)) := by
  unfold boolE
  split
  · exact .pure rfl
  · exact .fail
def srun (I : Tab) (G : SSums) (N : Nat) (ul : Pos → Bool) : Nat → Pt → List Fr → ST → SH → SM Lf
  | 0, _, _, _, _ => .fail 300
  | n + 1, q, K, T, H => match q with
    | .code p c => match c with
      | .skip => srun I G N ul n .pop K T H
      | .seq x y => srun I G N ul n (.code (0 :: p) x) (.seq (1 :: p) y :: K) T H
      | .cond o x y => SM.bind (boolE 301 (sev T o)) fun b => SM.bind (ask b) fun q => match q with
          | true => srun I G N ul n (.code (0 :: p) x) K T H
          | false => srun I G N ul n (.code (1 :: p) y) K T H
      | .block id x => srun I G N ul n (.code (0 :: p) x) (.block id :: K) T H
      | .loop x => match ul p with
        | true => srun I G N ul n (.code (0 :: p) x) (.loop p x :: K) T H
        | false => .pure (.loop p x K T H)
      | .exit id => srun I G N ul n (.exit id) K T H
      | .ret => .pure (.ret T H)
      | .region _ ops dr => match dr with
        | false => SM.bind (sreg I G N ops ops.toList T H) fun r => srun I G N ul n .pop K r.1 r.2
        | true => if (Region.noSelect ops && schOk ops (sch0 ops) true ops.size (Array.replicate ops.size false)) = true then
            SM.bind (sdreg I G N ops (sch0 ops) T H []) fun r => srun I G N ul n .pop K r.1 r.2
          else .fail 302
      | _ => .fail 303
    | .pop => match K with
      | [] => .pure (.norm T H)
      | .seq p y :: K => srun I G N ul n (.code p y) K T H
      | .block _ :: K => srun I G N ul n .pop K T H
      | .loop p x :: K => match ul p with
        | true => srun I G N ul n (.code (0 :: p) x) (.loop p x :: K) T H
        | false => .pure (.loop p x K T H)
    | .exit id => match K with
      | [] => .pure (.ext id T H)
      | .block id' :: K => if id = id' then srun I G N ul n .pop K T H else srun I G N ul n (.exit id) K T H
      | .seq _ _ :: K => srun I G N ul n (.exit id) K T H
      | .loop _ _ :: K => srun I G N ul n (.exit id) K T H

/-- So many rounds at most. -/
structure AR (P : Program) (N : Nat) (H0 : AHeap) (x : Code) (r : Nat) (T : TM) (H : AHeap) (Q : Exit → TM → AHeap → Prop) : Prop where
  run : ∀ m0 w0 a w, Match m0 H0 w0 → ASat N m0 H0 w0 T H a w → Code.rounds P x (Post N m0 H0 w0 Q) r a w
section
variable {P : Program} {N : Nat} {H0 : AHeap}
theorem rounds_mono {x : Code} {Q Q' : Exit → Act → World → Prop} (hq : ∀ e a w, Q e a w → Q' e a w) : ∀ {m n : Nat} {a : Act} {w : World}, m ≤ n → Code.rounds P x Q m a w → Code.rounds P x Q' n a w
  | 0, _, _, _, _, h => h.elim
  | m + 1, n, a, w, hl, h => by
    obtain ⟨n, rfl⟩ : ∃ k, n = k + 1 := ⟨n - 1, by omega⟩
    rw [rounds_succ] at h ⊢
    refine Code.wp_mono (fun e a w h => ?_) h
    cases e with
    | normal => exact rounds_mono hq (by omega) h
    | exit id => exact hq _ _ _ h
    | goto l => exact hq _ _ _ h
    | ret => exact hq _ _ _ h
    | panic ch => exact hq _ _ _ h
    | outgrown => exact hq _ _ _ h
theorem AR.mono {x : Code} {m n : Nat} {T : TM} {H : AHeap} {Q Q' : Exit → TM → AHeap → Prop} (hl : m ≤ n) (hq : ∀ e T H, Q e T H → Q' e T H) (h : AR P N H0 x m T H Q) : AR P N H0 x n T H Q' :=
  ⟨fun m0 w0 a w hM hs => rounds_mono (fun e a w ⟨h1, T, H, h2, h3⟩ => ⟨h1, T, H, hq _ _ _ h2, h3⟩) hl (h.run m0 w0 a w hM hs)⟩
theorem AR.loop {x : Code} {n : Nat} {T : TM} {H : AHeap} {Q : Exit → TM → AHeap → Prop} (h : AR P N H0 x n T H Q) : AW P N H0 (.loop x) T H Q :=
  ⟨fun m0 w0 a w hM hs => wp_loop_rounds n (h.run m0 w0 a w hM hs)⟩
theorem AR.succ {x : Code} {n : Nat} {T : TM} {H : AHeap} {Q : Exit → TM → AHeap → Prop} (h : AW P N H0 x T H (thenQ (fun T H => AR P N H0 x n T H Q) Q)) : AR P N H0 x (n + 1) T H Q :=
  ⟨fun m0 w0 a w hM hs => by
    rw [rounds_succ]
    refine Code.wp_mono (fun e a w hp => ?_) (h.run m0 w0 a w hM hs)
    obtain ⟨h1, T, H, h2, h3⟩ := hp
    cases e with
    | normal => exact h2.run m0 w0 a w hM h3
    | exit id => exact ⟨h1, T, H, h2, h3⟩
    | goto l => cases h1
    | ret => exact ⟨h1, T, H, h2, h3⟩
    | panic ch => cases h1
    | outgrown => cases h1⟩
/-- What must hold behind a piece of code, by what is still to be done. -/
def KQ (P : Program) (N : Nat) (H0 : AHeap) (n : Nat) : List Fr → (Exit → TM → AHeap → Prop) → Exit → TM → AHeap → Prop
  | [], Q => Q
  | .seq _ y :: K, Q => thenQ (fun T H => AW P N H0 y T H (KQ P N H0 n K Q)) (KQ P N H0 n K Q)
  | .block id :: K, Q => blockQ id (KQ P N H0 n K Q)
  | .loop _ x :: K, Q => thenQ (fun T H => AR P N H0 x n T H (KQ P N H0 n K Q)) (KQ P N H0 n K Q)
theorem thenQ.mono {A A' : TM → AHeap → Prop} {Q Q' : Exit → TM → AHeap → Prop} (h1 : ∀ T H, A T H → A' T H) (h2 : ∀ e T H, Q e T H → Q' e T H) {e : Exit} {T : TM} {H : AHeap} (h : thenQ A Q e T H) : thenQ A' Q' e T H := by
  cases e <;> first | exact h1 _ _ h | exact h2 _ _ _ h
theorem blockQ.mono {id : Nat} {Q Q' : Exit → TM → AHeap → Prop} (h2 : ∀ e T H, Q e T H → Q' e T H) {e : Exit} {T : TM} {H : AHeap} (h : blockQ id Q e T H) : blockQ id Q' e T H := by
  cases e with
  | exit i =>
    simp only [blockQ] at h ⊢
    split at h
    · rename_i hi; rw [if_pos hi]; exact h2 _ _ _ h
    · rename_i hi; rw [if_neg hi]; exact h2 _ _ _ h
  | _ => exact h2 _ _ _ h
theorem KQ.mono {m n : Nat} (hl : m ≤ n) : ∀ (K : List Fr) {Q Q' : Exit → TM → AHeap → Prop}, (∀ e T H, Q e T H → Q' e T H) → ∀ {e : Exit} {T : TM} {H : AHeap}, KQ P N H0 m K Q e T H → KQ P N H0 n K Q' e T H
  | [], _, _, hq, _, _, _, h => hq _ _ _ h
  | .seq _ y :: K, _, _, hq, _, _, _, h => thenQ.mono (fun _ _ h => h.mono fun _ _ _ => KQ.mono hl K hq) (fun _ _ _ => KQ.mono hl K hq) h
  | .block id :: K, _, _, hq, _, _, _, h => blockQ.mono (fun _ _ _ => KQ.mono hl K hq) h
  | .loop _ x :: K, _, _, hq, _, _, _, h => thenQ.mono (fun _ _ h => h.mono hl fun _ _ _ => KQ.mono hl K hq) (fun _ _ _ => KQ.mono hl K hq) h
/-- What must hold where the reckoning ends. -/
def LfOK (P : Program) (N : Nat) (H0 : AHeap) (v : Val) (B : Nat) (Q : Exit → TM → AHeap → Prop) : Lf → Prop
  | .norm T H => Q .normal (dT v T) (dH v H)
  | .ret T H => Q .ret (dT v T) (dH v H)
  | .ext id T H => Q (.exit id) (dT v T) (dH v H)
  | .loop _ x K T H => AR P N H0 x B (dT v T) (dH v H) (KQ P N H0 B K Q)
def PtOK (P : Program) (N : Nat) (H0 : AHeap) (n : Nat) (K : List Fr) (Q : Exit → TM → AHeap → Prop) (T : TM) (H : AHeap) : Pt → Prop
  | .code _ c => AW P N H0 c T H (KQ P N H0 n K Q)
  | .pop => KQ P N H0 n K Q .normal T H
  | .exit id => KQ P N H0 n K Q (.exit id) T H
theorem KQ.ret {n : Nat} : ∀ (K : List Fr) {Q : Exit → TM → AHeap → Prop} {T : TM} {H : AHeap}, Q .ret T H → KQ P N H0 n K Q .ret T H
  | [], _, _, _, h => h
  | .seq _ y :: K, _, _, _, h => KQ.ret K h
  | .block id :: K, _, _, _, h => KQ.ret K h
  | .loop _ x :: K, _, _, _, h => KQ.ret K h
end
section
variable {P : Program} {I : Tab} {v : Val} {G : SSums} {N : Nat} {H0 : AHeap} {Q : Exit → TM → AHeap → Prop}
theorem srun_ok (hI : TOk P I) (hG : GOk P v G) (hm : P.follows .mixedOrders = true) {ul : Pos → Bool} {B : Nat} : ∀ (n : Nat) (q : Pt) (K : List Fr) (T : ST) (H : SH) (kn : Kn), KV v kn →
    TOK v (fun kn l => KV v kn → LfOK P N H0 v B Q l) (srun I G N ul n q K T H kn) → PtOK P N H0 (n + B) K Q (dT v T) (dH v H) q
  | 0, q, K, T, H, kn, hk, h => h.elim
  | n + 1, q, K, T, H, kn, hk, h => by
    have ih := srun_ok hI hG hm (ul := ul) (B := B) n
    have up : ∀ (K : List Fr) {e : Exit} {T : TM} {H : AHeap}, KQ P N H0 (n + B) K Q e T H → KQ P N H0 (n + 1 + B) K Q e T H := fun K {_ _ _} h => KQ.mono (by omega) K (fun _ _ _ h => h) h
    have upB : ∀ (K : List Fr) {e : Exit} {T : TM} {H : AHeap}, KQ P N H0 B K Q e T H → KQ P N H0 (n + 1 + B) K Q e T H := fun K {_ _ _} h => KQ.mono (by omega) K (fun _ _ _ h => h) h
    have e1 : n + 1 + B = n + B + 1 := by omega
    cases q with
    | code p c =>
      show AW P N H0 c _ _ _
      cases c with
      | skip => exact AW.skip (up _ (ih .pop K T H kn hk h))
      | seq x y => exact (AW.seq (ih (.code (0 :: p) x) (.seq (1 :: p) y :: K) T H kn hk h)).mono fun _ _ _ => up K
      | cond o x y =>
        obtain ⟨kn0, b, hk0, hb, h⟩ := tok_sat h boolE_ok hk
        obtain ⟨kn1, q, hk1, hq, h⟩ := tok_sat h .ask hk0
        have hb := sev_ok (v := v) hb
        refine AW.cond (b := q) (by rw [hb, dv_one, dl_bool, hq]) ?_
        cases q with
        | true => exact AW.mono (ih (.code (0 :: p) x) K T H kn1 hk1 h) fun _ _ _ => up K
        | false => exact AW.mono (ih (.code (1 :: p) y) K T H kn1 hk1 h) fun _ _ _ => up K
      | block id x => exact (AW.block (ih (.code (0 :: p) x) (.block id :: K) T H kn hk h)).mono fun _ _ _ => up K
      | loop x =>
        cases hu : ul p with
        | true =>
          simp only [srun, hu] at h
          exact (AR.loop (AR.succ (ih (.code (0 :: p) x) (.loop p x :: K) T H kn hk h))).mono fun _ _ _ => up K
        | false =>
          simp only [srun, hu] at h
          exact (AR.loop (h hk)).mono fun _ _ _ => upB K
      | exit id => exact AW.exit (up _ (ih (.exit id) K T H kn hk h))
      | ret => exact AW.ret (KQ.ret K (h hk))
      | region id ops dr =>
        cases dr with
        | false =>
          have h := (tok_bind _ _).1 h
          exact AW.regionS hI hG hk (h.mono fun kn' r hr hk' => up K (ih .pop K r.1 r.2 kn' hk' hr))
        | true =>
          simp only [srun] at h
          split at h
          · rename_i hs
            simp only [Bool.and_eq_true] at hs
            have h := (tok_bind _ _).1 h
            exact AW.drawS hI hG hm hk hs.1 hs.2 (h.mono fun kn' r hr hk' => up K (ih .pop K r.1 r.2 kn' hk' hr))
          · exact h.elim
      | _ => exact h.elim
    | pop =>
      cases K with
      | nil => exact h hk
      | cons f K =>
        cases f with
        | seq p y => exact AW.mono (ih (.code p y) K T H kn hk h) fun _ _ _ => up K
        | block id => exact up K (ih .pop K T H kn hk h)
        | loop p x =>
          show AR P N H0 x (n + 1 + B) _ _ (KQ P N H0 (n + 1 + B) K Q)
          cases hu : ul p with
          | true =>
            simp only [srun, hu] at h
            have := AR.succ (ih (.code (0 :: p) x) (.loop p x :: K) T H kn hk h)
            exact AR.mono (by omega) (fun _ _ _ => up K) this
          | false =>
            simp only [srun, hu] at h
            exact AR.mono (by omega) (fun _ _ _ => upB K) (h hk)
    | exit id =>
      cases K with
      | nil => exact h hk
      | cons f K =>
        cases f with
        | seq p y => exact up K (ih (.exit id) K T H kn hk h)
        | block id' =>
          simp only [srun] at h
          show blockQ id' _ (.exit id) _ _
          simp only [blockQ]
          split at h
          · rename_i he; rw [if_pos he]; exact up K (ih .pop K T H kn hk h)
          · rename_i he; rw [if_neg he]; exact up K (ih (.exit id) K T H kn hk h)
        | loop p x => exact up K (ih (.exit id) K T H kn hk h)
end

/-! ### places in code -/
def loc (c : Code) : Pos → Option (Code × List Fr)
  | [] => some (c, [])
  | d :: p => match loc c p with
    | some (.seq x y, K) => if d = 0 then some (x, .seq (1 :: p) y :: K) else if d = 1 then some (y, K) else none
    | some (.cond _ x y, K) => if d = 0 then some (x, K) else if d = 1 then some (y, K) else none
    | some (.block id x, K) => if d = 0 then some (x, .block id :: K) else none
    | some (.loop x, K) => if d = 0 then some (x, .loop p x :: K) else none
    | _ => none
def WK (c : Code) : List Fr → Prop
  | [] => True
  | .seq p y :: K => loc c p = some (y, K) ∧ WK c K
  | .block _ :: K => WK c K
  | .loop p x :: K => loc c p = some (.loop x, K) ∧ WK c K
theorem loc_WK {c : Code} : ∀ (p : Pos) {x : Code} {K : List Fr}, loc c p = some (x, K) → WK c K
  | [], x, K, h => by cases h; trivial
  | d :: p, x, K, h => by
    simp only [loc] at h
    split at h
    · rename_i a b K' hp
      have := loc_WK p hp
      split at h
      · cases h
        refine ⟨?_, this⟩
        simp only [loc, hp]; simp
      · split at h
        · cases h; exact this
        · cases h
    · rename_i o a b K' hp
      have := loc_WK p hp
      split at h
      · cases h; exact this
      · split at h
        · cases h; exact this
        · cases h
    · rename_i id a K' hp
      have := loc_WK p hp
      split at h
      · cases h; exact this
      · cases h
    · rename_i a K' hp
      have := loc_WK p hp
      split at h
      · cases h; exact ⟨hp, this⟩
      · cases h
    · cases h
def WPt (c : Code) (K : List Fr) : Pt → Prop
  | .code p x => loc c p = some (x, K)
  | _ => WK c K
def WLf (c : Code) : Lf → Prop
  | .loop p x K _ _ => loc c p = some (.loop x, K)
  | _ => True
theorem srun_at {c : Code} {I : Tab} {v : Val} {G : SSums} {N : Nat} {ul : Pos → Bool} : ∀ (n : Nat) (q : Pt) (K : List Fr) (T : ST) (H : SH) (kn kn' : Kn) (l : Lf), WPt c K q → Out v (srun I G N ul n q K T H kn) kn' l → WLf c l
  | 0, q, K, T, H, kn, kn', l, hq, ho => ho.elim
  | n + 1, q, K, T, H, kn, kn', l, hq, ho => by
    have ih := srun_at (c := c) (I := I) (v := v) (G := G) (N := N) (ul := ul) n
    cases q with
    | code p x =>
      have hW := loc_WK p hq
      cases x with
      | skip => exact ih .pop K T H kn kn' l hW ho
      | seq x y => exact ih (.code (0 :: p) x) _ T H kn kn' l (by show loc c (0 :: p) = _; simp only [loc, show loc c p = _ from hq]; simp) ho
      | cond o x y =>
        obtain ⟨k0, b, _, ho⟩ := out_bind _ _ ho
        obtain ⟨k1, q, _, ho⟩ := out_bind _ _ ho
        cases q with
        | true => exact ih (.code (0 :: p) x) _ T H k1 kn' l (by show loc c (0 :: p) = _; simp only [loc, show loc c p = _ from hq]; simp) ho
        | false => exact ih (.code (1 :: p) y) _ T H k1 kn' l (by show loc c (1 :: p) = _; simp only [loc, show loc c p = _ from hq]; simp) ho
      | block id x => exact ih (.code (0 :: p) x) _ T H kn kn' l (by show loc c (0 :: p) = _; simp only [loc, show loc c p = _ from hq]; simp) ho
      | loop x =>
        cases hu : ul p with
        | true =>
          simp only [srun, hu] at ho
          exact ih (.code (0 :: p) x) _ T H kn kn' l (by show loc c (0 :: p) = _; simp only [loc, show loc c p = _ from hq]; simp) ho
        | false =>
          simp only [srun, hu] at ho
          obtain ⟨rfl, rfl⟩ := ho; exact hq
      | exit id => exact ih (.exit id) K T H kn kn' l hW ho
      | ret => obtain ⟨rfl, rfl⟩ := ho; trivial
      | region id ops dr =>
        cases dr with
        | false =>
          obtain ⟨k0, r, _, ho⟩ := out_bind _ _ ho
          exact ih .pop K r.1 r.2 k0 kn' l hW ho
        | true =>
          simp only [srun] at ho
          split at ho
          · obtain ⟨k0, r, _, ho⟩ := out_bind _ _ ho
            exact ih .pop K r.1 r.2 k0 kn' l hW ho
          · exact ho.elim
      | _ => exact ho.elim
    | pop =>
      cases K with
      | nil => obtain ⟨rfl, rfl⟩ := ho; trivial
      | cons f K =>
        cases f with
        | seq p y => exact ih (.code p y) K T H kn kn' l hq.1 ho
        | block id => exact ih .pop K T H kn kn' l hq ho
        | loop p x =>
          have hq' : loc c p = some (.loop x, K) := hq.1
          cases hu : ul p with
          | true =>
            simp only [srun, hu] at ho
            exact ih (.code (0 :: p) x) _ T H kn kn' l (by show loc c (0 :: p) = _; simp only [loc, hq']; simp) ho
          | false =>
            simp only [srun, hu] at ho
            obtain ⟨rfl, rfl⟩ := ho; exact hq'
    | exit id =>
      cases K with
      | nil => obtain ⟨rfl, rfl⟩ := ho; trivial
      | cons f K =>
        cases f with
        | seq p y => exact ih (.exit id) K T H kn kn' l hq.2 ho
        | block id' =>
          simp only [srun] at ho
          split at ho
          · exact ih .pop K T H kn kn' l hq ho
          · exact ih (.exit id) K T H kn kn' l hq ho
        | loop p x => exact ih (.exit id) K T H kn kn' l hq.2 ho

/-! ### what a call is handed -/
/-- What is handed to a call: some to be turned, some to be read alone. -/
def roB : ABlk → ABlk
  | .cells vs => .ro vs
  | .row s z els => .old s z els
  | .iter _ _ => .dead
  | b => b
def restr2 (R W : List Nat) : Nat → AHeap → AHeap
  | _, [] => []
  | k, b :: H => (if W.contains k = true then b else if R.contains k = true then roB b else .dead) :: restr2 R W (k + 1) H
theorem restr2_len (R W : List Nat) : ∀ (k : Nat) (H : AHeap), (restr2 R W k H).length = H.length
  | _, [] => rfl
  | k, b :: H => by simp [restr2, restr2_len R W (k + 1) H]
theorem restr2_get (R W : List Nat) : ∀ (k : Nat) (H : AHeap) (id : Nat), (restr2 R W k H)[id]? = (H[id]?).map fun b => if W.contains (k + id) = true then b else if R.contains (k + id) = true then roB b else .dead
  | _, [], id => by simp [restr2]
  | k, b :: H, 0 => by simp [restr2]
  | k, b :: H, id + 1 => by
    simp only [restr2, List.getElem?_cons_succ]
    rw [restr2_get R W (k + 1) H id]
    congr 1
    funext c
    rw [show k + 1 + id = k + (id + 1) by omega]
theorem roB_own (b : ABlk) : (roB b).own = false := by cases b <;> rfl
theorem roB_live {b : ABlk} (h : (roB b).live = true) : b.live = true := by cases b <;> first | rfl | exact h
theorem roB_rel {m : Mp} {w : World} {i : MI} {b : ABlk} (h : BRel m w i b) : BRel m w i (roB b) := by
  cases b with
  | cells vs => exact h
  | ro vs => exact h
  | old s z els => exact h
  | iter s p => trivial
  | dead => trivial
  | row s z els =>
    have hB := h
    obtain ⟨h1, h2, h3, h4⟩ := h
    refine ⟨h1, h3, h4.imp id ?_⟩
    rintro ⟨h5, cs, T, h7, h8, h9, h10⟩
    refine ⟨h5, heap_lt h7, fun e c k v he hk => ?_⟩
    have hl := (h3 c (List.mem_of_getElem? he)).1
    have hr : rd (.row s z els) (some e) 0 c.length = some c := by simp [rd, he]
    obtain ⟨u, hu, hv⟩ := rd_cell hB hr h5 k v hk
    refine ⟨u, ?_, hv⟩
    rw [← hu]
    simp [h1]
section
variable {P : Program} {m0 : Mp} {H0 : AHeap} {w0 : World} {H H1 : AHeap} {m m' : Mp} {w w' : World} {R W : List Nat}
theorem Match.restr2 (h : Match m H w) (R W : List Nat) : Match m (restr2 R W 0 H) w := by
  have g : ∀ (q : Nat) (b : ABlk), (Sy.restr2 R W 0 H)[q]? = some b → b.live = true → ∃ c, H[q]? = some c ∧ c.live = true ∧ (b.own = true → c = b) := by
    intro q b hq hl
    rw [restr2_get] at hq
    cases hH : H[q]? with
    | none => rw [hH] at hq; cases hq
    | some c =>
      rw [hH] at hq
      simp only [Option.map_some, Option.some.injEq] at hq
      split at hq
      · exact ⟨c, rfl, by rw [hq]; exact hl, fun _ => hq⟩
      · split at hq
        · subst hq; exact ⟨c, rfl, roB_live hl, fun ho => by rw [roB_own] at ho; cases ho⟩
        · subst hq; cases hl
  refine ⟨fun id i hi => ?_, fun id id' i i' b b' h1 h2 h3 h4 h5 h6 h7 h8 h9 => ?_⟩
  · obtain ⟨b, hb, hB⟩ := h.has id i hi
    rw [restr2_get, hb]
    by_cases hc : W.contains (0 + id) = true
    · exact ⟨b, by simp only [Option.map_some, hc, if_true], hB⟩
    · by_cases hc2 : R.contains (0 + id) = true
      · exact ⟨roB b, by simp only [Option.map_some, if_neg hc, hc2, if_true], roB_rel hB⟩
      · exact ⟨.dead, by simp only [Option.map_some, if_neg hc, if_neg hc2], trivial⟩
  · obtain ⟨c1, e1, e2, e3⟩ := g _ _ h3 (ABlk.own_live h5)
    obtain ⟨c2, f1, f2, f3⟩ := g _ _ h4 h6
    exact h.inj id id' i i' c1 c2 h1 h2 e1 f1 (by rw [e3 h5]; exact h5) f2 h7 h8 h9
theorem owned_restr2 (h : Match m H w) {k : Nat} (ho : Owned m (restr2 R W 0 H) k) : ∃ id i b, W.contains id = true ∧ m id = some i ∧ H[id]? = some b ∧ b.own = true ∧ i.void = false ∧ i.blk = k := by
  obtain ⟨id, i, b, h1, h2, h3, h4, h5⟩ := ho
  rw [restr2_get, Nat.zero_add] at h2
  cases hH : H[id]? with
  | none => rw [hH] at h2; cases h2
  | some c =>
    rw [hH] at h2
    simp only [Option.map_some, Option.some.injEq] at h2
    split at h2
    · rename_i hc; subst h2; exact ⟨id, i, c, hc, h1, hH, h3, h4, h5⟩
    · split at h2
      · subst h2; rw [roB_own] at h3; cases h3
      · subst h2; cases h3
/-- A call that was handed a part of what is known: all that was put aside is as it was. -/
theorem Run.join2 (h : Run m0 H0 w0 H m w) (h1 : Run m (restr2 R W 0 H) w H1 m' w') : Run m0 H0 w0 (join W 0 H H1) m' w' ∧ Eng.Frame m (W.filter fun id => ownB (H[id]?)) w w' := by
  have hlen : H.length ≤ H1.length := by have := h1.len; rwa [restr2_len] at this
  have hdom : ∀ id, id < H.length → m' id = m id := fun id hid => h1.dom id (by rw [restr2_len]; exact hid)
  -- blocks of what was put aside
  have haside : ∀ id i b, id < H.length → W.contains id = false → m id = some i → H[id]? = some b → b.live = true → i.void = false → i.blk < w.heap.size ∧ ¬ Owned m (Sy.restr2 R W 0 H) i.blk := by
    intro id i b hid hc hi hb hl hv
    obtain ⟨b', hb', hB⟩ := h.mt.has id i hi
    rw [hb] at hb'
    cases hb'
    refine ⟨hB.live_lt hl hv, fun ho => ?_⟩
    obtain ⟨q, iq, bq, q1, q2, q3, q4, q5, q6⟩ := owned_restr2 h.mt ho
    have := h.mt.inj q id iq i bq b q2 hi q3 hb q4 hl q5 hv q6
    subst this
    rw [hc] at q1
    cases q1
  have hg := join_get W 0 H H1 hlen
  simp only [Nat.zero_add] at hg
  have hsz := h1.size
  have hin : ∀ (id : Nat) (b : ABlk), (Eng.join W 0 H H1)[id]? = some b → (id < H.length ∧ W.contains id = false ∧ H[id]? = some b) ∨ (¬ (id < H.length ∧ W.contains id = false) ∧ H1[id]? = some b) := by
    intro id b hb
    rw [hg] at hb
    by_cases hc : id < H.length ∧ W.contains id = false
    · rw [if_pos hc] at hb; exact .inl ⟨hc.1, hc.2, hb⟩
    · rw [if_neg hc] at hb; exact .inr ⟨hc, hb⟩
  -- live blocks of the call's own end lie in new memory, or in what it was handed
  have hlive : ∀ (id : Nat) (i : MI) (b : ABlk), m' id = some i → H1[id]? = some b → b.live = true → i.void = false → ¬ (id < H.length ∧ W.contains id = false) →
      ∀ id2 i2 b2, id2 < H.length → W.contains id2 = false → m id2 = some i2 → H[id2]? = some b2 → b2.live = true → i2.void = false → (b.own = true ∨ b2.own = true) → i.blk ≠ i2.blk := by
    intro id i b hi hb hl hv hn id2 i2 b2 hid2 hc2 hi2 hb2 hl2 hv2 hown e
    obtain ⟨g1, g2⟩ := haside id2 i2 b2 hid2 hc2 hi2 hb2 hl2 hv2
    rcases Nat.lt_or_ge id H.length with hid | hid
    · obtain ⟨b0, r1, r2, r3⟩ := h1.old id b (by rw [restr2_len]; exact hid) hb hl
      rw [restr2_get, Nat.zero_add] at r1
      cases hH : H[id]? with
      | none => rw [hH] at r1; cases r1
      | some c =>
        rw [hH] at r1
        simp only [Option.map_some, Option.some.injEq] at r1
        split at r1
        · rename_i hc
          subst r1
          rw [hdom id hid] at hi
          rcases hown with ho | ho
          · have := h.mt.inj id id2 i i2 c b2 hi hi2 hH hb2 (r3 ho) hl2 hv hv2 e
            subst this
            rw [hc] at hc2; cases hc2
          · have := h.mt.inj id2 id i2 i b2 c hi2 hi hb2 hH ho r2 hv2 hv e.symm
            subst this
            rw [hc] at hc2; cases hc2
        · rename_i hnc; exfalso; first | exact hn ⟨hid, by simpa using hnc⟩ | exact c1 ⟨hidH, by simpa using hnc⟩ | exact c1 ⟨hid, by simpa using hnc⟩
    · rcases h1.new id i b (by rw [restr2_len]; exact hid) hi hb hl hv with h' | h'
      · omega
      · rw [e] at h'; exact g2 h'
  refine ⟨⟨⟨fun id i hi => ?_, fun id id' i i' b b' a1 a2 a3 a4 a5 a6 a7 a8 a9 => ?_⟩, Mp.le_trans h.ext h1.ext, fun id hid => ?_, ?_, fun id b hid hb hl => ?_, fun id i b hid hi hb hl hv => ?_, h1.os.trans h.os, h1.tape.trans h.tape, h1.output.trans h.output, Nat.le_trans h.size h1.size, fun k hk hn => ?_⟩, ⟨h1.size, fun k hk hno => ?_⟩⟩
  · by_cases hc : id < H.length ∧ W.contains id = false
    · obtain ⟨b, hb, hB⟩ := h.mt.has id i (by rw [← hdom id hc.1]; exact hi)
      refine ⟨b, by rw [hg, if_pos hc]; exact hb, ?_⟩
      cases hl : b.live with
      | false => cases b <;> first | trivial | cases hl
      | true =>
        refine (hB.mono h1.ext).frame fun hv hlt => ?_
        exact h1.keep _ hlt (haside id i b hc.1 hc.2 (by rw [← hdom id hc.1]; exact hi) hb hl hv).2
    · obtain ⟨b, hb, hB⟩ := h1.mt.has id i hi
      exact ⟨b, by rw [hg, if_neg hc]; exact hb, hB⟩
  · rcases hin id b a3 with ⟨c1, c2, c3⟩ | ⟨c1, c3⟩ <;> rcases hin id' b' a4 with ⟨d1, d2, d3⟩ | ⟨d1, d3⟩
    · exact h.mt.inj id id' i i' b b' (by rw [← hdom id c1]; exact a1) (by rw [← hdom id' d1]; exact a2) c3 d3 a5 a6 a7 a8 a9
    · exact absurd a9.symm (hlive id' i' b' a2 d3 a6 a8 d1 id i b c1 c2 (by rw [← hdom id c1]; exact a1) c3 (ABlk.own_live a5) a7 (.inr a5))
    · exact absurd a9 (hlive id i b a1 c3 (ABlk.own_live a5) a7 c1 id' i' b' d1 d2 (by rw [← hdom id' d1]; exact a2) d3 a6 a8 (.inl a5))
    · exact h1.mt.inj id id' i i' b b' a1 a2 c3 d3 a5 a6 a7 a8 a9
  · rw [hdom id (Nat.lt_of_lt_of_le hid h.len)]; exact h.dom id hid
  · rw [join_len W 0 H H1 hlen]; exact Nat.le_trans h.len hlen
  · rcases hin id b hb with ⟨c1, c2, c3⟩ | ⟨c1, c3⟩
    · exact h.old id b hid c3 hl
    · have hidH : id < H.length := Nat.lt_of_lt_of_le hid h.len
      obtain ⟨b0, r1, r2, r3⟩ := h1.old id b (by rw [restr2_len]; exact hidH) c3 hl
      rw [restr2_get, Nat.zero_add] at r1
      cases hH : H[id]? with
      | none => rw [hH] at r1; cases r1
      | some c =>
        rw [hH] at r1
        simp only [Option.map_some, Option.some.injEq] at r1
        split at r1
        · subst r1
          obtain ⟨b1, s1, s2, s3⟩ := h.old id c hid hH r2
          exact ⟨b1, s1, s2, fun ho => s3 (r3 ho)⟩
        · rename_i hnc; exfalso; first | exact hn ⟨hid, by simpa using hnc⟩ | exact c1 ⟨hidH, by simpa using hnc⟩ | exact c1 ⟨hid, by simpa using hnc⟩
  · rcases hin id b hb with ⟨c1, c2, c3⟩ | ⟨c1, c3⟩
    · exact h.new id i b hid (by rw [← hdom id c1]; exact hi) c3 hl hv
    · rcases Nat.lt_or_ge id H.length with hidH | hidH
      · obtain ⟨b0, r1, r2, r3⟩ := h1.old id b (by rw [restr2_len]; exact hidH) c3 hl
        rw [restr2_get, Nat.zero_add] at r1
        cases hH : H[id]? with
        | none => rw [hH] at r1; cases r1
        | some c =>
          rw [hH] at r1
          simp only [Option.map_some, Option.some.injEq] at r1
          split at r1
          · subst r1
            exact h.new id i c hid (by rw [← hdom id hidH]; exact hi) hH r2 hv
          · rename_i hnc; exfalso; first | exact hn ⟨hid, by simpa using hnc⟩ | exact c1 ⟨hidH, by simpa using hnc⟩ | exact c1 ⟨hid, by simpa using hnc⟩
      · rcases h1.new id i b (by rw [restr2_len]; exact hidH) hi c3 hl hv with h' | h'
        · exact .inl (Nat.le_trans h.size h')
        · obtain ⟨q, iq, bq, q1, q2, q3, q4, q5, q6⟩ := owned_restr2 h.mt h'
          exact h.orig _ ⟨q, iq, bq, q2, q3, q4, q5, q6⟩
  · have hnk : ¬ Owned m (Sy.restr2 R W 0 H) k := fun ho => by
      obtain ⟨q, iq, bq, q1, q2, q3, q4, q5, q6⟩ := owned_restr2 h.mt ho
      rcases h.orig k ⟨q, iq, bq, q2, q3, q4, q5, q6⟩ with h' | h'
      · omega
      · exact hn h'
    rw [h1.keep k (Nat.lt_of_lt_of_le hk h.size) hnk]
    exact h.keep k hk hn
  · refine h1.keep k hk fun ho => ?_
    obtain ⟨q, iq, bq, q1, q2, q3, q4, q5, q6⟩ := owned_restr2 h.mt ho
    exact hno q (List.mem_filter.2 ⟨by simpa using q1, by rw [q3]; exact q4⟩) iq q2 q5 q6

end
/-! ### calls -/
def sids : SL → List Nat
  | .ptr id _ _ => [id]
  | .slc id _ _ => [id]
  | .ifc _ x => sids x
  | .ite _ x y => sids x ++ sids y
  | _ => []
def svids : SV → List Nat
  | .one l => sids l
  | .agg ls => ls.flatMap sids
  | .tup vs => vs.flatMap fun w => match w with
    | .one l => sids l
    | .agg ls => ls.flatMap sids
def srids : SR → List Nat
  | .sym _ _ => []
  | .lits els => els.flatMap fun c => c.flatMap sids
def sblkIds : Option SB → List Nat
  | some (.cells vs) => vs.flatMap sids
  | some (.ro vs) => vs.flatMap sids
  | some (.row _ _ r) => srids r
  | some (.old _ _ r) => srids r
  | _ => []
def sreach (H : SH) : Nat → List Nat → List Nat → List Nat
  | 0, _, R => R
  | n + 1, todo, R => match todo with
    | [] => R
    | i :: rest => if R.contains i = true then sreach H n rest R else sreach H n (sblkIds (H[i]?) ++ rest) (i :: R)
def sroB : SB → SB
  | .cells vs => .ro vs
  | .row s z els => .old s z els
  | .iter _ _ => .dead
  | b => b
def srestr (R W : List Nat) : Nat → SH → SH
  | _, [] => []
  | k, b :: H => (if W.contains k = true then b else if R.contains k = true then sroB b else .dead) :: srestr R W (k + 1) H
def sjoin (R : List Nat) : Nat → SH → SH → SH
  | _, [], H1 => H1
  | _, _, [] => []
  | k, b :: H, b1 :: H1 => (if R.contains k = true then b1 else b) :: sjoin R (k + 1) H H1
theorem sroB_ok (v : Val) (b : SB) : db v (sroB b) = roB (db v b) := by cases b <;> rfl
theorem srestr_ok (v : Val) (R W : List Nat) : ∀ (k : Nat) (H : SH), dH v (srestr R W k H) = restr2 R W k (dH v H)
  | _, [] => rfl
  | k, b :: H => by
    have := srestr_ok v R W (k + 1) H
    simp only [dH] at this
    simp only [srestr, dH, List.map_cons, restr2, this]
    split
    · rfl
    · split
      · rw [sroB_ok]
      · rfl
theorem sjoin_ok (v : Val) (R : List Nat) : ∀ (k : Nat) (H H1 : SH), dH v (sjoin R k H H1) = join R k (dH v H) (dH v H1)
  | _, [], _ => by simp [sjoin, dH, join]
  | _, _ :: _, [] => by simp [sjoin, dH, join]
  | k, b :: H, b1 :: H1 => by
    have := sjoin_ok v R (k + 1) H H1
    simp only [dH] at this
    simp only [sjoin, dH, List.map_cons, join, this]
    split <;> rfl
def sares (I : Tab) (T : ST) (H : SH) : List ResultVar → SM (List SV)
  | [] => .pure []
  | .tmp t :: r => SM.bind (opt 310 (T.lookup t)) fun x => SM.bind (sares I T H r) fun xs => .pure (x :: xs)
  | .cell p t :: r => SM.bind (opt 311 (T.lookup p)) fun u => SM.bind (sLoad I t u H) fun y => SM.bind (sares I T H r) fun xs => .pure (y.1 :: xs)
def tow : SV → Option SW
  | .one l => some (.one l)
  | .agg ls => some (.agg ls)
  | .tup _ => none
def tows : List SV → Option (List SW)
  | [] => some []
  | x :: xs => match tow x, tows xs with
    | some w, some ws => some (w :: ws)
    | _, _ => none
def sresult (xs : List SV) : Option SV := match xs with
  | [x] => some x
  | xs => match tows xs with
    | some ws => some (.tup ws)
    | none => none
def sargs0 : Nat → List SV → ST
  | _, [] => []
  | k, x :: xs => (k, x) :: sargs0 (k + 1) xs
section
variable {v : Val} {I : Tab}
theorem sares_ok {T : ST} {H : SH} : ∀ {rs : List ResultVar}, Sat v (sares I T H rs) fun xs => ares I (dT v T) (dH v H) rs = some (xs.map (dv v))
  | [] => .pure rfl
  | .tmp t :: r => Sat.optB fun x hx => Sat.bind sares_ok fun xs hxs => .pure (by simp only [ares, dT_lookup, hx, Option.map_some, hxs, List.map_cons])
  | .cell p t :: r => Sat.optB fun u hu => Sat.bind sLoad_ok fun y hy => Sat.bind sares_ok fun xs hxs => .pure (by simp only [ares, dT_lookup, hu, Option.map_some, hxs, List.map_cons, hy, dres])
theorem tows_ok : ∀ {xs : List SV} {ws : List SW}, tows xs = some ws → ws.map (dw v) = xs.map (dv v)
  | [], ws, h => by cases h; rfl
  | x :: xs, ws, h => by
    simp only [tows] at h
    split at h
    · rename_i w us h1 h2
      cases h
      rw [List.map_cons, List.map_cons, tows_ok h2]
      cases x <;> cases h1 <;> rfl
    · cases h
theorem sresult_ok {xs : List SV} {x : SV} (h : sresult xs = some x) : aresult (xs.map (dv v)) = dv v x := by
  unfold sresult at h
  split at h
  · cases h; rfl
  · rename_i hn
    split at h
    · rename_i ws hws
      cases h
      rw [dv_tup, tows_ok hws]
      unfold aresult
      split
      · rename_i y hy
        cases xs with
        | nil => cases hy
        | cons a as => cases as with
          | nil => exact absurd rfl (hn a)
          | cons b bs => simp at hy
      · rfl
    · cases h
theorem sargs0_ok : ∀ (k : Nat) (xs : List SV), dT v (sargs0 k xs) = args0 k (xs.map (dv v))
  | _, [] => rfl
  | k, x :: xs => by
    have := sargs0_ok (k + 1) xs
    simp only [dT] at this
    simp only [sargs0, dT, List.map_cons, args0, this]
end
def sfin (I : Tab) (fn : Func) (W : List Nat) (H : SH) (lf : Lf) : SRes := match lf with
  | .norm T H1 => SM.bind (sares I T H1 fn.results.toList) fun xs => SM.bind (opt 312 (sresult xs)) fun x => .pure (x, sjoin W 0 H H1, W.filter fun id => sOwn (H[id]?))
  | .ret T H1 => SM.bind (sares I T H1 fn.results.toList) fun xs => SM.bind (opt 313 (sresult xs)) fun x => .pure (x, sjoin W 0 H H1, W.filter fun id => sOwn (H[id]?))
  | _ => .fail 314
/-- A function's own code, reckoned. -/
def sbody (I : Tab) (G : SSums) (nb : Nat) (fn : Func) (c : Code) (R W : List Nat) (args : List SV) (H : SH) : SRes :=
  SM.bind (srun I G fn.ntmps (fun _ => true) nb (.code [] c) [] (sargs0 0 args) (srestr R W 0 H)) (sfin I fn W H)
/-- Which arguments a callee may write through, as a table (the others: all). -/
def wrOf (l : List (Nat × List Nat)) (f : FuncId) (a : List SV) : List SV := match l.lookup f with
  | some is => is.filterMap fun i => a[i]?
  | none => a
/-- Calls, with all that they call; some by what is said of them. -/
def scall (I : Tab) (F : Funs) (X : FuncId → Option (List SV → SH → SRes)) (wr : FuncId → List SV → List SV) (nb : Nat) : Nat → SSums
  | 0 => fun _ _ _ => .fail 320
  | n + 1 => fun f args H => match X f with
    | some s => s args H
    | none => match F f with
      | some fn => match fn.body with
        | some c => if fnOk fn = true ∧ args.length ≤ fn.ntmps then
            sbody I (scall I F X wr nb n) nb fn c (sreach H 1000 (args.flatMap svids) []) (sreach H 1000 ((wr f args).flatMap svids) []) args H
          else .fail 321
        | none => .fail 322
      | none => .fail 323
section
variable {P : Program} {I : Tab} {v : Val}
theorem tok_out {α : Type} {ψ : Kn → α → Prop} : ∀ {t : Tree α}, TOK v ψ t → TOK v (fun kn a => ψ kn a ∧ Out v t kn a) t
  | .leaf kn a, h => ⟨h, rfl, rfl⟩
  | .br c t e, h => ⟨fun hc => (tok_out (h.1 hc)).mono fun kn a h => ⟨h.1, .inl ⟨hc, h.2⟩⟩, fun hc => (tok_out (h.2 hc)).mono fun kn a h => ⟨h.1, .inr ⟨hc, h.2⟩⟩⟩
  | .both t e, h => ⟨(tok_out h.1).mono fun kn a h => ⟨h.1, .inl h.2⟩, (tok_out h.2).mono fun kn a h => ⟨h.1, .inr h.2⟩⟩
  | .bad _, h => h.elim
theorem bind_out {α β : Type} {f : α → SM β} : ∀ {t : Tree α} {kn kn' : Kn} {a : α} {b : β}, Out v t kn a → Out v (f a kn) kn' b → Out v (t.bind f) kn' b
  | .leaf kn a, _, _, _, _, h, k => by obtain ⟨rfl, rfl⟩ := h; exact k
  | .br c t e, _, _, _, _, h, k => by
    rcases h with ⟨hc, h⟩ | ⟨hc, h⟩
    · exact .inl ⟨hc, bind_out h k⟩
    · exact .inr ⟨hc, bind_out h k⟩
  | .both t e, _, _, _, _, h, k => by
    rcases h with h | h
    · exact .inl (bind_out h k)
    · exact .inr (bind_out h k)
  | .bad _, _, _, _, _, h, _ => h.elim
theorem filter_own (v : Val) (R : List Nat) (H : SH) : (R.filter fun id => sOwn (H[id]?)) = R.filter fun id => ownB ((dH v H)[id]?) := by
  congr 1; funext id; rw [sOwn_ok]
theorem sbody_ok (hI : TOk P I) {G : SSums} (hG : GOk P v G) (hm : P.follows .mixedOrders = true) {f : FuncId} {fn : Func} {c : Code} {nb : Nat} {R W : List Nat} {args : List SV} {H : SH} {kn : Kn} (hf : P.funcs[f]? = some fn) (hc : fn.body = some c) (hl : args.length ≤ fn.ntmps) (hk : KV v kn)
    (ht : TOK v (fun _ _ => True) (sbody I G nb fn c R W args H kn)) {m0 : Mp} {H0 : AHeap} {w0 : World} {m : Mp} {w : World} {args' : List Value} (hR : Run m0 H0 w0 (dH v H) m w) (hL : LRel m (args.map (dv v)) args') :
    CallOuts P v (sbody I G nb fn c R W args H kn) m0 H0 w0 m f args'.toArray w := by
  have ht := (tok_bind _ _).1 ht
  have ht := tok_out ht
  let Q : Exit → TM → AHeap → Prop := fun e T' H' => retE e = true ∧ ∃ (kn1 : Kn) (T : ST) (H1 : SH) (xs : List Value) (x : SV) (kn2 : Kn), T' = dT v T ∧ H' = dH v H1 ∧ KV v kn2 ∧ ares I T' H' fn.results.toList = some xs ∧ aresult xs = dv v x ∧
    Out v (sbody I G nb fn c R W args H kn) kn2 (x, sjoin W 0 H H1, W.filter fun id => sOwn (H[id]?)) ∧ kn1 = kn1
  have hfin : ∀ (e : Exit) (lf : Lf) (T : ST) (H1 : SH) (kn1 : Kn), retE e = true → KV v kn1 → Out v (srun I G fn.ntmps (fun _ => true) nb (.code [] c) [] (sargs0 0 args) (srestr R W 0 H) kn) kn1 lf → (lf = .norm T H1 ∨ lf = .ret T H1) →
      TOK v (fun _ _ => True) (sfin I fn W H lf kn1) → Q e (dT v T) (dH v H1) := by
    intro e lf T H1 kn1 he hk1 ho hlf ht
    have hex := ht
    refine ⟨he, kn1, T, H1, ?_⟩
    obtain ⟨kn2, ⟨x, H', tc⟩, ho2, _⟩ := ht.ex
    have hall := bind_out ho ho2
    have hx : ∀ (nn : Nat), Out v ((SM.bind (sares I T H1 fn.results.toList) fun xs => SM.bind (opt nn (sresult xs)) fun x => SM.pure (x, sjoin W 0 H H1, W.filter fun id => sOwn (H[id]?))) kn1) kn2 (x, H', tc) →
        KV v kn2 ∧ ∃ xs, ares I (dT v T) (dH v H1) fn.results.toList = some (xs.map (dv v)) ∧ sresult xs = some x ∧ H' = sjoin W 0 H H1 ∧ tc = W.filter fun id => sOwn (H[id]?) := by
      intro nn ho
      have hs : Sat v (SM.bind (sares I T H1 fn.results.toList) fun xs => SM.bind (opt nn (sresult xs)) fun x => SM.pure (x, sjoin W 0 H H1, W.filter fun id => sOwn (H[id]?)))
          (fun r => ∃ xs, ares I (dT v T) (dH v H1) fn.results.toList = some (xs.map (dv v)) ∧ sresult xs = some r.1 ∧ r.2.1 = sjoin W 0 H H1 ∧ r.2.2 = W.filter fun id => sOwn (H[id]?)) :=
        Sat.bind sares_ok fun xs hxs => Sat.optB fun x hx => Sat.pure ⟨xs, hxs, hx, rfl, rfl⟩
      exact hs _ _ _ hk1 ho
    have : KV v kn2 ∧ ∃ xs, ares I (dT v T) (dH v H1) fn.results.toList = some (xs.map (dv v)) ∧ sresult xs = some x ∧ H' = sjoin W 0 H H1 ∧ tc = W.filter fun id => sOwn (H[id]?) := by
      rcases hlf with rfl | rfl
      · exact hx 312 ho2
      · exact hx 313 ho2
    obtain ⟨hk2, xs, g1, g2, rfl, rfl⟩ := this
    exact ⟨xs.map (dv v), x, kn2, rfl, rfl, hk2, g1, sresult_ok g2, hall, rfl⟩
  have hAW : AW P fn.ntmps (restr2 R W 0 (dH v H)) c (args0 0 (args.map (dv v))) (restr2 R W 0 (dH v H)) Q := by
    have := srun_ok (N := fn.ntmps) (H0 := restr2 R W 0 (dH v H)) (Q := Q) hI hG hm (ul := fun _ => true) (B := 0) nb (.code [] c) [] (sargs0 0 args) (srestr R W 0 H) kn hk (ht.mono fun kn1 lf h hk1 => by
      obtain ⟨h1, h2⟩ := h
      cases lf with
      | norm T H1 => exact hfin .normal _ T H1 kn1 rfl hk1 h2 (.inl rfl) h1
      | ret T H1 => exact hfin .ret _ T H1 kn1 rfl hk1 h2 (.inr rfl) h1
      | ext id T H1 => exact h1.elim
      | loop p x K T H1 => exact h1.elim)
    rw [sargs0_ok, srestr_ok] at this
    exact this
  refine calls_of_wp hf hc ?_
  have hl' := hL.1
  have hM := Match.restr2 hR.mt R W
  have hst := ASat.start (n := fn.ntmps) hM hL (by rw [← hl']; simpa using hl)
  refine Code.wp_mono (fun e' a' w' hp => ?_) (hAW.run _ _ _ _ hM hst)
  obtain ⟨hnp, T', H', ⟨he, kn1, T, H1, xs, x, kn2, rfl, rfl, hk2, g1, g2, g3, _⟩, m', h1, h2, h3, h4⟩ := hp
  obtain ⟨u, h5, h6⟩ := aresult_ok hI h1 h2 g1
  obtain ⟨j1, j2⟩ := Run.join2 hR h1
  rw [g2] at h5
  rw [← sjoin_ok] at j1
  rw [← filter_own] at j2
  have key : a'.defers = [] ∧ ∃ q, (results fn a'.tmps).run P w' = .ok q w' ∧ ∃ (kn : Kn) (x' : SV) (H' : SH) (tc : List Nat) (m' : Mp) (u : Value), Out v (sbody I G nb fn c R W args H _) kn (x', H', tc) ∧ KV v kn ∧ Ending.returned q = .returned u ∧ Run m0 H0 w0 (dH v H') m' w' ∧ Mp.le m m' ∧ VRel m' (dv v x') u ∧ Eng.Frame m tc w w' :=
    ⟨h4, u, h6, kn2, x, _, _, m', u, g3, hk2, rfl, j1, h1.ext, h5, j2⟩
  cases e' with
  | normal => exact key
  | ret => exact key
  | exit id => cases he
  | goto l => cases hnp
  | panic ch => cases hnp
  | outgrown => cases hnp
/-- What is said of some is true. -/
def XOk (P : Program) (v : Val) (X : FuncId → Option (List SV → SH → SRes)) : Prop := ∀ f s, X f = some s → GOk P v fun g args H => if g = f then s args H else .fail 330
theorem scall_ok (hI : TOk P I) (hm : P.follows .mixedOrders = true) {F : Funs} (hF : ∀ f fn, F f = some fn → P.funcs[f]? = some fn) {X : FuncId → Option (List SV → SH → SRes)} (hX : XOk P v X) {wr : FuncId → List SV → List SV} (nb : Nat) : ∀ n, GOk P v (scall I F X wr nb n)
  | 0 => ⟨fun _ _ _ _ _ h => h.elim⟩
  | n + 1 => by
    have ih := scall_ok hI hm hF hX (wr := wr) nb n
    refine ⟨fun f args H kn hk h => ?_⟩
    simp only [scall] at h ⊢
    cases hx : X f with
    | some s =>
      rw [hx] at h
      have := (hX f s hx).ok f args H kn hk
      simp only [if_true] at this
      exact this h
    | none =>
      rw [hx] at h
      simp only at h ⊢
      cases hfn : F f with
      | none => rw [hfn] at h; exact h.elim
      | some fn =>
        rw [hfn] at h
        simp only at h ⊢
        cases hc : fn.body with
        | none => rw [hc] at h; exact h.elim
        | some c =>
          rw [hc] at h
          simp only at h ⊢
          by_cases hok : fnOk fn = true ∧ args.length ≤ fn.ntmps
          · rw [if_pos hok] at h ⊢
            refine ⟨⟨fn, hF f fn hfn, by simpa [fnOk] using hok.1, by rw [hc]; rfl⟩, fun m0 H0 w0 m w args' hR hL => ?_⟩
            exact sbody_ok hI ih hm (hF f fn hfn) hc hok.2 hk h hR hL
          · rw [if_neg hok] at h; exact h.elim
def noX : FuncId → Option (List SV → SH → SRes) := fun _ => none
theorem noX_ok (P : Program) (v : Val) : XOk P v noX := fun _ _ h => by cases h
end
end Go.Proofs.Ytckbckijpdnlaaa.Sy
