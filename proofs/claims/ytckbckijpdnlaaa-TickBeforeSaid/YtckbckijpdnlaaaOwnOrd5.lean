/- The order of stamps that are made side by side: what the model of a ticker's steps keeps. A lemma file: it claims nothing of the program. -/
import Derived.Test.YtckbckijpdnlaaaOwnLem10
set_option linter.unusedVariables false
set_option linter.unusedSimpArgs false
set_option maxHeartbeats 4000000
namespace Go.Proofs.Ytckbckijpdnlaaa.Sy
open Go
/-- Numbers within bounds. -/
def NumB (T S N : Int) (r : Row) : Prop := ∀ j, 0 ≤ j → j < T → 0 ≤ cl r (2 * (T * S) + T + j) ∧ cl r (2 * (T * S) + T + j) ≤ N
/-- Numbers grow alone. -/
def NumUp (T S : Int) (r r' : Row) : Prop := ∀ j, 0 ≤ j → j < T → cl r (2 * (T * S) + T + j) ≤ cl r' (2 * (T * S) + T + j)
/-- A ticker, as it stands where numbers grow alone. -/
def TI (T S src who N nw : Int) (r : Row) (t : TSt) : Prop := (0 ≤ t.a ∧ t.a ≤ N) ∧ 0 ≤ t.n ∧ (src = 1 → t.ph = 0 → who < t.n → cl r (2 * (T * S) + T + who) ≤ t.a) ∧ (src = 2 → 1 ≤ t.n → t.a ≤ cl r (2 * (T * S) + T)) ∧ (src = 2 → t.n = 3 → t.a < cl r (2 * (T * S) + T)) ∧ (src = 4 → 1 ≤ t.n → t.a < nw)
/-- What it makes is above a number. -/
def LBd (T S src : Int) (r : Row) (nw : Int) (t : TSt) (h : Int) : Prop :=
  (src = 0 → h < cl r (2 * (T * S) + T)) ∧ (src = 1 → h ≤ t.a ∨ ∃ j, t.n ≤ j ∧ 0 ≤ j ∧ j < T ∧ h ≤ cl r (2 * (T * S) + T + j)) ∧ (src = 2 → (t.n = 0 ∧ h < cl r (2 * (T * S) + T)) ∨ (1 ≤ t.n ∧ h < t.a)) ∧ (src = 3 → h < nw) ∧ (src = 4 → (t.n = 0 ∧ h < nw) ∨ (1 ≤ t.n ∧ h < t.a))
def tick0 : TSt := ⟨0, 0, 0, 0, 0, 0⟩
/-- What is made from now on is above it. -/
def Past (T S src : Int) (r : Row) (nw h : Int) : Prop := LBd T S src r nw tick0 h
section
variable {T S src dl who N nw now : Int} {r r' : Row} {t : TSt}
theorem NumB.mono (h : NumB T S N r) {M : Int} (hm : N ≤ M) : NumB T S M r := fun j h0 h1 => ⟨(h j h0 h1).1, by have := (h j h0 h1).2; omega⟩
theorem NumB.zero (h : NumB T S N r) (hT : 0 < T) : 0 ≤ cl r (2 * (T * S) + T) ∧ cl r (2 * (T * S) + T) ≤ N := by have := h 0 (by omega) hT; rwa [Int.add_zero] at this
theorem NumUp.rfl' : NumUp T S r r := fun j _ _ => Int.le_refl _
theorem NumUp.zero (h : NumUp T S r r') (hT : 0 < T) : cl r (2 * (T * S) + T) ≤ cl r' (2 * (T * S) + T) := by have := h 0 (by omega) hT; rwa [Int.add_zero] at this
/-- What others do. -/
theorem LBd.other {h nw' : Int} (hT : 0 < T) (hu : NumUp T S r r') (hw : nw ≤ nw') (hl : LBd T S src r nw t h) : LBd T S src r' nw' t h := by
  have hz := hu.zero hT
  obtain ⟨a, b, c, d, e⟩ := hl
  refine ⟨fun q => by have := a q; omega, fun q => ?_, fun q => by have := c q; omega, fun q => by have := d q; omega, fun q => by have := e q; omega⟩
  rcases b q with z | ⟨j, h1, h2, h3, h4⟩
  · exact .inl z
  · exact .inr ⟨j, h1, h2, h3, by have := hu j h2 h3; omega⟩
theorem TI.other {nw' N' : Int} (hT : 0 < T) (hu : NumUp T S r r') (hw : nw ≤ nw') (hN : N ≤ N') (hs : src = 1 → cl r' (2 * (T * S) + T + who) = cl r (2 * (T * S) + T + who)) (hl : TI T S src who N nw r t) : TI T S src who N' nw' r' t := by
  have hz := hu.zero hT
  obtain ⟨a, b, c, d, e, f⟩ := hl
  exact ⟨by omega, b, fun q y z => by rw [hs q]; exact c q y z, fun q z => by have := d q z; omega, fun q z => by have := e q z; omega, fun q z => by have := f q z; omega⟩
theorem TI0 (hN : 0 ≤ N) (hw : 0 ≤ who) : TI T S src who N nw r tick0 := ⟨⟨by decide, hN⟩, by decide, fun _ _ z => (by have : who < 0 := z; omega), fun _ z => (by cases z), fun _ z => (by cases z), fun _ z => (by cases z)⟩
theorem cl_num {y k j : Int} (hl : (r.length : Int) = 2 * (T * S) + 2 * T) (hTS : 0 ≤ T * S) (hk : 0 ≤ k) (hkT : k < T) (hj : 0 ≤ j) : cl (r.set (2 * (T * S) + T + k).toNat [y]) (2 * (T * S) + T + j) = if j = k then y else cl r (2 * (T * S) + T + j) := by
  split
  · rename_i e; subst e; exact cl_self (by omega) (by omega)
  · exact cl_other (by omega) (by omega) (by omega)
/-- What a step of its own does. -/
structure Goes (T S src who N nw now : Int) (r r' : Row) (t t' : TSt) : Prop where
  ph : t'.ph ≠ 2
  num : NumB T S (N + 1) r'
  ti : TI T S src who (N + 1) (now + 1) r' t'
  up : NumUp T S r r'
  own : src = 1 → ∀ j, 0 ≤ j → j < T → j ≠ who → cl r' (2 * (T * S) + T + j) = cl r (2 * (T * S) + T + j)
  fin : t'.ph = 1 → 0 ≤ t'.lo ∧ t'.lo ≤ t'.hi ∧ t'.hi ≤ N + 1 ∧ (∀ h, LBd T S src r nw t h → h < t'.lo) ∧ Past T S src r' (now + 1) t'.hi
  go : t'.ph = 0 → ∀ h, LBd T S src r nw t h → LBd T S src r' (now + 1) t' h
theorem tick_go (hL : LB T S src dl who) (hN : NumB T S N r) (hI : TI T S src who N nw r t) (hB : TB T src dl t) (hp : t.ph = 0) (hl : (r.length : Int) = 2 * (T * S) + 2 * T) (hw : nw ≤ now) (h0 : 0 ≤ nw) (hn : now ≤ N) (hb : N < 16777213) :
    Goes T S src who N nw now r ((tickT T S src dl who r now t).row r) t (tickStep T S src dl who r now t) := by
  unfold LB at hL
  have hTS : 0 ≤ T * S := Int.mul_nonneg (by omega) (by omega)
  have x := hN.zero (by omega)
  have lx : lowN (cl r (2 * (T * S) + T)) = cl r (2 * (T * S) + T) := (lowN_b x.1).2.2.1 (by omega)
  have mn : minTop now = now := by unfold minTop imin; split <;> omega
  have e1 : tickStep T S src dl who r now t = { (tickGo T S src dl who r now t).1 with n := t.n + 1 } := by unfold tickStep; rw [if_pos hp]
  have e2 : tickT T S src dl who r now t = (tickGo T S src dl who r now t).2 := by unfold tickT; rw [if_pos hp]
  rw [e1, e2]
  obtain ⟨⟨a1, a2⟩, a3, a4, a5, a6, a7⟩ := hI
  unfold TB at hB
  have hm := hB.2.2.2.2.2.2.2.2.1 hp
  unfold tickMost at hm
  have hN1 := hN.mono (show N ≤ N + 1 by omega)
  rcases (by omega : src = 0 ∨ src = 1 ∨ src = 2 ∨ src = 3 ∨ src = 4) with rfl | rfl | rfl | rfl | rfl
  · have g : tickGo T S 0 dl who r now t = ({ t with ph := 1, lo := cl r (2 * (T * S) + T), hi := cl r (2 * (T * S) + T) }, ⟨2 * (T * S) + T, 3, cl r (2 * (T * S) + T) + 1, 1⟩) := by
      unfold tickGo tickDone; dsimp only; rw [if_pos rfl, lx, if_pos (by omega), wu64 (by omega) (by omega)]
    rw [g]
    unfold Tch.row
    dsimp only
    rw [if_neg (by omega)]
    have c0 : ∀ j, 0 ≤ j → cl (r.set (2 * (T * S) + T).toNat [cl r (2 * (T * S) + T) + 1]) (2 * (T * S) + T + j) = if j = 0 then cl r (2 * (T * S) + T) + 1 else cl r (2 * (T * S) + T + j) := fun j hj => by
      have := cl_num (y := cl r (2 * (T * S) + T) + 1) (k := 0) hl hTS (by omega) (by omega) hj
      rwa [Int.add_zero] at this
    have c1 := c0 0 (by omega)
    rw [Int.add_zero, if_pos rfl] at c1
    refine ⟨by dsimp only; decide, fun j h1 h2 => ?_, ⟨⟨by dsimp only; omega, by dsimp only; omega⟩, by dsimp only; omega, fun q => (by cases q), fun q => (by cases q), fun q => (by cases q), fun q => (by cases q)⟩, fun j h1 h2 => ?_, fun q => (by cases q), fun _ => ⟨x.1, Int.le_refl _, by dsimp only; omega, fun h z => z.1 rfl, ⟨fun _ => by rw [c1]; dsimp only; omega, fun q => (by cases q), fun q => (by cases q), fun q => (by cases q), fun q => (by cases q)⟩⟩, fun q => (by cases q)⟩
    · rw [c0 j h1]; have := hN1 j h1 h2; split <;> omega
    · rw [c0 j h1]; split
      · rename_i e; subst e; rw [Int.add_zero]; omega
      · exact Int.le_refl _
  · by_cases hk : t.n < T
    · have y := hN t.n a3 hk
      have ly : lowN (cl r (2 * (T * S) + T + t.n)) = cl r (2 * (T * S) + T + t.n) := (lowN_b y.1).2.2.1 (by omega)
      have g : tickGo T S 1 dl who r now t = ({ t with a := imax t.a (cl r (2 * (T * S) + T + t.n)) }, ⟨2 * (T * S) + T + t.n, 0, cl r (2 * (T * S) + T + t.n), 1⟩) := by
        unfold tickGo; dsimp only; rw [if_neg (by decide), if_pos rfl, if_pos hk, ly]
      rw [g]
      unfold Tch.row
      dsimp only
      rw [if_neg (by omega)]
      have ce := cl_load_fun r (2 * (T * S) + T + t.n)
      have im : t.a ≤ imax t.a (cl r (2 * (T * S) + T + t.n)) ∧ cl r (2 * (T * S) + T + t.n) ≤ imax t.a (cl r (2 * (T * S) + T + t.n)) ∧ imax t.a (cl r (2 * (T * S) + T + t.n)) ≤ N := by unfold imax; split <;> omega
      refine ⟨by dsimp only; omega, by unfold NumB; rw [ce]; exact hN1, ⟨⟨by dsimp only; omega, by dsimp only; omega⟩, by dsimp only; omega, fun _ _ q => ?_, fun q => (by cases q), fun q => (by cases q), fun q => (by cases q)⟩, fun j _ _ => by rw [ce]; exact Int.le_refl _, fun _ j _ _ _ => by rw [ce], fun q => (by dsimp only at q; omega), fun _ h z => ⟨fun q => (by cases q), fun _ => ?_, fun q => (by cases q), fun q => (by cases q), fun q => (by cases q)⟩⟩
      · rw [ce]; dsimp only at q ⊢
        by_cases e : who = t.n
        · rw [e]; exact im.2.1
        · have := a4 rfl hp (by omega); omega
      · dsimp only
        rcases z.2.1 rfl with q | ⟨j, h1, h2, h3, h4⟩
        · exact .inl (by omega)
        · by_cases e : j = t.n
          · subst e; exact .inl (by omega)
          · exact .inr ⟨j, by omega, h2, h3, by rw [ce]; exact h4⟩
    · have hwho := a4 rfl hp (by omega)
      have g : tickGo T S 1 dl who r now t = ({ t with ph := 1, lo := t.a + 1, hi := t.a + 1 }, ⟨2 * (T * S) + T + who, 1, t.a + 1, 1⟩) := by
        unfold tickGo; dsimp only; rw [if_neg (by decide), if_pos rfl, if_neg hk, if_pos (by omega)]
      rw [g]
      unfold Tch.row
      dsimp only
      rw [if_neg (by omega)]
      have c0 : ∀ j, 0 ≤ j → cl (r.set (2 * (T * S) + T + who).toNat [t.a + 1]) (2 * (T * S) + T + j) = if j = who then t.a + 1 else cl r (2 * (T * S) + T + j) := fun j hj => cl_num hl hTS (by omega) (by omega) hj
      refine ⟨by dsimp only; decide, fun j h1 h2 => ?_, ⟨⟨by dsimp only; omega, by dsimp only; omega⟩, by dsimp only; omega, fun _ q => (by cases q), fun q => (by cases q), fun q => (by cases q), fun q => (by cases q)⟩, fun j h1 h2 => ?_, fun _ j h1 h2 h3 => by rw [c0 j h1, if_neg h3], fun _ => ⟨by dsimp only; omega, Int.le_refl _, by dsimp only; omega, fun h z => ?_, ⟨fun q => (by cases q), fun _ => .inr ⟨who, by show (0 : Int) ≤ who; omega, by omega, by omega, by rw [c0 who (by omega), if_pos rfl]; exact Int.le_refl _⟩, fun q => (by cases q), fun q => (by cases q), fun q => (by cases q)⟩⟩, fun q => (by cases q)⟩
      · rw [c0 j h1]; have := hN1 j h1 h2; split <;> omega
      · rw [c0 j h1]; split
        · rename_i e; subst e; omega
        · exact Int.le_refl _
      · dsimp only
        rcases z.2.1 rfl with q | ⟨j, h1, h2, h3, h4⟩
        · omega
        · exfalso; omega
  · have nowr : ∀ {t' : TSt} {op : Int} {ok : Int}, t'.ph ≠ 2 → (0 ≤ t'.a ∧ t'.a ≤ N + 1) → 0 ≤ t'.n → (1 ≤ t'.n → t'.a ≤ cl r (2 * (T * S) + T)) → (t'.n = 3 → t'.a < cl r (2 * (T * S) + T)) → (t'.ph = 1 → 0 ≤ t'.lo ∧ t'.lo ≤ t'.hi ∧ t'.hi < cl r (2 * (T * S) + T) ∧ (∀ h, LBd T S 2 r nw t h → h < t'.lo)) → (t'.ph = 0 → ∀ h, LBd T S 2 r nw t h → (1 ≤ t'.n ∧ h < t'.a)) →
        Goes T S 2 who N nw now r ((⟨2 * (T * S) + T, op, cl r (2 * (T * S) + T), ok⟩ : Tch).row r) t t' := by
      intro t' op ok q1 q2 q3 q4 q5 q6 q7
      unfold Tch.row
      dsimp only
      rw [if_neg (by omega)]
      have ce := cl_load_fun r (2 * (T * S) + T)
      refine ⟨q1, by unfold NumB; rw [ce]; exact hN1, ⟨q2, q3, fun q => (by cases q), fun _ z => by rw [ce]; exact q4 z, fun _ z => by rw [ce]; exact q5 z, fun q => (by cases q)⟩, by unfold NumUp; rw [ce]; exact fun j _ _ => Int.le_refl _, fun q => (by cases q), fun z => ?_, fun z h y => ⟨fun q => (by cases q), fun q => (by cases q), fun _ => .inr (q7 z h y), fun q => (by cases q), fun q => (by cases q)⟩⟩
      obtain ⟨y1, y2, y3, y4⟩ := q6 z
      exact ⟨y1, y2, by omega, y4, ⟨fun q => (by cases q), fun q => (by cases q), fun _ => .inl ⟨rfl, by rw [ce]; exact y3⟩, fun q => (by cases q), fun q => (by cases q)⟩⟩
    rcases (by omega : t.n = 0 ∨ t.n = 1 ∨ t.n = 2 ∨ t.n = 3) with hz | hz | hz | hz
    · have g : tickGo T S 2 dl who r now t = ({ t with a := cl r (2 * (T * S) + T), ph := 0 }, ⟨2 * (T * S) + T, 0, cl r (2 * (T * S) + T), 1⟩) := by
        unfold tickGo; dsimp only; rw [if_neg (by decide), if_neg (by decide), if_pos rfl, if_pos hz, lx, if_neg (by omega)]
      rw [g]
      refine nowr (by dsimp only; decide) (by dsimp only; omega) (by dsimp only; omega) (fun _ => by dsimp only; omega) (fun q => by dsimp only at q; omega) (fun q => by cases q) (fun _ h z => ?_)
      rcases z.2.2.1 rfl with q | q
      · dsimp only; omega
      · omega
    · by_cases he : cl r (2 * (T * S) + T) = t.a
      · have g : tickGo T S 2 dl who r now t = ({ t with b := cl r (2 * (T * S) + T) }, ⟨2 * (T * S) + T, 0, cl r (2 * (T * S) + T), 1⟩) := by
          unfold tickGo; dsimp only; rw [if_neg (by decide), if_neg (by decide), if_pos rfl, if_neg (by omega), if_pos hz, lx, if_pos he]
        rw [g]
        refine nowr (by dsimp only; omega) (by dsimp only; omega) (by dsimp only; omega) (fun _ => by dsimp only; omega) (fun q => by dsimp only at q; omega) (fun q => by dsimp only at q; omega) (fun _ h z => ?_)
        rcases z.2.2.1 rfl with q | q
        · omega
        · dsimp only; omega
      · have := a5 rfl (by omega)
        have g : tickGo T S 2 dl who r now t = ({ t with b := cl r (2 * (T * S) + T), ph := 1, lo := t.a, hi := cl r (2 * (T * S) + T) - 1 }, ⟨2 * (T * S) + T, 0, cl r (2 * (T * S) + T), 1⟩) := by
          unfold tickGo tickDone; dsimp only; rw [if_neg (by decide), if_neg (by decide), if_pos rfl, if_neg (by omega), if_pos hz, lx, if_neg he, w64 (by omega) (by omega), if_pos (by omega)]; rfl
        rw [g]
        refine nowr (by dsimp only; decide) (by dsimp only; omega) (by dsimp only; omega) (fun _ => by dsimp only; omega) (fun q => by dsimp only at q; omega) (fun _ => ⟨by dsimp only; omega, by dsimp only; omega, by dsimp only; omega, fun h z => ?_⟩) (fun q => by cases q)
        rcases z.2.2.1 rfl with q | q
        · omega
        · dsimp only; omega
    · have ha := a5 rfl (by omega)
      by_cases he : cl r (2 * (T * S) + T) = t.a
      · have g : tickGo T S 2 dl who r now t = ({ t with ph := 1, lo := t.a, hi := t.a }, ⟨2 * (T * S) + T, 2, t.a + 1, 1⟩) := by
          unfold tickGo tickDone; dsimp only; rw [if_neg (by decide), if_neg (by decide), if_pos rfl, if_neg (by omega), if_neg (by omega), if_pos hz, if_pos he, if_pos (by omega)]
        rw [g]
        unfold Tch.row
        dsimp only
        rw [if_neg (by omega)]
        have c0 : ∀ j, 0 ≤ j → cl (r.set (2 * (T * S) + T).toNat [t.a + 1]) (2 * (T * S) + T + j) = if j = 0 then t.a + 1 else cl r (2 * (T * S) + T + j) := fun j hj => by
          have := cl_num (y := t.a + 1) (k := 0) hl hTS (by omega) (by omega) hj
          rwa [Int.add_zero] at this
        have c1 := c0 0 (by omega)
        rw [Int.add_zero, if_pos rfl] at c1
        refine ⟨by dsimp only; decide, fun j h1 h2 => ?_, ⟨⟨by dsimp only; omega, by dsimp only; omega⟩, by dsimp only; omega, fun q => (by cases q), fun _ _ => by rw [c1]; dsimp only; omega, fun _ q => by dsimp only at q; rw [c1]; dsimp only; omega, fun q => (by cases q)⟩, fun j h1 h2 => ?_, fun q => (by cases q), fun _ => ⟨by dsimp only; omega, Int.le_refl _, by dsimp only; omega, fun h z => ?_, ⟨fun q => (by cases q), fun q => (by cases q), fun _ => .inl ⟨rfl, by rw [c1]; dsimp only; omega⟩, fun q => (by cases q), fun q => (by cases q)⟩⟩, fun q => (by cases q)⟩
        · rw [c0 j h1]; have := hN1 j h1 h2; split <;> omega
        · rw [c0 j h1]; split
          · rename_i e; subst e; rw [Int.add_zero]; omega
          · exact Int.le_refl _
        · rcases z.2.2.1 rfl with q | q
          · omega
          · dsimp only; omega
      · have g : tickGo T S 2 dl who r now t = (t, ⟨2 * (T * S) + T, 2, cl r (2 * (T * S) + T), 0⟩) := by
          unfold tickGo tickDone; dsimp only; rw [if_neg (by decide), if_neg (by decide), if_pos rfl, if_neg (by omega), if_neg (by omega), if_pos hz, if_neg he]
        rw [g]
        refine nowr (by dsimp only; omega) (by dsimp only; omega) (by dsimp only; omega) (fun _ => by dsimp only; omega) (fun q => by dsimp only at q ⊢; omega) (fun q => by dsimp only at q; omega) (fun _ h z => ?_)
        rcases z.2.2.1 rfl with q | q
        · omega
        · dsimp only; omega
    · have ha := a6 rfl hz
      have g : tickGo T S 2 dl who r now t = ({ t with b := cl r (2 * (T * S) + T), ph := 1, lo := t.a, hi := cl r (2 * (T * S) + T) - 1 }, ⟨2 * (T * S) + T, 0, cl r (2 * (T * S) + T), 1⟩) := by
        unfold tickGo tickDone; dsimp only; rw [if_neg (by decide), if_neg (by decide), if_pos rfl, if_neg (by omega), if_neg (by omega), if_neg (by omega), if_pos hz, lx, w64 (by omega) (by omega), if_pos (by omega)]; rfl
      rw [g]
      refine nowr (by dsimp only; decide) (by dsimp only; omega) (by dsimp only; omega) (fun _ => by dsimp only; omega) (fun q => by dsimp only at q; omega) (fun _ => ⟨by dsimp only; omega, by dsimp only; omega, by dsimp only; omega, fun h z => ?_⟩) (fun q => by cases q)
      rcases z.2.2.1 rfl with q | q
      · omega
      · dsimp only; omega
  · have g : tickGo T S 3 dl who r now t = ({ t with ph := 1, lo := now, hi := now }, noT) := by
      unfold tickGo tickDone; dsimp only; rw [if_neg (by decide), if_neg (by decide), if_neg (by decide), if_neg (by decide), mn, if_pos (by omega)]
    rw [g]
    have er : noT.row r = r := if_pos (by decide)
    rw [er]
    exact ⟨by dsimp only; decide, hN1, ⟨⟨by dsimp only; omega, by dsimp only; omega⟩, by dsimp only; omega, fun q => (by cases q), fun q => (by cases q), fun q => (by cases q), fun q => (by cases q)⟩, NumUp.rfl', fun q => (by cases q), fun _ => ⟨by dsimp only; omega, Int.le_refl _, by dsimp only; omega, fun h z => by have := z.2.2.2.1 rfl; dsimp only; omega, ⟨fun q => (by cases q), fun q => (by cases q), fun q => (by cases q), fun _ => by dsimp only; omega, fun q => (by cases q)⟩⟩, fun q => (by cases q)⟩
  · have er : noT.row r = r := if_pos (by decide)
    by_cases hz : t.n = 0
    · have g : tickGo T S 4 dl who r now t = ({ t with a := now }, noT) := by
        unfold tickGo; dsimp only; rw [if_neg (by decide), if_neg (by decide), if_neg (by decide), if_pos rfl, if_pos hz, mn]
      rw [g, er]
      exact ⟨by dsimp only; omega, hN1, ⟨⟨by dsimp only; omega, by dsimp only; omega⟩, by dsimp only; omega, fun q => (by cases q), fun q => (by cases q), fun q => (by cases q), fun _ _ => by dsimp only; omega⟩, NumUp.rfl', fun q => (by cases q), fun q => (by dsimp only at q; omega), fun _ h z => ⟨fun q => (by cases q), fun q => (by cases q), fun q => (by cases q), fun q => (by cases q), fun _ => .inr ⟨by dsimp only; omega, by have := z.2.2.2.2 rfl; dsimp only; omega⟩⟩⟩
    · have ha := a7 rfl (by omega)
      by_cases hd : t.n ≤ dl
      · have g : tickGo T S 4 dl who r now t = (t, noT) := by
          unfold tickGo; dsimp only; rw [if_neg (by decide), if_neg (by decide), if_neg (by decide), if_pos rfl, if_neg hz, if_pos hd]
        rw [g, er]
        exact ⟨by dsimp only; omega, hN1, ⟨⟨by dsimp only; omega, by dsimp only; omega⟩, by dsimp only; omega, fun q => (by cases q), fun q => (by cases q), fun q => (by cases q), fun _ _ => by dsimp only; omega⟩, NumUp.rfl', fun q => (by cases q), fun q => (by dsimp only at q; omega), fun _ h z => ⟨fun q => (by cases q), fun q => (by cases q), fun q => (by cases q), fun q => (by cases q), fun _ => .inr ⟨by dsimp only; omega, by have := z.2.2.2.2 rfl; dsimp only; omega⟩⟩⟩
      · have g : tickGo T S 4 dl who r now t = ({ t with ph := 1, lo := t.a, hi := now }, noT) := by
          unfold tickGo tickDone; dsimp only; rw [if_neg (by decide), if_neg (by decide), if_neg (by decide), if_pos rfl, if_neg hz, if_neg hd, mn, if_pos (by omega)]
        rw [g, er]
        exact ⟨by dsimp only; decide, hN1, ⟨⟨by dsimp only; omega, by dsimp only; omega⟩, by dsimp only; omega, fun q => (by cases q), fun q => (by cases q), fun q => (by cases q), fun _ _ => by dsimp only; omega⟩, NumUp.rfl', fun q => (by cases q), fun _ => ⟨by dsimp only; omega, by dsimp only; omega, by dsimp only; omega, fun h z => by have := z.2.2.2.2 rfl; dsimp only; omega, ⟨fun q => (by cases q), fun q => (by cases q), fun q => (by cases q), fun q => (by cases q), fun _ => .inl ⟨rfl, by dsimp only; omega⟩⟩⟩, fun q => (by cases q)⟩
end
end Go.Proofs.Ytckbckijpdnlaaa.Sy
