/- A keeper as plain mathematics: an index, and which vertices are dirty; a step, and what it leaves right. -/

import Derived.Test.YtoepbhacpidcbaaGreatDoorQBase
import Derived.Test.YtoepbhacpidcbaaGreatDoorQIdx
import Derived.Test.YtoepbhacpidcbaaGreatDoorQPerm
import Derived.Test.YtoepbhacpidcbaaGreatDoorQIdxB
import Derived.Test.YtoepbhacpidcbaaGreatDoorQRef
import Derived.Test.YtoepbhacpidcbaaGreatDoorQUnref
import Derived.Test.YtoepbhacpidcbaaGreatDoorQItr
import Derived.Test.YtoepbhacpidcbaaGreatDoorQUnE
import Derived.Test.YtoepbhacpidcbaaGreatDoorQDst
import Derived.Test.YtoepbhacpidcbaaGreatDoorQLnk
import Derived.Test.YtoepbhacpidcbaaGreatDoorQLks
import Derived.Test.YtoepbhacpidcbaaGreatDoorQMid
import Derived.Test.YtoepbhacpidcbaaGreatDoorQBig
import Derived.Test.YtoepbhacpidcbaaGreatDoorQCp2
import Derived.Test.YtoepbhacpidcbaaGreatDoorQGoes
import Derived.Test.YtoepbhacpidcbaaGreatDoorQGOps
import Derived.Test.YtoepbhacpidcbaaGreatDoorQGB
import Derived.Test.YtoepbhacpidcbaaGreatDoorQG8
import Derived.Test.YtoepbhacpidcbaaGreatDoorQWh
import Derived.Test.YtoepbhacpidcbaaGreatDoorQDMov

set_option linter.unusedVariables false
set_option linter.unusedSimpArgs false
namespace Go.Proofs.YtoepbhacpidcbaaGreatDoor
open Go.RowKit Go.Deep

/-- The first number below n of which something holds; n: there is none. -/
def flo (p : Nat → Bool) : Nat → Nat
  | 0 => 0
  | n + 1 => if flo p n < n then flo p n else if p n = true then n else n + 1
theorem flo_spec (p : Nat → Bool) : ∀ n, (flo p n = n ∧ ∀ r, r < n → p r = false) ∨ (flo p n < n ∧ p (flo p n) = true ∧ ∀ r, r < flo p n → p r = false)
  | 0 => .inl ⟨rfl, fun r h => by omega⟩
  | n + 1 => by
    rcases flo_spec p n with ⟨e, h⟩ | ⟨hlt, h1, h2⟩
    · have hs : flo p (n + 1) = if p n = true then n else n + 1 := by
        show (if flo p n < n then flo p n else if p n = true then n else n + 1) = _
        rw [if_neg (by omega)]
      by_cases hp : p n = true
      · rw [hs, if_pos hp]; exact .inr ⟨by omega, hp, h⟩
      · rw [hs, if_neg hp]
        refine .inl ⟨rfl, fun r hr => ?_⟩
        rcases Nat.lt_or_ge r n with h' | h'
        · exact h r h'
        · rw [show r = n by omega]; simpa using hp
    · have hs : flo p (n + 1) = flo p n := by
        show (if flo p n < n then flo p n else if p n = true then n else n + 1) = _
        rw [if_pos hlt]
      rw [hs]; exact .inr ⟨by omega, h1, h2⟩
theorem flo_le (p : Nat → Bool) (n : Nat) : flo p n ≤ n := by rcases flo_spec p n with h | h <;> omega
theorem flo_min {p : Nat → Bool} {n r : Nat} (h : r < flo p n) : p r = false := by
  rcases flo_spec p n with ⟨e, h'⟩ | ⟨_, _, h'⟩
  · exact h' r (by omega)
  · exact h' r h
theorem flo_uniq {p : Nat → Bool} {n r : Nat} (hr : r < n) (hp : p r = true) (hm : ∀ i, i < r → p i = false) : flo p n = r := by
  rcases flo_spec p n with ⟨e, h⟩ | ⟨h0, h1, h2⟩
  · rw [h r hr] at hp; cases hp
  · rcases Nat.lt_trichotomy r (flo p n) with h | h | h
    · rw [h2 r h] at hp; cases hp
    · exact h.symm
    · rw [hm _ h] at h1; cases h1
theorem flo_none {p : Nat → Bool} {n : Nat} (h : ∀ r, r < n → p r = false) : flo p n = n := by
  rcases flo_spec p n with ⟨e, _⟩ | ⟨h0, h1, _⟩
  · exact e
  · rw [h _ h0] at h1; cases h1
theorem flo_ge {p : Nat → Bool} {n k : Nat} (hk : k ≤ n) (h : ∀ r, r < k → p r = false) : k ≤ flo p n := by
  rcases flo_spec p n with ⟨e, _⟩ | ⟨h0, h1, _⟩
  · omega
  · rcases Nat.lt_or_ge (flo p n) k with h' | h'
    · rw [h _ h'] at h1; cases h1
    · exact h'
theorem Ix.low_two {x : Ix} {a b : Int} {v : Nat} (h : x.low a b = (v : Nat)) : x.two a b = true := by
  unfold Ix.low at h
  split at h
  · assumption
  · omega
theorem Ix.low_is {x : Ix} {a b v : Nat} (h : x.low (a : Nat) (b : Nat) = (v : Nat)) : a < x.n ∧ b < x.n ∧ a ≠ b ∧ x.rk v = min (x.rk a) (x.rk b) ∧ (v = a ∨ v = b) := by
  have ht := Ix.low_two h
  obtain ⟨hne, h1, h2, h3, h4⟩ := two_iff ht
  have ha : a < x.n := by omega
  have hb : b < x.n := by omega
  have hne' : a ≠ b := fun e => hne (by omega)
  rw [Ix.low_eq ha hb hne'] at h
  refine ⟨ha, hb, hne', ?_, ?_⟩
  · split at h
    · have : a = v := by omega
      subst this; omega
    · have : b = v := by omega
      subst this; omega
  · split at h
    · left; omega
    · right; omega
theorem Ix.low_of {x : Ix} {a b : Nat} (ha : a < x.n) (hb : b < x.n) (hne : a ≠ b) : ∃ z : Nat, x.low (a : Nat) (b : Nat) = (z : Nat) := ⟨_, Ix.low_eq ha hb hne⟩
theorem Ix.low_up {x : Ix} {v w : Nat} (hv : v < x.n) (hw : w < x.n) (h : x.rk v < x.rk w) : x.low (v : Nat) (w : Nat) = (v : Nat) ∧ x.low (w : Nat) (v : Nat) = (v : Nat) := by
  have hne : v ≠ w := fun e => by subst e; omega
  rw [Ix.low_eq hv hw hne, Ix.low_eq hw hv (Ne.symm hne), if_pos h, if_neg (by omega)]
  exact ⟨rfl, rfl⟩

/-- Of a vertex's entries to and from higher ones some are the right ones. -/
def Ix.part (x : Ix) (G : Gr) (v : Nat) (p : Nat → Nat → Bool) : Ix := { x with ent := fun a b => if x.low (a : Nat) (b : Nat) = (v : Nat) ∧ p a b = true then x.best (a : Nat) (b : Nat) (G.best (a : Nat) (b : Nat)) else x.ent a b }
def Ix.redo (x : Ix) (G : Gr) (v : Nat) : Ix := x.part G v (fun _ _ => true)
theorem Ix.part_congr {x : Ix} {G : Gr} {v : Nat} {p q : Nat → Nat → Bool} (h : ∀ a b : Nat, x.low (a : Nat) (b : Nat) = (v : Nat) → p a b = q a b) : x.part G v p = x.part G v q := by
  unfold Ix.part
  congr 1
  funext a b
  by_cases hl : x.low (a : Nat) (b : Nat) = (v : Nat)
  · rw [h a b hl]
  · rw [if_neg (fun hh => hl hh.1), if_neg (fun hh => hl hh.1)]
theorem Ix.part_none (x : Ix) (G : Gr) (v : Nat) : x.part G v (fun _ _ => false) = x := by
  unfold Ix.part
  cases x
  simp
theorem Ix.Ok.part {x : Ix} (h : x.Ok) {G : Gr} (hw : G.Wt) (v : Nat) (p : Nat → Nat → Bool) : (x.part G v p).Ok := ⟨h.n1, h.n2, h.rk, h.by_, fun a b => by
  show (if x.low (a : Nat) (b : Nat) = (v : Nat) ∧ p a b = true then x.best (a : Nat) (b : Nat) (G.best (a : Nat) (b : Nat)) else x.ent a b).Ok
  split
  · rename_i hc
    exact h.may_ok (h.best_may (Ix.low_two hc.1) (G.best_wt hw _ _))
  · exact h.ent a b⟩
theorem Ix.Fit.part {x : Ix} (hf : x.Fit) (h : x.Ok) {G : Gr} (hw : G.Wt) (v : Nat) (p : Nat → Nat → Bool) : (x.part G v p).Fit := fun a b hab => by
  have hab' : x.two (a : Nat) (b : Nat) = true := hab
  refine (Ix.May_congr (x := x) (y := x.part G v p) rfl rfl _ _ _).1 ?_
  show x.May (a : Nat) (b : Nat) (if x.low (a : Nat) (b : Nat) = (v : Nat) ∧ p a b = true then x.best (a : Nat) (b : Nat) (G.best (a : Nat) (b : Nat)) else x.ent a b)
  split
  · exact h.best_may hab' (G.best_wt hw _ _)
  · exact hf a b hab'
theorem Ix.part_at (x : Ix) (G : Gr) (v : Nat) (p : Nat → Nat → Bool) {a b : Nat} (h : x.low (a : Nat) (b : Nat) ≠ (v : Nat)) : (x.part G v p).at_ (a : Nat) (b : Nat) = x.at_ (a : Nat) (b : Nat) := by
  unfold Ix.at_
  show (if x.two (a : Nat) (b : Nat) = true then (if x.low (a : Nat) (b : Nat) = (v : Nat) ∧ p a b = true then x.best (a : Nat) (b : Nat) (G.best (a : Nat) (b : Nat)) else x.ent a b) else En.none) = _
  by_cases ht : x.two (a : Nat) (b : Nat) = true
  · rw [if_pos ht, if_pos ht, if_neg (fun hh => h hh.1)]; rfl
  · rw [if_neg ht, if_neg ht]
theorem Ix.part_ent (x : Ix) (G : Gr) (v : Nat) (p : Nat → Nat → Bool) {a b : Nat} (h : x.low (a : Nat) (b : Nat) ≠ (v : Nat)) : (x.part G v p).ent a b = x.ent a b := if_neg (fun hh => h hh.1)
theorem Ix.redo_ent (x : Ix) (G : Gr) (v : Nat) {a b : Nat} (h : x.low (a : Nat) (b : Nat) = (v : Nat)) : (x.redo G v).ent a b = x.best (a : Nat) (b : Nat) (G.best (a : Nat) (b : Nat)) := if_pos ⟨h, rfl⟩
theorem Ix.Ok.part_best {x : Ix} (h : x.Ok) (G : Gr) {v : Nat} (hv : v < x.n) (p : Nat → Nat → Bool) {a b : Nat} (ha : a < x.n) (hb : b < x.n) (hm : min (x.rk a) (x.rk b) ≤ x.rk v) : (x.part G v p).best (a : Nat) (b : Nat) (G.best (a : Nat) (b : Nat)) = x.best (a : Nat) (b : Nat) (G.best (a : Nat) (b : Nat)) := by
  refine Ix.best_congr (x := x) (y := x.part G v p) rfl rfl rfl _ (G.best_le _ _) (fun i hi => ?_)
  simp only [Int.toNat_natCast] at hi
  have hrv := (h.rk v hv).1
  have hbi := h.by_ i (by omega)
  unfold Ix.sum2
  show add1 (add1 0 ((x.part G v p).at_ (a : Nat) (x.by_ i : Nat)).w) ((x.part G v p).at_ (x.by_ i : Nat) (b : Nat)).w = _
  rw [Ix.part_at x G v p (fun e => by have := (Ix.low_is e).2.2.2.1; rw [hbi.2] at this; omega), Ix.part_at x G v p (fun e => by have := (Ix.low_is e).2.2.2.1; rw [hbi.2] at this; omega)]
theorem Ix.Ok.part_step {x : Ix} (h : x.Ok) {G : Gr} (hw : G.Wt) {v : Nat} (p : Nat → Nat → Bool) {a b : Nat} (hl : x.low (a : Nat) (b : Nat) = (v : Nat)) :
    (x.part G v p).setI (a : Nat) (b : Nat) (x.best (a : Nat) (b : Nat) (G.best (a : Nat) (b : Nat))) = x.part G v (fun a' b' => p a' b' || (decide (a' = a) && decide (b' = b))) := by
  have ht := Ix.low_two hl
  have hm : (x.part G v p).May (a : Nat) (b : Nat) (x.best (a : Nat) (b : Nat) (G.best (a : Nat) (b : Nat))) := (Ix.May_congr (x := x) (y := x.part G v p) rfl rfl _ _ _).1 (h.best_may ht (G.best_wt hw _ _))
  unfold Ix.setI
  rw [if_pos ⟨ht, hm⟩]
  unfold Ix.set Ix.part
  simp only [Int.toNat_natCast, Ix.mk.injEq, true_and]
  funext a' b'
  by_cases e : a' = a ∧ b' = b
  · obtain ⟨rfl, rfl⟩ := e
    simp [hl]
  · rw [if_neg e]
    have e2 : (decide (a' = a) && decide (b' = b)) = false := by
      rw [← Bool.not_eq_true]
      simpa using fun h => by simpa [h] using e
    by_cases hp : x.low (a' : Nat) (b' : Nat) = (v : Nat) ∧ p a' b' = true
    · rw [if_pos hp, if_pos ⟨hp.1, by show (p a' b' || (decide (a' = a) && decide (b' = b))) = true; rw [hp.2]; rfl⟩]
    · rw [if_neg hp, if_neg (fun hh => hp ⟨hh.1, by
        have h2 : (p a' b' || (decide (a' = a) && decide (b' = b))) = true := hh.2
        rw [e2, Bool.or_false] at h2
        exact h2⟩)]

/-- What an entry became. -/
def qCame (a b : En) : Nat := if a ≠ b ∧ a = En.none then 1 else 0
def qWent (a b : En) : Nat := if a ≠ b ∧ a ≠ En.none ∧ b = En.none then 1 else 0
def qTurn (a b : En) : Nat := if a ≠ b ∧ a ≠ En.none ∧ b ≠ En.none then 1 else 0
/-- What the entries between a vertex and a higher one became. -/
def Ix.tal (x : Ix) (G : Gr) (v : Nat) (q : En → En → Nat) (w : Nat) : Nat :=
  if x.rk v < x.rk w then q (x.ent v w) (x.best (v : Nat) (w : Nat) (G.best (v : Nat) (w : Nat))) + q (x.ent w v) (x.best (w : Nat) (v : Nat) (G.best (w : Nat) (v : Nat))) else 0

structure Kp where
  x : Ix
  d : Nat → Bool
structure Wrk where
  v : Nat
  c : Nat
  w : Nat
  t : Nat
  m : Nat → Bool
def Kp.fl (K : Kp) : Nat := flo (fun r => K.d (K.x.by_ r)) K.x.n
def Kp.v (K : Kp) : Nat := K.x.by_ K.fl
def Kp.y (K : Kp) (G : Gr) : Ix := K.x.redo G K.v
def Ix.starB (x : Ix) (v : Nat) : Nat → Int := starC (x.star (v : Nat) false) (x.star (v : Nat) true)
def Kp.mv (K : Kp) (G : Gr) (z : Nat) : Prop := (K.y G).Mv (K.v : Nat) (K.x.starB K.v) ((K.y G).starB K.v) z
noncomputable def Kp.mvB (K : Kp) (G : Gr) (z : Nat) : Bool := @decide (K.mv G z) (Classical.propDecidable _)
theorem Kp.mvB_iff (K : Kp) (G : Gr) (z : Nat) : K.mvB G z = true ↔ K.mv G z := by unfold Kp.mvB; simp
/-- What is dirty behind the taking. -/
def Kp.d1 (K : Kp) (z : Nat) : Bool := K.d z && !decide (z = K.v)
noncomputable def Kp.step (K : Kp) (G : Gr) : Kp := ⟨K.y G, fun z => K.d1 z || K.mvB G z⟩
noncomputable def Kp.work (K : Kp) (G : Gr) : Wrk := ⟨K.v, sumN (K.x.tal G K.v qCame) K.x.n, sumN (K.x.tal G K.v qWent) K.x.n, sumN (K.x.tal G K.v qTurn) K.x.n, fun z => K.mvB G z && !K.d1 z⟩
noncomputable def Kp.run (G : Gr) : Nat → Kp → Kp
  | 0, K => K
  | m + 1, K => if K.fl < K.x.n then Kp.run G m (K.step G) else K
noncomputable def Kp.wks (G : Gr) : Nat → Kp → List Wrk
  | 0, _ => []
  | m + 1, K => if K.fl < K.x.n then K.work G :: Kp.wks G m (K.step G) else []
def Kp.note (K : Kp) (u w : Int) : Kp := ⟨K.x, fun z => K.d z || decide (K.x.low u w = (z : Nat))⟩

structure Kp.Ok (K : Kp) : Prop where
  ok : K.x.Ok
  fit : K.x.Fit
  d : ∀ z, K.d z = true → z < K.x.n

theorem Kp.fl_le (K : Kp) : K.fl ≤ K.x.n := flo_le _ _
theorem Kp.Ok.v_lt {K : Kp} (h : K.Ok) (hf : K.fl < K.x.n) : K.v < K.x.n ∧ K.x.rk K.v = K.fl := h.ok.by_ K.fl hf
theorem Kp.Ok.d_low {K : Kp} (h : K.Ok) {z : Nat} (hz : z < K.x.n) (hr : K.x.rk z < K.fl) : K.d z = false := by
  have := flo_min (p := fun r => K.d (K.x.by_ r)) (n := K.x.n) (r := K.x.rk z) hr
  simp only [(h.ok.rk z hz).2] at this
  exact this
theorem Kp.Ok.clean {K : Kp} (h : K.Ok) : K.fl = K.x.n ↔ ∀ z, K.d z = false := by
  constructor
  · intro e z
    cases hd : K.d z with
    | false => rfl
    | true =>
      have hz := h.d z hd
      rw [h.d_low hz (by rw [e]; exact (h.ok.rk z hz).1)] at hd
      cases hd
  · exact fun hd => flo_none (fun r _ => hd _)
theorem Kp.Ok.mv_up {K : Kp} (h : K.Ok) {G : Gr} (hw : G.Wt) {z : Nat} (hm : K.mv G z) : z < K.x.n ∧ K.x.rk K.v < K.x.rk z := by
  have hy : (K.y G).Ok := h.ok.part hw _ _
  obtain ⟨h1, h2⟩ := hy.mv_rk hm
  rw [Int.toNat_natCast] at h2
  obtain ⟨_, u, w, hu, hw', hne, h3, h4, _, hl⟩ := hm
  have := (Ix.low_is hl).2.2.2.2
  exact ⟨by rcases this with e | e <;> (rw [e]; assumption), h2⟩
theorem Kp.Ok.mv_ne {K : Kp} (h : K.Ok) {G : Gr} (hw : G.Wt) {z : Nat} (hm : K.mv G z) : z ≠ K.v := fun e => by
  have := (h.mv_up hw hm).2
  rw [e] at this; omega
theorem Kp.Ok.step {K : Kp} (h : K.Ok) {G : Gr} (hw : G.Wt) : (K.step G).Ok := ⟨h.ok.part hw _ _, h.fit.part h.ok hw _ _, fun z hz => by
  have hz : (K.d1 z || K.mvB G z) = true := hz
  rw [Bool.or_eq_true] at hz
  rcases hz with hz | hz
  · unfold Kp.d1 at hz
    rw [Bool.and_eq_true] at hz
    exact h.d z hz.1
  · exact (h.mv_up hw ((K.mvB_iff G z).1 hz)).1⟩
/-- What is dirty behind a step is higher than its vertex. -/
theorem Kp.Ok.fl_step {K : Kp} (h : K.Ok) {G : Gr} (hw : G.Wt) (hf : K.fl < K.x.n) : K.fl < (K.step G).fl := by
  have hv := h.v_lt hf
  refine flo_ge (p := fun r => (K.step G).d ((K.step G).x.by_ r)) (n := (K.step G).x.n) (show K.fl + 1 ≤ K.x.n by omega) (fun r hr => ?_)
  show (K.d1 (K.x.by_ r) || K.mvB G (K.x.by_ r)) = false
  have hrb := h.ok.by_ r (by omega)
  rw [Bool.or_eq_false_iff]
  constructor
  · unfold Kp.d1
    rcases Nat.lt_or_ge r K.fl with hlt | hge
    · rw [h.d_low hrb.1 (by rw [hrb.2]; exact hlt)]; rfl
    · have e : r = K.fl := by omega
      subst e
      have : (decide (K.x.by_ K.fl = K.v)) = true := decide_eq_true rfl
      rw [this]; simp
  · rw [← Bool.not_eq_true]
    intro hm
    have := (h.mv_up hw ((K.mvB_iff G _).1 hm)).2
    rw [hrb.2, hv.2] at this
    omega
theorem Kp.Ok.note {K : Kp} (h : K.Ok) (u w : Int) : (K.note u w).Ok := ⟨h.ok, h.fit, fun z hz => by
  have hz : (K.d z || decide (K.x.low u w = (z : Nat))) = true := hz
  rw [Bool.or_eq_true, decide_eq_true_eq] at hz
  rcases hz with hz | hz
  · exact h.d z hz
  · have ht := Ix.low_two hz
    obtain ⟨_, h1, h2, h3, h4⟩ := two_iff ht
    unfold Ix.low at hz
    rw [if_pos ht] at hz
    show z < K.x.n
    split at hz <;> omega⟩

/-- Each entry whose lower end isn't dirty is the right one. -/
def Kp.Inv (K : Kp) (G : Gr) : Prop := ∀ a b z : Nat, K.x.low (a : Nat) (b : Nat) = (z : Nat) → K.d z = false → Rgt G K.x a b
theorem Kp.Inv.step {K : Kp} {G : Gr} (hi : K.Inv G) (h : K.Ok) (hw : G.Wt) (hf : K.fl < K.x.n) : (K.step G).Inv G := fun a b z hl hz => by
  have hl : K.x.low (a : Nat) (b : Nat) = (z : Nat) := hl
  have hz : (K.d1 z || K.mvB G z) = false := hz
  rw [Bool.or_eq_false_iff] at hz
  obtain ⟨ha, hb, hne, hrz, _⟩ := Ix.low_is hl
  obtain ⟨hv, hrv⟩ := h.v_lt hf
  have hyok : (K.y G).Ok := h.ok.part hw _ _
  show Rgt G (K.y G) a b
  by_cases e : z = K.v
  · rw [e] at hl hrz
    unfold Rgt
    show (K.x.redo G K.v).ent a b = (K.x.part G K.v _).best (a : Nat) (b : Nat) (G.best (a : Nat) (b : Nat))
    rw [Ix.redo_ent _ _ _ hl, h.ok.part_best G hv _ ha hb (by omega)]
  · have hzn : z < K.x.n := by have := (Ix.low_is hl).2.2.2.2; rcases this with e | e <;> (rw [e]; assumption)
    have hdz : K.d z = false := by
      have h1 := hz.1
      unfold Kp.d1 at h1
      rw [decide_eq_false e] at h1
      simpa using h1
    have hR := hi a b z hl hdz
    have hlv : K.x.low (a : Nat) (b : Nat) ≠ (K.v : Nat) := fun e2 => e (by omega)
    by_cases hlt : K.x.rk z ≤ K.x.rk K.v
    · unfold Rgt
      show (K.x.part G K.v _).ent a b = (K.x.part G K.v _).best (a : Nat) (b : Nat) (G.best (a : Nat) (b : Nat))
      rw [h.ok.part_best G hv _ ha hb (by omega), Ix.part_ent _ _ _ _ hlv]
      exact hR
    · have hat : (K.y G).at_ (a : Nat) (b : Nat) = (K.y G).best (a : Nat) (b : Nat) (G.best (a : Nat) (b : Nat)) := by
        refine Classical.byContradiction fun hbad => ?_
        have hot := Rgt.enough (y := K.y G) h.ok rfl rfl rfl hR hv (fun c d hcd => Ix.part_at _ _ _ _ hcd) hyok ha hb hne (by omega) (by omega) hbad
        have hm : K.mv G z := by
          refine ⟨?_, a, b, ha, hb, hne, ?_, ?_, hot, hl⟩
          · unfold Ix.vertex
            simp only [decide_eq_true_eq]
            exact ⟨by omega, by show ((K.v : Nat) : Int) < (K.x.n : Nat); omega⟩
          · rw [Int.toNat_natCast]; show K.x.rk K.v < K.x.rk a; omega
          · rw [Int.toNat_natCast]; show K.x.rk K.v < K.x.rk b; omega
        rw [(K.mvB_iff G z).2 hm] at hz
        exact absurd hz.2 (by simp)
      unfold Rgt
      rw [← hat]
      exact (at_nat (two_nat (x := K.y G) ha hb hne)).symm
/-- Of two indices of one order whose entries up to a rank are right, these are the same. -/
theorem Rgt.uniq {G : Gr} {x y : Ix} {F : Nat} (hx : ∀ u v : Nat, u < x.n → v < x.n → u ≠ v → min (x.rk u) (x.rk v) < F → Rgt G x u v) (hy : ∀ u v : Nat, u < x.n → v < x.n → u ≠ v → min (x.rk u) (x.rk v) < F → Rgt G y u v) (hok : x.Ok) (hn : y.n = x.n) (hr : y.rk = x.rk) (hb : y.by_ = x.by_) :
    ∀ (N u v : Nat), N ≤ F → u < x.n → v < x.n → u ≠ v → min (x.rk u) (x.rk v) < N → y.ent u v = x.ent u v := by
  intro N
  induction N with
  | zero => intro u v _ _ _ _ h; omega
  | succ N ih =>
    intro u v hNF hu hv hne hlt
    rw [show x.ent u v = _ from hx u v hu hv hne (by omega), show y.ent u v = _ from hy u v hu hv hne (by omega)]
    refine Ix.best_congr hn hr hb _ (G.best_le _ _) ?_
    intro i hi
    simp only [Int.toNat_natCast] at hi
    have him : i < x.n := by have := (hok.rk u hu).1; omega
    obtain ⟨hm, hmr⟩ := hok.by_ i him
    have n1 : u ≠ x.by_ i := fun e => by rw [e] at hi; omega
    have n2 : x.by_ i ≠ v := fun e => by rw [← e] at hi; omega
    have e1 : y.at_ (u : Nat) ((x.by_ i : Nat)) = x.at_ (u : Nat) (x.by_ i : Nat) := by
      unfold Ix.at_; rw [Ix.two_congrH hn]; simp only [Int.toNat_natCast]
      rw [ih u (x.by_ i) (by omega) hu hm n1 (by omega)]
    have e2 : y.at_ ((x.by_ i : Nat)) (v : Nat) = x.at_ (x.by_ i : Nat) (v : Nat) := by
      unfold Ix.at_; rw [Ix.two_congrH hn]; simp only [Int.toNat_natCast]
      rw [ih (x.by_ i) v (by omega) hm hv n2 (by omega)]
    unfold Ix.sum2; rw [hb, e1, e2]
/-- Below the first dirty vertex the entries are those of the whole index. -/
theorem Kp.Inv.below {K : Kp} {G : Gr} (hi : K.Inv G) (h : K.Ok) {Y : Ix} (hY : Whole G Y) (hn : Y.n = K.x.n) (hr : Y.rk = K.x.rk) (hb : Y.by_ = K.x.by_) {u v : Nat} (hu : u < K.x.n) (hv : v < K.x.n) (hne : u ≠ v) (hlt : min (K.x.rk u) (K.x.rk v) < K.fl) : K.x.ent u v = Y.ent u v := by
  refine (Rgt.uniq (G := G) (x := K.x) (y := Y) (F := K.fl) (fun a b ha hb' hab hm => ?_) (fun a b ha hb' hab hm => hY a b (by omega) (by omega) hab) h.ok hn hr hb K.fl u v (Nat.le_refl _) hu hv hne hlt).symm
  obtain ⟨z, hz⟩ := Ix.low_of ha hb' hab
  obtain ⟨_, _, _, hrz, hzab⟩ := Ix.low_is hz
  exact hi a b z hz (h.d_low (by rcases hzab with e | e <;> (rw [e]; assumption)) (by omega))
theorem Kp.Inv.whole {K : Kp} {G : Gr} (hi : K.Inv G) (h : K.Ok) (hf : K.fl = K.x.n) : Whole G K.x := fun u v hu hv hne => by
  obtain ⟨z, hz⟩ := Ix.low_of hu hv hne
  exact hi u v z hz ((h.clean.1 hf) z)
/-- Another graph, of which the best arc between two others is the same. -/
theorem Kp.Inv.graph {K : Kp} {G G' : Gr} (hi : K.Inv G) (u w : Int) (hb : ∀ a b : Nat, ¬ ((a : Int) = u ∧ (b : Int) = w) → G'.best (a : Nat) (b : Nat) = G.best (a : Nat) (b : Nat)) : (K.note u w).Inv G' := fun a b z hl hz => by
  have hl : K.x.low (a : Nat) (b : Nat) = (z : Nat) := hl
  have hz : (K.d z || decide (K.x.low u w = (z : Nat))) = false := hz
  rw [Bool.or_eq_false_iff, decide_eq_false_iff_not] at hz
  have hR := hi a b z hl hz.1
  unfold Rgt at hR ⊢
  show K.x.ent a b = K.x.best (a : Nat) (b : Nat) (G'.best (a : Nat) (b : Nat))
  rw [hb a b (fun hh => hz.2 (by rw [← hh.1, ← hh.2]; exact hl))]
  exact hR
theorem Kp.Inv.same {K : Kp} {G G' : Gr} (hi : K.Inv G) (hb : ∀ a b : Nat, G'.best (a : Nat) (b : Nat) = G.best (a : Nat) (b : Nat)) : K.Inv G' := fun a b z hl hz => by
  have hR := hi a b z hl hz
  unfold Rgt at hR ⊢
  rw [hb a b]; exact hR
theorem Kp.Inv.note {K : Kp} {G : Gr} (hi : K.Inv G) (u w : Int) : (K.note u w).Inv G := hi.graph u w (fun _ _ _ => rfl)

/-- Runs. -/
theorem Kp.run_succ (G : Gr) (m : Nat) (K : Kp) : Kp.run G (m + 1) K = if K.fl < K.x.n then Kp.run G m (K.step G) else K := rfl
theorem Kp.wks_succ (G : Gr) (m : Nat) (K : Kp) : Kp.wks G (m + 1) K = if K.fl < K.x.n then K.work G :: Kp.wks G m (K.step G) else [] := rfl
theorem Kp.run_done (G : Gr) : ∀ (m : Nat) (K : Kp), ¬ K.fl < K.x.n → Kp.run G m K = K ∧ Kp.wks G m K = []
  | 0, _, _ => ⟨rfl, rfl⟩
  | m + 1, K, h => by rw [Kp.run_succ, Kp.wks_succ, if_neg h, if_neg h]; exact ⟨rfl, rfl⟩
theorem Kp.run_add (G : Gr) : ∀ (a b : Nat) (K : Kp), Kp.run G (a + b) K = Kp.run G b (Kp.run G a K) ∧ Kp.wks G (a + b) K = Kp.wks G a K ++ Kp.wks G b (Kp.run G a K)
  | 0, b, K => by rw [Nat.zero_add]; exact ⟨rfl, rfl⟩
  | a + 1, b, K => by
    rw [show a + 1 + b = (a + b) + 1 by omega, Kp.run_succ, Kp.wks_succ, Kp.run_succ, Kp.wks_succ]
    by_cases h : K.fl < K.x.n
    · rw [if_pos h, if_pos h, if_pos h, if_pos h]
      have ih := Kp.run_add G a b (K.step G)
      exact ⟨ih.1, by rw [ih.2]; rfl⟩
    · rw [if_neg h, if_neg h, if_neg h, if_neg h]
      have := Kp.run_done G b K h
      exact ⟨this.1.symm, by rw [this.2]; rfl⟩
theorem Kp.step_n (K : Kp) (G : Gr) : (K.step G).x.n = K.x.n ∧ (K.step G).x.rk = K.x.rk ∧ (K.step G).x.by_ = K.x.by_ := ⟨rfl, rfl, rfl⟩
theorem Kp.run_n (G : Gr) : ∀ (m : Nat) (K : Kp), (Kp.run G m K).x.n = K.x.n ∧ (Kp.run G m K).x.rk = K.x.rk ∧ (Kp.run G m K).x.by_ = K.x.by_
  | 0, _ => ⟨rfl, rfl, rfl⟩
  | m + 1, K => by
    rw [Kp.run_succ]
    split
    · have := Kp.run_n G m (K.step G)
      exact this
    · exact ⟨rfl, rfl, rfl⟩
theorem Kp.Ok.run {G : Gr} (hw : G.Wt) : ∀ (m : Nat) {K : Kp}, K.Ok → (Kp.run G m K).Ok
  | 0, _, h => h
  | m + 1, K, h => by
    rw [Kp.run_succ]
    split
    · exact Kp.Ok.run hw m (h.step hw)
    · exact h
theorem Kp.Inv.run {G : Gr} (hw : G.Wt) : ∀ (m : Nat) {K : Kp}, K.Ok → K.Inv G → (Kp.run G m K).Inv G
  | 0, _, _, h => h
  | m + 1, K, h, hi => by
    rw [Kp.run_succ]
    split
    · rename_i hf
      exact Kp.Inv.run hw m (h.step hw) (hi.step h hw hf)
    · exact hi
/-- By as many steps as there are vertices from the first dirty one on nothing is dirty any more. -/
theorem Kp.Ok.drain {G : Gr} (hw : G.Wt) : ∀ (m : Nat) {K : Kp}, K.Ok → K.x.n ≤ K.fl + m → (Kp.run G m K).fl = K.x.n
  | 0, K, h, hm => by have := K.fl_le; show K.fl = K.x.n; omega
  | m + 1, K, h, hm => by
    rw [Kp.run_succ]
    split
    · rename_i hf
      exact Kp.Ok.drain hw m (h.step hw) (by have := h.fl_step hw hf; show K.x.n ≤ _; omega)
    · have := K.fl_le; omega
theorem Kp.Ok.wks_len {G : Gr} (hw : G.Wt) : ∀ (m : Nat) {K : Kp}, K.Ok → (Kp.wks G m K).length + K.fl ≤ K.x.n ∧ (Kp.wks G m K).length ≤ m
  | 0, K, h => ⟨by have := K.fl_le; show 0 + _ ≤ _; omega, Nat.le_refl _⟩
  | m + 1, K, h => by
    rw [Kp.wks_succ]
    split
    · rename_i hf
      have ih := Kp.Ok.wks_len hw m (h.step hw)
      have := h.fl_step hw hf
      have hn : (K.step G).x.n = K.x.n := rfl
      rw [List.length_cons]
      omega
    · have := K.fl_le
      exact ⟨by show 0 + _ ≤ _; omega, by show 0 ≤ _; omega⟩
end Go.Proofs.YtoepbhacpidcbaaGreatDoor
/- Walks in a graph, plain: in a whole index no walk by way of lower vertices is shorter than an entry; a walk as short as an entry is simple. -/
set_option linter.unusedVariables false
set_option linter.unusedSimpArgs false
namespace Go.Proofs.YtoepbhacpidcbaaGreatDoor
open Go.RowKit Go.Deep

/-- The arcs of l lead from u to v, all of them open. -/
def Wk (G : Gr) : Nat → List Nat → Nat → Prop
  | u, [], v => u = v
  | u, k :: l, v => k < 64 ∧ G.tk k = true ∧ (G.arc k).c = false ∧ (G.arc k).t = (u : Nat) ∧ Wk G (G.arc k).h.toNat l v
def Gr.hd (G : Gr) (k : Nat) : Nat := (G.arc k).h.toNat
def Gr.len (G : Gr) (l : List Nat) : Int := (l.map (fun k => (G.arc k).w)).sum
def Gr.mds (G : Gr) (l : List Nat) : List Nat := l.dropLast.map G.hd
theorem Gr.len_nil (G : Gr) : G.len [] = 0 := rfl
theorem Gr.len_cons (G : Gr) (k : Nat) (l : List Nat) : G.len (k :: l) = (G.arc k).w + G.len l := by simp [Gr.len]
theorem Gr.len_app (G : Gr) (a b : List Nat) : G.len (a ++ b) = G.len a + G.len b := by simp [Gr.len]
theorem Wk.app {G : Gr} : ∀ {a : List Nat} {u m : Nat} {b : List Nat} {v : Nat}, Wk G u a m → Wk G m b v → Wk G u (a ++ b) v := by
  intro a
  induction a with
  | nil => intro u m b v h1 h2; obtain rfl := h1; exact h2
  | cons k a ih =>
    intro u m b v h1 h2
    obtain ⟨p1, p2, p3, p4, p5⟩ := h1
    exact ⟨p1, p2, p3, p4, ih p5 h2⟩
theorem Wk.split {G : Gr} : ∀ (a : List Nat) {u : Nat} {b : List Nat} {v : Nat}, Wk G u (a ++ b) v → ∃ m, Wk G u a m ∧ Wk G m b v := by
  intro a
  induction a with
  | nil => intro u b v h; exact ⟨u, rfl, h⟩
  | cons k a ih =>
    intro u b v h
    obtain ⟨p1, p2, p3, p4, p5⟩ := h
    obtain ⟨m, h1, h2⟩ := ih p5
    exact ⟨m, ⟨p1, p2, p3, p4, h1⟩, h2⟩
theorem Wk.last {G : Gr} : ∀ {a : List Nat} {u k m : Nat}, Wk G u (a ++ [k]) m → m = G.hd k := by
  intro a
  induction a with
  | nil => intro u k m h; exact h.2.2.2.2.symm
  | cons j a ih => intro u k m h; exact ih h.2.2.2.2
/-- All weights of a walk are at least 1. -/
theorem Wk.pos {G : Gr} (hw : G.Wt) : ∀ {a : List Nat} {u v : Nat}, Wk G u a v → (a.length : Int) ≤ G.len a := by
  intro a
  induction a with
  | nil => intro u v _; exact Int.le_refl _
  | cons k a ih =>
    intro u v h
    have := ih h.2.2.2.2
    have h1 := (hw k h.1 h.2.1).1
    rw [Gr.len_cons, List.length_cons]
    omega
/-- All vertices to which a walk comes are some. -/
theorem Wk.hds {G : Gr} (ho : G.Ok) : ∀ {a : List Nat} {u v : Nat}, Wk G u a v → ∀ z ∈ a.map G.hd, z < G.n := by
  intro a
  induction a with
  | nil => intro u v _ z hz; cases hz
  | cons k a ih =>
    intro u v h z hz
    rw [List.map_cons, List.mem_cons] at hz
    rcases hz with rfl | hz
    · have := ho.arc k h.1 h.2.1
      unfold Gr.hd
      omega
    · exact ih h.2.2.2.2 z hz
/-- A walk is split at a vertex in between. -/
theorem Wk.at {G : Gr} {l : List Nat} {u v z : Nat} (h : Wk G u l v) (hz : z ∈ G.mds l) :
    ∃ a b, l = a ++ b ∧ a ≠ [] ∧ b ≠ [] ∧ Wk G u a z ∧ Wk G z b v ∧ (∀ y ∈ G.mds a, y ∈ G.mds l) ∧ (∀ y ∈ G.mds b, y ∈ G.mds l) := by
  unfold Gr.mds at hz
  obtain ⟨k, hk, rfl⟩ := List.mem_map.1 hz
  obtain ⟨a, b, hab⟩ := List.append_of_mem hk
  have hne : l ≠ [] := fun e => by subst e; cases hk
  have hl : l = (a ++ [k]) ++ (b ++ [l.getLast hne]) := by
    have := List.dropLast_concat_getLast hne
    rw [hab] at this
    exact this.symm.trans (by simp)
  have hdl : l.dropLast = (a ++ [k]) ++ b := by rw [hab]; simp
  rw [hl] at h
  obtain ⟨m, h1, h2⟩ := Wk.split _ h
  obtain rfl := Wk.last h1
  refine ⟨a ++ [k], b ++ [l.getLast hne], hl, by simp, by simp, h1, h2, fun y hy => ?_, fun y hy => ?_⟩
  · unfold Gr.mds at hy ⊢
    rw [List.dropLast_concat] at hy
    rw [hdl, List.map_append, List.map_append]
    exact List.mem_append_left _ (List.mem_append_left _ hy)
  · unfold Gr.mds at hy ⊢
    rw [List.dropLast_concat] at hy
    rw [hdl, List.map_append]
    exact List.mem_append_right _ hy

/-- The highest of some vertices. -/
theorem top_of (r : Nat → Nat) : ∀ (l : List Nat), l ≠ [] → ∃ m ∈ l, ∀ z ∈ l, r z ≤ r m := by
  intro l
  induction l with
  | nil => intro h; exact absurd rfl h
  | cons a l ih =>
    intro _
    by_cases h : l = []
    · subst h; exact ⟨a, by simp, fun z hz => by rw [List.mem_singleton.1 hz]; exact Nat.le_refl _⟩
    · obtain ⟨m, hm, h2⟩ := ih h
      by_cases hc : r m ≤ r a
      · refine ⟨a, by simp, fun z hz => ?_⟩
        rcases List.mem_cons.1 hz with rfl | hz
        · exact Nat.le_refl _
        · exact Nat.le_trans (h2 z hz) hc
      · refine ⟨m, by simp [hm], fun z hz => ?_⟩
        rcases List.mem_cons.1 hz with rfl | hz
        · omega
        · exact h2 z hz

theorem Ix.Ok.sum2_by {x : Ix} (h : x.Ok) {u v m : Nat} (hu : u < x.n) (hv : v < x.n) (hm : m < x.n) (h1 : u ≠ m) (h2 : m ≠ v) : x.sum2 (u : Nat) (v : Nat) (x.rk m) = add1 (add1 0 (x.ent u m).w) (x.ent m v).w := by
  unfold Ix.sum2
  rw [(h.rk m hm).2, at_nat (two_nat hu hm h1), at_nat (two_nat hm hv h2)]
theorem Ix.Ok.ent_b {x : Ix} (h : x.Ok) (u v : Nat) : 1 ≤ (x.ent u v).w ∧ (x.ent u v).w ≤ 4611686018427387906 := ⟨(h.ent u v).w1, (h.ent u v).w2⟩

/-- NO WALK BY WAY OF LOWER VERTICES IS SHORTER THAN AN ENTRY. -/
theorem Whole.least {G : Gr} {x : Ix} (h : Whole G x) (hok : x.Ok) (ho : G.Ok) (hw : G.Wt) (hn : G.n = x.n) : ∀ (N : Nat) (l : List Nat) (u v : Nat), l.length ≤ N → u < x.n → v < x.n → u ≠ v → Wk G u l v →
    (∀ z ∈ G.mds l, z = u ∨ z = v ∨ x.rk z < min (x.rk u) (x.rk v)) → G.len l ≤ 4611686018427387904 → (x.ent u v).w ≤ G.len l := by
  intro N
  induction N with
  | zero =>
    intro l u v hl _ _ hne hk
    have : l = [] := List.length_eq_zero_iff.1 (by omega)
    subst this
    exact absurd hk hne
  | succ N ih =>
    intro l u v hl hu hv hne hk hz hlen
    by_cases h0 : G.mds l = []
    · match l, hk with
      | [], hk => exact absurd hk hne
      | [k], hk =>
        obtain ⟨p1, p2, p3, p4, p5⟩ := hk
        have e : (G.arc k).h = (v : Nat) := by
          have := ho.arc k p1 p2
          have p6 : (G.arc k).h.toNat = v := p5
          omega
        have hb := G.best_least p1 p2 p3
        rw [p4, e] at hb
        rw [Gr.len_cons, Gr.len_nil]
        rcases h.cases hu hv hne with ⟨e1, e2, _⟩ | ⟨e1, _, _⟩ | ⟨j, hc, hlt⟩
        · have := (hw k p1 p2).2
          rw [e2] at hb; simp at hb; omega
        · rw [e1]; show (G.best _ _).1 ≤ _; omega
        · rw [hc.w]; omega
      | k :: k' :: l', hk => simp [Gr.mds] at h0
    · obtain ⟨m, hm, htop⟩ := top_of x.rk (G.mds l) h0
      by_cases hmu : u ∈ G.mds l
      · obtain ⟨a, b, e, ha, hb, h1, h2, h3, h4⟩ := hk.at hmu
        have hla : 0 < a.length := List.length_pos_iff.2 ha
        have hlb : a.length + b.length = l.length := by rw [e, List.length_append]
        have hpa := Wk.pos hw h1
        have hla2 : G.len l = G.len a + G.len b := by rw [e, Gr.len_app]
        have := ih b u v (by omega) hu hv hne h2 (fun z hz' => hz z (h4 z hz')) (by omega)
        omega
      · by_cases hmv : v ∈ G.mds l
        · obtain ⟨a, b, e, ha, hb, h1, h2, h3, h4⟩ := hk.at hmv
          have hlb0 : 0 < b.length := List.length_pos_iff.2 hb
          have hlb : a.length + b.length = l.length := by rw [e, List.length_append]
          have hpb := Wk.pos hw h2
          have hla2 : G.len l = G.len a + G.len b := by rw [e, Gr.len_app]
          have := ih a u v (by omega) hu hv hne h1 (fun z hz' => hz z (h3 z hz')) (by omega)
          omega
        · have hlow : ∀ z ∈ G.mds l, x.rk z < min (x.rk u) (x.rk v) := fun z hz' => by
            rcases hz z hz' with rfl | rfl | h'
            · exact absurd hz' hmu
            · exact absurd hz' hmv
            · exact h'
          have hmlow := hlow m hm
          obtain ⟨a, b, e, ha, hb, h1, h2, h3, h4⟩ := hk.at hm
          have hmn : m < x.n := by
            rw [← hn]
            refine Wk.hds ho hk m ?_
            unfold Gr.mds at hm
            obtain ⟨k, hk', rfl⟩ := List.mem_map.1 hm
            exact List.mem_map.2 ⟨k, List.dropLast_subset l hk', rfl⟩
          have hum : u ≠ m := fun e => by subst e; omega
          have hmv' : m ≠ v := fun e => by subst e; omega
          have hla0 : 0 < a.length := List.length_pos_iff.2 ha
          have hlb0 : 0 < b.length := List.length_pos_iff.2 hb
          have hlb : a.length + b.length = l.length := by rw [e, List.length_append]
          have hpa := Wk.pos hw h1
          have hpb := Wk.pos hw h2
          have hla2 : G.len l = G.len a + G.len b := by rw [e, Gr.len_app]
          have hlt : ∀ z, z ∈ G.mds l → z = m ∨ x.rk z < x.rk m := fun z hz' => by
            by_cases e : z = m
            · exact .inl e
            · right
              have h5 := htop z hz'
              have hzn : z < x.n := by
                rw [← hn]
                refine Wk.hds ho hk z ?_
                unfold Gr.mds at hz'
                obtain ⟨k, hk', rfl⟩ := List.mem_map.1 hz'
                exact List.mem_map.2 ⟨k, List.dropLast_subset l hk', rfl⟩
              have h6 : x.rk z ≠ x.rk m := fun e2 => e (hok.inj hzn hmn e2)
              omega
          have i1 := ih a u m (by omega) hu hmn hum h1 (fun z hz' => by
            rcases hlt z (h3 z hz') with h5 | h5
            · exact .inr (.inl h5)
            · exact .inr (.inr (by omega))) (by omega)
          have i2 := ih b m v (by omega) hmn hv hmv' h2 (fun z hz' => by
            rcases hlt z (h4 z hz') with h5 | h5
            · exact .inl h5
            · exact .inr (.inr (by omega))) (by omega)
          have hs := hok.sum2_by hu hv hmn hum hmv'
          rw [add1_two (hok.ent_b u m) (hok.ent_b m v), if_neg (by omega), if_neg (by omega)] at hs
          have hle : (x.ent u v).w ≤ x.sum2 (u : Nat) (v : Nat) (x.rk m) := by
            rcases h.cases hu hv hne with ⟨e1, _, e2⟩ | ⟨e1, _, e2⟩ | ⟨j, hc, _⟩
            · have := e2 _ hmlow
              rw [e1]; show (4611686018427387906 : Int) ≤ _; omega
            · rw [e1]; exact e2 _ hmlow
            · rw [hc.w]; exact hc.le _ hmlow
          omega

/-- A walk up to a vertex that it comes to, and on from there. -/
theorem Wk.cut {G : Gr} : ∀ {l : List Nat} {u v : Nat} (a : List Nat) (z : Nat) (c : List Nat), Wk G u l v → u :: l.map G.hd = a ++ z :: c → ∃ l1 l2, l = l1 ++ l2 ∧ Wk G u l1 z ∧ Wk G z l2 v ∧ l1.length = a.length ∧ u :: l1.map G.hd = a ++ [z] ∧ z :: l2.map G.hd = z :: c := by
  intro l
  induction l with
  | nil =>
    intro u v a z c h e
    match a, e with
    | [], e =>
      simp at e
      obtain ⟨rfl, rfl⟩ := e
      exact ⟨[], [], rfl, rfl, h, rfl, rfl, rfl⟩
    | [_], e => simp at e
    | _ :: _ :: _, e => simp at e
  | cons k l ih =>
    intro u v a z c h e
    match a, e with
    | [], e =>
      rw [List.nil_append, List.cons.injEq] at e
      obtain ⟨rfl, rfl⟩ := e
      exact ⟨[], k :: l, rfl, rfl, h, rfl, rfl, rfl⟩
    | y :: a, e =>
      rw [List.cons_append, List.cons.injEq, List.map_cons] at e
      obtain ⟨rfl, e⟩ := e
      obtain ⟨p1, p2, p3, p4, p5⟩ := h
      obtain ⟨l1, l2, e1, e2, e3, e4, e5, e6⟩ := ih a z c p5 e
      refine ⟨k :: l1, l2, by rw [e1]; rfl, ⟨p1, p2, p3, p4, e2⟩, e3, by simp [e4], ?_, e6⟩
      rw [List.map_cons, List.cons_append, ← e5]; rfl
end Go.Proofs.YtoepbhacpidcbaaGreatDoor
