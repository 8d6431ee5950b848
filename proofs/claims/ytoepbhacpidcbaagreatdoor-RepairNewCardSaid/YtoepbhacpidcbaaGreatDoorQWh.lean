/- A whole index, plain: its entries; its shortcuts, their middles, and what hangs on each vertex. -/

import Derived.Test.YtoepbhacpidcbaaGreatDoorQBase
import Derived.Test.YtoepbhacpidcbaaGreatDoorQIdx
import Derived.Test.YtoepbhacpidcbaaGreatDoorQPerm
import Derived.Test.YtoepbhacpidcbaaGreatDoorQIdxB
import Derived.Test.YtoepbhacpidcbaaGreatDoorQRef
import Derived.Test.YtoepbhacpidcbaaGreatDoorQUnref
import Derived.Test.YtoepbhacpidcbaaGreatDoorQItr
import Derived.Test.YtoepbhacpidcbaaGreatDoorQUnE
import Derived.Test.YtoepbhacpidcbaaGreatDoorQDst
import Derived.Test.YtoepbhacpidcbaaGreatDoorQLnk
import Derived.Test.YtoepbhacpidcbaaGreatDoorQLks
import Derived.Test.YtoepbhacpidcbaaGreatDoorQMid
import Derived.Test.YtoepbhacpidcbaaGreatDoorQBig
import Derived.Test.YtoepbhacpidcbaaGreatDoorQCp2
import Derived.Test.YtoepbhacpidcbaaGreatDoorQGoes
import Derived.Test.YtoepbhacpidcbaaGreatDoorQGOps
import Derived.Test.YtoepbhacpidcbaaGreatDoorQGB
import Derived.Test.YtoepbhacpidcbaaGreatDoorQG8

set_option linter.unusedVariables false
set_option linter.unusedSimpArgs false
namespace Go.Proofs.YtoepbhacpidcbaaGreatDoor
open Go.RowKit Go.Deep

theorem Ix.rl_uniq (x : Ix) (u v : Int) {k j : Nat} (hj : j < k) (h1 : x.sum2 u v j < 4611686018427387906) (h2 : ∀ i, i < k → x.sum2 u v j ≤ x.sum2 u v i) (h3 : ∀ i, i < j → x.sum2 u v j < x.sum2 u v i) : x.rl u v k = (x.sum2 u v j, ((x.by_ j : Nat) : Int)) := by
  rcases x.rl_fst u v k with ⟨_, h⟩ | ⟨j', hj', e, _, g2, g3⟩
  · have := h j hj; omega
  · have a := h2 j' hj'
    have b := g2 j hj
    rcases Nat.lt_trichotomy j j' with h | h | h
    · have := g3 j h; omega
    · subst h; exact e
    · have := h3 j' h; omega
theorem Ix.rl_least (x : Ix) (u v : Int) (k : Nat) : ∀ i, i < k → (x.rl u v k).1 ≤ x.sum2 u v i := by
  intro i hi
  rcases x.rl_fst u v k with ⟨e, h⟩ | ⟨j, _, e, _, h, _⟩
  · rw [e]; exact h i hi
  · rw [e]; exact h i hi

/-- A shortcut by way of rank j. -/
structure Ix.Cut (x : Ix) (u v j : Nat) : Prop where
  hu : u < x.n
  hv : v < x.n
  ne : u ≠ v
  lo : j < min (x.rk u) (x.rk v)
  a : (x.ent u v).a = -1
  m : (x.ent u v).m = (x.by_ j : Nat)
  w : (x.ent u v).w = x.sum2 u v j
  lt : x.sum2 u v j < 4611686018427387906
  le : ∀ i, i < min (x.rk u) (x.rk v) → x.sum2 u v j ≤ x.sum2 u v i
  fst : ∀ i, i < j → x.sum2 u v j < x.sum2 u v i

theorem two_nat {x : Ix} {u v : Nat} (hu : u < x.n) (hv : v < x.n) (hne : u ≠ v) : x.two (u : Nat) (v : Nat) = true := by unfold Ix.two; simp; omega
/-- Is one entry the right one? -/
def Rgt (G : Gr) (x : Ix) (u v : Nat) : Prop := x.ent u v = x.best (u : Nat) (v : Nat) (G.best (u : Nat) (v : Nat))
theorem Rgt.cases {G : Gr} {x : Ix} {u v : Nat} (hw : Rgt G x u v) (hu : u < x.n) (hv : v < x.n) (hne : u ≠ v) :
    (x.ent u v = En.none ∧ G.best u v = (4611686018427387906, -1) ∧ ∀ i, i < min (x.rk u) (x.rk v) → 4611686018427387906 ≤ x.sum2 u v i) ∨
    (x.ent u v = ⟨(G.best u v).1, (G.best u v).2, -1⟩ ∧ 0 ≤ (G.best u v).2 ∧ ∀ i, i < min (x.rk u) (x.rk v) → (G.best u v).1 ≤ x.sum2 u v i) ∨
    (∃ j, x.Cut u v j ∧ x.sum2 u v j < (G.best u v).1) := by
  unfold Rgt at hw
  have ht := two_nat hu hv hne
  have hb : ¬ 0 ≤ (G.best (u : Nat) (v : Nat)).2 → G.best (u : Nat) (v : Nat) = (4611686018427387906, -1) := fun hh => by
    rcases G.best_is (u : Nat) (v : Nat) with e | ⟨k, _, _, _, _, _, _, e⟩
    · exact e
    · rw [e] at hh; exact absurd (Int.natCast_nonneg k) hh
  rw [Ix.rbest_eq _ _ _ _ (G.best_le _ _)] at hw
  unfold Ix.rbest at hw
  rw [if_pos ht] at hw
  simp only [Int.toNat_natCast] at hw
  have hl := x.rl_least (u : Nat) (v : Nat) (min (x.rk u) (x.rk v))
  have hf := x.rl_fst (u : Nat) (v : Nat) (min (x.rk u) (x.rk v))
  obtain ⟨r, hr⟩ : ∃ r, x.rl (u : Nat) (v : Nat) (min (x.rk u) (x.rk v)) = r := ⟨_, rfl⟩
  rw [hr] at hw hl hf
  by_cases h1 : 0 ≤ (G.best (u : Nat) (v : Nat)).2 ∧ (G.best (u : Nat) (v : Nat)).1 ≤ r.1
  · rw [if_pos h1] at hw
    exact .inr (.inl ⟨hw, h1.1, fun i hi => Int.le_trans h1.2 (hl i hi)⟩)
  · rw [if_neg h1] at hw
    rcases hf with ⟨e, h2⟩ | ⟨j, hj, e, h2, h3, h4⟩
    · rw [e] at hw
      rw [if_neg (by simp)] at hw
      refine .inl ⟨hw, ?_, h2⟩
      by_cases h5 : 0 ≤ (G.best (u : Nat) (v : Nat)).2
      · have := G.best_le (u : Nat) (v : Nat)
        rw [e] at h1
        exact absurd ⟨h5, this⟩ h1
      · exact hb h5
    · rw [e] at hw
      rw [if_pos (by show (0 : Int) ≤ (x.by_ j : Nat); omega)] at hw
      refine .inr (.inr ⟨j, ⟨hu, hv, hne, hj, by rw [hw], by rw [hw], by rw [hw], h2, h3, h4⟩, ?_⟩)
      by_cases h5 : 0 ≤ (G.best (u : Nat) (v : Nat)).2
      · rw [e] at h1
        have : ¬ (G.best (u : Nat) (v : Nat)).1 ≤ x.sum2 (u : Nat) (v : Nat) j := fun h => h1 ⟨h5, h⟩
        omega
      · rw [hb h5]; exact h2
theorem Whole.cases {G : Gr} {x : Ix} (h : Whole G x) {u v : Nat} (hu : u < x.n) (hv : v < x.n) (hne : u ≠ v) :
    (x.ent u v = En.none ∧ G.best u v = (4611686018427387906, -1) ∧ ∀ i, i < min (x.rk u) (x.rk v) → 4611686018427387906 ≤ x.sum2 u v i) ∨
    (x.ent u v = ⟨(G.best u v).1, (G.best u v).2, -1⟩ ∧ 0 ≤ (G.best u v).2 ∧ ∀ i, i < min (x.rk u) (x.rk v) → (G.best u v).1 ≤ x.sum2 u v i) ∨
    (∃ j, x.Cut u v j ∧ x.sum2 u v j < (G.best u v).1) := Rgt.cases (h u v hu hv hne) hu hv hne
end Go.Proofs.YtoepbhacpidcbaaGreatDoor

/- Which entries of a whole index are right still, when those of one vertex are set anew; plain. -/
set_option linter.unusedVariables false
set_option linter.unusedSimpArgs false
namespace Go.Proofs.YtoepbhacpidcbaaGreatDoor
open Go.RowKit Go.Deep

theorem Ix.low_eq {x : Ix} {u v : Nat} (hu : u < x.n) (hv : v < x.n) (hne : u ≠ v) : x.low (u : Nat) (v : Nat) = ((if x.rk u < x.rk v then u else v : Nat) : Int) := by
  unfold Ix.low
  rw [if_pos (two_nat hu hv hne)]
  simp only [Int.toNat_natCast]
  split <;> rfl
/-- A star's sum is that by way of its vertex. -/
theorem Ix.Ok.star_sum {x : Ix} (hok : x.Ok) {lo u w : Nat} (hlo : lo < x.n) (hu : u < x.n) (hw : w < x.n) (h1 : x.rk lo < x.rk u) (h2 : x.rk lo < x.rk w) :
    sumS (starC (x.star (lo : Nat) false) (x.star (lo : Nat) true)) u w = x.sum2 (u : Nat) (w : Nat) (x.rk lo) := by
  have hn := hok.n2
  have hlu : lo ≠ u := fun e => by subst e; omega
  have hlw : lo ≠ w := fun e => by subst e; omega
  unfold sumS Ix.sum2
  rw [(hok.rk lo hlo).2, add1_zero]
  have e1 : starC (x.star (lo : Nat) false) (x.star (lo : Nat) true) (72 + u * 3) = (x.at_ (u : Nat) (lo : Nat)).w := by
    unfold starC
    rw [if_neg (by omega), show (72 + u * 3 - 72) / 3 = u by omega, show (72 + u * 3) % 3 = 0 by omega]
    unfold Ix.star
    rw [if_pos ⟨by rw [Ix.low_eq hlo hu hlu, if_pos h1], two_nat hlo hu hlu⟩]; rfl
  have e2 : starC (x.star (lo : Nat) false) (x.star (lo : Nat) true) (w * 3) = (x.at_ (lo : Nat) (w : Nat)).w := by
    unfold starC
    rw [if_pos (by omega), show w * 3 / 3 = w by omega, show w * 3 % 3 = 0 by omega]
    unfold Ix.star
    rw [if_pos ⟨by rw [Ix.low_eq hlo hw hlw, if_pos h2], two_nat hlo hw hlw⟩]; rfl
  rw [e1, e2]

/-- What isn't right any more is between two of which the star's sum changed, and was or is no greater. -/
theorem Rgt.enough {G : Gr} {x y : Ix} (hok : x.Ok) (hn : y.n = x.n) (hr : y.rk = x.rk) (hb : y.by_ = x.by_) {lo u w : Nat} (h : Rgt G x u w) (hlo : lo < x.n)
    (hk : ∀ a b : Nat, x.low (a : Nat) (b : Nat) ≠ (lo : Nat) → y.at_ (a : Nat) (b : Nat) = x.at_ (a : Nat) (b : Nat)) (hyok : y.Ok)
    (hu : u < x.n) (hw : w < x.n) (hne : u ≠ w) (h1 : x.rk lo < x.rk u) (h2 : x.rk lo < x.rk w) (hbad : y.at_ (u : Nat) (w : Nat) ≠ y.best (u : Nat) (w : Nat) (G.best (u : Nat) (w : Nat))) :
    y.Hot (starC (x.star (lo : Nat) false) (x.star (lo : Nat) true)) (starC (y.star (lo : Nat) false) (y.star (lo : Nat) true)) u w := by
  have hru := (hok.rk u hu).1
  have hrw := (hok.rk w hw).1
  have hlou : x.low (u : Nat) (w : Nat) ≠ (lo : Nat) := by
    rw [Ix.low_eq hu hw hne]
    intro e
    split at e
    · have : u = lo := by omega
      subst this; omega
    · have : w = lo := by omega
      subst this; omega
  have hat := hk u w hlou
  have hxe : x.at_ (u : Nat) (w : Nat) = x.ent u w := at_nat (two_nat hu hw hne)
  have hsum : ∀ i, i < min (x.rk u) (x.rk w) → i ≠ x.rk lo → y.sum2 (u : Nat) (w : Nat) i = x.sum2 (u : Nat) (w : Nat) i := fun i hi hil => by
    have hbi := hok.by_ i (by omega)
    have hbl : x.by_ i ≠ lo := fun e => hil (by rw [← hbi.2, e])
    have n1 : u ≠ x.by_ i := fun e => by rw [← e] at hbi; omega
    have n2 : x.by_ i ≠ w := fun e => by rw [e] at hbi; omega
    have l1 : x.low (u : Nat) (x.by_ i : Nat) ≠ (lo : Nat) := by
      rw [Ix.low_eq hu hbi.1 n1, if_neg (by omega)]
      intro e; exact hbl (by omega)
    have l2 : x.low (x.by_ i : Nat) (w : Nat) ≠ (lo : Nat) := by
      rw [Ix.low_eq hbi.1 hw n2, if_pos (by omega)]
      intro e; exact hbl (by omega)
    unfold Ix.sum2
    rw [hb, hk _ _ l1, hk _ _ l2]
  unfold Ix.Hot
  rw [hok.star_sum hlo hu hw h1 h2, hyok.star_sum (by rw [hn]; exact hlo) (by rw [hn]; exact hu) (by rw [hn]; exact hw) (by rw [hr]; exact h1) (by rw [hr]; exact h2), hr, hat, hxe]
  rw [hat, hxe] at hbad
  obtain ⟨a, ha⟩ : ∃ a, x.sum2 (u : Nat) (w : Nat) (x.rk lo) = a := ⟨_, rfl⟩
  obtain ⟨b, hb'⟩ : ∃ b, y.sum2 (u : Nat) (w : Nat) (x.rk lo) = b := ⟨_, rfl⟩
  rw [ha, hb']
  by_cases hab : a = b
  · refine absurd ?_ hbad
    rw [show x.ent u w = _ from h]
    refine (Ix.best_congr hn hr hb _ (G.best_le _ _) (fun i hi => ?_)).symm
    simp only [Int.toNat_natCast] at hi
    by_cases e : i = x.rk lo
    · rw [e, ha, hb', hab]
    · exact hsum i hi e
  · refine ⟨hab, ?_⟩
    by_cases hle : min a b ≤ (x.ent u w).w
    · exact hle
    · refine absurd ?_ hbad
      have ga : (x.ent u w).w < a := by omega
      have gb : (x.ent u w).w < b := by omega
      have hsb := hok.sum2_b (u : Nat) (w : Nat) (x.rk lo)
      rw [ha] at hsb
      have hty : y.two (u : Nat) (w : Nat) = true := two_nat (by rw [hn]; exact hu) (by rw [hn]; exact hw) hne
      rw [Ix.rbest_eq _ _ _ _ (G.best_le _ _)]
      unfold Ix.rbest
      rw [if_pos hty, hr]
      simp only [Int.toNat_natCast]
      rcases h.cases hu hw hne with ⟨e, _⟩ | ⟨e, hd, hl⟩ | ⟨j, hc, hlt⟩
      · rw [e] at ga; simp [En.none] at ga; omega
      · have hge : (G.best (u : Nat) (w : Nat)).1 ≤ (y.rl (u : Nat) (w : Nat) (min (x.rk u) (x.rk w))).1 := by
          rcases y.rl_fst (u : Nat) (w : Nat) (min (x.rk u) (x.rk w)) with ⟨e2, _⟩ | ⟨j, hj, e2, _⟩
          · rw [e2]; exact G.best_le _ _
          · rw [e2]
            show _ ≤ y.sum2 _ _ j
            by_cases e3 : j = x.rk lo
            · rw [e3, hb']; rw [e] at gb; simp only at gb; omega
            · rw [hsum j hj e3]; exact hl j hj
        rw [if_pos ⟨hd, hge⟩, e]
      · have hjl : j ≠ x.rk lo := fun e3 => by have := hc.w; rw [e3, ha] at this; omega
        have hrl : y.rl (u : Nat) (w : Nat) (min (x.rk u) (x.rk w)) = (y.sum2 (u : Nat) (w : Nat) j, ((y.by_ j : Nat) : Int)) := by
          have hyj := hsum j hc.lo hjl
          refine y.rl_uniq _ _ hc.lo (by rw [hyj]; exact hc.lt) (fun i hi => ?_) (fun i hi => ?_)
          · rw [hyj]
            by_cases e3 : i = x.rk lo
            · rw [e3, hb', ← hc.w]; omega
            · rw [hsum i hi e3]; exact hc.le i hi
          · rw [hyj]
            have := hc.lo
            by_cases e3 : i = x.rk lo
            · rw [e3, hb', ← hc.w]; omega
            · rw [hsum i (by omega) e3]; exact hc.fst i hi
        rw [hrl, hsum j hc.lo hjl, if_neg (fun hh => by have := hh.2; simp only at this; omega), if_pos (by show (0 : Int) ≤ (y.by_ j : Nat); omega), hb]
        have e1 := hc.a
        have e2 := hc.m
        have e3 := hc.w
        cases hx : x.ent u w
        rw [hx] at e1 e2 e3
        simp only at e1 e2 e3
        rw [e1, e2, e3]

theorem Whole.enough {G : Gr} {x y : Ix} (h : Whole G x) (hok : x.Ok) (hn : y.n = x.n) (hr : y.rk = x.rk) (hb : y.by_ = x.by_) {lo u w : Nat} (hlo : lo < x.n)
    (hk : ∀ a b : Nat, x.low (a : Nat) (b : Nat) ≠ (lo : Nat) → y.at_ (a : Nat) (b : Nat) = x.at_ (a : Nat) (b : Nat)) (hyok : y.Ok)
    (hu : u < x.n) (hw : w < x.n) (hne : u ≠ w) (h1 : x.rk lo < x.rk u) (h2 : x.rk lo < x.rk w) (hbad : y.at_ (u : Nat) (w : Nat) ≠ y.best (u : Nat) (w : Nat) (G.best (u : Nat) (w : Nat))) :
    y.Hot (starC (x.star (lo : Nat) false) (x.star (lo : Nat) true)) (starC (y.star (lo : Nat) false) (y.star (lo : Nat) true)) u w :=
  Rgt.enough hok hn hr hb (h u w hu hw hne) hlo hk hyok hu hw hne h1 h2 hbad

end Go.Proofs.YtoepbhacpidcbaaGreatDoor

/- A graph behind changes: its arcs have weights that may be. -/
set_option linter.unusedVariables false
set_option linter.unusedSimpArgs false
namespace Go.Proofs.YtoepbhacpidcbaaGreatDoor
open Go.RowKit Go.Deep

theorem Gr.Wt.step {G : Gr} (h : G.Wt) (c : Chg) : (G.step c).Wt := by
  have hput : ∀ id a, (G.put id a).Wt := fun id a => by
    unfold Gr.put
    split
    · rename_i hc
      have hok : G.okA a := by
        unfold Gr.icode at hc
        by_cases hh : (0 ≤ id ∧ id < 64) ∧ G.okA a
        · exact hh.2
        · rw [if_neg hh] at hc; simp at hc
      intro i hi htk
      by_cases e : i = id.toNat
      · have e1 : (G.ins id.toNat a).arc i = a := if_pos e
        rw [e1]; exact hok.2.2
      · have e1 : (G.ins id.toNat a).arc i = G.arc i := if_neg e
        have e2 : (G.ins id.toNat a).tk i = G.tk i := if_neg e
        rw [e1]; rw [e2] at htk; exact h i hi htk
    · exact h
  have hrm : ∀ id, (G.rm id).Wt := fun id => by
    unfold Gr.rm
    split
    · intro i hi htk
      by_cases e : i = id.toNat
      · have e2 : (G.del id.toNat).tk i = false := if_pos e
        rw [e2] at htk; cases htk
      · have e1 : (G.del id.toNat).arc i = G.arc i := if_neg e
        have e2 : (G.del id.toNat).tk i = G.tk i := if_neg e
        rw [e1]; rw [e2] at htk; exact h i hi htk
    · exact h
  have htn : ∀ id c, (G.tn id c).Wt := fun id c => by
    unfold Gr.tn
    split
    · intro i hi htk
      have hw := h i hi htk
      by_cases e : i = id.toNat
      · have e1 : ((G.shut id.toNat c).arc i).w = (G.arc id.toNat).w := by show (if i = id.toNat then _ else _ : Arc4).w = _; rw [if_pos e]
        rw [e1, ← e]; exact hw
      · have e1 : (G.shut id.toNat c).arc i = G.arc i := if_neg e
        rw [e1]; exact hw
    · exact h
  have hwt : ∀ id x, (G.wt id x).Wt := fun id x => by
    unfold Gr.wt
    split
    · rename_i hc
      have hx : 1 ≤ x ∧ x ≤ 4611686018427387904 := by
        unfold Gr.wcode at hc
        by_cases hh : 1 ≤ x ∧ x ≤ 4611686018427387904
        · exact hh
        · rw [if_neg hh] at hc; simp at hc
      intro i hi htk
      by_cases e : i = id.toNat
      · have e1 : ((G.wei id.toNat x).arc i).w = x := by show (if i = id.toNat then _ else _ : Arc4).w = _; rw [if_pos e]
        rw [e1]; exact hx
      · have e1 : (G.wei id.toNat x).arc i = G.arc i := if_neg e
        rw [e1]; exact h i hi htk
    · exact h
  unfold Gr.step
  split
  · exact hput _ _
  · split
    · exact hrm _
    · split
      · exact htn _ _
      · split
        · exact htn _ _
        · exact hwt _ _
theorem Gr.steps_wt (n m : Nat) (f : Nat → Chg) : ∀ k, ((Gr.zero n m).steps f k).Wt := by
  intro k
  induction k with
  | zero => intro i _ h; cases h
  | succ k ih => exact ih.step _

end Go.Proofs.YtoepbhacpidcbaaGreatDoor

/- An index is whole just if it is the one of its graph and its order: plain. -/
set_option linter.unusedVariables false
set_option linter.unusedSimpArgs false
namespace Go.Proofs.YtoepbhacpidcbaaGreatDoor
open Go.RowKit Go.Deep

theorem Ix.two_congrH {x y : Ix} (hn : y.n = x.n) (u v : Int) : y.two u v = x.two u v := by unfold Ix.two; rw [hn]
theorem Whole.uniq {G : Gr} {x y : Ix} (hx : Whole G x) (hy : Whole G y) (hok : x.Ok) (hw : G.Wt) (hn : y.n = x.n) (hr : y.rk = x.rk) (hb : y.by_ = x.by_) :
    ∀ (N u v : Nat), u < x.n → v < x.n → u ≠ v → min (x.rk u) (x.rk v) < N → y.ent u v = x.ent u v := by
  intro N
  induction N with
  | zero => intro u v _ _ _ h; omega
  | succ N ih =>
    intro u v hu hv hne hlt
    rw [hx u v hu hv hne, hy u v (by omega) (by omega) hne]
    refine Ix.best_congr hn hr hb _ ?_ ?_
    · rcases Gr.best_wt hw (u : Nat) (v : Nat) with h | h
      · rw [h]; exact Int.le_refl _
      · omega
    · intro i hi
      simp only [Int.toNat_natCast] at hi
      have him : i < x.n := by have := (hok.rk u hu).1; omega
      obtain ⟨hm, hmr⟩ := hok.by_ i him
      have n1 : u ≠ x.by_ i := fun e => by rw [e] at hi; omega
      have n2 : x.by_ i ≠ v := fun e => by rw [← e] at hi; omega
      have e1 : y.at_ (u : Nat) ((x.by_ i : Nat)) = x.at_ (u : Nat) (x.by_ i : Nat) := by
        unfold Ix.at_; rw [Ix.two_congrH hn]; simp only [Int.toNat_natCast]
        rw [ih u (x.by_ i) hu hm n1 (by omega)]
      have e2 : y.at_ ((x.by_ i : Nat)) (v : Nat) = x.at_ (x.by_ i : Nat) (v : Nat) := by
        unfold Ix.at_; rw [Ix.two_congrH hn]; simp only [Int.toNat_natCast]
        rw [ih (x.by_ i) v hm hv n2 (by omega)]
      unfold Ix.sum2; rw [hb, e1, e2]

theorem Whole.congr {G : Gr} {x y : Ix} (hx : Whole G x) (hn : y.n = x.n) (hr : y.rk = x.rk) (hb : y.by_ = x.by_) (he : y.ent = x.ent) : Whole G y := by
  have : y = x := by cases x; cases y; simp_all
  rw [this]; exact hx

end Go.Proofs.YtoepbhacpidcbaaGreatDoor
