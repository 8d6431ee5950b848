/- A whole index, plain: its entries; its shortcuts, their middles, and what hangs on each vertex. -/

import Derived.Test.YtoepbhacpidcbaaGreatDoorQBase
import Derived.Test.YtoepbhacpidcbaaGreatDoorQIdx
import Derived.Test.YtoepbhacpidcbaaGreatDoorQIdxB
import Derived.Test.YtoepbhacpidcbaaGreatDoorQPerm
import Derived.Test.YtoepbhacpidcbaaGreatDoorQRef
import Derived.Test.YtoepbhacpidcbaaGreatDoorQBig
import Derived.Test.YtoepbhacpidcbaaGreatDoorQUnref
import Derived.Test.YtoepbhacpidcbaaGreatDoorQUnE
import Derived.Test.YtoepbhacpidcbaaGreatDoorQItr
import Derived.Test.YtoepbhacpidcbaaGreatDoorQDst
import Derived.Test.YtoepbhacpidcbaaGreatDoorQLnk
import Derived.Test.YtoepbhacpidcbaaGreatDoorQRow2
import Derived.Test.YtoepbhacpidcbaaGreatDoorQGr
import Derived.Test.YtoepbhacpidcbaaGreatDoorQGOps
import Derived.Test.YtoepbhacpidcbaaGreatDoorQBld
import Derived.Test.YtoepbhacpidcbaaGreatDoorQG8
import Derived.Test.YtoepbhacpidcbaaGreatDoorQGoes

set_option linter.unusedVariables false
set_option linter.unusedSimpArgs false
namespace Go.Proofs.YtoepbhacpidcbaaGreatDoor
open Go.RowKit Go.Deep

theorem Ix.rl_least (x : Ix) (u v : Int) (k : Nat) : ∀ i, i < k → (x.rl u v k).1 ≤ x.sum2 u v i := by
  intro i hi
  rcases x.rl_fst u v k with ⟨e, h⟩ | ⟨j, _, e, _, h, _⟩
  · rw [e]; exact h i hi
  · rw [e]; exact h i hi

/-- A shortcut by way of rank j. -/
structure Ix.Cut (x : Ix) (u v j : Nat) : Prop where
  hu : u < x.n
  hv : v < x.n
  ne : u ≠ v
  lo : j < min (x.rk u) (x.rk v)
  a : (x.ent u v).a = -1
  m : (x.ent u v).m = (x.by_ j : Nat)
  w : (x.ent u v).w = x.sum2 u v j
  lt : x.sum2 u v j < 4611686018427387906
  le : ∀ i, i < min (x.rk u) (x.rk v) → x.sum2 u v j ≤ x.sum2 u v i
  fst : ∀ i, i < j → x.sum2 u v j < x.sum2 u v i

theorem two_nat {x : Ix} {u v : Nat} (hu : u < x.n) (hv : v < x.n) (hne : u ≠ v) : x.two (u : Nat) (v : Nat) = true := by unfold Ix.two; simp; omega
/-- Is one entry the right one? -/
def Rgt (G : Gr) (x : Ix) (u v : Nat) : Prop := x.ent u v = x.best (u : Nat) (v : Nat) (G.best (u : Nat) (v : Nat))
theorem Rgt.cases {G : Gr} {x : Ix} {u v : Nat} (hw : Rgt G x u v) (hu : u < x.n) (hv : v < x.n) (hne : u ≠ v) :
    (x.ent u v = En.none ∧ G.best u v = (4611686018427387906, -1) ∧ ∀ i, i < min (x.rk u) (x.rk v) → 4611686018427387906 ≤ x.sum2 u v i) ∨
    (x.ent u v = ⟨(G.best u v).1, (G.best u v).2, -1⟩ ∧ 0 ≤ (G.best u v).2 ∧ ∀ i, i < min (x.rk u) (x.rk v) → (G.best u v).1 ≤ x.sum2 u v i) ∨
    (∃ j, x.Cut u v j ∧ x.sum2 u v j < (G.best u v).1) := by
  unfold Rgt at hw
  have ht := two_nat hu hv hne
  have hb : ¬ 0 ≤ (G.best (u : Nat) (v : Nat)).2 → G.best (u : Nat) (v : Nat) = (4611686018427387906, -1) := fun hh => by
    rcases G.best_is (u : Nat) (v : Nat) with e | ⟨k, _, _, _, _, _, _, e⟩
    · exact e
    · rw [e] at hh; exact absurd (Int.natCast_nonneg k) hh
  rw [Ix.rbest_eq _ _ _ _ (G.best_le _ _)] at hw
  unfold Ix.rbest at hw
  rw [if_pos ht] at hw
  simp only [Int.toNat_natCast] at hw
  have hl := x.rl_least (u : Nat) (v : Nat) (min (x.rk u) (x.rk v))
  have hf := x.rl_fst (u : Nat) (v : Nat) (min (x.rk u) (x.rk v))
  obtain ⟨r, hr⟩ : ∃ r, x.rl (u : Nat) (v : Nat) (min (x.rk u) (x.rk v)) = r := ⟨_, rfl⟩
  rw [hr] at hw hl hf
  by_cases h1 : 0 ≤ (G.best (u : Nat) (v : Nat)).2 ∧ (G.best (u : Nat) (v : Nat)).1 ≤ r.1
  · rw [if_pos h1] at hw
    exact .inr (.inl ⟨hw, h1.1, fun i hi => Int.le_trans h1.2 (hl i hi)⟩)
  · rw [if_neg h1] at hw
    rcases hf with ⟨e, h2⟩ | ⟨j, hj, e, h2, h3, h4⟩
    · rw [e] at hw
      rw [if_neg (by simp)] at hw
      refine .inl ⟨hw, ?_, h2⟩
      by_cases h5 : 0 ≤ (G.best (u : Nat) (v : Nat)).2
      · have := G.best_le (u : Nat) (v : Nat)
        rw [e] at h1
        exact absurd ⟨h5, this⟩ h1
      · exact hb h5
    · rw [e] at hw
      rw [if_pos (by show (0 : Int) ≤ (x.by_ j : Nat); omega)] at hw
      refine .inr (.inr ⟨j, ⟨hu, hv, hne, hj, by rw [hw], by rw [hw], by rw [hw], h2, h3, h4⟩, ?_⟩)
      by_cases h5 : 0 ≤ (G.best (u : Nat) (v : Nat)).2
      · rw [e] at h1
        have : ¬ (G.best (u : Nat) (v : Nat)).1 ≤ x.sum2 (u : Nat) (v : Nat) j := fun h => h1 ⟨h5, h⟩
        omega
      · rw [hb h5]; exact h2
theorem Whole.cases {G : Gr} {x : Ix} (h : Whole G x) {u v : Nat} (hu : u < x.n) (hv : v < x.n) (hne : u ≠ v) :
    (x.ent u v = En.none ∧ G.best u v = (4611686018427387906, -1) ∧ ∀ i, i < min (x.rk u) (x.rk v) → 4611686018427387906 ≤ x.sum2 u v i) ∨
    (x.ent u v = ⟨(G.best u v).1, (G.best u v).2, -1⟩ ∧ 0 ≤ (G.best u v).2 ∧ ∀ i, i < min (x.rk u) (x.rk v) → (G.best u v).1 ≤ x.sum2 u v i) ∨
    (∃ j, x.Cut u v j ∧ x.sum2 u v j < (G.best u v).1) := Rgt.cases (h u v hu hv hne) hu hv hne
/-- Each shortcut that is told is one by way of a lower vertex. -/
theorem Whole.short {G : Gr} {x : Ix} (h : Whole G x) {l : Lk} (hl : l ∈ x.shorts) : ∃ (u v : Nat) (j : Nat), l.t = u ∧ l.h = v ∧ l.e = x.ent u v ∧ x.Cut u v j := by
  rw [Ix.shorts_filter, List.mem_filter] at hl
  obtain ⟨h1, h2⟩ := hl
  obtain ⟨h3, h4⟩ := x.lks_mem x.n l h1
  have hm : 0 ≤ l.e.m := by simpa [Lk.want] using h2
  cases ht : x.two l.t l.h with
  | false =>
    unfold Ix.at_ at h3
    rw [ht] at h3
    exact absurd h3.symm h4
  | true =>
    obtain ⟨hne, hu0, hu1, hv0, hv1⟩ := two_iff ht
    obtain ⟨u, hu⟩ := Int.eq_ofNat_of_zero_le hu0
    obtain ⟨v, hv⟩ := Int.eq_ofNat_of_zero_le hv0
    have he : l.e = x.ent u v := by
      rw [← h3]
      unfold Ix.at_
      rw [if_pos ht, hu, hv]; rfl
    rcases h.cases (u := u) (v := v) (by omega) (by omega) (by omega) with ⟨e, _⟩ | ⟨e, _⟩ | ⟨j, hc, _⟩
    · rw [he, e] at hm; simp [En.none] at hm
    · rw [he, e] at hm; simp at hm
    · exact ⟨u, v, j, hu, hv, he, hc⟩
end Go.Proofs.YtoepbhacpidcbaaGreatDoor

/- Which entries of a whole index are right still, when those of one vertex are set anew; plain. -/
set_option linter.unusedVariables false
set_option linter.unusedSimpArgs false
namespace Go.Proofs.YtoepbhacpidcbaaGreatDoor
open Go.RowKit Go.Deep

theorem Ix.setI_keep (x : Ix) (t h : Int) (e : En) (u v : Nat) (hne : ¬ (t = u ∧ h = v)) : (x.setI t h e).at_ (u : Nat) (v : Nat) = x.at_ (u : Nat) (v : Nat) := by
  unfold Ix.setI
  split
  · rename_i hc
    obtain ⟨_, h1, _, h2, _⟩ := two_iff hc.1
    exact Ix.set_at x _ _ e u v (fun hh => hne ⟨by omega, by omega⟩)
  · rfl
theorem Ix.low_eq {x : Ix} {u v : Nat} (hu : u < x.n) (hv : v < x.n) (hne : u ≠ v) : x.low (u : Nat) (v : Nat) = ((if x.rk u < x.rk v then u else v : Nat) : Int) := by
  unfold Ix.low
  rw [if_pos (two_nat hu hv hne)]
  simp only [Int.toNat_natCast]
  split <;> rfl
end Go.Proofs.YtoepbhacpidcbaaGreatDoor

/- A graph behind changes: its arcs have weights that may be. -/
set_option linter.unusedVariables false
set_option linter.unusedSimpArgs false
namespace Go.Proofs.YtoepbhacpidcbaaGreatDoor
open Go.RowKit Go.Deep

theorem Gr.Wt.step {G : Gr} (h : G.Wt) (c : Chg) : (G.step c).Wt := by
  have hput : ∀ id a, (G.put id a).Wt := fun id a => by
    unfold Gr.put
    split
    · rename_i hc
      have hok : G.okA a := by
        unfold Gr.icode at hc
        by_cases hh : (0 ≤ id ∧ id < 64) ∧ G.okA a
        · exact hh.2
        · rw [if_neg hh] at hc; simp at hc
      intro i hi htk
      by_cases e : i = id.toNat
      · have e1 : (G.ins id.toNat a).arc i = a := if_pos e
        rw [e1]; exact hok.2.2
      · have e1 : (G.ins id.toNat a).arc i = G.arc i := if_neg e
        have e2 : (G.ins id.toNat a).tk i = G.tk i := if_neg e
        rw [e1]; rw [e2] at htk; exact h i hi htk
    · exact h
  have hrm : ∀ id, (G.rm id).Wt := fun id => by
    unfold Gr.rm
    split
    · intro i hi htk
      by_cases e : i = id.toNat
      · have e2 : (G.del id.toNat).tk i = false := if_pos e
        rw [e2] at htk; cases htk
      · have e1 : (G.del id.toNat).arc i = G.arc i := if_neg e
        have e2 : (G.del id.toNat).tk i = G.tk i := if_neg e
        rw [e1]; rw [e2] at htk; exact h i hi htk
    · exact h
  have htn : ∀ id c, (G.tn id c).Wt := fun id c => by
    unfold Gr.tn
    split
    · intro i hi htk
      have hw := h i hi htk
      by_cases e : i = id.toNat
      · have e1 : ((G.shut id.toNat c).arc i).w = (G.arc id.toNat).w := by show (if i = id.toNat then _ else _ : Arc4).w = _; rw [if_pos e]
        rw [e1, ← e]; exact hw
      · have e1 : (G.shut id.toNat c).arc i = G.arc i := if_neg e
        rw [e1]; exact hw
    · exact h
  have hwt : ∀ id x, (G.wt id x).Wt := fun id x => by
    unfold Gr.wt
    split
    · rename_i hc
      have hx : 1 ≤ x ∧ x ≤ 4611686018427387904 := by
        unfold Gr.wcode at hc
        by_cases hh : 1 ≤ x ∧ x ≤ 4611686018427387904
        · exact hh
        · rw [if_neg hh] at hc; simp at hc
      intro i hi htk
      by_cases e : i = id.toNat
      · have e1 : ((G.wei id.toNat x).arc i).w = x := by show (if i = id.toNat then _ else _ : Arc4).w = _; rw [if_pos e]
        rw [e1]; exact hx
      · have e1 : (G.wei id.toNat x).arc i = G.arc i := if_neg e
        rw [e1]; exact h i hi htk
    · exact h
  unfold Gr.step
  split
  · exact hput _ _
  · split
    · exact hrm _
    · split
      · exact htn _ _
      · split
        · exact htn _ _
        · exact hwt _ _
theorem Gr.steps_wt (n m : Nat) (f : Nat → Chg) : ∀ k, ((Gr.zero n m).steps f k).Wt := by
  intro k
  induction k with
  | zero => intro i _ h; cases h
  | succ k ih => exact ih.step _

end Go.Proofs.YtoepbhacpidcbaaGreatDoor

/- An index is whole just if it is the one of its graph and its order: plain. -/
set_option linter.unusedVariables false
set_option linter.unusedSimpArgs false
namespace Go.Proofs.YtoepbhacpidcbaaGreatDoor
open Go.RowKit Go.Deep

theorem Whole.congr {G : Gr} {x y : Ix} (hx : Whole G x) (hn : y.n = x.n) (hr : y.rk = x.rk) (hb : y.by_ = x.by_) (he : y.ent = x.ent) : Whole G y := by
  have : y = x := by cases x; cases y; simp_all
  rw [this]; exact hx

end Go.Proofs.YtoepbhacpidcbaaGreatDoor
/- Walks in a graph, plain: in a whole index no walk by way of lower vertices is shorter than an entry; a walk as short as an entry is simple. -/
set_option linter.unusedVariables false
set_option linter.unusedSimpArgs false
namespace Go.Proofs.YtoepbhacpidcbaaGreatDoor
open Go.RowKit Go.Deep

/-- The arcs of l lead from u to v, all of them open. -/
def Wk (G : Gr) : Nat → List Nat → Nat → Prop
  | u, [], v => u = v
  | u, k :: l, v => k < 64 ∧ G.tk k = true ∧ (G.arc k).c = false ∧ (G.arc k).t = (u : Nat) ∧ Wk G (G.arc k).h.toNat l v
def Gr.hd (G : Gr) (k : Nat) : Nat := (G.arc k).h.toNat
def Gr.len (G : Gr) (l : List Nat) : Int := (l.map (fun k => (G.arc k).w)).sum
def Gr.mds (G : Gr) (l : List Nat) : List Nat := l.dropLast.map G.hd
theorem Gr.len_nil (G : Gr) : G.len [] = 0 := rfl
theorem Gr.len_cons (G : Gr) (k : Nat) (l : List Nat) : G.len (k :: l) = (G.arc k).w + G.len l := by simp [Gr.len]
theorem Gr.len_app (G : Gr) (a b : List Nat) : G.len (a ++ b) = G.len a + G.len b := by simp [Gr.len]
theorem Wk.app {G : Gr} : ∀ {a : List Nat} {u m : Nat} {b : List Nat} {v : Nat}, Wk G u a m → Wk G m b v → Wk G u (a ++ b) v := by
  intro a
  induction a with
  | nil => intro u m b v h1 h2; obtain rfl := h1; exact h2
  | cons k a ih =>
    intro u m b v h1 h2
    obtain ⟨p1, p2, p3, p4, p5⟩ := h1
    exact ⟨p1, p2, p3, p4, ih p5 h2⟩
theorem Wk.split {G : Gr} : ∀ (a : List Nat) {u : Nat} {b : List Nat} {v : Nat}, Wk G u (a ++ b) v → ∃ m, Wk G u a m ∧ Wk G m b v := by
  intro a
  induction a with
  | nil => intro u b v h; exact ⟨u, rfl, h⟩
  | cons k a ih =>
    intro u b v h
    obtain ⟨p1, p2, p3, p4, p5⟩ := h
    obtain ⟨m, h1, h2⟩ := ih p5
    exact ⟨m, ⟨p1, p2, p3, p4, h1⟩, h2⟩
theorem Wk.last {G : Gr} : ∀ {a : List Nat} {u k m : Nat}, Wk G u (a ++ [k]) m → m = G.hd k := by
  intro a
  induction a with
  | nil => intro u k m h; exact h.2.2.2.2.symm
  | cons j a ih => intro u k m h; exact ih h.2.2.2.2
/-- All weights of a walk are at least 1. -/
theorem Wk.pos {G : Gr} (hw : G.Wt) : ∀ {a : List Nat} {u v : Nat}, Wk G u a v → (a.length : Int) ≤ G.len a := by
  intro a
  induction a with
  | nil => intro u v _; exact Int.le_refl _
  | cons k a ih =>
    intro u v h
    have := ih h.2.2.2.2
    have h1 := (hw k h.1 h.2.1).1
    rw [Gr.len_cons, List.length_cons]
    omega
/-- All vertices to which a walk comes are some. -/
theorem Wk.hds {G : Gr} (ho : G.Ok) : ∀ {a : List Nat} {u v : Nat}, Wk G u a v → ∀ z ∈ a.map G.hd, z < G.n := by
  intro a
  induction a with
  | nil => intro u v _ z hz; cases hz
  | cons k a ih =>
    intro u v h z hz
    rw [List.map_cons, List.mem_cons] at hz
    rcases hz with rfl | hz
    · have := ho.arc k h.1 h.2.1
      unfold Gr.hd
      omega
    · exact ih h.2.2.2.2 z hz
/-- A walk is split at a vertex in between. -/
theorem Wk.at {G : Gr} {l : List Nat} {u v z : Nat} (h : Wk G u l v) (hz : z ∈ G.mds l) :
    ∃ a b, l = a ++ b ∧ a ≠ [] ∧ b ≠ [] ∧ Wk G u a z ∧ Wk G z b v ∧ (∀ y ∈ G.mds a, y ∈ G.mds l) ∧ (∀ y ∈ G.mds b, y ∈ G.mds l) := by
  unfold Gr.mds at hz
  obtain ⟨k, hk, rfl⟩ := List.mem_map.1 hz
  obtain ⟨a, b, hab⟩ := List.append_of_mem hk
  have hne : l ≠ [] := fun e => by subst e; cases hk
  have hl : l = (a ++ [k]) ++ (b ++ [l.getLast hne]) := by
    have := List.dropLast_concat_getLast hne
    rw [hab] at this
    exact this.symm.trans (by simp)
  have hdl : l.dropLast = (a ++ [k]) ++ b := by rw [hab]; simp
  rw [hl] at h
  obtain ⟨m, h1, h2⟩ := Wk.split _ h
  obtain rfl := Wk.last h1
  refine ⟨a ++ [k], b ++ [l.getLast hne], hl, by simp, by simp, h1, h2, fun y hy => ?_, fun y hy => ?_⟩
  · unfold Gr.mds at hy ⊢
    rw [List.dropLast_concat] at hy
    rw [hdl, List.map_append, List.map_append]
    exact List.mem_append_left _ (List.mem_append_left _ hy)
  · unfold Gr.mds at hy ⊢
    rw [List.dropLast_concat] at hy
    rw [hdl, List.map_append]
    exact List.mem_append_right _ hy

/-- The highest of some vertices. -/
theorem top_of (r : Nat → Nat) : ∀ (l : List Nat), l ≠ [] → ∃ m ∈ l, ∀ z ∈ l, r z ≤ r m := by
  intro l
  induction l with
  | nil => intro h; exact absurd rfl h
  | cons a l ih =>
    intro _
    by_cases h : l = []
    · subst h; exact ⟨a, by simp, fun z hz => by rw [List.mem_singleton.1 hz]; exact Nat.le_refl _⟩
    · obtain ⟨m, hm, h2⟩ := ih h
      by_cases hc : r m ≤ r a
      · refine ⟨a, by simp, fun z hz => ?_⟩
        rcases List.mem_cons.1 hz with rfl | hz
        · exact Nat.le_refl _
        · exact Nat.le_trans (h2 z hz) hc
      · refine ⟨m, by simp [hm], fun z hz => ?_⟩
        rcases List.mem_cons.1 hz with rfl | hz
        · omega
        · exact h2 z hz

theorem Ix.Ok.sum2_by {x : Ix} (h : x.Ok) {u v m : Nat} (hu : u < x.n) (hv : v < x.n) (hm : m < x.n) (h1 : u ≠ m) (h2 : m ≠ v) : x.sum2 (u : Nat) (v : Nat) (x.rk m) = add1 (add1 0 (x.ent u m).w) (x.ent m v).w := by
  unfold Ix.sum2
  rw [(h.rk m hm).2, at_nat (two_nat hu hm h1), at_nat (two_nat hm hv h2)]
theorem Ix.Ok.ent_b {x : Ix} (h : x.Ok) (u v : Nat) : 1 ≤ (x.ent u v).w ∧ (x.ent u v).w ≤ 4611686018427387906 := ⟨(h.ent u v).w1, (h.ent u v).w2⟩

/-- NO WALK BY WAY OF LOWER VERTICES IS SHORTER THAN AN ENTRY. -/
theorem Whole.least {G : Gr} {x : Ix} (h : Whole G x) (hok : x.Ok) (ho : G.Ok) (hw : G.Wt) (hn : G.n = x.n) : ∀ (N : Nat) (l : List Nat) (u v : Nat), l.length ≤ N → u < x.n → v < x.n → u ≠ v → Wk G u l v →
    (∀ z ∈ G.mds l, z = u ∨ z = v ∨ x.rk z < min (x.rk u) (x.rk v)) → G.len l ≤ 4611686018427387904 → (x.ent u v).w ≤ G.len l := by
  intro N
  induction N with
  | zero =>
    intro l u v hl _ _ hne hk
    have : l = [] := List.length_eq_zero_iff.1 (by omega)
    subst this
    exact absurd hk hne
  | succ N ih =>
    intro l u v hl hu hv hne hk hz hlen
    by_cases h0 : G.mds l = []
    · match l, hk with
      | [], hk => exact absurd hk hne
      | [k], hk =>
        obtain ⟨p1, p2, p3, p4, p5⟩ := hk
        have e : (G.arc k).h = (v : Nat) := by
          have := ho.arc k p1 p2
          have p6 : (G.arc k).h.toNat = v := p5
          omega
        have hb := G.best_least p1 p2 p3
        rw [p4, e] at hb
        rw [Gr.len_cons, Gr.len_nil]
        rcases h.cases hu hv hne with ⟨e1, e2, _⟩ | ⟨e1, _, _⟩ | ⟨j, hc, hlt⟩
        · have := (hw k p1 p2).2
          rw [e2] at hb; simp at hb; omega
        · rw [e1]; show (G.best _ _).1 ≤ _; omega
        · rw [hc.w]; omega
      | k :: k' :: l', hk => simp [Gr.mds] at h0
    · obtain ⟨m, hm, htop⟩ := top_of x.rk (G.mds l) h0
      by_cases hmu : u ∈ G.mds l
      · obtain ⟨a, b, e, ha, hb, h1, h2, h3, h4⟩ := hk.at hmu
        have hla : 0 < a.length := List.length_pos_iff.2 ha
        have hlb : a.length + b.length = l.length := by rw [e, List.length_append]
        have hpa := Wk.pos hw h1
        have hla2 : G.len l = G.len a + G.len b := by rw [e, Gr.len_app]
        have := ih b u v (by omega) hu hv hne h2 (fun z hz' => hz z (h4 z hz')) (by omega)
        omega
      · by_cases hmv : v ∈ G.mds l
        · obtain ⟨a, b, e, ha, hb, h1, h2, h3, h4⟩ := hk.at hmv
          have hlb0 : 0 < b.length := List.length_pos_iff.2 hb
          have hlb : a.length + b.length = l.length := by rw [e, List.length_append]
          have hpb := Wk.pos hw h2
          have hla2 : G.len l = G.len a + G.len b := by rw [e, Gr.len_app]
          have := ih a u v (by omega) hu hv hne h1 (fun z hz' => hz z (h3 z hz')) (by omega)
          omega
        · have hlow : ∀ z ∈ G.mds l, x.rk z < min (x.rk u) (x.rk v) := fun z hz' => by
            rcases hz z hz' with rfl | rfl | h'
            · exact absurd hz' hmu
            · exact absurd hz' hmv
            · exact h'
          have hmlow := hlow m hm
          obtain ⟨a, b, e, ha, hb, h1, h2, h3, h4⟩ := hk.at hm
          have hmn : m < x.n := by
            rw [← hn]
            refine Wk.hds ho hk m ?_
            unfold Gr.mds at hm
            obtain ⟨k, hk', rfl⟩ := List.mem_map.1 hm
            exact List.mem_map.2 ⟨k, List.dropLast_subset l hk', rfl⟩
          have hum : u ≠ m := fun e => by subst e; omega
          have hmv' : m ≠ v := fun e => by subst e; omega
          have hla0 : 0 < a.length := List.length_pos_iff.2 ha
          have hlb0 : 0 < b.length := List.length_pos_iff.2 hb
          have hlb : a.length + b.length = l.length := by rw [e, List.length_append]
          have hpa := Wk.pos hw h1
          have hpb := Wk.pos hw h2
          have hla2 : G.len l = G.len a + G.len b := by rw [e, Gr.len_app]
          have hlt : ∀ z, z ∈ G.mds l → z = m ∨ x.rk z < x.rk m := fun z hz' => by
            by_cases e : z = m
            · exact .inl e
            · right
              have h5 := htop z hz'
              have hzn : z < x.n := by
                rw [← hn]
                refine Wk.hds ho hk z ?_
                unfold Gr.mds at hz'
                obtain ⟨k, hk', rfl⟩ := List.mem_map.1 hz'
                exact List.mem_map.2 ⟨k, List.dropLast_subset l hk', rfl⟩
              have h6 : x.rk z ≠ x.rk m := fun e2 => e (hok.inj hzn hmn e2)
              omega
          have i1 := ih a u m (by omega) hu hmn hum h1 (fun z hz' => by
            rcases hlt z (h3 z hz') with h5 | h5
            · exact .inr (.inl h5)
            · exact .inr (.inr (by omega))) (by omega)
          have i2 := ih b m v (by omega) hmn hv hmv' h2 (fun z hz' => by
            rcases hlt z (h4 z hz') with h5 | h5
            · exact .inl h5
            · exact .inr (.inr (by omega))) (by omega)
          have hs := hok.sum2_by hu hv hmn hum hmv'
          rw [add1_two (hok.ent_b u m) (hok.ent_b m v), if_neg (by omega), if_neg (by omega)] at hs
          have hle : (x.ent u v).w ≤ x.sum2 (u : Nat) (v : Nat) (x.rk m) := by
            rcases h.cases hu hv hne with ⟨e1, _, e2⟩ | ⟨e1, _, e2⟩ | ⟨j, hc, _⟩
            · have := e2 _ hmlow
              rw [e1]; show (4611686018427387906 : Int) ≤ _; omega
            · rw [e1]; exact e2 _ hmlow
            · rw [hc.w]; exact hc.le _ hmlow
          omega

/-- The arcs of an entry. -/
def Ix.pth (x : Ix) : Nat → Nat → Nat → List Nat
  | 0, _, _ => []
  | f + 1, u, v => if (x.ent u v).m < 0 then [(x.ent u v).a.toNat] else x.pth f u (x.ent u v).m.toNat ++ x.pth f (x.ent u v).m.toNat v

/-- An entry that is told is unpacked to a walk by way of lower vertices that is as long. -/
theorem Whole.pth {G : Gr} {x : Ix} (h : Whole G x) (hok : x.Ok) (ho : G.Ok) (hw : G.Wt) (hn : G.n = x.n) : ∀ (f u v : Nat), u < x.n → v < x.n → u ≠ v → min (x.rk u) (x.rk v) < f → (x.ent u v).w ≤ 4611686018427387904 →
    Wk G u (x.pth f u v) v ∧ G.len (x.pth f u v) = (x.ent u v).w ∧ x.pth f u v ≠ [] ∧ ∀ z ∈ G.mds (x.pth f u v), x.rk z < min (x.rk u) (x.rk v) := by
  intro f
  induction f with
  | zero => intro u v _ _ _ hf; omega
  | succ f ih =>
    intro u v hu hv hne hf hle
    unfold Ix.pth
    rcases h.cases hu hv hne with ⟨e1, _, _⟩ | ⟨e1, e2, _⟩ | ⟨j, hc, _⟩
    · rw [e1] at hle; simp [En.none] at hle
    · rcases G.best_is (u : Nat) (v : Nat) with e | ⟨k, hk, htk, ht, hh, hcl, _, e⟩
      · rw [e] at e2; simp at e2
      · rw [e] at e1
        rw [e1, if_pos (by show (-1 : Int) < 0; omega)]
        simp only [Int.toNat_natCast]
        refine ⟨⟨hk, htk, hcl, ht, ?_⟩, ?_, by simp, fun z hz => by simp [Gr.mds] at hz⟩
        · show (G.arc k).h.toNat = v
          rw [hh]; simp
        · rw [Gr.len_cons, Gr.len_nil, Int.add_zero]
    · have hj := hc.lo
      have hb := hok.by_ j (by have := (hok.rk u hu).1; omega)
      have hm0 : ¬ (x.ent u v).m < 0 := by rw [hc.m]; omega
      rw [if_neg hm0, hc.m]
      simp only [Int.toNat_natCast]
      obtain ⟨m, hm⟩ : ∃ m, x.by_ j = m := ⟨_, rfl⟩
      rw [hm] at hb ⊢
      have hum : u ≠ m := fun e => by subst e; omega
      have hmv : m ≠ v := fun e => by subst e; omega
      have hs := hok.sum2_by hu hv hb.1 hum hmv
      rw [hb.2, ← hc.w, add1_two (hok.ent_b u m) (hok.ent_b m v)] at hs
      have hsum : (x.ent u v).w = (x.ent u m).w + (x.ent m v).w ∧ (x.ent u m).w + (x.ent m v).w ≤ 4611686018427387904 := by
        split at hs
        · omega
        · split at hs <;> omega
      have b1 := hok.ent_b u m
      have b2 := hok.ent_b m v
      obtain ⟨p1, p2, p3, p4⟩ := ih u m hu hb.1 hum (by omega) (by omega)
      obtain ⟨q1, q2, q3, q4⟩ := ih m v hb.1 hv hmv (by omega) (by omega)
      refine ⟨p1.app q1, by rw [Gr.len_app, p2, q2]; omega, by simp [p3], fun z hz => ?_⟩
      unfold Gr.mds at hz
      rw [List.dropLast_append_of_ne_nil q3, List.map_append, List.mem_append] at hz
      rcases hz with hz | hz
      · -- a vertex of the first part, or its end
        have hd := List.dropLast_concat_getLast p3
        rw [← hd, List.map_append, List.mem_append] at hz
        rcases hz with hz | hz
        · have := p4 z hz; omega
        · rw [List.map_singleton, List.mem_singleton] at hz
          have hlast : m = G.hd ((x.pth f u m).getLast p3) := by
            have hh := p1
            rw [← hd] at hh
            exact Wk.last hh
          rw [hz, ← hlast]; omega
      · have := q4 z hz; omega

/-- A vertex that comes twice. -/
theorem dup_at : ∀ (L : List Nat), ¬ L.Nodup → ∃ a y b c, L = a ++ y :: (b ++ y :: c) := by
  intro L
  induction L with
  | nil => intro h; exact absurd List.nodup_nil h
  | cons y t ih =>
    intro h
    by_cases hy : y ∈ t
    · obtain ⟨b, c, e⟩ := List.append_of_mem hy
      exact ⟨[], y, b, c, by rw [e]; rfl⟩
    · have : ¬ t.Nodup := fun ht => h (List.nodup_cons.2 ⟨hy, ht⟩)
      obtain ⟨a, z, b, c, e⟩ := ih this
      exact ⟨y :: a, z, b, c, by rw [e]; rfl⟩
/-- A walk up to a vertex that it comes to, and on from there. -/
theorem Wk.cut {G : Gr} : ∀ {l : List Nat} {u v : Nat} (a : List Nat) (z : Nat) (c : List Nat), Wk G u l v → u :: l.map G.hd = a ++ z :: c → ∃ l1 l2, l = l1 ++ l2 ∧ Wk G u l1 z ∧ Wk G z l2 v ∧ l1.length = a.length ∧ u :: l1.map G.hd = a ++ [z] ∧ z :: l2.map G.hd = z :: c := by
  intro l
  induction l with
  | nil =>
    intro u v a z c h e
    match a, e with
    | [], e =>
      simp at e
      obtain ⟨rfl, rfl⟩ := e
      exact ⟨[], [], rfl, rfl, h, rfl, rfl, rfl⟩
    | [_], e => simp at e
    | _ :: _ :: _, e => simp at e
  | cons k l ih =>
    intro u v a z c h e
    match a, e with
    | [], e =>
      rw [List.nil_append, List.cons.injEq] at e
      obtain ⟨rfl, rfl⟩ := e
      exact ⟨[], k :: l, rfl, rfl, h, rfl, rfl, rfl⟩
    | y :: a, e =>
      rw [List.cons_append, List.cons.injEq, List.map_cons] at e
      obtain ⟨rfl, e⟩ := e
      obtain ⟨p1, p2, p3, p4, p5⟩ := h
      obtain ⟨l1, l2, e1, e2, e3, e4, e5, e6⟩ := ih a z c p5 e
      refine ⟨k :: l1, l2, by rw [e1]; rfl, ⟨p1, p2, p3, p4, e2⟩, e3, by simp [e4], ?_, e6⟩
      rw [List.map_cons, List.cons_append, ← e5]; rfl
/-- A WALK BY WAY OF LOWER VERTICES THAT IS AS LONG AS AN ENTRY IS SIMPLE. -/
theorem Whole.simple {G : Gr} {x : Ix} (h : Whole G x) (hok : x.Ok) (ho : G.Ok) (hw : G.Wt) (hn : G.n = x.n) {l : List Nat} {u v : Nat} (hu : u < x.n) (hv : v < x.n) (hne : u ≠ v) (hk : Wk G u l v)
    (hz : ∀ z ∈ G.mds l, x.rk z < min (x.rk u) (x.rk v)) (hlen : G.len l ≤ 4611686018427387904) (hmin : G.len l ≤ (x.ent u v).w) : (u :: l.map G.hd).Nodup := by
  refine Classical.byContradiction fun hd => ?_
  obtain ⟨a, y, b, c, e⟩ := dup_at _ hd
  have hall : ∀ z, z ∈ u :: l.map G.hd → z = u ∨ z = v ∨ x.rk z < min (x.rk u) (x.rk v) := fun z hz' => by
    rcases List.mem_cons.1 hz' with rfl | h'
    · exact .inl rfl
    · have hl : l ≠ [] := fun e => by subst e; cases h'
      have hdl := List.dropLast_concat_getLast hl
      rw [← hdl, List.map_append, List.mem_append] at h'
      rcases h' with h' | h'
      · exact .inr (.inr (hz z h'))
      · rw [List.map_singleton, List.mem_singleton] at h'
        have hh := hk
        rw [← hdl] at hh
        have := Wk.last hh
        exact .inr (.inl (by rw [h', ← this]))
  obtain ⟨l1, l2, e1, w1, w2, e2, e3, e4⟩ := Wk.cut a y (b ++ y :: c) hk e
  obtain ⟨l3, l4, e5, w3, w4, e6, e7, e8⟩ := Wk.cut (y :: b) y c w2 (by rw [e4]; rfl)
  have w := w1.app w4
  have hlt : G.len (l1 ++ l4) < G.len l := by
    have hp := Wk.pos hw w3
    rw [List.length_cons] at e6
    rw [e1, e5, Gr.len_app, Gr.len_app, Gr.len_app]
    omega
  have hp0 := Wk.pos hw w
  have hsub : ∀ z ∈ G.mds (l1 ++ l4), z ∈ u :: l.map G.hd := fun z hz' => by
    unfold Gr.mds at hz'
    obtain ⟨k, hk', rfl⟩ := List.mem_map.1 hz'
    have hk2 := List.dropLast_subset _ hk'
    refine List.mem_cons_of_mem _ (List.mem_map.2 ⟨k, ?_, rfl⟩)
    rw [e1, e5]
    rcases List.mem_append.1 hk2 with h' | h'
    · exact List.mem_append_left _ h'
    · exact List.mem_append_right _ (List.mem_append_right _ h')
  have := h.least hok ho hw hn (l1 ++ l4).length (l1 ++ l4) u v (Nat.le_refl _) hu hv hne w (fun z hz' => hall z (hsub z hz')) (by omega)
  omega
/-- Numbers below n that are all unlike are at most n. -/
theorem nodup_le : ∀ (n : Nat) (L : List Nat), L.Nodup → (∀ z ∈ L, z < n) → L.length ≤ n := by
  intro n
  induction n with
  | zero =>
    intro L _ h
    match L with
    | [] => exact Nat.le_refl _
    | z :: L => exact absurd (h z (by simp)) (by omega)
  | succ n ih =>
    intro L hd h
    have h1 := ih (L.erase n) (hd.erase n) (fun z hz => by
      have h2 := h z (List.mem_of_mem_erase hz)
      have h3 : z ≠ n := fun e => by
        subst e
        exact (hd.mem_erase_iff.1 hz).1 rfl
      omega)
    have h4 := List.length_erase_le (l := L) (a := n)
    by_cases hm : n ∈ L
    · rw [List.length_erase_of_mem hm] at h1
      omega
    · rw [List.erase_of_not_mem hm] at h1
      omega
/-- The arcs of an entry that is told: a simple walk; fewer than there are vertices. -/
theorem Whole.path {G : Gr} {x : Ix} (h : Whole G x) (hok : x.Ok) (ho : G.Ok) (hw : G.Wt) (hn : G.n = x.n) {u v : Nat} (hu : u < x.n) (hv : v < x.n) (hne : u ≠ v) (hle : (x.ent u v).w ≤ 4611686018427387904) {f : Nat} (hf : min (x.rk u) (x.rk v) < f) :
    (u :: (x.pth f u v).map G.hd).Nodup ∧ (x.pth f u v).length < x.n := by
  obtain ⟨p1, p2, p3, p4⟩ := h.pth hok ho hw hn f u v hu hv hne hf hle
  have hs := h.simple hok ho hw hn hu hv hne p1 p4 (by omega) (by omega)
  refine ⟨hs, ?_⟩
  have := nodup_le x.n _ hs (fun z hz => by
    rcases List.mem_cons.1 hz with rfl | hz
    · exact hu
    · rw [← hn]; exact Wk.hds ho p1 z hz)
  simp at this
  omega

end Go.Proofs.YtoepbhacpidcbaaGreatDoor
/- The arcs of an entry that is told, in a whole index, plain: unpacking finds them all; a shortcut's are those of its halves. -/
set_option linter.unusedVariables false
set_option linter.unusedSimpArgs false
namespace Go.Proofs.YtoepbhacpidcbaaGreatDoor
open Go.RowKit Go.Deep

theorem Ix.Fit.bld {G : Gr} {n : Nat} : ∀ (l : List (PrEl n)) (x : Ix), x.Fit → (x.bld G l).Fit := by
  intro l
  induction l with
  | nil => intro x h; exact h
  | cons p l ih => intro x h; exact ih _ (h.setI _ _ _)
theorem Ix.Fit.build {x : Ix} (h : x.Fit) (G : Gr) : (x.build G).Fit := Ix.Fit.bld _ _ h

theorem Whole.add_pth {G : Gr} {x : Ix} (h : Whole G x) (hok : x.Ok) : ∀ (f u v : Nat) (l : List Int), u < x.n → v < x.n → u ≠ v → min (x.rk u) (x.rk v) < f → (x.ent u v).w ≤ 4611686018427387904 → l.length + (x.pth f u v).length ≤ 23 →
    x.add f (u : Nat) (v : Nat) l = (l ++ (x.pth f u v).map (fun k : Nat => (k : Int)), 0) := by
  intro f
  induction f with
  | zero => intro u v l _ _ _ h; omega
  | succ f ih =>
    intro u v l hu hv hne hf hle hlen
    have hat : x.at_ (u : Nat) (v : Nat) = x.ent u v := at_nat (two_nat hu hv hne)
    have hnn : x.ent u v ≠ En.none := fun e => by rw [e] at hle; simp [En.none] at hle
    rw [Ix.pth] at hlen ⊢
    rw [Ix.add, hat, if_neg hnn]
    rcases h.cases hu hv hne with ⟨e1, _, _⟩ | ⟨e1, e2, _⟩ | ⟨j, hc, _⟩
    · exact absurd e1 hnn
    · have hm : (x.ent u v).m < 0 := by rw [e1]; show (-1 : Int) < 0; omega
      rw [if_pos hm] at hlen ⊢
      rw [if_pos hm, if_neg (by simp at hlen; omega)]
      have ha : (((x.ent u v).a.toNat : Nat) : Int) = (x.ent u v).a := by rw [e1]; exact Int.toNat_of_nonneg e2
      rw [List.map_singleton, ha]
    · have hj := hc.lo
      have hb := hok.by_ j (by have := (hok.rk u hu).1; omega)
      have hm0 : ¬ (x.ent u v).m < 0 := by rw [hc.m]; omega
      rw [if_neg hm0] at hlen ⊢
      rw [if_neg hm0]
      rw [hc.m] at hlen ⊢
      simp only [Int.toNat_natCast] at hlen ⊢
      obtain ⟨m, hm⟩ : ∃ m, x.by_ j = m := ⟨_, rfl⟩
      rw [hm] at hb hlen ⊢
      have hum : u ≠ m := fun e => by subst e; omega
      have hmv : m ≠ v := fun e => by subst e; omega
      have hs := hok.sum2_by hu hv hb.1 hum hmv
      rw [hb.2, ← hc.w, add1_two (hok.ent_b u m) (hok.ent_b m v)] at hs
      have hsum : (x.ent u v).w = (x.ent u m).w + (x.ent m v).w ∧ (x.ent u m).w + (x.ent m v).w ≤ 4611686018427387904 := by
        split at hs
        · omega
        · split at hs <;> omega
      have b1 := hok.ent_b u m
      have b2 := hok.ent_b m v
      rw [List.length_append] at hlen
      have i1 := ih u m l hu hb.1 hum (by omega) (by omega) (by omega)
      rw [i1]
      have i2 := ih m v (l ++ (x.pth f u m).map (fun k : Nat => (k : Int))) hb.1 hv hmv (by omega) (by omega) (by rw [List.length_append, List.length_map]; omega)
      rw [if_neg (by simp), i2, List.map_append, List.append_assoc]

end Go.Proofs.YtoepbhacpidcbaaGreatDoor
