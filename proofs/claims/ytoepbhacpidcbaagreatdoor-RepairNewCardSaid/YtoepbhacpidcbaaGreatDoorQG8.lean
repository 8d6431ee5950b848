/- The index that is built from nothing, plain: each entry is the right one. -/
import Derived.StillTailTactics
import Derived.Test.YtoepbhacpidcbaaGreatDoorQBase
import Derived.Test.YtoepbhacpidcbaaGreatDoorQIdx
import Derived.Test.YtoepbhacpidcbaaGreatDoorQPerm
import Derived.Test.YtoepbhacpidcbaaGreatDoorQIdxB
import Derived.Test.YtoepbhacpidcbaaGreatDoorQRef
import Derived.Test.YtoepbhacpidcbaaGreatDoorQUnref
import Derived.Test.YtoepbhacpidcbaaGreatDoorQItr
import Derived.Test.YtoepbhacpidcbaaGreatDoorQUnE
import Derived.Test.YtoepbhacpidcbaaGreatDoorQDst
import Derived.Test.YtoepbhacpidcbaaGreatDoorQLnk
import Derived.Test.YtoepbhacpidcbaaGreatDoorQLks
import Derived.Test.YtoepbhacpidcbaaGreatDoorQMid
import Derived.Test.YtoepbhacpidcbaaGreatDoorQBig
import Derived.Test.YtoepbhacpidcbaaGreatDoorQCp2
import Derived.Test.YtoepbhacpidcbaaGreatDoorQGOps
import Derived.Test.YtoepbhacpidcbaaGreatDoorQGB

set_option linter.unusedVariables false
set_option linter.unusedSimpArgs false
namespace Go.Proofs.YtoepbhacpidcbaaGreatDoor
open Go.RowKit Go.Deep

abbrev PrEl (n : Nat) := { p : Nat × Nat // p.1 < n ∧ p.2 < n ∧ p.1 ≠ p.2 }
/-- The pairs of ranks as they are set: those of one lower rank. -/
def pr1 (n lo : Nat) : Nat → List (PrEl n)
  | 0 => []
  | hi + 1 => if h : lo < hi ∧ hi < n then pr1 n lo hi ++ [⟨(lo, hi), ⟨by show lo < n; omega, h.2, by show lo ≠ hi; omega⟩⟩, ⟨(hi, lo), ⟨h.2, by show lo < n; omega, by show hi ≠ lo; omega⟩⟩] else pr1 n lo hi
def prs (n : Nat) : Nat → List (PrEl n)
  | 0 => []
  | lo + 1 => prs n lo ++ pr1 n lo n
theorem pr1_succ (n lo hi : Nat) : pr1 n lo (hi + 1) = if h : lo < hi ∧ hi < n then pr1 n lo hi ++ [⟨(lo, hi), ⟨by show lo < n; omega, h.2, by show lo ≠ hi; omega⟩⟩, ⟨(hi, lo), ⟨h.2, by show lo < n; omega, by show hi ≠ lo; omega⟩⟩] else pr1 n lo hi := rfl
theorem prs_succ (n lo : Nat) : prs n (lo + 1) = prs n lo ++ pr1 n lo n := rfl
theorem pr1_low (n lo : Nat) : ∀ k, k ≤ lo + 1 → pr1 n lo k = []
  | 0, _ => rfl
  | k + 1, h => by rw [pr1_succ, dif_neg (fun hh => by omega), pr1_low n lo k (by omega)]
theorem pr1_mem (n lo : Nat) : ∀ k (el : PrEl n), el ∈ pr1 n lo k ↔ min el.1.1 el.1.2 = lo ∧ max el.1.1 el.1.2 < k
  | 0, el => by simp [pr1]
  | k + 1, el => by
    obtain ⟨⟨a, b⟩, ha, hb, hne⟩ := el
    simp only at ha hb hne
    rw [pr1_succ]
    split
    · rename_i h
      rw [List.mem_append, pr1_mem n lo k]
      simp only [List.mem_cons, List.not_mem_nil, or_false, Subtype.mk.injEq, Prod.mk.injEq]
      omega
    · rename_i h
      rw [pr1_mem n lo k]
      simp only
      omega
theorem prs_mem (n : Nat) : ∀ k (el : PrEl n), el ∈ prs n k ↔ min el.1.1 el.1.2 < k
  | 0, el => by simp [prs]
  | k + 1, el => by
    have := el.2
    rw [prs_succ, List.mem_append, prs_mem n k el, pr1_mem]
    omega
theorem prs_all (n : Nat) (el : PrEl n) : el ∈ prs n n := by
  rw [prs_mem]
  have := el.2
  omega
theorem pr1_pw (n lo : Nat) : ∀ k, (pr1 n lo k).Pairwise (fun p q => p ≠ q)
  | 0 => List.Pairwise.nil
  | k + 1 => by
    rw [pr1_succ]
    split
    · rename_i h
      rw [List.pairwise_append]
      refine ⟨pr1_pw n lo k, ?_, ?_⟩
      · refine List.pairwise_pair.2 fun e => ?_
        simp only [Subtype.mk.injEq, Prod.mk.injEq] at e
        omega
      · intro a ha b hb e
        rw [pr1_mem] at ha
        simp only [List.mem_cons, List.not_mem_nil, or_false] at hb
        rcases hb with rfl | rfl <;> subst e <;> simp only at ha <;> omega
    · exact pr1_pw n lo k
def prR (n : Nat) (p q : PrEl n) : Prop := min p.1.1 p.1.2 ≤ min q.1.1 q.1.2 ∧ p ≠ q
theorem prs_pw (n : Nat) : ∀ k, (prs n k).Pairwise (prR n)
  | 0 => List.Pairwise.nil
  | k + 1 => by
    rw [prs_succ, List.pairwise_append]
    refine ⟨prs_pw n k, ?_, ?_⟩
    · refine List.Pairwise.imp_of_mem ?_ (pr1_pw n k n)
      intro a b ha hb h
      rw [pr1_mem] at ha hb
      exact ⟨by omega, h⟩
    · intro a ha b hb
      rw [prs_mem] at ha
      rw [pr1_mem] at hb
      exact ⟨by omega, fun e => by subst e; omega⟩
theorem pr1_pre (n lo b : Nat) : ∀ d, pr1 n lo b <+: pr1 n lo (b + d)
  | 0 => List.prefix_refl _
  | d + 1 => by
    have := pr1_pre n lo b d
    show pr1 n lo b <+: pr1 n lo ((b + d) + 1)
    rw [pr1_succ]
    split
    · exact this.trans (List.prefix_append _ _)
    · exact this
theorem prs_pre (n a : Nat) : ∀ d, prs n a <+: prs n (a + d)
  | 0 => List.prefix_refl _
  | d + 1 => (prs_pre n a d).trans (by show prs n (a + d) <+: prs n ((a + d) + 1); rw [prs_succ]; exact List.prefix_append _ _)
theorem prs_at (n a b : Nat) (ha : a < n) (hb : b ≤ n) : prs n a ++ pr1 n a b <+: prs n n := by
  have h1 := pr1_pre n a b (n - b)
  rw [show b + (n - b) = n by omega] at h1
  have h2 := prs_pre n (a + 1) (n - (a + 1))
  rw [show a + 1 + (n - (a + 1)) = n by omega, prs_succ] at h2
  exact ((List.prefix_append_right_inj _).2 h1).trans h2

/-- A graph's arcs have weights that may be. -/
def Gr.Wt (G : Gr) : Prop := ∀ i, i < 64 → G.tk i = true → 1 ≤ (G.arc i).w ∧ (G.arc i).w ≤ 4611686018427387904

theorem Ix.set_two (x : Ix) (u v : Nat) (e : En) (a b : Int) : (x.set u v e).two a b = x.two a b := rfl
theorem Ix.set_at (x : Ix) (u v : Nat) (e : En) (a b : Nat) (h : ¬ (a = u ∧ b = v)) : (x.set u v e).at_ (a : Nat) (b : Nat) = x.at_ (a : Nat) (b : Nat) := by
  unfold Ix.at_
  rw [Ix.set_two]
  by_cases ht : x.two (a : Nat) (b : Nat) = true
  · rw [if_pos ht, if_pos ht]
    show (if a = u ∧ b = v then e else x.ent a b) = x.ent a b
    rw [if_neg h]
  · rw [if_neg ht, if_neg ht]
theorem Ix.rl_congr {x y : Ix} (hb : y.by_ = x.by_) {u v : Int} : ∀ k, (∀ i, i < k → y.sum2 u v i = x.sum2 u v i) → y.rl u v k = x.rl u v k := by
  intro k
  induction k with
  | zero => intro _; rfl
  | succ k ih =>
    intro h
    rw [Ix.rl, Ix.rl, ih (fun i hi => h i (by omega)), h k (by omega), hb]
theorem Ix.best_congr {x y : Ix} (hn : y.n = x.n) (hr : y.rk = x.rk) (hb : y.by_ = x.by_) {u v : Int} (d : Int × Int) (hd : d.1 ≤ 4611686018427387906) (h : ∀ i, i < min (x.rk u.toNat) (x.rk v.toNat) → y.sum2 u v i = x.sum2 u v i) : y.best u v d = x.best u v d := by
  rw [Ix.rbest_eq _ _ _ _ hd, Ix.rbest_eq _ _ _ _ hd]
  have ht : y.two u v = x.two u v := by unfold Ix.two; rw [hn]
  unfold Ix.rbest
  rw [ht, hr, Ix.rl_congr hb _ h]

/-- The first least sum by way of a lower vertex. -/
theorem Ix.rl_fst (x : Ix) (u v : Int) : ∀ k, (x.rl u v k = (4611686018427387906, -1) ∧ ∀ i, i < k → 4611686018427387906 ≤ x.sum2 u v i) ∨
    ∃ j, j < k ∧ x.rl u v k = (x.sum2 u v j, ((x.by_ j : Nat) : Int)) ∧ x.sum2 u v j < 4611686018427387906 ∧ (∀ i, i < k → x.sum2 u v j ≤ x.sum2 u v i) ∧ ∀ i, i < j → x.sum2 u v j < x.sum2 u v i := by
  intro k
  induction k with
  | zero => exact .inl ⟨rfl, fun i hi => by omega⟩
  | succ k ih =>
    rw [Ix.rl]
    rcases ih with ⟨e, h⟩ | ⟨j, hj, e, h1, h2, h3⟩
    · rw [e]
      by_cases hc : x.sum2 u v k < 4611686018427387906
      · rw [if_pos hc]
        refine .inr ⟨k, by omega, rfl, hc, fun i hi => ?_, fun i hi => ?_⟩
        · rcases Nat.lt_or_ge i k with h' | h'
          · have := h i h'; omega
          · rw [show i = k by omega]; exact Int.le_refl _
        · have := h i hi; omega
      · rw [if_neg hc]
        refine .inl ⟨rfl, fun i hi => ?_⟩
        rcases Nat.lt_or_ge i k with h' | h'
        · exact h i h'
        · rw [show i = k by omega]; omega
    · rw [e]
      by_cases hc : x.sum2 u v k < x.sum2 u v j
      · rw [if_pos hc]
        refine .inr ⟨k, by omega, rfl, by omega, fun i hi => ?_, fun i hi => ?_⟩
        · rcases Nat.lt_or_ge i k with h' | h'
          · have := h2 i h'; omega
          · rw [show i = k by omega]; exact Int.le_refl _
        · have := h2 i hi; omega
      · rw [if_neg hc]
        refine .inr ⟨j, by omega, rfl, h1, fun i hi => ?_, h3⟩
        rcases Nat.lt_or_ge i k with h' | h'
        · exact h2 i h'
        · rw [show i = k by omega]; omega

theorem Ix.Ok.rk_by {x : Ix} (h : x.Ok) {r : Nat} (hr : r < x.n) : x.rk (x.by_ r) = r := (h.by_ r hr).2
theorem Ix.Ok.at_b {x : Ix} (h : x.Ok) (u v : Int) : 1 ≤ (x.at_ u v).w ∧ (x.at_ u v).w ≤ 4611686018427387906 := by
  unfold Ix.at_
  split
  · exact ⟨(h.ent _ _).w1, (h.ent _ _).w2⟩
  · exact ⟨by decide, by decide⟩
theorem add1_two {a b : Int} (ha : 1 ≤ a ∧ a ≤ 4611686018427387906) (hb : 1 ≤ b ∧ b ≤ 4611686018427387906) :
    add1 (add1 0 a) b = if a = 4611686018427387906 ∨ b = 4611686018427387906 then 4611686018427387906 else if 4611686018427387904 < a + b then 4611686018427387905 else a + b := by
  have ea : normI a = a := norm_id ⟨by omega, ha.2⟩
  have eb : normI b = b := norm_id ⟨by omega, hb.2⟩
  rw [add1_zero, ea]
  unfold add1
  rw [eb]
  by_cases h : a = 4611686018427387906 ∨ b = 4611686018427387906
  · rw [if_pos h, if_pos h]
  · rw [if_neg h, if_neg h]
    by_cases h2 : 4611686018427387904 < a + b
    · rw [if_pos h2, if_pos (by omega)]
    · rw [if_neg h2, if_neg (by omega)]
theorem Ix.Ok.sum2_b {x : Ix} (h : x.Ok) (u v : Int) (k : Nat) : 1 ≤ x.sum2 u v k ∧ x.sum2 u v k ≤ 4611686018427387906 := by
  have ha := h.at_b u (x.by_ k : Nat)
  have hb := h.at_b (x.by_ k : Nat) v
  unfold Ix.sum2
  rw [add1_two ha hb]
  split
  · omega
  · split <;> omega
theorem Gr.best_wt {G : Gr} (hw : G.Wt) (u v : Int) : G.best u v = (4611686018427387906, -1) ∨ (1 ≤ (G.best u v).1 ∧ (G.best u v).1 ≤ 4611686018427387904 ∧ 0 ≤ (G.best u v).2 ∧ (G.best u v).2 < 64) := by
  rcases G.best_is u v with e | ⟨k, hk, htk, _, _, _, _, e⟩
  · exact .inl e
  · have := hw k hk htk
    rw [e]
    exact .inr ⟨this.1, this.2, by show (0 : Int) ≤ (k : Nat); omega, by show ((k : Nat) : Int) < 64; omega⟩
/-- The right entry may be there. -/
theorem Ix.Ok.best_may {x : Ix} (h : x.Ok) {u v : Nat} (ht : x.two (u : Nat) (v : Nat) = true) {d : Int × Int} (hd : d = (4611686018427387906, -1) ∨ (1 ≤ d.1 ∧ d.1 ≤ 4611686018427387904 ∧ 0 ≤ d.2 ∧ d.2 < 64)) : x.May (u : Nat) (v : Nat) (x.best (u : Nat) (v : Nat) d) := by
  obtain ⟨_, _, hu, _, hv⟩ := two_iff ht
  have hu' : u < x.n := by omega
  have hv' : v < x.n := by omega
  have hru := (h.rk u hu').1
  have hrv := (h.rk v hv').1
  have hd1 : d.1 ≤ 4611686018427387906 := by rcases hd with e | e; rw [e]; exact Int.le_refl _; omega
  rw [Ix.rbest_eq _ _ _ _ hd1]
  unfold Ix.rbest
  rw [if_pos ht]
  simp only [Int.toNat_natCast]
  by_cases h1 : 0 ≤ d.2 ∧ d.1 ≤ (x.rl (u : Nat) (v : Nat) (min (x.rk u) (x.rk v))).1
  · rw [if_pos h1]
    rcases hd with e | e
    · rw [e] at h1; simp at h1
    · exact .inr ⟨e.1, by show d.1 ≤ _; omega, .inl ⟨rfl, e.2.2.1, e.2.2.2⟩⟩
  · rw [if_neg h1]
    rcases x.rl_fst (u : Nat) (v : Nat) (min (x.rk u) (x.rk v)) with ⟨e, _⟩ | ⟨j, hj, e, hlt, _, _⟩
    · rw [e, if_neg (by simp)]
      exact .inl ⟨rfl, rfl, rfl⟩
    · rw [e, if_pos (by show (0 : Int) ≤ (x.by_ j : Nat); omega)]
      have hb := h.by_ j (by omega)
      have hrm : x.rank (x.by_ j : Nat) = (j : Nat) := by unfold Ix.rank; rw [if_pos ⟨by omega, by omega⟩, Int.toNat_natCast, hb.2]
      have hr1 : x.rank (u : Nat) = (x.rk u : Nat) := by unfold Ix.rank; rw [if_pos ⟨by omega, by omega⟩, Int.toNat_natCast]
      have hr2 : x.rank (v : Nat) = (x.rk v : Nat) := by unfold Ix.rank; rw [if_pos ⟨by omega, by omega⟩, Int.toNat_natCast]
      refine .inr ⟨(h.sum2_b _ _ _).1, by show x.sum2 _ _ _ ≤ _; omega, .inr ⟨by show ((x.by_ j : Nat) : Int) ≠ -1; omega, rfl, ?_, ?_, ?_⟩⟩
      · show 0 ≤ x.rank (x.by_ j : Nat); rw [hrm]; omega
      · show x.rank (x.by_ j : Nat) < _; rw [hrm, hr1]; omega
      · show x.rank (x.by_ j : Nat) < _; rw [hrm, hr2]; omega

/-- One step: the entry between two ranks is the right one. -/
def Ix.bstep (G : Gr) (y : Ix) (p : Nat × Nat) : Ix := y.setI (y.by_ p.1 : Nat) (y.by_ p.2 : Nat) (y.best (y.by_ p.1 : Nat) (y.by_ p.2 : Nat) (G.best (y.by_ p.1 : Nat) (y.by_ p.2 : Nat)))
def Ix.bld (x : Ix) (G : Gr) {n : Nat} (l : List (PrEl n)) : Ix := l.foldl (fun y el => y.bstep G el.1) x
theorem Ix.bstep_n (G : Gr) (y : Ix) (p : Nat × Nat) : (y.bstep G p).n = y.n := Ix.setI_n _ _ _ _
theorem Ix.bstep_rk (G : Gr) (y : Ix) (p : Nat × Nat) : (y.bstep G p).rk = y.rk := Ix.setI_rk _ _ _ _
theorem Ix.bstep_by (G : Gr) (y : Ix) (p : Nat × Nat) : (y.bstep G p).by_ = y.by_ := Ix.setI_by _ _ _ _
theorem Ix.bld_shape (G : Gr) {n : Nat} : ∀ (l : List (PrEl n)) (x : Ix), (x.bld G l).n = x.n ∧ (x.bld G l).rk = x.rk ∧ (x.bld G l).by_ = x.by_ := by
  intro l
  induction l with
  | nil => intro x; exact ⟨rfl, rfl, rfl⟩
  | cons p l ih =>
    intro x
    have := ih (x.bstep G p.1)
    rw [Ix.bstep_n, Ix.bstep_rk, Ix.bstep_by] at this
    exact this
theorem Ix.bld_snoc (x : Ix) (G : Gr) {n : Nat} (l : List (PrEl n)) (el : PrEl n) : x.bld G (l ++ [el]) = (x.bld G l).bstep G el.1 := by unfold Ix.bld; rw [List.foldl_append]; rfl
theorem Ix.Ok.set {x : Ix} (h : x.Ok) (u v : Nat) {e : En} (he : e.Ok) : (x.set u v e).Ok :=
  ⟨h.n1, h.n2, h.rk, h.by_, fun a b => by show (if a = u ∧ b = v then e else x.ent a b).Ok; split; exact he; exact h.ent a b⟩
theorem Ix.Ok.by_inj {x : Ix} (h : x.Ok) {a b : Nat} (ha : a < x.n) (hb : b < x.n) (e : x.by_ a = x.by_ b) : a = b := by
  rw [← (h.by_ a ha).2, ← (h.by_ b hb).2, e]
theorem Ix.Ok.two_by {x : Ix} (h : x.Ok) {a b : Nat} (ha : a < x.n) (hb : b < x.n) (hne : a ≠ b) : x.two (x.by_ a : Nat) (x.by_ b : Nat) = true := by
  have h1 := h.by_ a ha
  have h2 := h.by_ b hb
  unfold Ix.two
  simp only [decide_eq_true_eq]
  refine ⟨fun e => hne (h.by_inj ha hb (by omega)), by omega, by omega, by omega, by omega⟩
theorem Ix.Ok.bstep_set {x : Ix} (h : x.Ok) {G : Gr} (hw : G.Wt) (p : PrEl x.n) : x.bstep G p.1 = x.set (x.by_ p.1.1) (x.by_ p.1.2) (x.best (x.by_ p.1.1 : Nat) (x.by_ p.1.2 : Nat) (G.best (x.by_ p.1.1 : Nat) (x.by_ p.1.2 : Nat))) := by
  have ht := h.two_by p.2.1 p.2.2.1 p.2.2.2
  have hm := h.best_may ht (d := G.best (x.by_ p.1.1 : Nat) (x.by_ p.1.2 : Nat)) (G.best_wt hw _ _)
  unfold Ix.bstep Ix.setI
  rw [if_pos ⟨ht, hm⟩]; rfl
theorem Ix.Ok.bstep_ok {x : Ix} (h : x.Ok) {G : Gr} (hw : G.Wt) (p : PrEl x.n) : (x.bstep G p.1).Ok := by
  have ht := h.two_by p.2.1 p.2.2.1 p.2.2.2
  rw [h.bstep_set hw p]
  exact h.set _ _ (h.may_ok (h.best_may ht (G.best_wt hw _ _)))
/-- Is the entry between two ranks the right one? -/
def Ix.RightAt (x : Ix) (G : Gr) (p : Nat × Nat) : Prop := x.ent (x.by_ p.1) (x.by_ p.2) = x.best (x.by_ p.1 : Nat) (x.by_ p.2 : Nat) (G.best (x.by_ p.1 : Nat) (x.by_ p.2 : Nat))
theorem Ix.Ok.bstep_best {x : Ix} (h : x.Ok) {G : Gr} (hw : G.Wt) (p q : PrEl x.n) (hpq : min q.1.1 q.1.2 ≤ min p.1.1 p.1.2) :
    (x.bstep G p.1).best (x.by_ q.1.1 : Nat) (x.by_ q.1.2 : Nat) (G.best (x.by_ q.1.1 : Nat) (x.by_ q.1.2 : Nat)) = x.best (x.by_ q.1.1 : Nat) (x.by_ q.1.2 : Nat) (G.best (x.by_ q.1.1 : Nat) (x.by_ q.1.2 : Nat)) := by
  obtain ⟨p1, p2, p3⟩ := p.2
  obtain ⟨q1, q2, q3⟩ := q.2
  refine Ix.best_congr (Ix.bstep_n _ _ _) (Ix.bstep_rk _ _ _) (Ix.bstep_by _ _ _) _ (G.best_le _ _) (fun i hi => ?_)
  simp only [Int.toNat_natCast] at hi
  rw [h.rk_by q1, h.rk_by q2] at hi
  rw [h.bstep_set hw p]
  unfold Ix.sum2
  rw [Ix.set_at, Ix.set_at]
  · rfl
  · rintro ⟨e1, e2⟩
    have := h.by_inj (show i < x.n by omega) p1 e1
    omega
  · rintro ⟨e1, e2⟩
    have := h.by_inj (show i < x.n by omega) p2 e2
    omega
theorem Ix.Ok.bld_right {G : Gr} (hw : G.Wt) {n : Nat} : ∀ (l : List (PrEl n)) (done : List (PrEl n)) (x : Ix), x.Ok → x.n = n → (done ++ l).Pairwise (prR n) → (∀ q ∈ done, x.RightAt G q.1) → (x.bld G l).Ok ∧ ∀ q ∈ done ++ l, (x.bld G l).RightAt G q.1 := by
  intro l
  induction l with
  | nil => intro done x h _ _ hd; exact ⟨h, by simpa [Ix.bld] using hd⟩
  | cons p l ih =>
    intro done x h hn hp hd
    subst hn
    have hok := h.bstep_ok hw p
    have hstep := ih (done ++ [p]) (x.bstep G p.1) hok (Ix.bstep_n _ _ _) (by simpa using hp) ?_
    · rw [List.append_assoc] at hstep
      exact hstep
    · intro q hq
      rw [List.pairwise_append] at hp
      have hqp : min q.1.1 q.1.2 ≤ min p.1.1 p.1.2 ∧ (q ≠ p ∨ q = p) := by
        rcases List.mem_append.1 hq with h1 | h1
        · have := hp.2.2 q h1 p (by simp)
          exact ⟨this.1, .inl this.2⟩
        · obtain rfl := List.mem_singleton.1 h1
          exact ⟨Nat.le_refl _, .inr rfl⟩
      unfold Ix.RightAt
      rw [Ix.bstep_by, h.bstep_best hw p q hqp.1]
      obtain ⟨p1, p2, p3⟩ := p.2
      obtain ⟨q1, q2, q3⟩ := q.2
      by_cases e : q = p
      · subst e
        rw [h.bstep_set hw q]
        show (if _ ∧ _ then _ else _) = _
        rw [if_pos ⟨rfl, rfl⟩]
      · have hqd : q ∈ done := by
          rcases List.mem_append.1 hq with h1 | h1
          · exact h1
          · exact absurd (List.mem_singleton.1 h1) e
        rw [h.bstep_set hw p]
        show (if _ ∧ _ then _ else _) = _
        rw [if_neg]
        · exact hd q hqd
        · rintro ⟨e1, e2⟩
          exact e (Subtype.ext (Prod.ext (h.by_inj q1 p1 e1) (h.by_inj q2 p2 e2)))

/-- Each entry is the right one. -/
def Whole (G : Gr) (x : Ix) : Prop := ∀ u v : Nat, u < x.n → v < x.n → u ≠ v → x.ent u v = x.best (u : Nat) (v : Nat) (G.best (u : Nat) (v : Nat))
/-- The index of a graph and an order. -/
def Ix.build (x : Ix) (G : Gr) : Ix := x.bld G (prs x.n x.n)
theorem Ix.build_n (x : Ix) (G : Gr) : (x.build G).n = x.n := (Ix.bld_shape G _ x).1
theorem Ix.build_rk (x : Ix) (G : Gr) : (x.build G).rk = x.rk := (Ix.bld_shape G _ x).2.1
theorem Ix.build_by (x : Ix) (G : Gr) : (x.build G).by_ = x.by_ := (Ix.bld_shape G _ x).2.2
theorem Ix.Ok.build_whole {x : Ix} (h : x.Ok) {G : Gr} (hw : G.Wt) : (x.build G).Ok ∧ Whole G (x.build G) := by
  obtain ⟨h1, h2⟩ := Ix.Ok.bld_right hw (prs x.n x.n) [] x h rfl (by simpa using prs_pw x.n x.n) (fun q hq => by cases hq)
  refine ⟨h1, fun u v hu hv hne => ?_⟩
  rw [Ix.build_n] at hu hv
  have ru := h.rk u hu
  have rv := h.rk v hv
  have := h2 ⟨(x.rk u, x.rk v), ru.1, rv.1, fun e => hne (h.inj hu hv e)⟩ (by simpa using prs_all _ _)
  unfold Ix.RightAt at this
  rw [(Ix.bld_shape G (prs x.n x.n) x).2.2] at this
  simp only [ru.2, rv.2] at this
  exact this

end Go.Proofs.YtoepbhacpidcbaaGreatDoor
/- A new graph, and the document's; walked. -/
set_option linter.unusedVariables false
set_option linter.unusedSimpArgs false
namespace Go.Proofs.YtoepbhacpidcbaaGreatDoor
open Go.RowKit Go.Deep

def Gr.zero (n m : Nat) : Gr := ⟨n, m, fun _ => ⟨0, 0, 0, false⟩, fun _ => false⟩
theorem sel_none {p : Nat → Bool} (h : ∀ i, p i = false) : sel p = [] := by
  unfold sel
  rw [List.filter_eq_nil_iff.2 (fun i _ => by rw [h i]; simp)]; rfl
theorem Gr.zero_lst (n m q : Nat) : (Gr.zero n m).lst q = [] := sel_none (fun i => rfl)
theorem Gr.zero_cnt (n m : Nat) : (Gr.zero n m).cnt = 0 := by unfold Gr.cnt; rw [sel_none (p := (Gr.zero n m).tk) (fun i => rfl)]; rfl

set_option maxRecDepth 100000 in
theorem gz4_all : ((List.range 64).all fun i => isF (Tryz.zeroCells197[i * 5 + 4]!)) = true := by kernel_rfl
set_option maxRecDepth 100000 in
theorem gz321 : Tryz.zeroCells197[321]? = some (.int .i64 0) := by kernel_rfl
theorem gz4 (i : Nat) (hi : i < 64) : Tryz.zeroCells197[i * 5 + 4]? = some (.bool false) := by
  have hs := Tryz.zeroCells197_size
  have h := List.all_eq_true.1 gz4_all i (by simpa using hi)
  have hl : i * 5 + 4 < Tryz.zeroCells197.size := by omega
  rw [Array.getElem?_eq_getElem hl, ← isF_eq h]; exact congrArg some (getElem!_pos Tryz.zeroCells197 _ hl).symm
theorem gz_slot (n m i : Nat) (hi : i < 320) : Tryz.zeroCells197[i]? = some ((Gr.zero n m).slot (i / 5) (i % 5)) := by
  obtain ⟨j, d, hd, hj, rfl⟩ : ∃ j d, d < 5 ∧ j < 64 ∧ i = j * 5 + d := ⟨i / 5, i % 5, Nat.mod_lt _ (by omega), by omega, by omega⟩
  rw [show (j * 5 + d) / 5 = j by omega, show (j * 5 + d) % 5 = d by omega]
  obtain ⟨z0, z1, z2, z3⟩ := gz j hj
  match d, hd with
  | 0, _ => exact z0
  | 1, _ => exact z1
  | 2, _ => exact z2
  | 3, _ => exact z3
  | 4, _ => exact gz4 j hj

set_option maxRecDepth 100000 in
set_option maxHeartbeats 4000000 in
theorem gnew2_calls (n m : Nat) (h1 : 1 ≤ n) (h2 : n ≤ 24) (h3 : 1 ≤ m) (h4 : m ≤ 64) (w : World) :
    Calls Tryz.prog 53 #[.int .i64 (n : Nat), .int .i64 (m : Nat)] w fun e w' => ∃ L : GLoc, e = .returned (.tuple #[.pointer (some ⟨L.b, 0, none⟩), .int .i64 0]) ∧ GMem w' L (Gr.zero n m) ∧ Fr No w w' ∧ ∀ j, L.own n j → w.heap.size ≤ j := by
  have hmk := run_make_ends n (by omega)
  go_enter Tryz.func53, Tryz.ntmps53
  go_wp2
  go_ret2
  refine ⟨⟨w.heap.size + 1, w.heap.size, fun _ => none, fun _ => 0⟩, rfl, LMem.gm ⟨h1, h2, h3, h4, fun i _ h => by cases h⟩ ⟨_, heap_alloc2' w _ _, by simp [Tryz.zeroCells197_size], fun i hi => ?_⟩ ⟨⟨_, heap_alloc2 w _ _, by simp [madeCells, Gr.zero]; omega, fun i hi => ?_⟩, fun q hq => ⟨Gr.zero_lst n m q, rfl⟩, ⟨by simp, fun q k hq hk => by cases hk⟩, fun p q k _ _ hp => by cases hp⟩, ((Fr.refl _ _).alloc _).alloc _, ?_⟩
  · have hs := Tryz.zeroCells197_size
    rw [Array.getElem?_setIfInBounds, Array.getElem?_setIfInBounds, Gr.cell_eq, Gr.zero_cnt]
    unfold Gr.cellN
    by_cases e2 : 322 = i
    · subst e2
      rw [if_pos rfl, if_pos (by simp [hs]), if_neg (by omega), if_neg (by omega), if_neg (by omega)]; rfl
    · rw [if_neg e2]
      by_cases e0 : 320 = i
      · subst e0
        rw [if_pos rfl, if_pos (by simp [hs]), if_neg (by omega), if_pos rfl]; rfl
      · rw [if_neg e0]
        by_cases e1 : i < 320
        · rw [if_pos e1]; exact gz_slot n m i e1
        · rw [if_neg e1, if_neg (Ne.symm e0), if_pos (show i = 321 by omega), show i = 321 by omega]; exact gz321
  · exact made_ends n i (by have : i < 2 * n := hi; omega)
  · rintro j (e | e | ⟨q, hq, e⟩)
    · simp at e; omega
    · simp at e; omega
    · cases e

set_option maxRecDepth 100000 in
theorem rz_all : (((List.range 64).all fun i => isF (Tryz.zeroCells52[2 + i]!)) && ((List.range 64).all fun i => isZ (Tryz.zeroCells52[66 + i * 4]!) && isZ (Tryz.zeroCells52[66 + i * 4 + 1]!) && isZ (Tryz.zeroCells52[66 + i * 4 + 2]!) && isF (Tryz.zeroCells52[66 + i * 4 + 3]!))) = true := by kernel_rfl
theorem rz_cell (n m i : Nat) (h2 : 2 ≤ i) (hi : i < 322) : Tryz.zeroCells52[i]? = some ((Gr.zero n m).rcell i) := by
  have hs := Tryz.zeroCells52_size
  have h := rz_all
  rw [Bool.and_eq_true] at h
  have key : ∀ j, j < 322 → Tryz.zeroCells52[j]? = some (Tryz.zeroCells52[j]!) := fun j hj => by
    have hl : j < Tryz.zeroCells52.size := by omega
    rw [Array.getElem?_eq_getElem hl]; exact congrArg some (getElem!_pos Tryz.zeroCells52 j hl).symm
  rw [key i hi]
  by_cases h66 : i < 66
  · obtain ⟨j, rfl⟩ : ∃ j, i = 2 + j := ⟨i - 2, by omega⟩
    rw [Gr.rcell_tk _ j (by omega), isF_eq (List.all_eq_true.1 h.1 j (List.mem_range.2 (by omega)))]; rfl
  · obtain ⟨j, d, hd, rfl⟩ : ∃ j d, d < 4 ∧ i = 66 + j * 4 + d := ⟨(i - 66) / 4, (i - 66) % 4, Nat.mod_lt _ (by omega), by omega⟩
    rw [Gr.rcell_arc _ j d hd]
    have hh := List.all_eq_true.1 h.2 j (List.mem_range.2 (by omega))
    simp only [Bool.and_eq_true] at hh
    match d, hd with
    | 0, _ => rw [Nat.add_zero, isZ_eq hh.1.1.1]; rfl
    | 1, _ => rw [isZ_eq hh.1.1.2]; rfl
    | 2, _ => rw [isZ_eq hh.1.2]; rfl
    | 3, _ => rw [isF_eq hh.2]; rfl

set_option maxRecDepth 100000 in
set_option maxHeartbeats 4000000 in
theorem rgnew_calls (n m : Nat) (w : World) :
    Calls Tryz.prog 59 #[.int .i64 (n : Nat), .int .i64 (m : Nat)] w fun e w' => ∃ b : Nat, e = .returned (.pointer (some ⟨b, 0, none⟩)) ∧ RGM w' b (Gr.zero n m) ∧ Fr No w w' ∧ w.heap.size ≤ b := by
  go_enter Tryz.func59, Tryz.ntmps59
  go_wp2
  go_ret
  refine ⟨w.heap.size, rfl, ⟨_, heap_new w _, by simp [Tryz.zeroCells52_size], fun i hi => ?_⟩, (Fr.refl _ _).alloc _, Nat.le_refl _⟩
  rw [Array.getElem?_setIfInBounds, Array.getElem?_setIfInBounds]
  have hs := Tryz.zeroCells52_size
  by_cases e1 : 1 = i
  · subst e1
    rw [if_pos rfl, if_pos (by simp [hs])]; rfl
  · rw [if_neg e1]
    by_cases e0 : 0 = i
    · subst e0
      rw [if_pos rfl, if_pos (by simp [hs])]; rfl
    · rw [if_neg e0]; exact rz_cell n m i (by omega) hi

end Go.Proofs.YtoepbhacpidcbaaGreatDoor

/- An insertion into the document's graph; a change of either graph; both graphs behind changes; walked. -/
set_option linter.unusedVariables false
set_option linter.unusedSimpArgs false
namespace Go.Proofs.YtoepbhacpidcbaaGreatDoor
open Go.RowKit Go.Deep

theorem Gr.put_set (G : Gr) (k : Nat) (a : Arc4) (h : G.icode (k : Nat) a = 0) : G.put (k : Nat) a = G.set k a true := by
  unfold Gr.put; rw [if_pos h]; rfl

set_option maxRecDepth 100000 in
set_option maxHeartbeats 2000000 in
theorem rgins_a {w : World} {b : Nat} {G : Gr} (h : RGM w b G) (id : Int) (a : Arc4) (h0 : id < 0) :
    Calls Tryz.prog 125 #[.pointer (some ⟨b, 0, none⟩), .int .i64 id, .agg #[.int .i64 a.t, .int .i64 a.h, .int .i64 a.w, .bool a.c]] w fun e w' => e = .returned (.int .i64 1) ∧ Fr No w w' := by
  have e0' : decide (id < 0) = true := by simpa using h0
  have f0 : Fr No w (w.alloc (.cells #[.int .i64 a.t, .int .i64 a.h, .int .i64 a.w, .bool a.c] 49)) := (Fr.refl No w).alloc _
  have hA := heap_new w (.cells #[.int .i64 a.t, .int .i64 a.h, .int .i64 a.w, .bool a.c] 49)
  have a0 := cell_of hA 0
  have a1 := cell_of hA 1
  have a2 := cell_of hA 2
  have a3 := cell_of hA 3
  have F0 := hid f0
  have H0 := hid (h.no f0)
  have hzA : w.heap.size < (w.alloc (.cells #[.int .i64 a.t, .int .i64 a.h, .int .i64 a.w, .bool a.c] 49)).heap.size := by simp
  clear h f0 hA
  simp at a0 a1 a2 a3
  go_enter Tryz.func125, Tryz.ntmps125
  go_wp2
  go_ret
  exact ⟨rfl, F0.out⟩

set_option maxRecDepth 100000 in
set_option maxHeartbeats 2000000 in
theorem rgins_b {w : World} {b : Nat} {G : Gr} (h : RGM w b G) (id : Int) (a : Arc4) (h0 : 63 < id) :
    Calls Tryz.prog 125 #[.pointer (some ⟨b, 0, none⟩), .int .i64 id, .agg #[.int .i64 a.t, .int .i64 a.h, .int .i64 a.w, .bool a.c]] w fun e w' => e = .returned (.int .i64 1) ∧ Fr No w w' := by
  have e0 : ¬ id < 0 := by omega
  have e0' : decide (id < 0) = false := by simp; omega
  have e1' : decide (63 < id) = true := by simpa using h0
  have f0 : Fr No w (w.alloc (.cells #[.int .i64 a.t, .int .i64 a.h, .int .i64 a.w, .bool a.c] 49)) := (Fr.refl No w).alloc _
  have hA := heap_new w (.cells #[.int .i64 a.t, .int .i64 a.h, .int .i64 a.w, .bool a.c] 49)
  have a0 := cell_of hA 0
  have a1 := cell_of hA 1
  have a2 := cell_of hA 2
  have a3 := cell_of hA 3
  have F0 := hid f0
  have H0 := hid (h.no f0)
  have hzA : w.heap.size < (w.alloc (.cells #[.int .i64 a.t, .int .i64 a.h, .int .i64 a.w, .bool a.c] 49)).heap.size := by simp
  clear h f0 hA
  simp at a0 a1 a2 a3
  go_enter Tryz.func125, Tryz.ntmps125
  go_wp2
  go_ret
  exact ⟨rfl, F0.out⟩

set_option maxRecDepth 100000 in
set_option maxHeartbeats 2000000 in
theorem rgins_1 {w : World} {b : Nat} {G : Gr} (h : RGM w b G) (id : Int) (a : Arc4) (h0 : (0 ≤ id ∧ id < 64)) (h1 : ¬ (0 ≤ a.t ∧ a.t < G.n)) :
    Calls Tryz.prog 125 #[.pointer (some ⟨b, 0, none⟩), .int .i64 id, .agg #[.int .i64 a.t, .int .i64 a.h, .int .i64 a.w, .bool a.c]] w fun e w' => e = .returned (.int .i64 1) ∧ Fr No w w' := by
  have e0 : ¬ id < 0 := by omega
  have e1 : ¬ 63 < id := by omega
  have e0' : decide (id < 0) = false := by simp; omega
  have e1' : decide (63 < id) = false := by simp; omega
  have d1 : decide (0 ≤ a.t ∧ a.t < G.n) = false := decide_eq_false h1
  have f0 : Fr No w (w.alloc (.cells #[.int .i64 a.t, .int .i64 a.h, .int .i64 a.w, .bool a.c] 49)) := (Fr.refl No w).alloc _
  have hA := heap_new w (.cells #[.int .i64 a.t, .int .i64 a.h, .int .i64 a.w, .bool a.c] 49)
  have a0 := cell_of hA 0
  have a1 := cell_of hA 1
  have a2 := cell_of hA 2
  have a3 := cell_of hA 3
  have F0 := hid f0
  have H0 := hid (h.no f0)
  have hzA : w.heap.size < (w.alloc (.cells #[.int .i64 a.t, .int .i64 a.h, .int .i64 a.w, .bool a.c] 49)).heap.size := by simp
  clear h f0 hA
  simp at a0 a1 a2 a3
  go_enter Tryz.func125, Tryz.ntmps125
  go_wp2_with fail
  refine (rgvertex_calls H0.out a.t).mono ?_
  rintro e w1 ⟨rfl, rfl⟩
  rw [d1]
  go_wp2
  go_ret
  exact ⟨rfl, F0.out⟩

set_option maxRecDepth 100000 in
set_option maxHeartbeats 2000000 in
theorem rgins_2 {w : World} {b : Nat} {G : Gr} (h : RGM w b G) (id : Int) (a : Arc4) (h0 : (0 ≤ id ∧ id < 64)) (h1 : (0 ≤ a.t ∧ a.t < G.n)) (h2 : ¬ (0 ≤ a.h ∧ a.h < G.n)) :
    Calls Tryz.prog 125 #[.pointer (some ⟨b, 0, none⟩), .int .i64 id, .agg #[.int .i64 a.t, .int .i64 a.h, .int .i64 a.w, .bool a.c]] w fun e w' => e = .returned (.int .i64 1) ∧ Fr No w w' := by
  have e0 : ¬ id < 0 := by omega
  have e1 : ¬ 63 < id := by omega
  have e0' : decide (id < 0) = false := by simp; omega
  have e1' : decide (63 < id) = false := by simp; omega
  have d1 : decide (0 ≤ a.t ∧ a.t < G.n) = true := decide_eq_true h1
  have d2 : decide (0 ≤ a.h ∧ a.h < G.n) = false := decide_eq_false h2
  have f0 : Fr No w (w.alloc (.cells #[.int .i64 a.t, .int .i64 a.h, .int .i64 a.w, .bool a.c] 49)) := (Fr.refl No w).alloc _
  have hA := heap_new w (.cells #[.int .i64 a.t, .int .i64 a.h, .int .i64 a.w, .bool a.c] 49)
  have a0 := cell_of hA 0
  have a1 := cell_of hA 1
  have a2 := cell_of hA 2
  have a3 := cell_of hA 3
  have F0 := hid f0
  have H0 := hid (h.no f0)
  have hzA : w.heap.size < (w.alloc (.cells #[.int .i64 a.t, .int .i64 a.h, .int .i64 a.w, .bool a.c] 49)).heap.size := by simp
  clear h f0 hA
  simp at a0 a1 a2 a3
  go_enter Tryz.func125, Tryz.ntmps125
  go_wp2_with fail
  refine (rgvertex_calls H0.out a.t).mono ?_
  rintro e w1 ⟨rfl, rfl⟩
  rw [d1]
  go_wp2_with fail
  refine (rgvertex_calls H0.out a.h).mono ?_
  rintro e w1 ⟨rfl, rfl⟩
  rw [d2]
  go_wp2
  go_ret
  exact ⟨rfl, F0.out⟩

set_option maxRecDepth 100000 in
set_option maxHeartbeats 2000000 in
theorem rgins_3 {w : World} {b : Nat} {G : Gr} (h : RGM w b G) (id : Int) (a : Arc4) (h0 : (0 ≤ id ∧ id < 64)) (h1 : (0 ≤ a.t ∧ a.t < G.n)) (h2 : (0 ≤ a.h ∧ a.h < G.n)) (h3 : ¬ (1 ≤ a.w ∧ a.w ≤ 4611686018427387904)) :
    Calls Tryz.prog 125 #[.pointer (some ⟨b, 0, none⟩), .int .i64 id, .agg #[.int .i64 a.t, .int .i64 a.h, .int .i64 a.w, .bool a.c]] w fun e w' => e = .returned (.int .i64 1) ∧ Fr No w w' := by
  have e0 : ¬ id < 0 := by omega
  have e1 : ¬ 63 < id := by omega
  have e0' : decide (id < 0) = false := by simp; omega
  have e1' : decide (63 < id) = false := by simp; omega
  have d1 : decide (0 ≤ a.t ∧ a.t < G.n) = true := decide_eq_true h1
  have d2 : decide (0 ≤ a.h ∧ a.h < G.n) = true := decide_eq_true h2
  have d3 : decide (1 ≤ a.w ∧ a.w ≤ 4611686018427387904) = false := decide_eq_false h3
  have f0 : Fr No w (w.alloc (.cells #[.int .i64 a.t, .int .i64 a.h, .int .i64 a.w, .bool a.c] 49)) := (Fr.refl No w).alloc _
  have hA := heap_new w (.cells #[.int .i64 a.t, .int .i64 a.h, .int .i64 a.w, .bool a.c] 49)
  have a0 := cell_of hA 0
  have a1 := cell_of hA 1
  have a2 := cell_of hA 2
  have a3 := cell_of hA 3
  have F0 := hid f0
  have H0 := hid (h.no f0)
  have hzA : w.heap.size < (w.alloc (.cells #[.int .i64 a.t, .int .i64 a.h, .int .i64 a.w, .bool a.c] 49)).heap.size := by simp
  clear h f0 hA
  simp at a0 a1 a2 a3
  go_enter Tryz.func125, Tryz.ntmps125
  go_wp2_with fail
  refine (rgvertex_calls H0.out a.t).mono ?_
  rintro e w1 ⟨rfl, rfl⟩
  rw [d1]
  go_wp2_with fail
  refine (rgvertex_calls H0.out a.h).mono ?_
  rintro e w1 ⟨rfl, rfl⟩
  rw [d2]
  go_wp2_with fail
  refine (rgweight_calls a.w _).mono ?_
  rintro e w1 ⟨rfl, rfl⟩
  rw [d3]
  go_wp2
  go_ret
  exact ⟨rfl, F0.out⟩

set_option maxRecDepth 100000 in
set_option maxHeartbeats 2000000 in
theorem rgins_4 {w : World} {b : Nat} {G : Gr} (h : RGM w b G) (id : Int) (a : Arc4) (h0 : (0 ≤ id ∧ id < 64)) (h1 : (0 ≤ a.t ∧ a.t < G.n)) (h2 : (0 ≤ a.h ∧ a.h < G.n)) (h3 : (1 ≤ a.w ∧ a.w ≤ 4611686018427387904)) (htk : G.tk id.toNat = true) :
    Calls Tryz.prog 125 #[.pointer (some ⟨b, 0, none⟩), .int .i64 id, .agg #[.int .i64 a.t, .int .i64 a.h, .int .i64 a.w, .bool a.c]] w fun e w' => e = .returned (.int .i64 4) ∧ Fr No w w' := by
  have e0 : ¬ id < 0 := by omega
  have e1 : ¬ 63 < id := by omega
  have e0' : decide (id < 0) = false := by simp; omega
  have e1' : decide (63 < id) = false := by simp; omega
  have d1 : decide (0 ≤ a.t ∧ a.t < G.n) = true := decide_eq_true h1
  have d2 : decide (0 ≤ a.h ∧ a.h < G.n) = true := decide_eq_true h2
  have d3 : decide (1 ≤ a.w ∧ a.w ≤ 4611686018427387904) = true := decide_eq_true h3
  have f0 : Fr No w (w.alloc (.cells #[.int .i64 a.t, .int .i64 a.h, .int .i64 a.w, .bool a.c] 49)) := (Fr.refl No w).alloc _
  have hA := heap_new w (.cells #[.int .i64 a.t, .int .i64 a.h, .int .i64 a.w, .bool a.c] 49)
  have a0 := cell_of hA 0
  have a1 := cell_of hA 1
  have a2 := cell_of hA 2
  have a3 := cell_of hA 3
  have F0 := hid f0
  have H0 := hid (h.no f0)
  have hzA : w.heap.size < (w.alloc (.cells #[.int .i64 a.t, .int .i64 a.h, .int .i64 a.w, .bool a.c] 49)).heap.size := by simp
  clear h f0 hA
  simp at a0 a1 a2 a3
  have k0 := H0.out.tkc (show id.toNat < 64 by omega)
  rw [htk] at k0
  obtain ⟨k, rfl⟩ := Int.eq_ofNat_of_zero_le h0.1
  have hk : k < 64 := by omega
  have hk2 : (k : Int) < 64 := by omega
  rw [Int.toNat_natCast] at k0
  go_enter Tryz.func125, Tryz.ntmps125
  go_wp2_with fail
  refine (rgvertex_calls H0.out a.t).mono ?_
  rintro e w1 ⟨rfl, rfl⟩
  rw [d1]
  go_wp2_with fail
  refine (rgvertex_calls H0.out a.h).mono ?_
  rintro e w1 ⟨rfl, rfl⟩
  rw [d2]
  go_wp2_with fail
  refine (rgweight_calls a.w _).mono ?_
  rintro e w1 ⟨rfl, rfl⟩
  rw [d3]
  go_wp2
  go_ret
  exact ⟨rfl, F0.out⟩

set_option maxRecDepth 100000 in
set_option maxHeartbeats 2000000 in
theorem rgins_yes {w : World} {b : Nat} {G : Gr} (h : RGM w b G) (id : Int) (a : Arc4) (h0 : (0 ≤ id ∧ id < 64)) (h1 : (0 ≤ a.t ∧ a.t < G.n)) (h2 : (0 ≤ a.h ∧ a.h < G.n)) (h3 : (1 ≤ a.w ∧ a.w ≤ 4611686018427387904)) (htk : G.tk id.toNat = false) (hcnt : G.cnt < G.most) (hm : G.most ≤ 64) :
    Calls Tryz.prog 125 #[.pointer (some ⟨b, 0, none⟩), .int .i64 id, .agg #[.int .i64 a.t, .int .i64 a.h, .int .i64 a.w, .bool a.c]] w fun e w' => e = .returned (.int .i64 0) ∧ RGM w' b (G.set id.toNat a true) ∧ Fr (One b) w w' := by
  have e0 : ¬ id < 0 := by omega
  have e1 : ¬ 63 < id := by omega
  have e0' : decide (id < 0) = false := by simp; omega
  have e1' : decide (63 < id) = false := by simp; omega
  have d1 : decide (0 ≤ a.t ∧ a.t < G.n) = true := decide_eq_true h1
  have d2 : decide (0 ≤ a.h ∧ a.h < G.n) = true := decide_eq_true h2
  have d3 : decide (1 ≤ a.w ∧ a.w ≤ 4611686018427387904) = true := decide_eq_true h3
  have hbw := Blk.lt h
  have f0 : Fr No w (w.alloc (.cells #[.int .i64 a.t, .int .i64 a.h, .int .i64 a.w, .bool a.c] 49)) := (Fr.refl No w).alloc _
  have hA := heap_new w (.cells #[.int .i64 a.t, .int .i64 a.h, .int .i64 a.w, .bool a.c] 49)
  have a0 := cell_of hA 0
  have a1 := cell_of hA 1
  have a2 := cell_of hA 2
  have a3 := cell_of hA 3
  have F0 := hid f0
  have H0 := hid (h.no f0)
  have hzA : w.heap.size < (w.alloc (.cells #[.int .i64 a.t, .int .i64 a.h, .int .i64 a.w, .bool a.c] 49)).heap.size := by simp
  clear h f0 hA
  have k0 := H0.out.tkc (show id.toNat < 64 by omega)
  rw [htk] at k0
  obtain ⟨k, rfl⟩ := Int.eq_ofNat_of_zero_le h0.1
  have hk : k < 64 := by omega
  have hk2 : (k : Int) < 64 := by omega
  rw [Int.toNat_natCast] at k0
  rw [Int.toNat_natCast]
  have hbl : b < (w.alloc (.cells #[.int .i64 a.t, .int .i64 a.h, .int .i64 a.w, .bool a.c] 49)).heap.size := Blk.lt H0.out
  go_enter Tryz.func125, Tryz.ntmps125
  go_wp2_with fail
  refine (rgvertex_calls H0.out a.t).mono ?_
  rintro e w1 ⟨rfl, rfl⟩
  rw [d1]
  go_wp2_with fail
  refine (rgvertex_calls H0.out a.h).mono ?_
  rintro e w1 ⟨rfl, rfl⟩
  rw [d2]
  go_wp2_with fail
  refine (rgweight_calls a.w _).mono ?_
  rintro e w1 ⟨rfl, rfl⟩
  rw [d3]
  obtain ⟨W0, hW0⟩ : ∃ W0, w.alloc (.cells #[.int .i64 a.t, .int .i64 a.h, .int .i64 a.w, .bool a.c] 49) = W0 := ⟨_, rfl⟩
  rw [hW0] at F0 H0 a0 a1 a2 a3 k0 hzA hbl ⊢
  clear hW0
  simp at a0 a1 a2 a3
  have k1 := H0.out.c1
  have kk1 : ∀ n : Fam W0, n.v.cell? ⟨b, 1, none⟩ = some (.int .i64 (G.most : Nat)) := Fam.cell k1
  have hlen : ∀ n : Fam W0, Calls Tryz.prog 182 #[.pointer (some ⟨b, 0, none⟩)] n.v fun e w' => e = .returned (.int .i64 (G.cnt : Nat)) ∧ Fr No n.v w' := fun n => rglen_calls (H0.out.no n.h)
  have hcd : ((G.most : Int) ≤ (G.cnt : Nat)) = False := by simp; omega
  have hcd2 : decide ((G.most : Int) ≤ (G.cnt : Nat)) = false := by simp; omega
  clear k1
  go_wp2_with fail
  refine wp_region_fam (by kernel_rfl) (by kernel_rfl) ?_
  repeat (go_big_quiet_step (exact Calls.fam (hlen _)))
  refine wpQuiet_nil ?_
  rintro w4 ⟨⟨w4, hf4⟩, rfl⟩
  have H4 := hid (H0.out.no hf4)
  have F4 := hid (F0.out.trans hf4)
  have b0 := hf4.cell_some a0 (fun h => h)
  have b1 := hf4.cell_some a1 (fun h => h)
  have b2 := hf4.cell_some a2 (fun h => h)
  have b3 := hf4.cell_some a3 (fun h => h)
  have hs4 := hf4.size
  have z4 := H4.out.tkc hk
  have zf := fun i => Blk.frozen H4.out i
  have hb4 : b < w4.heap.size := Blk.lt H4.out
  clear hf4 a0 a1 a2 a3 hlen kk1 k0 H0 d1 d2 d3 h1 h2 h3
  have hne : w.heap.size ≠ b := by omega
  go_wp2_with fail
  have B5 := Blk.setCell H4.out (2 + k) (.bool true)
  have F5 : Fr (One b) w4 (w4.setCell ⟨b, 2 + k, none⟩ (.bool true)) := (Fr.refl _ _).set1 _ _
  generalize w4.setCell ⟨b, 2 + k, none⟩ (.bool true) = w5 at B5 F5 ⊢
  have c0 := F5.cell_some b0 (fun (e : w.heap.size = b) => hne e)
  have c1 := F5.cell_some b1 (fun (e : w.heap.size = b) => hne e)
  have c2 := F5.cell_some b2 (fun (e : w.heap.size = b) => hne e)
  have c3 := F5.cell_some b3 (fun (e : w.heap.size = b) => hne e)
  have z0 := B5.cell (i := 66 + k * 4) (by omega)
  have z1 := B5.cell (i := 66 + k * 4 + 1) (by omega)
  have z2 := B5.cell (i := 66 + k * 4 + 2) (by omega)
  have z3 := B5.cell (i := 66 + k * 4 + 3) (by omega)
  have zg := fun i => B5.frozen i
  have hb5 := B5.lt
  have hs5 := F5.size
  have HB5 := hid B5
  have HF5 := hid F5
  clear B5 F5 b0 b1 b2 b3 z4 zf
  go_still_tail 6, (by kernel_rfl)
  go_wp2
  go_ret
  exact ⟨rfl, Blk.congr ((((Blk.setCell HB5.out (66 + k * 4) (.int .i64 a.t)).setCell (66 + k * 4 + 1) (.int .i64 a.h)).setCell (66 + k * 4 + 2) (.int .i64 a.w)).setCell (66 + k * 4 + 3) (.bool a.c)).drew (fun i _ => G.rset_cell k hk a true i),
    (F4.out.no (F := One b)).trans' (((((HF5.out.set1 _ _).set1 _ _).set1 _ _).set1 _ _).drew) (fun i _ h => h)⟩

theorem rginsert_calls {w : World} {b : Nat} {G : Gr} (h : RGM w b G) (hm : G.most = 64) (id : Int) (a : Arc4) :
    Calls Tryz.prog 125 #[.pointer (some ⟨b, 0, none⟩), .int .i64 id, .agg #[.int .i64 a.t, .int .i64 a.h, .int .i64 a.w, .bool a.c]] w fun e w' => e = .returned (.int .i64 (G.icode id a)) ∧ RGM w' b (G.put id a) ∧ Fr (One b) w w' := by
  have no : ∀ c : Int, G.icode id a = c → c ≠ 0 → Calls Tryz.prog 125 #[.pointer (some ⟨b, 0, none⟩), .int .i64 id, .agg #[.int .i64 a.t, .int .i64 a.h, .int .i64 a.w, .bool a.c]] w (fun e w' => e = .returned (.int .i64 c) ∧ Fr No w w') →
      Calls Tryz.prog 125 #[.pointer (some ⟨b, 0, none⟩), .int .i64 id, .agg #[.int .i64 a.t, .int .i64 a.h, .int .i64 a.w, .bool a.c]] w fun e w' => e = .returned (.int .i64 (G.icode id a)) ∧ RGM w' b (G.put id a) ∧ Fr (One b) w w' := by
    intro c ec hc hcalls
    refine hcalls.mono ?_
    rintro e w' ⟨rfl, hf⟩
    refine ⟨by rw [ec], ?_, hf.no⟩
    rw [show G.put id a = G from by unfold Gr.put; rw [ec]; exact if_neg hc]
    exact h.no hf
  by_cases h0 : 0 ≤ id ∧ id < 64
  · by_cases h1 : 0 ≤ a.t ∧ a.t < G.n
    · by_cases h2 : 0 ≤ a.h ∧ a.h < G.n
      · by_cases h3 : 1 ≤ a.w ∧ a.w ≤ 4611686018427387904
        · have hok : (0 ≤ id ∧ id < 64) ∧ G.okA a := ⟨h0, h1, h2, h3⟩
          cases htk : G.tk id.toNat with
          | true => exact no 4 (by unfold Gr.icode; rw [if_pos hok, if_pos htk]) (by omega) (rgins_4 h id a h0 h1 h2 h3 htk)
          | false =>
            have ec : G.icode id a = 0 := by unfold Gr.icode; rw [if_pos hok, htk]; rfl
            have hcnt : G.cnt < G.most := by
              have hc := G.ins_cnt id.toNat a (by omega) htk
              have hl : (G.ins id.toNat a).cnt ≤ 64 := sel_len _
              omega
            refine (rgins_yes h id a h0 h1 h2 h3 htk hcnt (by omega)).mono ?_
            rintro e w' ⟨rfl, h5, h6⟩
            refine ⟨by rw [ec], ?_, h6⟩
            have := G.put_set id.toNat a (by rw [Int.toNat_of_nonneg h0.1]; exact ec)
            rw [Int.toNat_of_nonneg h0.1] at this
            rw [this]; exact h5
        · exact no 1 (by unfold Gr.icode; rw [if_neg (fun hh => h3 hh.2.2.2)]) (by omega) (rgins_3 h id a h0 h1 h2 h3)
      · exact no 1 (by unfold Gr.icode; rw [if_neg (fun hh => h2 hh.2.2.1)]) (by omega) (rgins_2 h id a h0 h1 h2)
    · exact no 1 (by unfold Gr.icode; rw [if_neg (fun hh => h1 hh.2.1)]) (by omega) (rgins_1 h id a h0 h1)
  · rcases (show id < 0 ∨ 63 < id by omega) with h | h'
    · exact no 1 (by unfold Gr.icode; rw [if_neg (fun hh => h0 hh.1)]) (by omega) (rgins_a (by assumption) id a h)
    · exact no 1 (by unfold Gr.icode; rw [if_neg (fun hh => h0 hh.1)]) (by omega) (rgins_b (by assumption) id a h')

end Go.Proofs.YtoepbhacpidcbaaGreatDoor

/- A change of either graph; both graphs behind changes; walked. -/
set_option linter.unusedVariables false
set_option linter.unusedSimpArgs false
namespace Go.Proofs.YtoepbhacpidcbaaGreatDoor
open Go.RowKit Go.Deep

theorem GStep.of {w W0 w' : World} {L : GLoc} {n : Nat} {G' : Gr} (f0 : Fr No w W0) (h : GStep W0 L n w' G') : GStep w L n w' G' := by
  obtain ⟨L', h1, h2, h3, h4⟩ := h
  exact ⟨L', h1, h2, (f0.no (F := L.own n)).trans' h3 (fun i _ hi => hi), fun j hj => (h4 j hj).imp id (fun h => by have := f0.size; omega)⟩
theorem Gr.put_n (G : Gr) (id : Int) (a : Arc4) : (G.put id a).n = G.n ∧ (G.put id a).most = G.most := by unfold Gr.put; split <;> exact ⟨rfl, rfl⟩
theorem Gr.rm_n (G : Gr) (id : Int) : (G.rm id).n = G.n ∧ (G.rm id).most = G.most := by unfold Gr.rm; split <;> exact ⟨rfl, rfl⟩
theorem Gr.tn_n (G : Gr) (id : Int) (c : Bool) : (G.tn id c).n = G.n ∧ (G.tn id c).most = G.most := by unfold Gr.tn; split <;> exact ⟨rfl, rfl⟩
theorem Gr.wt_n (G : Gr) (id x : Int) : (G.wt id x).n = G.n ∧ (G.wt id x).most = G.most := by unfold Gr.wt; split <;> exact ⟨rfl, rfl⟩
theorem Gr.step_n (G : Gr) (c : Chg) : (G.step c).n = G.n ∧ (G.step c).most = G.most := by
  unfold Gr.step
  split
  · exact G.put_n _ _
  · split
    · exact G.rm_n _
    · split
      · exact G.tn_n _ _
      · split
        · exact G.tn_n _ _
        · exact G.wt_n _ _
theorem Gr.steps_n (G : Gr) (f : Nat → Chg) : ∀ k, (G.steps f k).n = G.n ∧ (G.steps f k).most = G.most := by
  intro k
  induction k with
  | zero => exact ⟨rfl, rfl⟩
  | succ k ih =>
    have := (G.steps f k).step_n (f k)
    rw [ih.1, ih.2] at this
    exact this

set_option maxRecDepth 100000 in
set_option maxHeartbeats 2000000 in
theorem do_calls {w : World} {L : GLoc} {G : Gr} (h : GMem w L G) (hm : G.most = 64) (c : Chg) :
    Calls Tryz.prog 60 #[.pointer (some ⟨L.b, 0, none⟩), c.val] w fun e w' => e = .returned (.int .i64 (G.scode c)) ∧ GStep w L G.n w' (G.step c) := by
  obtain ⟨kd, id, ⟨t, hd, wt, cl⟩⟩ := c
  have f0 : Fr No w (w.alloc (.cells #[.int .i64 kd, .int .i64 id, .int .i64 t, .int .i64 hd, .int .i64 wt, .bool cl] 64)) := (Fr.refl No w).alloc _
  have hA := heap_new w (.cells #[.int .i64 kd, .int .i64 id, .int .i64 t, .int .i64 hd, .int .i64 wt, .bool cl] 64)
  have a0 := cell_of hA 0
  have a1 := cell_of hA 1
  have a2 := cell_of hA 2
  have a3 := cell_of hA 3
  have a4 := cell_of hA 4
  have a5 := cell_of hA 5
  have F0 := hid f0
  have H0 := hid (h.no f0)
  have hzA : w.heap.size < (w.alloc (.cells #[.int .i64 kd, .int .i64 id, .int .i64 t, .int .i64 hd, .int .i64 wt, .bool cl] 64)).heap.size := by simp
  clear h f0 hA
  simp at a0 a1 a2 a3 a4 a5
  simp only [Chg.val]
  by_cases h0 : kd = 0
  · subst h0
    rw [show G.scode ⟨0, id, ⟨t, hd, wt, cl⟩⟩ = G.icode id ⟨t, hd, wt, cl⟩ from rfl, show G.step ⟨0, id, ⟨t, hd, wt, cl⟩⟩ = G.put id ⟨t, hd, wt, cl⟩ from rfl]
    skip
    go_enter Tryz.func60, Tryz.ntmps60
    go_wp2_with fail
    refine (ginsert_calls H0.out hm id ⟨t, hd, wt, cl⟩).mono ?_
    rintro e w1 ⟨rfl, hR⟩
    have HR := hid (show GStep _ L G.n w1 _ from hR)
    clear hR
    go_wp2
    go_ret
    exact ⟨rfl, GStep.of F0.out HR.out⟩
  · have d0 : (kd == 0) = false := by simpa using h0
    by_cases h1 : kd = 1
    · subst h1
      rw [show G.scode ⟨1, id, ⟨t, hd, wt, cl⟩⟩ = G.code id from rfl, show G.step ⟨1, id, ⟨t, hd, wt, cl⟩⟩ = G.rm id from rfl]
      skip
      go_enter Tryz.func60, Tryz.ntmps60
      go_wp2_with fail
      refine (gdelete_calls H0.out id).mono ?_
      rintro e w1 ⟨rfl, hR, hf⟩
      have HR := hid (GStep.same hR hf)
      clear hf
      clear hR
      go_wp2
      go_ret
      exact ⟨rfl, GStep.of F0.out HR.out⟩
    · have d1 : (kd == 1) = false := by simpa using h1
      by_cases h2 : kd = 2
      · subst h2
        rw [show G.scode ⟨2, id, ⟨t, hd, wt, cl⟩⟩ = G.tcode id true from rfl, show G.step ⟨2, id, ⟨t, hd, wt, cl⟩⟩ = G.tn id true from rfl]
        skip
        go_enter Tryz.func60, Tryz.ntmps60
        go_wp2_with fail
        refine (gclose_calls H0.out id).mono ?_
        rintro e w1 ⟨rfl, hR, hf⟩
        have HR := hid (GStep.same hR hf)
        clear hf
        clear hR
        go_wp2
        go_ret
        exact ⟨rfl, GStep.of F0.out HR.out⟩
      · have d2 : (kd == 2) = false := by simpa using h2
        by_cases h3 : kd = 3
        · subst h3
          rw [show G.scode ⟨3, id, ⟨t, hd, wt, cl⟩⟩ = G.tcode id false from rfl, show G.step ⟨3, id, ⟨t, hd, wt, cl⟩⟩ = G.tn id false from rfl]
          skip
          go_enter Tryz.func60, Tryz.ntmps60
          go_wp2_with fail
          refine (greopen_calls H0.out id).mono ?_
          rintro e w1 ⟨rfl, hR, hf⟩
          have HR := hid (GStep.same hR hf)
          clear hf
          clear hR
          go_wp2
          go_ret
          exact ⟨rfl, GStep.of F0.out HR.out⟩
        · have d3 : (kd == 3) = false := by simpa using h3
          rw [show G.scode ⟨kd, id, ⟨t, hd, wt, cl⟩⟩ = G.wcode id wt from by unfold Gr.scode; rw [if_neg h0, if_neg h1, if_neg h2, if_neg h3], show G.step ⟨kd, id, ⟨t, hd, wt, cl⟩⟩ = G.wt id wt from by unfold Gr.step; rw [if_neg h0, if_neg h1, if_neg h2, if_neg h3]]
          clear h0 h1 h2 h3
          go_enter Tryz.func60, Tryz.ntmps60
          go_wp2_with fail
          refine (gweigh_calls H0.out id wt).mono ?_
          rintro e w1 ⟨rfl, hR, hf⟩
          have HR := hid (GStep.same hR hf)
          clear hf
          clear hR
          go_wp2
          go_ret
          exact ⟨rfl, GStep.of F0.out HR.out⟩

set_option maxRecDepth 100000 in
set_option maxHeartbeats 2000000 in
theorem doref_calls {w : World} {b : Nat} {G : Gr} (h : RGM w b G) (hm : G.most = 64) (c : Chg) :
    Calls Tryz.prog 61 #[.pointer (some ⟨b, 0, none⟩), c.val] w fun e w' => e = .returned (.int .i64 (G.scode c)) ∧ RGM w' b (G.step c) ∧ Fr (One b) w w' := by
  obtain ⟨kd, id, ⟨t, hd, wt, cl⟩⟩ := c
  have f0 : Fr No w (w.alloc (.cells #[.int .i64 kd, .int .i64 id, .int .i64 t, .int .i64 hd, .int .i64 wt, .bool cl] 64)) := (Fr.refl No w).alloc _
  have hA := heap_new w (.cells #[.int .i64 kd, .int .i64 id, .int .i64 t, .int .i64 hd, .int .i64 wt, .bool cl] 64)
  have a0 := cell_of hA 0
  have a1 := cell_of hA 1
  have a2 := cell_of hA 2
  have a3 := cell_of hA 3
  have a4 := cell_of hA 4
  have a5 := cell_of hA 5
  have F0 := hid f0
  have H0 := hid (h.no f0)
  have hzA : w.heap.size < (w.alloc (.cells #[.int .i64 kd, .int .i64 id, .int .i64 t, .int .i64 hd, .int .i64 wt, .bool cl] 64)).heap.size := by simp
  clear h f0 hA
  simp at a0 a1 a2 a3 a4 a5
  simp only [Chg.val]
  by_cases h0 : kd = 0
  · subst h0
    rw [show G.scode ⟨0, id, ⟨t, hd, wt, cl⟩⟩ = G.icode id ⟨t, hd, wt, cl⟩ from rfl, show G.step ⟨0, id, ⟨t, hd, wt, cl⟩⟩ = G.put id ⟨t, hd, wt, cl⟩ from rfl]
    skip
    go_enter Tryz.func61, Tryz.ntmps61
    go_wp2_with fail
    refine (rginsert_calls H0.out hm id ⟨t, hd, wt, cl⟩).mono ?_
    rintro e w1 ⟨rfl, hR, hf⟩
    have HR := hid hR
    have HF := hid hf
    clear hR hf
    go_wp2
    go_ret
    exact ⟨rfl, HR.out, (F0.out.no (F := One b)).trans' HF.out (fun i _ hi => hi)⟩
  · have d0 : (kd == 0) = false := by simpa using h0
    by_cases h1 : kd = 1
    · subst h1
      rw [show G.scode ⟨1, id, ⟨t, hd, wt, cl⟩⟩ = G.code id from rfl, show G.step ⟨1, id, ⟨t, hd, wt, cl⟩⟩ = G.rm id from rfl]
      skip
      go_enter Tryz.func61, Tryz.ntmps61
      go_wp2_with fail
      refine (rgdelete_calls H0.out id).mono ?_
      rintro e w1 ⟨rfl, hR, hf⟩
      have HR := hid hR
      have HF := hid hf
      clear hR hf
      go_wp2
      go_ret
      exact ⟨rfl, HR.out, (F0.out.no (F := One b)).trans' HF.out (fun i _ hi => hi)⟩
    · have d1 : (kd == 1) = false := by simpa using h1
      by_cases h2 : kd = 2
      · subst h2
        rw [show G.scode ⟨2, id, ⟨t, hd, wt, cl⟩⟩ = G.tcode id true from rfl, show G.step ⟨2, id, ⟨t, hd, wt, cl⟩⟩ = G.tn id true from rfl]
        skip
        go_enter Tryz.func61, Tryz.ntmps61
        go_wp2_with fail
        refine (rgturn_calls H0.out id true).mono ?_
        rintro e w1 ⟨rfl, hR, hf⟩
        have HR := hid hR
        have HF := hid hf
        clear hR hf
        go_wp2
        go_ret
        exact ⟨rfl, HR.out, (F0.out.no (F := One b)).trans' HF.out (fun i _ hi => hi)⟩
      · have d2 : (kd == 2) = false := by simpa using h2
        by_cases h3 : kd = 3
        · subst h3
          rw [show G.scode ⟨3, id, ⟨t, hd, wt, cl⟩⟩ = G.tcode id false from rfl, show G.step ⟨3, id, ⟨t, hd, wt, cl⟩⟩ = G.tn id false from rfl]
          skip
          go_enter Tryz.func61, Tryz.ntmps61
          go_wp2_with fail
          refine (rgturn_calls H0.out id false).mono ?_
          rintro e w1 ⟨rfl, hR, hf⟩
          have HR := hid hR
          have HF := hid hf
          clear hR hf
          go_wp2
          go_ret
          exact ⟨rfl, HR.out, (F0.out.no (F := One b)).trans' HF.out (fun i _ hi => hi)⟩
        · have d3 : (kd == 3) = false := by simpa using h3
          rw [show G.scode ⟨kd, id, ⟨t, hd, wt, cl⟩⟩ = G.wcode id wt from by unfold Gr.scode; rw [if_neg h0, if_neg h1, if_neg h2, if_neg h3], show G.step ⟨kd, id, ⟨t, hd, wt, cl⟩⟩ = G.wt id wt from by unfold Gr.step; rw [if_neg h0, if_neg h1, if_neg h2, if_neg h3]]
          clear h0 h1 h2 h3
          go_enter Tryz.func61, Tryz.ntmps61
          go_wp2_with fail
          refine (rgweigh_calls H0.out id wt).mono ?_
          rintro e w1 ⟨rfl, hR, hf⟩
          have HR := hid hR
          have HF := hid hf
          clear hR hf
          go_wp2
          go_ret
          exact ⟨rfl, HR.out, (F0.out.no (F := One b)).trans' HF.out (fun i _ hi => hi)⟩

set_option maxRecDepth 100000 in
set_option maxHeartbeats 4000000 in
theorem made8_calls (n : Nat) (A : Option Addr) (ln cp : Nat) (f : Nat → Chg) (w : World) (hn : n ≤ 255) (hc : ChgsF w A ln f) (hln : ln ≤ 140737488351232) :
    Calls Tryz.prog 16 #[.int .u8 (n : Nat), .slice A ln cp] w fun e w' => ∃ (L : GLoc) (b : Nat), e = .returned (.tuple #[.pointer (some ⟨L.b, 0, none⟩), .pointer (some ⟨b, 0, none⟩)]) ∧ Fr No w w' ∧
      GMem w' L ((Gr.zero (1 + n % 24) 64).steps f (min ln 150)) ∧ RGM w' b ((Gr.zero (1 + n % 24) 64).steps f (min ln 150)) ∧ w.heap.size ≤ b ∧ ∀ j, L.own (1 + n % 24) j → w.heap.size ≤ j ∧ j ≠ b := by
  have hmod : n % 24 < 24 := Nat.mod_lt _ (by omega)
  have hC := hid hc
  obtain ⟨N, hN⟩ : ∃ N, 1 + n % 24 = N := ⟨_, rfl⟩
  rw [hN]
  have hN1 : 1 ≤ N := by omega
  have hN2 : N ≤ 24 := by omega
  have hNI : ((1 : Int) + (n : Int) % 24) = ((N : Nat) : Int) := by omega
  obtain ⟨G0, hG0⟩ : ∃ G0, Gr.zero N 64 = G0 := ⟨_, rfl⟩
  have hst := G0.steps_n f
  have hg0 : G0.n = N ∧ G0.most = 64 := by rw [← hG0]; exact ⟨rfl, rfl⟩
  rw [hg0.1, hg0.2] at hst
  have HST := hid hst
  have HG0 := hid hG0
  have HG0N := hid hg0.1
  have HNI := hid hNI
  rw [hG0]
  clear hc hmod hN hst hg0 hNI hG0
  go_enter Tryz.func16, Tryz.ntmps16
  go_wp2_with fail
  rw [HNI.out]
  refine (gnew2_calls N 64 hN1 hN2 (by omega) (by omega) w).mono ?_
  rintro e w1 ⟨L0, rfl, hm, hf, hown⟩
  rw [HG0.out] at hm
  have HM1 := hid hm
  have HF1 := hid hf
  have HO1 := hid hown
  clear hm hf hown
  go_wp2_with fail
  refine (rgnew_calls N 64 w1).mono ?_
  rintro e w2 ⟨b, rfl, hr, hf, hb⟩
  rw [HG0.out] at hr
  have HM2 := hid (HM1.out.no hf)
  have HR2 := hid hr
  have HF2 := hid (HF1.out.trans hf)
  have hs1 := HF1.out.size
  have HO2 := hid (show ∀ j, L0.own N j → w.heap.size ≤ j ∧ j ≠ b from fun j hj => ⟨HO1.out j hj, fun e => by have := HM1.out.own_lt (by rw [HG0N.out]; exact hj); omega⟩)
  have hbw : w.heap.size ≤ b := by omega
  clear hr hf HM1 HF1 HO1 hb hs1
  go_wp2
  go_loopg [10] (ln + 1) (fun g p wr => ∃ (k : Nat) (L : GLoc), p = .int .i64 k ∧ k ≤ ln ∧ k ≤ 150 ∧ g = ln + 1 - k ∧ L.b = L0.b ∧ Fr No w wr ∧ GMem wr L (G0.steps f k) ∧ RGM wr b (G0.steps f k) ∧ ∀ j, L.own N j → w.heap.size ≤ j ∧ j ≠ b)
  case atStart => exact ⟨0, L0, rfl, by omega, by omega, rfl, rfl, HF2.out, HM2.out, HR2.out, HO2.out⟩
  case round =>
    obtain ⟨k, L, rfl, hk, hk3, hg, hLb, hf, hm, hr, hown⟩ := hrel
    have HG := hid hg
    have HF := hid hf
    have HM := hid hm
    have HR := hid hr
    have HO := hid hown
    have HL := hid hLb
    clear hg hf hm hr hown hLb HM2 HR2 HO2 HF2
    by_cases hlt : k < ln
    · by_cases hlt3 : k < 150
      · obtain ⟨bl, ol, rfl, hc⟩ := hC.out (by omega)
        have HC := hid (hc k hlt)
        obtain ⟨c0, c1, c2, c3, c4, c5⟩ := HC.out.fr HF.out (fun h => h)
        have hst := HST.out k
        have HST2 := hid hst
        obtain ⟨X, hX⟩ : ∃ X, G0.steps f k = X := ⟨_, rfl⟩
        have hnext : G0.steps f (k + 1) = X.step (f k) := by rw [← hX]; rfl
        rw [hX] at HM HR HST2
        have hXn := HST2.out.1
        have hXm := HST2.out.2
        have HN := hid hnext
        have hlt2 : (k : Int) < ln := by omega
        have hlt4 : (k : Int) < 150 := by omega
        obtain ⟨⟨kd, id, ⟨t, hd, wt, cl⟩⟩, hfk⟩ : ∃ y, f k = y := ⟨_, rfl⟩
        rw [hfk] at c0 c1 c2 c3 c4 c5 HN HC
        simp only at c0 c1 c2 c3 c4 c5
        clear hc hst hX hnext hfk
        go_wp2_with fail
        have hdo := do_calls HM.out hXm ⟨kd, id, ⟨t, hd, wt, cl⟩⟩
        rw [HL.out] at hdo
        refine hdo.mono ?_
        clear hdo
        rintro e w3 ⟨rfl, L', hm', hb', hf', ho'⟩
        rw [hXn] at hf' ho'
        have hbl := Blk.lt HR.out
        have HF3 := hid (HF.out.trans' hf' (fun i hi h => by have := (HO.out i h).1; omega))
        have HR3 := hid (HR.out.fr hf' (fun h => (HO.out b h).2 rfl))
        have hsz := HF.out.size
        have HO3 := hid (show ∀ j, L'.own N j → w.heap.size ≤ j ∧ j ≠ b from fun j hj => by
          rcases ho' j hj with h | h
          · exact HO.out j h
          · exact ⟨by omega, by omega⟩)
        have HM3 := hid hm'
        have HL3 := hid (hb'.trans HL.out)
        clear hm' hb' hf' ho' HM HR HF HO HL c0 c1 c2 c3 c4 c5
        obtain ⟨c0, c1, c2, c3, c4, c5⟩ := HC.out.fr HF3.out (fun h => h)
        simp only at c0 c1 c2 c3 c4 c5
        go_wp2_with fail
        refine (doref_calls HR3.out hXm ⟨kd, id, ⟨t, hd, wt, cl⟩⟩).mono ?_
        rintro e w4 ⟨rfl, hr4, hf4⟩
        have hXn2 := ((X.step_n ⟨kd, id, ⟨t, hd, wt, cl⟩⟩).1).trans hXn
        have HM4 := hid (HM3.out.fr hf4 (fun j hj (h : j = b) => (HO3.out j (by rw [hXn2] at hj; exact hj)).2 h))
        have HR4 := hid hr4
        have HF4 := hid (HF3.out.trans' hf4 (fun i hi (h : i = b) => by omega))
        clear hr4 hf4 HM3 HR3 HF3 c0 c1 c2 c3 c4 c5
        go_wp2
        go_roundg (ln + 1 - (k + 1))
        case measure => have := HG.out; omega
        case rel => exact ⟨k + 1, L', by go_num, by omega, by omega, rfl, HL3.out, HF4.out, by rw [HN.out]; exact HM4.out, by rw [HN.out]; exact HR4.out, HO3.out⟩
      · have e : k = min ln 150 := by omega
        have HE := hid e
        have hlt2 : (k : Int) < ln := by omega
        have hlt4 : ¬ (k : Int) < 150 := by omega
        clear e
        go_wp2
        go_ret2
        exact ⟨L, b, by rw [HL.out]; rfl, HF.out, HE.out ▸ HM.out, HE.out ▸ HR.out, hbw, HO.out⟩
    · have e : k = min ln 150 := by omega
      have HE := hid e
      have hlt2 : ¬ (k : Int) < ln := by omega
      clear e
      go_wp2
      go_ret2
      exact ⟨L, b, by rw [HL.out]; rfl, HF.out, HE.out ▸ HM.out, HE.out ▸ HR.out, hbw, HO.out⟩

end Go.Proofs.YtoepbhacpidcbaaGreatDoor
