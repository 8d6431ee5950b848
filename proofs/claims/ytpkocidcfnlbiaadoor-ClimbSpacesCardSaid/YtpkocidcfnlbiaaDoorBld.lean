/- The index that is built from nothing, plain: each entry is the right one. -/
import Derived.Test.YtpkocidcfnlbiaaDoorGB
set_option linter.unusedVariables false
set_option linter.unusedSimpArgs false
namespace Go.Proofs.YtpkocidcfnlbiaaDoor
open Go.RowKit Go.Deep

abbrev PrEl (n : Nat) := { p : Nat × Nat // p.1 < n ∧ p.2 < n ∧ p.1 ≠ p.2 }
/-- The pairs of ranks as they are set: those of one lower rank. -/
def pr1 (n lo : Nat) : Nat → List (PrEl n)
  | 0 => []
  | hi + 1 => if h : lo < hi ∧ hi < n then pr1 n lo hi ++ [⟨(lo, hi), ⟨by show lo < n; omega, h.2, by show lo ≠ hi; omega⟩⟩, ⟨(hi, lo), ⟨h.2, by show lo < n; omega, by show hi ≠ lo; omega⟩⟩] else pr1 n lo hi
def prs (n : Nat) : Nat → List (PrEl n)
  | 0 => []
  | lo + 1 => prs n lo ++ pr1 n lo n
theorem pr1_succ (n lo hi : Nat) : pr1 n lo (hi + 1) = if h : lo < hi ∧ hi < n then pr1 n lo hi ++ [⟨(lo, hi), ⟨by show lo < n; omega, h.2, by show lo ≠ hi; omega⟩⟩, ⟨(hi, lo), ⟨h.2, by show lo < n; omega, by show hi ≠ lo; omega⟩⟩] else pr1 n lo hi := rfl
theorem prs_succ (n lo : Nat) : prs n (lo + 1) = prs n lo ++ pr1 n lo n := rfl
theorem pr1_low (n lo : Nat) : ∀ k, k ≤ lo + 1 → pr1 n lo k = []
  | 0, _ => rfl
  | k + 1, h => by rw [pr1_succ, dif_neg (fun hh => by omega), pr1_low n lo k (by omega)]
theorem pr1_mem (n lo : Nat) : ∀ k (el : PrEl n), el ∈ pr1 n lo k ↔ min el.1.1 el.1.2 = lo ∧ max el.1.1 el.1.2 < k
  | 0, el => by simp [pr1]
  | k + 1, el => by
    obtain ⟨⟨a, b⟩, ha, hb, hne⟩ := el
    simp only at ha hb hne
    rw [pr1_succ]
    split
    · rename_i h
      rw [List.mem_append, pr1_mem n lo k]
      simp only [List.mem_cons, List.not_mem_nil, or_false, Subtype.mk.injEq, Prod.mk.injEq]
      omega
    · rename_i h
      rw [pr1_mem n lo k]
      simp only
      omega
theorem prs_mem (n : Nat) : ∀ k (el : PrEl n), el ∈ prs n k ↔ min el.1.1 el.1.2 < k
  | 0, el => by simp [prs]
  | k + 1, el => by
    have := el.2
    rw [prs_succ, List.mem_append, prs_mem n k el, pr1_mem]
    omega
theorem prs_all (n : Nat) (el : PrEl n) : el ∈ prs n n := by
  rw [prs_mem]
  have := el.2
  omega
theorem pr1_pw (n lo : Nat) : ∀ k, (pr1 n lo k).Pairwise (fun p q => p ≠ q)
  | 0 => List.Pairwise.nil
  | k + 1 => by
    rw [pr1_succ]
    split
    · rename_i h
      rw [List.pairwise_append]
      refine ⟨pr1_pw n lo k, ?_, ?_⟩
      · refine List.pairwise_pair.2 fun e => ?_
        simp only [Subtype.mk.injEq, Prod.mk.injEq] at e
        omega
      · intro a ha b hb e
        rw [pr1_mem] at ha
        simp only [List.mem_cons, List.not_mem_nil, or_false] at hb
        rcases hb with rfl | rfl <;> subst e <;> simp only at ha <;> omega
    · exact pr1_pw n lo k
def prR (n : Nat) (p q : PrEl n) : Prop := min p.1.1 p.1.2 ≤ min q.1.1 q.1.2 ∧ p ≠ q
theorem prs_pw (n : Nat) : ∀ k, (prs n k).Pairwise (prR n)
  | 0 => List.Pairwise.nil
  | k + 1 => by
    rw [prs_succ, List.pairwise_append]
    refine ⟨prs_pw n k, ?_, ?_⟩
    · refine List.Pairwise.imp_of_mem ?_ (pr1_pw n k n)
      intro a b ha hb h
      rw [pr1_mem] at ha hb
      exact ⟨by omega, h⟩
    · intro a ha b hb
      rw [prs_mem] at ha
      rw [pr1_mem] at hb
      exact ⟨by omega, fun e => by subst e; omega⟩
theorem pr1_pre (n lo b : Nat) : ∀ d, pr1 n lo b <+: pr1 n lo (b + d)
  | 0 => List.prefix_refl _
  | d + 1 => by
    have := pr1_pre n lo b d
    show pr1 n lo b <+: pr1 n lo ((b + d) + 1)
    rw [pr1_succ]
    split
    · exact this.trans (List.prefix_append _ _)
    · exact this
theorem prs_pre (n a : Nat) : ∀ d, prs n a <+: prs n (a + d)
  | 0 => List.prefix_refl _
  | d + 1 => (prs_pre n a d).trans (by show prs n (a + d) <+: prs n ((a + d) + 1); rw [prs_succ]; exact List.prefix_append _ _)
theorem prs_at (n a b : Nat) (ha : a < n) (hb : b ≤ n) : prs n a ++ pr1 n a b <+: prs n n := by
  have h1 := pr1_pre n a b (n - b)
  rw [show b + (n - b) = n by omega] at h1
  have h2 := prs_pre n (a + 1) (n - (a + 1))
  rw [show a + 1 + (n - (a + 1)) = n by omega, prs_succ] at h2
  exact ((List.prefix_append_right_inj _).2 h1).trans h2

/-- A graph's arcs have weights that may be. -/
def Gr.Wt (G : Gr) : Prop := ∀ i, i < 64 → G.tk i = true → 1 ≤ (G.arc i).w ∧ (G.arc i).w ≤ 4611686018427387904

theorem Ix.set_two (x : Ix) (u v : Nat) (e : En) (a b : Int) : (x.set u v e).two a b = x.two a b := rfl
theorem Ix.set_at (x : Ix) (u v : Nat) (e : En) (a b : Nat) (h : ¬ (a = u ∧ b = v)) : (x.set u v e).at_ (a : Nat) (b : Nat) = x.at_ (a : Nat) (b : Nat) := by
  unfold Ix.at_
  rw [Ix.set_two]
  by_cases ht : x.two (a : Nat) (b : Nat) = true
  · rw [if_pos ht, if_pos ht]
    show (if a = u ∧ b = v then e else x.ent a b) = x.ent a b
    rw [if_neg h]
  · rw [if_neg ht, if_neg ht]
theorem Ix.rl_congr {x y : Ix} (hb : y.by_ = x.by_) {u v : Int} : ∀ k, (∀ i, i < k → y.sum2 u v i = x.sum2 u v i) → y.rl u v k = x.rl u v k := by
  intro k
  induction k with
  | zero => intro _; rfl
  | succ k ih =>
    intro h
    rw [Ix.rl, Ix.rl, ih (fun i hi => h i (by omega)), h k (by omega), hb]
theorem Ix.best_congr {x y : Ix} (hn : y.n = x.n) (hr : y.rk = x.rk) (hb : y.by_ = x.by_) {u v : Int} (d : Int × Int) (hd : d.1 ≤ 4611686018427387906) (h : ∀ i, i < min (x.rk u.toNat) (x.rk v.toNat) → y.sum2 u v i = x.sum2 u v i) : y.best u v d = x.best u v d := by
  rw [Ix.rbest_eq _ _ _ _ hd, Ix.rbest_eq _ _ _ _ hd]
  have ht : y.two u v = x.two u v := by unfold Ix.two; rw [hn]
  unfold Ix.rbest
  rw [ht, hr, Ix.rl_congr hb _ h]

/-- The first least sum by way of a lower vertex. -/
theorem Ix.rl_fst (x : Ix) (u v : Int) : ∀ k, (x.rl u v k = (4611686018427387906, -1) ∧ ∀ i, i < k → 4611686018427387906 ≤ x.sum2 u v i) ∨
    ∃ j, j < k ∧ x.rl u v k = (x.sum2 u v j, ((x.by_ j : Nat) : Int)) ∧ x.sum2 u v j < 4611686018427387906 ∧ (∀ i, i < k → x.sum2 u v j ≤ x.sum2 u v i) ∧ ∀ i, i < j → x.sum2 u v j < x.sum2 u v i := by
  intro k
  induction k with
  | zero => exact .inl ⟨rfl, fun i hi => by omega⟩
  | succ k ih =>
    rw [Ix.rl]
    rcases ih with ⟨e, h⟩ | ⟨j, hj, e, h1, h2, h3⟩
    · rw [e]
      by_cases hc : x.sum2 u v k < 4611686018427387906
      · rw [if_pos hc]
        refine .inr ⟨k, by omega, rfl, hc, fun i hi => ?_, fun i hi => ?_⟩
        · rcases Nat.lt_or_ge i k with h' | h'
          · have := h i h'; omega
          · rw [show i = k by omega]; exact Int.le_refl _
        · have := h i hi; omega
      · rw [if_neg hc]
        refine .inl ⟨rfl, fun i hi => ?_⟩
        rcases Nat.lt_or_ge i k with h' | h'
        · exact h i h'
        · rw [show i = k by omega]; omega
    · rw [e]
      by_cases hc : x.sum2 u v k < x.sum2 u v j
      · rw [if_pos hc]
        refine .inr ⟨k, by omega, rfl, by omega, fun i hi => ?_, fun i hi => ?_⟩
        · rcases Nat.lt_or_ge i k with h' | h'
          · have := h2 i h'; omega
          · rw [show i = k by omega]; exact Int.le_refl _
        · have := h2 i hi; omega
      · rw [if_neg hc]
        refine .inr ⟨j, by omega, rfl, h1, fun i hi => ?_, h3⟩
        rcases Nat.lt_or_ge i k with h' | h'
        · exact h2 i h'
        · rw [show i = k by omega]; omega

theorem Ix.Ok.rk_by {x : Ix} (h : x.Ok) {r : Nat} (hr : r < x.n) : x.rk (x.by_ r) = r := (h.by_ r hr).2
theorem Ix.Ok.at_b {x : Ix} (h : x.Ok) (u v : Int) : 1 ≤ (x.at_ u v).w ∧ (x.at_ u v).w ≤ 4611686018427387906 := by
  unfold Ix.at_
  split
  · exact ⟨(h.ent _ _).w1, (h.ent _ _).w2⟩
  · exact ⟨by decide, by decide⟩
theorem add1_two {a b : Int} (ha : 1 ≤ a ∧ a ≤ 4611686018427387906) (hb : 1 ≤ b ∧ b ≤ 4611686018427387906) :
    add1 (add1 0 a) b = if a = 4611686018427387906 ∨ b = 4611686018427387906 then 4611686018427387906 else if 4611686018427387904 < a + b then 4611686018427387905 else a + b := by
  have ea : normI a = a := norm_id ⟨by omega, ha.2⟩
  have eb : normI b = b := norm_id ⟨by omega, hb.2⟩
  rw [add1_zero, ea]
  unfold add1
  rw [eb]
  by_cases h : a = 4611686018427387906 ∨ b = 4611686018427387906
  · rw [if_pos h, if_pos h]
  · rw [if_neg h, if_neg h]
    by_cases h2 : 4611686018427387904 < a + b
    · rw [if_pos h2, if_pos (by omega)]
    · rw [if_neg h2, if_neg (by omega)]
theorem Ix.Ok.sum2_b {x : Ix} (h : x.Ok) (u v : Int) (k : Nat) : 1 ≤ x.sum2 u v k ∧ x.sum2 u v k ≤ 4611686018427387906 := by
  have ha := h.at_b u (x.by_ k : Nat)
  have hb := h.at_b (x.by_ k : Nat) v
  unfold Ix.sum2
  rw [add1_two ha hb]
  split
  · omega
  · split <;> omega
theorem Gr.best_wt {G : Gr} (hw : G.Wt) (u v : Int) : G.best u v = (4611686018427387906, -1) ∨ (1 ≤ (G.best u v).1 ∧ (G.best u v).1 ≤ 4611686018427387904 ∧ 0 ≤ (G.best u v).2 ∧ (G.best u v).2 < 64) := by
  rcases G.best_is u v with e | ⟨k, hk, htk, _, _, _, _, e⟩
  · exact .inl e
  · have := hw k hk htk
    rw [e]
    exact .inr ⟨this.1, this.2, by show (0 : Int) ≤ (k : Nat); omega, by show ((k : Nat) : Int) < 64; omega⟩
/-- The right entry may be there. -/
theorem Ix.Ok.best_may {x : Ix} (h : x.Ok) {u v : Nat} (ht : x.two (u : Nat) (v : Nat) = true) {d : Int × Int} (hd : d = (4611686018427387906, -1) ∨ (1 ≤ d.1 ∧ d.1 ≤ 4611686018427387904 ∧ 0 ≤ d.2 ∧ d.2 < 64)) : x.May (u : Nat) (v : Nat) (x.best (u : Nat) (v : Nat) d) := by
  obtain ⟨_, _, hu, _, hv⟩ := two_iff ht
  have hu' : u < x.n := by omega
  have hv' : v < x.n := by omega
  have hru := (h.rk u hu').1
  have hrv := (h.rk v hv').1
  have hd1 : d.1 ≤ 4611686018427387906 := by rcases hd with e | e; rw [e]; exact Int.le_refl _; omega
  rw [Ix.rbest_eq _ _ _ _ hd1]
  unfold Ix.rbest
  rw [if_pos ht]
  simp only [Int.toNat_natCast]
  by_cases h1 : 0 ≤ d.2 ∧ d.1 ≤ (x.rl (u : Nat) (v : Nat) (min (x.rk u) (x.rk v))).1
  · rw [if_pos h1]
    rcases hd with e | e
    · rw [e] at h1; simp at h1
    · exact .inr ⟨e.1, by show d.1 ≤ _; omega, .inl ⟨rfl, e.2.2.1, e.2.2.2⟩⟩
  · rw [if_neg h1]
    rcases x.rl_fst (u : Nat) (v : Nat) (min (x.rk u) (x.rk v)) with ⟨e, _⟩ | ⟨j, hj, e, hlt, _, _⟩
    · rw [e, if_neg (by simp)]
      exact .inl ⟨rfl, rfl, rfl⟩
    · rw [e, if_pos (by show (0 : Int) ≤ (x.by_ j : Nat); omega)]
      have hb := h.by_ j (by omega)
      have hrm : x.rank (x.by_ j : Nat) = (j : Nat) := by unfold Ix.rank; rw [if_pos ⟨by omega, by omega⟩, Int.toNat_natCast, hb.2]
      have hr1 : x.rank (u : Nat) = (x.rk u : Nat) := by unfold Ix.rank; rw [if_pos ⟨by omega, by omega⟩, Int.toNat_natCast]
      have hr2 : x.rank (v : Nat) = (x.rk v : Nat) := by unfold Ix.rank; rw [if_pos ⟨by omega, by omega⟩, Int.toNat_natCast]
      refine .inr ⟨(h.sum2_b _ _ _).1, by show x.sum2 _ _ _ ≤ _; omega, .inr ⟨by show ((x.by_ j : Nat) : Int) ≠ -1; omega, rfl, ?_, ?_, ?_⟩⟩
      · show 0 ≤ x.rank (x.by_ j : Nat); rw [hrm]; omega
      · show x.rank (x.by_ j : Nat) < _; rw [hrm, hr1]; omega
      · show x.rank (x.by_ j : Nat) < _; rw [hrm, hr2]; omega

/-- One step: the entry between two ranks is the right one. -/
def Ix.bstep (G : Gr) (y : Ix) (p : Nat × Nat) : Ix := y.setI (y.by_ p.1 : Nat) (y.by_ p.2 : Nat) (y.best (y.by_ p.1 : Nat) (y.by_ p.2 : Nat) (G.best (y.by_ p.1 : Nat) (y.by_ p.2 : Nat)))
def Ix.bld (x : Ix) (G : Gr) {n : Nat} (l : List (PrEl n)) : Ix := l.foldl (fun y el => y.bstep G el.1) x
theorem Ix.bstep_n (G : Gr) (y : Ix) (p : Nat × Nat) : (y.bstep G p).n = y.n := Ix.setI_n _ _ _ _
theorem Ix.bstep_rk (G : Gr) (y : Ix) (p : Nat × Nat) : (y.bstep G p).rk = y.rk := Ix.setI_rk _ _ _ _
theorem Ix.bstep_by (G : Gr) (y : Ix) (p : Nat × Nat) : (y.bstep G p).by_ = y.by_ := Ix.setI_by _ _ _ _
theorem Ix.bld_shape (G : Gr) {n : Nat} : ∀ (l : List (PrEl n)) (x : Ix), (x.bld G l).n = x.n ∧ (x.bld G l).rk = x.rk ∧ (x.bld G l).by_ = x.by_ := by
  intro l
  induction l with
  | nil => intro x; exact ⟨rfl, rfl, rfl⟩
  | cons p l ih =>
    intro x
    have := ih (x.bstep G p.1)
    rw [Ix.bstep_n, Ix.bstep_rk, Ix.bstep_by] at this
    exact this
theorem Ix.bld_snoc (x : Ix) (G : Gr) {n : Nat} (l : List (PrEl n)) (el : PrEl n) : x.bld G (l ++ [el]) = (x.bld G l).bstep G el.1 := by unfold Ix.bld; rw [List.foldl_append]; rfl
theorem Ix.Ok.set {x : Ix} (h : x.Ok) (u v : Nat) {e : En} (he : e.Ok) : (x.set u v e).Ok :=
  ⟨h.n1, h.n2, h.rk, h.by_, fun a b => by show (if a = u ∧ b = v then e else x.ent a b).Ok; split; exact he; exact h.ent a b⟩
theorem Ix.Ok.by_inj {x : Ix} (h : x.Ok) {a b : Nat} (ha : a < x.n) (hb : b < x.n) (e : x.by_ a = x.by_ b) : a = b := by
  rw [← (h.by_ a ha).2, ← (h.by_ b hb).2, e]
theorem Ix.Ok.two_by {x : Ix} (h : x.Ok) {a b : Nat} (ha : a < x.n) (hb : b < x.n) (hne : a ≠ b) : x.two (x.by_ a : Nat) (x.by_ b : Nat) = true := by
  have h1 := h.by_ a ha
  have h2 := h.by_ b hb
  unfold Ix.two
  simp only [decide_eq_true_eq]
  refine ⟨fun e => hne (h.by_inj ha hb (by omega)), by omega, by omega, by omega, by omega⟩
theorem Ix.Ok.bstep_set {x : Ix} (h : x.Ok) {G : Gr} (hw : G.Wt) (p : PrEl x.n) : x.bstep G p.1 = x.set (x.by_ p.1.1) (x.by_ p.1.2) (x.best (x.by_ p.1.1 : Nat) (x.by_ p.1.2 : Nat) (G.best (x.by_ p.1.1 : Nat) (x.by_ p.1.2 : Nat))) := by
  have ht := h.two_by p.2.1 p.2.2.1 p.2.2.2
  have hm := h.best_may ht (d := G.best (x.by_ p.1.1 : Nat) (x.by_ p.1.2 : Nat)) (G.best_wt hw _ _)
  unfold Ix.bstep Ix.setI
  rw [if_pos ⟨ht, hm⟩]; rfl
theorem Ix.Ok.bstep_ok {x : Ix} (h : x.Ok) {G : Gr} (hw : G.Wt) (p : PrEl x.n) : (x.bstep G p.1).Ok := by
  have ht := h.two_by p.2.1 p.2.2.1 p.2.2.2
  rw [h.bstep_set hw p]
  exact h.set _ _ (h.may_ok (h.best_may ht (G.best_wt hw _ _)))
/-- Is the entry between two ranks the right one? -/
def Ix.RightAt (x : Ix) (G : Gr) (p : Nat × Nat) : Prop := x.ent (x.by_ p.1) (x.by_ p.2) = x.best (x.by_ p.1 : Nat) (x.by_ p.2 : Nat) (G.best (x.by_ p.1 : Nat) (x.by_ p.2 : Nat))
theorem Ix.Ok.bstep_best {x : Ix} (h : x.Ok) {G : Gr} (hw : G.Wt) (p q : PrEl x.n) (hpq : min q.1.1 q.1.2 ≤ min p.1.1 p.1.2) :
    (x.bstep G p.1).best (x.by_ q.1.1 : Nat) (x.by_ q.1.2 : Nat) (G.best (x.by_ q.1.1 : Nat) (x.by_ q.1.2 : Nat)) = x.best (x.by_ q.1.1 : Nat) (x.by_ q.1.2 : Nat) (G.best (x.by_ q.1.1 : Nat) (x.by_ q.1.2 : Nat)) := by
  obtain ⟨p1, p2, p3⟩ := p.2
  obtain ⟨q1, q2, q3⟩ := q.2
  refine Ix.best_congr (Ix.bstep_n _ _ _) (Ix.bstep_rk _ _ _) (Ix.bstep_by _ _ _) _ (G.best_le _ _) (fun i hi => ?_)
  simp only [Int.toNat_natCast] at hi
  rw [h.rk_by q1, h.rk_by q2] at hi
  rw [h.bstep_set hw p]
  unfold Ix.sum2
  rw [Ix.set_at, Ix.set_at]
  · rfl
  · rintro ⟨e1, e2⟩
    have := h.by_inj (show i < x.n by omega) p1 e1
    omega
  · rintro ⟨e1, e2⟩
    have := h.by_inj (show i < x.n by omega) p2 e2
    omega
theorem Ix.Ok.bld_right {G : Gr} (hw : G.Wt) {n : Nat} : ∀ (l : List (PrEl n)) (done : List (PrEl n)) (x : Ix), x.Ok → x.n = n → (done ++ l).Pairwise (prR n) → (∀ q ∈ done, x.RightAt G q.1) → (x.bld G l).Ok ∧ ∀ q ∈ done ++ l, (x.bld G l).RightAt G q.1 := by
  intro l
  induction l with
  | nil => intro done x h _ _ hd; exact ⟨h, by simpa [Ix.bld] using hd⟩
  | cons p l ih =>
    intro done x h hn hp hd
    subst hn
    have hok := h.bstep_ok hw p
    have hstep := ih (done ++ [p]) (x.bstep G p.1) hok (Ix.bstep_n _ _ _) (by simpa using hp) ?_
    · rw [List.append_assoc] at hstep
      exact hstep
    · intro q hq
      rw [List.pairwise_append] at hp
      have hqp : min q.1.1 q.1.2 ≤ min p.1.1 p.1.2 ∧ (q ≠ p ∨ q = p) := by
        rcases List.mem_append.1 hq with h1 | h1
        · have := hp.2.2 q h1 p (by simp)
          exact ⟨this.1, .inl this.2⟩
        · obtain rfl := List.mem_singleton.1 h1
          exact ⟨Nat.le_refl _, .inr rfl⟩
      unfold Ix.RightAt
      rw [Ix.bstep_by, h.bstep_best hw p q hqp.1]
      obtain ⟨p1, p2, p3⟩ := p.2
      obtain ⟨q1, q2, q3⟩ := q.2
      by_cases e : q = p
      · subst e
        rw [h.bstep_set hw q]
        show (if _ ∧ _ then _ else _) = _
        rw [if_pos ⟨rfl, rfl⟩]
      · have hqd : q ∈ done := by
          rcases List.mem_append.1 hq with h1 | h1
          · exact h1
          · exact absurd (List.mem_singleton.1 h1) e
        rw [h.bstep_set hw p]
        show (if _ ∧ _ then _ else _) = _
        rw [if_neg]
        · exact hd q hqd
        · rintro ⟨e1, e2⟩
          exact e (Subtype.ext (Prod.ext (h.by_inj q1 p1 e1) (h.by_inj q2 p2 e2)))

/-- Each entry is the right one. -/
def Whole (G : Gr) (x : Ix) : Prop := ∀ u v : Nat, u < x.n → v < x.n → u ≠ v → x.ent u v = x.best (u : Nat) (v : Nat) (G.best (u : Nat) (v : Nat))
/-- The index of a graph and an order. -/
def Ix.build (x : Ix) (G : Gr) : Ix := x.bld G (prs x.n x.n)
theorem Ix.build_n (x : Ix) (G : Gr) : (x.build G).n = x.n := (Ix.bld_shape G _ x).1
theorem Ix.build_rk (x : Ix) (G : Gr) : (x.build G).rk = x.rk := (Ix.bld_shape G _ x).2.1
theorem Ix.build_by (x : Ix) (G : Gr) : (x.build G).by_ = x.by_ := (Ix.bld_shape G _ x).2.2
theorem Ix.Ok.build_whole {x : Ix} (h : x.Ok) {G : Gr} (hw : G.Wt) : (x.build G).Ok ∧ Whole G (x.build G) := by
  obtain ⟨h1, h2⟩ := Ix.Ok.bld_right hw (prs x.n x.n) [] x h rfl (by simpa using prs_pw x.n x.n) (fun q hq => by cases hq)
  refine ⟨h1, fun u v hu hv hne => ?_⟩
  rw [Ix.build_n] at hu hv
  have ru := h.rk u hu
  have rv := h.rk v hv
  have := h2 ⟨(x.rk u, x.rk v), ru.1, rv.1, fun e => hne (h.inj hu hv e)⟩ (by simpa using prs_all _ _)
  unfold Ix.RightAt at this
  rw [(Ix.bld_shape G (prs x.n x.n) x).2.2] at this
  simp only [ru.2, rv.2] at this
  exact this

end Go.Proofs.YtpkocidcfnlbiaaDoor
