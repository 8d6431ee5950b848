/- The order of a number: as the document reckons it; that it is an order. Plain mathematics. -/
import Derived.Test.YtlncmnphjdeeoaaDoorBase
set_option linter.unusedVariables false
set_option linter.unusedSimpArgs false
namespace Go.Proofs.YtlncmnphjdeeoaaDoor
open Go.RowKit

/-- From v on, among k numbers, the a-th that isn't gone. -/
def nth (g : Nat → Bool) : Nat → Nat → Nat → Option Nat
  | 0, _, _ => none
  | k + 1, v, a => if g v then nth g k (v + 1) a else if a = 0 then some v else nth g k (v + 1) (a - 1)

def setN (f : Nat → Nat) (i v : Nat) : Nat → Nat := fun j => if j = i then v else f j
def setB (f : Nat → Bool) (i : Nat) : Nat → Bool := fun j => if j = i then true else f j

structure OfSt where
  out : Nat → Nat
  gone : Nat → Bool
  num : Nat

def ofStep (n r : Nat) (s : OfSt) : OfSt :=
  match nth s.gone n 0 (s.num % (n - r)) with
  | some v => ⟨setN s.out v r, setB s.gone v, s.num / (n - r)⟩
  | none => ⟨s.out, s.gone, s.num / (n - r)⟩
def ofSt (n num : Nat) : Nat → OfSt
  | 0 => ⟨fun _ => 0, fun _ => false, num⟩
  | r + 1 => ofStep n r (ofSt n num r)
/-- Each vertex's rank, by the number. -/
def rankOf (n num v : Nat) : Nat := (ofSt n num n).out v

/-- How many of k numbers from v on aren't gone. -/
def left (g : Nat → Bool) : Nat → Nat → Nat
  | 0, _ => 0
  | k + 1, v => (if g v then 0 else 1) + left g k (v + 1)

theorem nth_some (g : Nat → Bool) : ∀ (k v a : Nat), a < left g k v → ∃ x, nth g k v a = some x ∧ v ≤ x ∧ x < v + k ∧ g x = false := by
  intro k
  induction k with
  | zero => intro v a h; simp [left] at h
  | succ k ih =>
    intro v a h
    simp only [left] at h
    simp only [nth]
    cases hg : g v with
    | true =>
      rw [hg] at h; simp only [if_true] at h ⊢
      obtain ⟨x, h1, h2, h3, h4⟩ := ih (v + 1) a (by omega)
      exact ⟨x, h1, by omega, by omega, h4⟩
    | false =>
      rw [hg] at h; simp only [Bool.false_eq_true, if_false] at h ⊢
      by_cases ha : a = 0
      · rw [if_pos ha]; exact ⟨v, rfl, by omega, by omega, hg⟩
      · rw [if_neg ha]
        obtain ⟨x, h1, h2, h3, h4⟩ := ih (v + 1) (a - 1) (by omega)
        exact ⟨x, h1, by omega, by omega, h4⟩

theorem left_setB_out (g : Nat → Bool) (x : Nat) : ∀ (k v : Nat), (x < v ∨ v + k ≤ x) → left (setB g x) k v = left g k v := by
  intro k
  induction k with
  | zero => intro v _; rfl
  | succ k ih =>
    intro v h
    simp only [left]
    rw [ih (v + 1) (by omega)]
    have : setB g x v = g v := if_neg (by omega)
    rw [this]
theorem left_setB (g : Nat → Bool) (x : Nat) (hx : g x = false) : ∀ (k v : Nat), v ≤ x → x < v + k → left (setB g x) k v + 1 = left g k v := by
  intro k
  induction k with
  | zero => intro v h1 h2; omega
  | succ k ih =>
    intro v h1 h2
    simp only [left]
    by_cases e : v = x
    · subst e
      rw [left_setB_out g v k (v + 1) (by omega)]
      have : setB g v v = true := if_pos rfl
      rw [this, hx]; simp; omega
    · have := ih (v + 1) (by omega) (by omega)
      have hv : setB g x v = g v := if_neg e
      rw [hv]; omega
theorem left_zero (g : Nat → Bool) : ∀ (k v : Nat), left g k v = 0 → ∀ x, v ≤ x → x < v + k → g x = true := by
  intro k
  induction k with
  | zero => intro v _ x h1 h2; omega
  | succ k ih =>
    intro v h x h1 h2
    simp only [left] at h
    by_cases e : x = v
    · subst e
      cases hg : g x with
      | true => rfl
      | false => rw [hg] at h; simp at h
    · exact ih (v + 1) (by omega) x (by omega) (by omega)
theorem left_all : ∀ (k v : Nat), left (fun _ => false) k v = k := by
  intro k
  induction k with
  | zero => intro v; rfl
  | succ k ih => intro v; simp only [left]; rw [ih]; simp; omega

structure OfInv (n r : Nat) (s : OfSt) : Prop where
  left : left s.gone n 0 = n - r
  lt : ∀ v, s.gone v = true → s.out v < r
  inj : ∀ u v, s.gone u = true → s.gone v = true → s.out u = s.out v → u = v

theorem ofInv (n num : Nat) : ∀ r, r ≤ n → OfInv n r (ofSt n num r) := by
  intro r
  induction r with
  | zero => intro _; exact ⟨left_all n 0, fun v h => (by cases h), fun u v h => (by cases h)⟩
  | succ r ih =>
    intro hr
    have h := ih (by omega)
    simp only [ofSt]
    have hm : (ofSt n num r).num % (n - r) < left (ofSt n num r).gone n 0 := by rw [h.left]; exact Nat.mod_lt _ (by omega)
    obtain ⟨x, e, h1, h2, h3⟩ := nth_some _ _ _ _ hm
    simp only [ofStep, e]
    refine ⟨?_, fun v hv => ?_, fun u v hu hv huv => ?_⟩
    · have := left_setB (ofSt n num r).gone x h3 n 0 (by omega) (by omega)
      have := h.left
      show Go.Proofs.YtlncmnphjdeeoaaDoor.left (setB (ofSt n num r).gone x) n 0 = n - (r + 1)
      omega
    · simp only [setB, setN] at hv ⊢
      by_cases e : v = x
      · rw [if_pos e]; omega
      · rw [if_neg e] at hv ⊢; have := h.lt v hv; omega
    · simp only [setB, setN] at hu hv huv
      by_cases eu : u = x
      · by_cases ev : v = x
        · omega
        · rw [if_pos eu, if_neg ev] at huv; rw [if_neg ev] at hv
          have := h.lt v hv; omega
      · by_cases ev : v = x
        · rw [if_neg eu, if_pos ev] at huv; rw [if_neg eu] at hu
          have := h.lt u hu; omega
        · rw [if_neg eu, if_neg ev] at huv; rw [if_neg eu] at hu; rw [if_neg ev] at hv
          exact h.inj u v hu hv huv

theorem ofSt_num_le (n num : Nat) : ∀ r, (ofSt n num r).num ≤ num := by
  intro r
  induction r with
  | zero => exact Nat.le_refl _
  | succ r ih =>
    have e : (ofSt n num (r + 1)).num = (ofSt n num r).num / (n - r) := by
      simp only [ofSt, ofStep]
      cases nth (ofSt n num r).gone n 0 ((ofSt n num r).num % (n - r)) <;> rfl
    rw [e]
    exact Nat.le_trans (Nat.div_le_self _ _) ih

/-- The vertex that comes next. -/
theorem ofNext (n num r : Nat) (hr : r < n) : ∃ x, nth (ofSt n num r).gone n 0 ((ofSt n num r).num % (n - r)) = some x ∧ x < n ∧ (ofSt n num r).gone x = false ∧
    ofSt n num (r + 1) = ⟨setN (ofSt n num r).out x r, setB (ofSt n num r).gone x, (ofSt n num r).num / (n - r)⟩ := by
  have h := ofInv n num r (by omega)
  have hm : (ofSt n num r).num % (n - r) < left (ofSt n num r).gone n 0 := by rw [h.left]; exact Nat.mod_lt _ (by omega)
  obtain ⟨x, e, h1, h2, h3⟩ := nth_some _ _ _ _ hm
  exact ⟨x, e, by omega, h3, by simp only [ofSt, ofStep, e]⟩

theorem rankOf_lt (n num v : Nat) (hv : v < n) : rankOf n num v < n := by
  have h := ofInv n num n (Nat.le_refl _)
  exact h.lt v (left_zero _ n 0 (by rw [h.left]; omega) v (by omega) (by omega))
theorem rankOf_inj (n num u v : Nat) (hu : u < n) (hv : v < n) (e : rankOf n num u = rankOf n num v) : u = v := by
  have h := ofInv n num n (Nat.le_refl _)
  exact h.inj u v (left_zero _ n 0 (by rw [h.left]; omega) u (by omega) (by omega)) (left_zero _ n 0 (by rw [h.left]; omega) v (by omega) (by omega)) e

end Go.Proofs.YtlncmnphjdeeoaaDoor
