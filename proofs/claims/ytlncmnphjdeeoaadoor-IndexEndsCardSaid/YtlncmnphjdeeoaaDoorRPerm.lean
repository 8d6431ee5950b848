/- The document's answer whether a list is an order: each rank counted; walked. -/
import Derived.Test.YtlncmnphjdeeoaaDoorAwk
set_option linter.unusedVariables false
set_option linter.unusedSimpArgs false
namespace Go.Proofs.YtlncmnphjdeeoaaDoor
open Go.RowKit Go.Deep

def cntF (f : Nat → Int) (r : Int) : Nat → Nat
  | 0 => 0
  | k + 1 => cntF f r k + if f k = r then 1 else 0
theorem cntF_le (f : Nat → Int) (r : Int) : ∀ k, cntF f r k ≤ k
  | 0 => Nat.le_refl _
  | k + 1 => by have := cntF_le f r k; unfold cntF; split <;> omega
theorem cntF_mem (f : Nat → Int) (r : Int) : ∀ k j, j < k → f j = r → 1 ≤ cntF f r k
  | 0, j, h, _ => by omega
  | k + 1, j, h, e => by
    unfold cntF
    rcases Nat.lt_or_ge j k with h1 | h1
    · have := cntF_mem f r k j h1 e; omega
    · obtain rfl : j = k := by omega
      rw [if_pos e]; omega
theorem cntF_two (f : Nat → Int) (r : Int) : ∀ k i j, i < j → j < k → f i = r → f j = r → 2 ≤ cntF f r k
  | 0, i, j, _, h, _, _ => by omega
  | k + 1, i, j, hij, h, e1, e2 => by
    unfold cntF
    rcases Nat.lt_or_ge j k with h1 | h1
    · have := cntF_two f r k i j hij h1 e1 e2; omega
    · obtain rfl : j = k := by omega
      rw [if_pos e2]; have := cntF_mem f r j i hij e1; omega
theorem cntF_pos (f : Nat → Int) (r : Int) : ∀ k, 0 < cntF f r k → ∃ j, j < k ∧ f j = r
  | 0, h => by unfold cntF at h; omega
  | k + 1, h => by
    by_cases e : f k = r
    · exact ⟨k, by omega, e⟩
    · unfold cntF at h
      rw [if_neg e] at h
      obtain ⟨j, h1, h2⟩ := cntF_pos f r k (by omega)
      exact ⟨j, by omega, h2⟩
theorem cntF_one (f : Nat → Int) (r : Int) (k : Nat) (hi : ∀ i j, i < j → j < k → f i ≠ f j) : cntF f r k ≤ 1 := by
  induction k with
  | zero => unfold cntF; omega
  | succ k ih =>
    have := ih fun i j h1 h2 => hi i j h1 (by omega)
    unfold cntF
    split
    · rename_i e
      have : cntF f r k = 0 := by
        rcases Nat.eq_zero_or_pos (cntF f r k) with h | h
        · exact h
        · obtain ⟨j, h1, h2⟩ := cntF_pos f r k h
          exact absurd (h2.trans e.symm) (hi j k h1 (by omega))
      omega
    · omega

theorem right_iff (f : Nat → Int) (n : Nat) (hn : n ≤ 24) : (∀ r : Nat, r < n → cntF f r n = 1) ↔ PermF n f := by
  constructor
  · intro h
    have hg : ∀ r : Nat, r < n → ∃ j, j < n ∧ f j = r := fun r hr => cntF_pos f r n (by have := h r hr; omega)
    obtain ⟨k, hk1, hk2⟩ := inverse_of n (fun r => if h' : r < n then Classical.choose (hg r h') else 0)
      (fun i hi => by simp only [dif_pos hi]; exact (Classical.choose_spec (hg i hi)).1)
      (fun i j hi hj e => by
        simp only [dif_pos hi, dif_pos hj] at e
        have a := (Classical.choose_spec (hg i hi)).2
        have b := (Classical.choose_spec (hg j hj)).2
        rw [e] at a
        have := a.symm.trans b
        omega)
    have hv : ∀ j, j < n → f j = (k j : Nat) ∧ k j < n := fun j hj => by
      obtain ⟨h1, h2⟩ := hk2 j hj
      simp only [dif_pos h1] at h2
      have := (Classical.choose_spec (hg (k j) h1)).2
      rw [h2] at this
      exact ⟨this, h1⟩
    refine ⟨hn, fun j hj => ?_, fun i j hij hj e => ?_⟩
    · have := hv j hj; omega
    · have a := hv j hj
      have := cntF_two f (k j : Nat) n i j hij hj (e.trans a.1) a.1
      have := h (k j) a.2
      omega
  · intro h r hr
    obtain ⟨g, _, hg2⟩ := h.inv
    have a := hg2 r hr
    have := cntF_mem f r n (g r) a.1 a.2
    have := cntF_one f r n h.2.2
    omega

end Go.Proofs.YtlncmnphjdeeoaaDoor
