/- A function that takes no value twice below n, all its values below n, meets each number below n: its inverse. Plain mathematics. -/
import Derived.Test.YtlncmnphjdeeoaaDoorBase
set_option linter.unusedVariables false
set_option linter.unusedSimpArgs false
namespace Go.Proofs.YtlncmnphjdeeoaaDoor
open Go.RowKit

theorem pigeon : ∀ (n : Nat) (f : Nat → Nat), (∀ i, i < n → f i < n) → (∀ i j, i < n → j < n → f i = f j → i = j) → ∀ y, y < n → ∃ i, i < n ∧ f i = y := by
  intro n
  induction n with
  | zero => intro f _ _ y hy; omega
  | succ n ih =>
    intro f hf hinj y hy
    by_cases hm : f n = n
    · by_cases hyn : y = n
      · exact ⟨n, by omega, by omega⟩
      · obtain ⟨i, hi, e⟩ := ih f (fun i hi => by
          have h1 := hf i (by omega)
          have h2 : f i ≠ n := fun e => by have := hinj i n (by omega) (by omega) (by omega); omega
          omega) (fun i j hi hj e => hinj i j (by omega) (by omega) e) y (by omega)
        exact ⟨i, by omega, e⟩
    · have hmn := hf n (by omega)
      have key := ih (fun i => if f i = n then f n else f i) (fun i hi => by
        have h1 := hf i (by omega)
        show (if f i = n then f n else f i) < n
        split <;> omega) (fun i j hi hj e => by
        have e' : (if f i = n then f n else f i) = (if f j = n then f n else f j) := e
        by_cases a : f i = n
        · by_cases b : f j = n
          · exact hinj i j (by omega) (by omega) (by omega)
          · rw [if_pos a, if_neg b] at e'
            have := hinj n j (by omega) (by omega) e'; omega
        · by_cases b : f j = n
          · rw [if_neg a, if_pos b] at e'
            have := hinj i n (by omega) (by omega) e'; omega
          · rw [if_neg a, if_neg b] at e'
            exact hinj i j (by omega) (by omega) e')
      by_cases hyn : y = n
      · obtain ⟨i, hi, e⟩ := key (f n) (by omega)
        have e' : (if f i = n then f n else f i) = f n := e
        by_cases a : f i = n
        · exact ⟨i, by omega, by omega⟩
        · rw [if_neg a] at e'
          have := hinj i n (by omega) (by omega) e'; omega
      · obtain ⟨i, hi, e⟩ := key y (by omega)
        have e' : (if f i = n then f n else f i) = y := e
        by_cases a : f i = n
        · rw [if_pos a] at e'; exact ⟨n, by omega, e'⟩
        · rw [if_neg a] at e'; exact ⟨i, by omega, e'⟩

theorem inverse_of (n : Nat) (f : Nat → Nat) (hf : ∀ i, i < n → f i < n) (hinj : ∀ i j, i < n → j < n → f i = f j → i = j) :
    ∃ g : Nat → Nat, (∀ i, i < n → g (f i) = i) ∧ (∀ r, r < n → g r < n ∧ f (g r) = r) := by
  have h := pigeon n f hf hinj
  refine ⟨fun r => if h' : r < n then Classical.choose (h r h') else 0, fun i hi => ?_, fun r hr => ?_⟩
  · have hr := hf i hi
    have hs := Classical.choose_spec (h (f i) hr)
    simp only [dif_pos hr]
    exact hinj _ _ hs.1 hi hs.2
  · have hs := Classical.choose_spec (h r hr)
    simp only [dif_pos hr]
    exact hs

end Go.Proofs.YtlncmnphjdeeoaaDoor
