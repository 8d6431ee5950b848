/- The program's unpacking as plain mathematics: a stack of what is still to be unpacked. -/
import Derived.Test.YtlncmnphjdeeoaaDoorUnA
set_option linter.unusedVariables false
set_option linter.unusedSimpArgs false
namespace Go.Proofs.YtlncmnphjdeeoaaDoor
open Go.RowKit Go.Deep

/-- What is left of n pairs, the last one first, behind arcs that are there. -/
def Ix.unw (x : Ix) (st : Nat → Int × Int) : Nat → List Int → List Int × Int
  | 0, l => (l, 0)
  | n + 1, l => if (x.add 25 (st n).1 (st n).2 l).2 ≠ 0 then ([], (x.add 25 (st n).1 (st n).2 l).2) else x.unw st n (x.add 25 (st n).1 (st n).2 l).1

theorem Ix.unw_congr (x : Ix) (st st' : Nat → Int × Int) : ∀ (n : Nat) (l : List Int), (∀ j, j < n → st j = st' j) → x.unw st n l = x.unw st' n l := by
  intro n
  induction n with
  | zero => intro l _; rfl
  | succ n ih =>
    intro l h
    simp only [Ix.unw]
    rw [h n (by omega), ih _ (fun j hj => h j (by omega))]

def pushed (st : Nat → Int × Int) (n : Nat) (p q : Int × Int) : Nat → Int × Int := fun j => if j = n then p else if j = n + 1 then q else st j

def Ix.meas (x : Ix) (st : Nat → Int × Int) : Nat → Nat
  | 0 => 0
  | n + 1 => (2 ^ x.dep (st n).1 (st n).2 - 1) + x.meas st n
theorem Ix.meas_congr (x : Ix) (st st' : Nat → Int × Int) : ∀ (n : Nat), (∀ j, j < n → st j = st' j) → x.meas st n = x.meas st' n := by
  intro n
  induction n with
  | zero => intro _; rfl
  | succ n ih =>
    intro h
    simp only [Ix.meas]
    rw [h n (by omega), ih (fun j hj => h j (by omega))]
theorem Ix.meas_pos (x : Ix) (u v : Int) : 1 ≤ 2 ^ x.dep u v - 1 := by
  have : 2 ^ 1 ≤ 2 ^ x.dep u v := Nat.pow_le_pow_right (by omega) (by unfold Ix.dep; omega)
  omega

theorem Ix.meas_ge (x : Ix) (st : Nat → Int × Int) : ∀ n, n ≤ x.meas st n := by
  intro n
  induction n with
  | zero => exact Nat.zero_le _
  | succ n ih =>
    have := x.meas_pos (st n).1 (st n).2
    simp only [Ix.meas]; omega
theorem Ix.unw_none {x : Ix} {st : Nat → Int × Int} {n : Nat} {l : List Int} (h0 : x.at_ (st n).1 (st n).2 = En.none) : x.unw st (n + 1) l = ([], 3) := by
  have e : x.add 25 (st n).1 (st n).2 l = ([], 3) := by rw [Ix.add, if_pos h0]
  simp only [Ix.unw, e]; rfl
theorem Ix.unw_long {x : Ix} {st : Nat → Int × Int} {n : Nat} {l : List Int} (h0 : x.at_ (st n).1 (st n).2 ≠ En.none) (hm : (x.at_ (st n).1 (st n).2).m < 0) (hl : 23 ≤ l.length) : x.unw st (n + 1) l = ([], 9) := by
  have e : x.add 25 (st n).1 (st n).2 l = ([], 9) := by rw [Ix.add, if_neg h0, if_pos hm, if_pos hl]
  simp only [Ix.unw, e]; rfl
theorem Ix.unw_arc {x : Ix} {st : Nat → Int × Int} {n : Nat} {l : List Int} (h0 : x.at_ (st n).1 (st n).2 ≠ En.none) (hm : (x.at_ (st n).1 (st n).2).m < 0) (hl : ¬ 23 ≤ l.length) : x.unw st (n + 1) l = x.unw st n (l ++ [(x.at_ (st n).1 (st n).2).a]) := by
  have e : x.add 25 (st n).1 (st n).2 l = (l ++ [(x.at_ (st n).1 (st n).2).a], 0) := by rw [Ix.add, if_neg h0, if_pos hm, if_neg hl]
  simp only [Ix.unw, e]; simp
theorem Ix.unw_mid {x : Ix} (hfit : x.Fit) (hok : x.Ok) {st : Nat → Int × Int} {n : Nat} {l : List Int} (h0 : x.at_ (st n).1 (st n).2 ≠ En.none) (hm : 0 ≤ (x.at_ (st n).1 (st n).2).m) :
    x.unw st (n + 1) l = x.unw (pushed st n ((x.at_ (st n).1 (st n).2).m, (st n).2) ((st n).1, (x.at_ (st n).1 (st n).2).m)) (n + 2) l ∧
    x.meas (pushed st n ((x.at_ (st n).1 (st n).2).m, (st n).2) ((st n).1, (x.at_ (st n).1 (st n).2).m)) (n + 2) < x.meas st (n + 1) := by
  have hc := hfit.cases hok (st n).1 (st n).2
  rw [or_iff_right h0] at hc
  obtain ⟨hw1, hw2, htw, hc⟩ := hc
  have hc : x.rk (x.at_ (st n).1 (st n).2).m.toNat < x.rk (st n).1.toNat ∧ x.rk (x.at_ (st n).1 (st n).2).m.toNat < x.rk (st n).2.toNat := by
    rcases hc with ⟨a, b, c⟩ | ⟨a, b, c, d, e⟩
    · omega
    · exact ⟨d, e⟩
  have hd := Ix.dep_mid hc.1 hc.2
  have h24 := Ix.dep_le hok htw
  obtain ⟨m, hM⟩ : ∃ m, (x.at_ (st n).1 (st n).2).m = m := ⟨_, rfl⟩
  rw [hM] at hd hm ⊢
  have p1 : pushed st n (m, (st n).2) ((st n).1, m) (n + 1) = ((st n).1, m) := by simp [pushed]
  have p0 : pushed st n (m, (st n).2) ((st n).1, m) n = (m, (st n).2) := by simp [pushed]
  have pj : ∀ j, j < n → pushed st n (m, (st n).2) ((st n).1, m) j = st j := fun j hj => by
    unfold pushed; rw [if_neg (by omega), if_neg (by omega)]
  constructor
  · have ea : x.add 25 (st n).1 (st n).2 l = if (x.add 25 (st n).1 m l).2 ≠ 0 then ([], (x.add 25 (st n).1 m l).2) else x.add 25 m (st n).2 (x.add 25 (st n).1 m l).1 := by
      rw [Ix.add, if_neg h0, hM, if_neg (show ¬ m < 0 by omega), Ix.add_fuel hfit hok 24 24 25 (st n).1 m l (by omega) (by omega) (by omega)]
      split
      · rfl
      · exact Ix.add_fuel hfit hok 24 24 25 m (st n).2 _ (by omega) (by omega) (by omega)
    have er : x.unw (pushed st n (m, (st n).2) ((st n).1, m)) (n + 2) l = if (x.add 25 (st n).1 m l).2 ≠ 0 then ([], (x.add 25 (st n).1 m l).2) else
        if (x.add 25 m (st n).2 (x.add 25 (st n).1 m l).1).2 ≠ 0 then ([], (x.add 25 m (st n).2 (x.add 25 (st n).1 m l).1).2) else x.unw st n (x.add 25 m (st n).2 (x.add 25 (st n).1 m l).1).1 := by
      simp only [Ix.unw, p1, p0]
      rw [Ix.unw_congr x _ st n _ pj]
    rw [er]
    simp only [Ix.unw]
    rw [ea]
    by_cases h1 : (x.add 25 (st n).1 m l).2 = 0
    · have h1' : ¬ (x.add 25 (st n).1 m l).2 ≠ 0 := by simpa using h1
      simp only [if_neg h1']
    · have h1' : (x.add 25 (st n).1 m l).2 ≠ 0 := h1
      simp only [if_pos h1']
  · simp only [Ix.meas, p1, p0]
    rw [Ix.meas_congr x _ st n pj]
    have a1 : 2 ^ x.dep (st n).1 m ≤ 2 ^ (x.dep (st n).1 (st n).2 - 1) := Nat.pow_le_pow_right (by omega) (by omega)
    have a2 : 2 ^ x.dep m (st n).2 ≤ 2 ^ (x.dep (st n).1 (st n).2 - 1) := Nat.pow_le_pow_right (by omega) (by omega)
    have a3 : 2 ^ x.dep (st n).1 (st n).2 = 2 * 2 ^ (x.dep (st n).1 (st n).2 - 1) := by
      have e : x.dep (st n).1 (st n).2 = x.dep (st n).1 (st n).2 - 1 + 1 := by omega
      rw [← Nat.pow_succ']; exact congrArg (2 ^ ·) e
    have a4 := Ix.meas_pos x (st n).1 m
    have a5 := Ix.meas_pos x m (st n).2
    omega

end Go.Proofs.YtlncmnphjdeeoaaDoor
