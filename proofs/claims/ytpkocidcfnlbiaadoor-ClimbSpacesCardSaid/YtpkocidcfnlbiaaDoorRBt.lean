/- ringroadref16.Between: how far it is by way of lower ones, as the document says; walked. -/
import Derived.Test.YtpkocidcfnlbiaaDoorSetP
import Derived.Test.YtpkocidcfnlbiaaDoorBW
import Derived.Deep.Cut
import Derived.Deep.RegionHeld3
set_option linter.unusedVariables false
set_option linter.unusedSimpArgs false
namespace Go.Proofs.YtpkocidcfnlbiaaDoor
open Go.RowKit Go.Deep

theorem fw1_b {L : Nat → Bool} {n m a b : Nat} {D : Mat} (h : MB n D) (hm : m < n) (ha : a < n) (hb : b < n) : MB n (fw1 L m a b D) := fun i j hi hj => by
  unfold fw1
  split
  · unfold upd2; split
    · exact tw_b (h a m ha hm) (h m b hm hb)
    · exact h i j hi hj
  · exact h i j hi hj
theorem fwB_b {L : Nat → Bool} {n m a : Nat} {D : Mat} (h : MB n D) (hm : m < n) (ha : a < n) : ∀ k, k ≤ n → MB n (fwB L m a D k)
  | 0, _ => h
  | k + 1, hk => fw1_b (fwB_b h hm ha k (by omega)) hm ha (by omega)
theorem fwA_b {L : Nat → Bool} {n m : Nat} {D : Mat} (h : MB n D) (hm : m < n) : ∀ k, k ≤ n → MB n (fwA L n m D k)
  | 0, _ => h
  | k + 1, hk => fwB_b (fwA_b h hm k (by omega)) hm (by omega) n (Nat.le_refl n)
theorem fwM_b {L : Nat → Bool} {n : Nat} {D : Mat} (h : MB n D) : ∀ k, k ≤ n → MB n (fwM L n D k)
  | 0, _ => h
  | k + 1, hk => fwA_b (fwM_b h k (by omega)) (by omega) n (Nat.le_refl n)

/-- What is filled so far. -/
def fillD (E : Mat) (a b : Nat) : Mat := fun i j => if i < a ∨ (i = a ∧ j < b) then E i j else 0
theorem fillD_set (E : Mat) (a b : Nat) : upd2 (fillD E a b) a b (E a b) = fillD E a (b + 1) := by
  funext i j
  unfold upd2 fillD
  by_cases e : i = a ∧ j = b
  · obtain ⟨rfl, rfl⟩ := e
    rw [if_pos ⟨rfl, rfl⟩, if_pos (by omega)]
  · rw [if_neg e]
    by_cases h : i < a ∨ (i = a ∧ j < b)
    · rw [if_pos h, if_pos (by omega)]
    · rw [if_neg h, if_neg (by omega)]

def RbtR (w : World) (d : Int) (e : Ending) (w' : World) : Prop := e = .returned (.int .i64 d) ∧ Fr No w w'

end Go.Proofs.YtpkocidcfnlbiaaDoor
