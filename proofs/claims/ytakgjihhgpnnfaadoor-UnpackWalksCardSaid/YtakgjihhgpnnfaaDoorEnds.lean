/- The law of ends: each link lies at its lower end, and at no other vertex; walked. -/
import Derived.Test.YtakgjihhgpnnfaaDoorUps
import Derived.Test.YtakgjihhgpnnfaaDoorAway
set_option linter.unusedVariables false
set_option linter.unusedSimpArgs false
namespace Go.Proofs.YtakgjihhgpnnfaaDoor
open Go.RowKit Go.Deep
attribute [local go_sem high] run_eql_en run_neq_en eq3_self

theorem Ix.ups_le (x : Ix) (v : Int) (back : Bool) : (x.ups v back).length ≤ x.n := by
  unfold Ix.ups
  split
  · exact x.upsTo_le v back x.n
  · simp
theorem Ix.seen_le (x : Ix) : ∀ k, x.seen k ≤ k * (2 * x.n)
  | 0 => by simp [Ix.seen, sumN]
  | k + 1 => by
    have := x.seen_le k
    have := x.ups_le (k : Nat) false
    have := x.ups_le (k : Nat) true
    have e : x.seen (k + 1) = x.seen k + ((x.ups (k : Nat) false).length + (x.ups (k : Nat) true).length) := rfl
    rw [e, Nat.succ_mul]; omega

end Go.Proofs.YtakgjihhgpnnfaaDoor
