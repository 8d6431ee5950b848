/- The law of taking away: an entry that is taken away is there no more, and set again it is there; walked. -/
import Derived.Test.YtakgjihhgpnnfaaDoorAwk
import Derived.Test.YtakgjihhgpnnfaaDoorSam
import Derived.Test.YtakgjihhgpnnfaaDoorUnE
set_option linter.unusedVariables false
set_option linter.unusedSimpArgs false
namespace Go.Proofs.YtakgjihhgpnnfaaDoor
open Go.RowKit Go.Deep
attribute [local go_sem high] run_eql_en run_neq_en eq3_self

theorem Ix.away_no {x : Ix} {u v : Int} (h : x.two u v = false) (e : En) : x.codeI u v e = 1 ∧ x.setI u v e = x := by
  unfold Ix.codeI Ix.setI
  simp [h]
theorem Ix.may_none (x : Ix) (u v : Int) : x.May u v En.none := .inl ⟨rfl, rfl, rfl⟩
theorem Ix.set_set (x : Ix) (u v : Nat) (e : En) : (x.set u v e).set u v (x.ent u v) = x := by
  cases x
  simp only [Ix.set, Ix.mk.injEq, true_and]
  funext a b
  by_cases h : a = u ∧ b = v
  · obtain ⟨rfl, rfl⟩ := h; simp
  · simp [h]
theorem Ix.away_yes {x : Ix} (hf : x.Fit) {u v : Int} (h : x.two u v = true) :
    x.codeI u v En.none = 0 ∧ (x.setI u v En.none).at_ u v = En.none ∧ (x.setI u v En.none).codeI u v (x.at_ u v) = 0 ∧ (x.setI u v En.none).setI u v (x.at_ u v) = x := by
  obtain ⟨hne, h1, h2, h3, h4⟩ := two_iff h
  obtain ⟨a, rfl⟩ := Int.eq_ofNat_of_zero_le h1
  obtain ⟨b, rfl⟩ := Int.eq_ofNat_of_zero_le h3
  have m0 := x.may_none a b
  have e1 : x.setI a b En.none = x.set a b En.none := by unfold Ix.setI; rw [if_pos ⟨h, m0⟩]; rfl
  have ht : (x.set a b En.none).two a b = true := (Ix.two_congr (x := x.set a b En.none) (y := x) rfl _ _).trans h
  have ea : x.at_ a b = x.ent a b := by unfold Ix.at_; rw [if_pos h]; rfl
  have hm : (x.set a b En.none).May a b (x.ent a b) := (Ix.May_congr (x := x.set a b En.none) (y := x) rfl rfl _ _ _).2 (hf a b h)
  refine ⟨by unfold Ix.codeI; rw [if_pos ⟨h, m0⟩], ?_, ?_, ?_⟩
  · rw [e1]; unfold Ix.at_; rw [if_pos ht]; simp [Ix.set]
  · rw [e1, ea]; unfold Ix.codeI; rw [if_pos ⟨ht, hm⟩]
  · rw [e1, ea]; unfold Ix.setI; rw [if_pos ⟨ht, hm⟩]; exact x.set_set a b _

end Go.Proofs.YtakgjihhgpnnfaaDoor
