/- The document's 'Up': the higher vertices that have an entry, by rising rank; walked. -/
import Derived.Test.YtakgjihhgpnnfaaDoorFam
set_option linter.unusedVariables false
set_option linter.unusedSimpArgs false
namespace Go.Proofs.YtakgjihhgpnnfaaDoor
open Go.RowKit Go.Deep
attribute [local go_sem high] run_eql_en run_neq_en

theorem own_slL {w : World} {base : Nat} {A : Option Addr} {c : Nat} {l : List Int} (h : w.ownsRow base 3 1 (.slice A l.length c) l.length (l.map (Value.int .i64))) (hn : l = [] → A = none ∧ c = 0) : SlL w (.slice A l.length c) l := by
  rcases Nat.eq_zero_or_pos l.length with h0 | h0
  · have e := List.eq_nil_of_length_eq_zero h0
    obtain ⟨rfl, rfl⟩ := hn e
    exact .inl ⟨e, by rw [e]; rfl⟩
  · have hh := h
    obtain ⟨h1, h2 | ⟨g, cap, cur, e1, _⟩⟩ := h
    · have h3 := h2.1
      simp only [Value.slice.injEq] at h3
      omega
    · rw [e1] at hh
      obtain ⟨q1, q2, q3, q4, q5⟩ := own_list hh
      exact .inr ⟨g, 0, cap, h0, e1, fun j hj => by rw [Nat.zero_add]; exact q5 j hj⟩

theorem Ix.upsTo_le (x : Ix) (v : Int) (back : Bool) : ∀ r, (x.upsTo v back r).length ≤ r
  | 0 => Nat.le_refl _
  | r + 1 => by
    have := x.upsTo_le v back r
    unfold Ix.upsTo
    split
    · simp; omega
    · omega

end Go.Proofs.YtakgjihhgpnnfaaDoor

/- The document's 'Up', both ways; walked. -/
set_option linter.unusedVariables false
set_option linter.unusedSimpArgs false
namespace Go.Proofs.YtakgjihhgpnnfaaDoor
open Go.RowKit Go.Deep
attribute [local go_sem high] run_eql_en run_neq_en

end Go.Proofs.YtakgjihhgpnnfaaDoor
