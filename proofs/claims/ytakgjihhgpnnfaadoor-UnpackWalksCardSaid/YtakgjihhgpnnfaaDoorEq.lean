/- '==' and '!=' between entries, in one piece. -/
import Derived.Test.YtakgjihhgpnnfaaDoorIdxA
set_option linter.unusedVariables false
set_option linter.unusedSimpArgs false
namespace Go.Proofs.YtakgjihhgpnnfaaDoor
open Go.RowKit

def eq3 (a0 a1 a2 b0 b1 b2 : Int) : Bool := decide (a0 = b0 ∧ a1 = b1 ∧ a2 = b2)

theorem run_eql_en (a0 a1 a2 b0 b1 b2 : Int) (w : World) : (binOp .eql 42 (.agg #[.int .i64 a0, .int .i64 a1, .int .i64 a2]) (.agg #[.int .i64 b0, .int .i64 b1, .int .i64 b2])).run Tryd.prog w = .ok (.bool (eq3 a0 a1 a2 b0 b1 b2)) w := by
  by_cases h0 : a0 = b0
  · by_cases h1 : a1 = b1
    · by_cases h2 : a2 = b2
      · subst h0; subst h1; subst h2; simp [go_sem, eq3]
      · subst h0; subst h1; simp [go_sem, eq3, h2]
    · subst h0; simp [go_sem, eq3, h1]
  · simp [go_sem, eq3, h0]
theorem run_neq_en (a0 a1 a2 b0 b1 b2 : Int) (w : World) : (binOp .neq 42 (.agg #[.int .i64 a0, .int .i64 a1, .int .i64 a2]) (.agg #[.int .i64 b0, .int .i64 b1, .int .i64 b2])).run Tryd.prog w = .ok (.bool (!eq3 a0 a1 a2 b0 b1 b2)) w := by
  by_cases h0 : a0 = b0
  · by_cases h1 : a1 = b1
    · by_cases h2 : a2 = b2
      · subst h0; subst h1; subst h2; simp [go_sem, eq3]
      · subst h0; subst h1; simp [go_sem, eq3, h2]
    · subst h0; simp [go_sem, eq3, h1]
  · simp [go_sem, eq3, h0]
theorem run_eql_kept (a0 a1 a2 b0 b1 b2 : Int) (w : World) : (binOp .eql 103 (.agg #[.int .i64 a0, .int .i64 a1, .int .i64 a2]) (.agg #[.int .i64 b0, .int .i64 b1, .int .i64 b2])).run Tryd.prog w = .ok (.bool (eq3 a0 a1 a2 b0 b1 b2)) w := by
  by_cases h0 : a0 = b0
  · by_cases h1 : a1 = b1
    · by_cases h2 : a2 = b2
      · subst h0; subst h1; subst h2; simp [go_sem, eq3]
      · subst h0; subst h1; simp [go_sem, eq3, h2]
    · subst h0; simp [go_sem, eq3, h1]
  · simp [go_sem, eq3, h0]
theorem run_neq_kept (a0 a1 a2 b0 b1 b2 : Int) (w : World) : (binOp .neq 103 (.agg #[.int .i64 a0, .int .i64 a1, .int .i64 a2]) (.agg #[.int .i64 b0, .int .i64 b1, .int .i64 b2])).run Tryd.prog w = .ok (.bool (!eq3 a0 a1 a2 b0 b1 b2)) w := by
  by_cases h0 : a0 = b0
  · by_cases h1 : a1 = b1
    · by_cases h2 : a2 = b2
      · subst h0; subst h1; subst h2; simp [go_sem, eq3]
      · subst h0; subst h1; simp [go_sem, eq3, h2]
    · subst h0; simp [go_sem, eq3, h1]
  · simp [go_sem, eq3, h0]
theorem eq3_en (a b : En) : eq3 a.w a.a a.m b.w b.a b.m = decide (a = b) := by
  obtain ⟨a0, a1, a2⟩ := a
  obtain ⟨b0, b1, b2⟩ := b
  simp [eq3]

end Go.Proofs.YtakgjihhgpnnfaaDoor
