/- The document's index in memory; its small functions, walked. -/
import Derived.Test.YtakgjihhgpnnfaaDoorIdxE
import Derived.Test.YtakgjihhgpnnfaaDoorEq
set_option linter.unusedVariables false
set_option linter.unusedSimpArgs false
namespace Go.Proofs.YtakgjihhgpnnfaaDoor
open Go.RowKit Go.Deep

structure RxLoc where
  b : Nat
  br : Nat
  cr : Nat

def Ix.RV (x : Ix) (L : RxLoc) (i : Nat) : Value :=
  if i = 0 then .slice (some ⟨L.br, 0, Option.none⟩) x.n L.cr
  else .int .i64 ((x.ent ((i - 1) / 72) ((i - 1) % 72 / 3)).cell ((i - 1) % 3))

def Ix.vertex (x : Ix) (v : Int) : Bool := decide (0 ≤ v ∧ v < x.n)

end Go.Proofs.YtakgjihhgpnnfaaDoor

/- The document's index: what may be an entry, and setting one; walked. -/
set_option linter.unusedVariables false
set_option linter.unusedSimpArgs false
namespace Go.Proofs.YtakgjihhgpnnfaaDoor
open Go.RowKit Go.Deep
attribute [local go_sem ↓] Go.wp_at_zero Go.wp_at_succ
attribute [local go_sem high] run_eql_en run_neq_en

theorem vertex_rank {x : Ix} {v : Int} (h : x.vertex v = true) : x.rank v = x.rk v.toNat ∧ 0 ≤ v ∧ v < x.n := by
  simp only [Ix.vertex, decide_eq_true_eq] at h
  exact ⟨if_pos h, h⟩
theorem vertex_no {x : Ix} {v : Int} (h : x.vertex v = false) : x.rank v = -1 := by
  simp only [Ix.vertex, decide_eq_false_iff_not] at h
  exact if_neg h

end Go.Proofs.YtakgjihhgpnnfaaDoor

/- The document's index: setting an entry; walked. -/
set_option linter.unusedVariables false
set_option linter.unusedSimpArgs false
namespace Go.Proofs.YtakgjihhgpnnfaaDoor
open Go.RowKit Go.Deep
attribute [local go_sem ↓] Go.wp_at_zero Go.wp_at_succ

end Go.Proofs.YtakgjihhgpnnfaaDoor

/- The document's index, made; walked. -/
set_option linter.unusedVariables false
set_option linter.unusedSimpArgs false
namespace Go.Proofs.YtakgjihhgpnnfaaDoor
open Go.RowKit Go.Deep
attribute [local go_sem ↓] Go.wp_at_zero Go.wp_at_succ

/-- The cells when k entries have been set to none. -/
def rxPart (s : Value) (k : Nat) (i : Nat) : Value := if i = 0 then s else if i - 1 < 3 * k then .int .i64 (En.none.cell ((i - 1) % 3)) else .int .i64 0

theorem rxPart_succ (s : Value) (k a i : Nat) (ha : a = 1 + 3 * k) : upd (upd (upd (rxPart s k) a (.int .i64 4611686018427387906)) (a + 1) (.int .i64 (-1))) (a + 2) (.int .i64 (-1)) i = rxPart s (k + 1) i := by
  subst ha
  simp only [upd, rxPart]
  by_cases h0 : i = 0
  · subst h0; rw [if_neg (by omega), if_neg (by omega), if_neg (by omega), if_pos rfl, if_pos rfl]
  · rw [if_neg h0, if_neg h0]
    by_cases h1 : i - 1 < 3 * k
    · rw [if_neg (by omega), if_neg (by omega), if_neg (by omega), if_pos h1, if_pos (by omega)]
    · by_cases h2 : i - 1 < 3 * (k + 1)
      · rw [if_pos h2]
        have hc : i = 1 + 3 * k + (i - 1) % 3 := by omega
        have h3 : (i - 1) % 3 < 3 := Nat.mod_lt _ (by omega)
        generalize (i - 1) % 3 = c at hc h3 ⊢
        subst hc
        match c, h3 with
        | 0, _ => rw [if_neg (by omega), if_neg (by omega), if_pos (by omega)]; rfl
        | 1, _ => rw [if_neg (by omega), if_pos (by omega)]; rfl
        | 2, _ => rw [if_pos (by omega)]; rfl
      · rw [if_neg (by omega), if_neg (by omega), if_neg (by omega), if_neg h1, if_neg h2]

end Go.Proofs.YtakgjihhgpnnfaaDoor
