/- What may be an entry, and setting one; walked. -/
import Derived.Test.YtlncmnphjdeeoaaDoorIdxB
set_option linter.unusedVariables false
set_option linter.unusedSimpArgs false
namespace Go.Proofs.YtlncmnphjdeeoaaDoor
open Go.RowKit

def Ix.May (x : Ix) (u v : Int) (e : En) : Prop :=
  (e.w = 4611686018427387906 ∧ e.a = -1 ∧ e.m = -1) ∨
  (1 ≤ e.w ∧ e.w ≤ 4611686018427387905 ∧ ((e.m = -1 ∧ 0 ≤ e.a ∧ e.a < 64) ∨ (e.m ≠ -1 ∧ e.a = -1 ∧ 0 ≤ x.rank e.m ∧ x.rank e.m < x.rank u ∧ x.rank e.m < x.rank v)))
instance (x : Ix) (u v : Int) (e : En) : Decidable (x.May u v e) := by unfold Ix.May; infer_instance

theorem ret_bool {a b : Bool} (h : a = b) : Ending.returned (.bool a) = .returned (.bool b) := by rw [h]
theorem ret_int {k : IntKind} {a b : Int} (h : a = b) : Ending.returned (.int k a) = .returned (.int k b) := by rw [h]
theorem eq_decide {a : Bool} {p : Prop} [Decidable p] (h : a = true ↔ p) : a = decide p := by
  rw [Bool.eq_iff_iff, decide_eq_true_eq]; exact h

set_option maxHeartbeats 1000000 in
theorem may_calls {w : World} {L : IxLoc} {x : Ix} (h : IxMem w L x) (u v : Int) (ht : x.two u v = true) (e : En) :
    Calls Tryd.prog 71 #[.pointer (some ⟨L.b, 0, none⟩), .int .i64 u, .int .i64 v, e.val] w fun r w' => r = .returned (.bool (decide (x.May u v e))) ∧ Fr No w w' := by
  obtain ⟨e0, e1, e2⟩ := e
  have g0 := h.gn.c0
  have g1 := h.gn.c1
  have g2 := h.gn.c2
  have gl := h.gn.lt
  have kl := h.lt
  have h0 := h.c0
  obtain ⟨hne, hu0, hu1, hv0, hv1⟩ := two_iff ht
  have hru := h.rk u.toNat (by omega)
  have hrv := h.rk v.toNat (by omega)
  have hrl := h.hr.1
  have ru : x.rank u = x.rk u.toNat := if_pos ⟨hu0, hu1⟩
  have rv : x.rank v = x.rk v.toNat := if_pos ⟨hv0, hv1⟩
  have EQ : Hid (x.May u v ⟨e0, e1, e2⟩ ↔ (e0 = 4611686018427387906 ∧ e1 = -1 ∧ e2 = -1) ∨ (1 ≤ e0 ∧ e0 ≤ 4611686018427387905 ∧ ((e2 = -1 ∧ 0 ≤ e1 ∧ e1 < 64) ∨ (e2 ≠ -1 ∧ e1 = -1 ∧ 0 ≤ x.rank e2 ∧ x.rank e2 < x.rk u.toNat ∧ x.rank e2 < x.rk v.toNat)))) := by
    rw [← ru, ← rv]; exact Iff.rfl
  clear ru rv ht hne
  simp only [En.val]
  cases hA : (e1 == -1) <;> cases hB : decide (0 ≤ x.rank e2) <;> rcases Nat.lt_or_ge (x.rk v.toNat) (x.rk u.toNat) with hC | hC
  all_goals
    go_enter Tryd.func71, Tryd.ntmps71
    go_wp2_with (go_at_call 62; refine (rank_calls (h.alloc _) _).mono ?_; rintro e w' ⟨rfl, rfl⟩)
  all_goals try (go_quiet (fail); go_wp2)
  all_goals (go_ret; refine ⟨ret_bool (eq_decide ?_), ?_⟩)
  all_goals first | exact ((Fr.refl _ _).alloc _) | exact ((Fr.refl _ _).alloc _).drewN _ | skip
  all_goals have EQ := EQ.out
  all_goals (rw [EQ]; clear EQ h g0 g1 g2 hru hrv h0)
  all_goals try simp [-beq_iff_eq, -bne_iff_ne] at *
  all_goals try simp only [beq_iff_eq, beq_eq_false_iff_ne, ne_eq, decide_eq_true_eq, decide_eq_false_iff_not, Bool.and_eq_true, Bool.or_eq_true, Bool.not_eq_true'] at *
  all_goals omega

end Go.Proofs.YtlncmnphjdeeoaaDoor
