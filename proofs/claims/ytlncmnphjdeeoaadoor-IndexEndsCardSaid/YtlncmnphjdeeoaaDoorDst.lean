/- dist.Norm, dist.Add at two numbers; walked. -/
import Derived.Test.YtlncmnphjdeeoaaDoorUnD
set_option linter.unusedVariables false
set_option linter.unusedSimpArgs false
namespace Go.Proofs.YtlncmnphjdeeoaaDoor
open Go.RowKit Go.Deep

def normI (x : Int) : Int := if x < 0 then 0 else if 4611686018427387906 < x then 4611686018427387906 else x
def add1 (s x : Int) : Int :=
  if s = 4611686018427387906 ∨ normI x = 4611686018427387906 then 4611686018427387906 else if 4611686018427387904 < s ∨ 4611686018427387904 - s < normI x then 4611686018427387905 else s + normI x
theorem normI_b (x : Int) : 0 ≤ normI x ∧ normI x ≤ 4611686018427387906 := by unfold normI; split <;> (try split) <;> omega
theorem add1_b {s : Int} (h : 0 ≤ s ∧ s ≤ 4611686018427387906) (x : Int) : 0 ≤ add1 s x ∧ add1 s x ≤ 4611686018427387906 := by
  have := normI_b x
  unfold add1
  split
  · omega
  · split <;> omega

set_option maxRecDepth 100000 in
set_option maxHeartbeats 1000000 in
theorem norm_calls (x : Int) (w : World) : Calls Tryd.prog 102 #[.int .i64 x] w fun e w' => e = .returned (.int .i64 (normI x)) ∧ Fr No w w' := by
  rcases (show x < 0 ∨ (0 ≤ x ∧ 4611686018427387906 < x) ∨ (0 ≤ x ∧ x ≤ 4611686018427387906) by omega) with h | h | h
  · have e : normI x = 0 := by unfold normI; rw [if_pos h]
    have h2 := h
    go_enter Tryd.func102, Tryd.ntmps102
    go_wp2
    all_goals (try (exfalso; split at * <;> omega))
    all_goals go_ret
    all_goals exact ⟨ret_int (by rw [e]), Fr.refl _ _⟩
  · have e : normI x = 4611686018427387906 := by unfold normI; rw [if_neg (by omega), if_pos h.2]
    obtain ⟨h1, h2⟩ := h
    go_enter Tryd.func102, Tryd.ntmps102
    go_wp2
    all_goals (try (exfalso; split at * <;> omega))
    all_goals go_ret
    all_goals exact ⟨ret_int (by rw [e]), Fr.refl _ _⟩
  · have e : normI x = x := by unfold normI; rw [if_neg (by omega), if_neg (by omega)]
    obtain ⟨h1, h2⟩ := h
    go_enter Tryd.func102, Tryd.ntmps102
    go_wp2
    all_goals (try (exfalso; split at * <;> omega))
    all_goals go_ret
    all_goals exact ⟨ret_int (by rw [e]), Fr.refl _ _⟩

set_option maxRecDepth 100000 in
set_option maxHeartbeats 2000000 in
theorem add1_calls (s x : Int) (hs : 0 ≤ s ∧ s ≤ 4611686018427387906) (w : World) : Calls Tryd.prog 101 #[.int .i64 s, .int .i64 x] w fun e w' => e = .returned (.int .i64 (add1 s x)) ∧ Fr No w w' := by
  have hb := normI_b x
  obtain ⟨y, hy⟩ : ∃ y, normI x = y := ⟨_, rfl⟩
  have HY := hid hy
  have hadd : add1 s x = if s = 4611686018427387906 ∨ y = 4611686018427387906 then 4611686018427387906 else if 4611686018427387904 < s ∨ 4611686018427387904 - s < y then 4611686018427387905 else s + y := by rw [add1, hy]
  have HADD := hid hadd
  rw [hy] at hb
  clear hadd hy
  by_cases c1 : s = 4611686018427387906
  · subst c1
    go_enter Tryd.func101, Tryd.ntmps101
    go_wp2_with (go_at_call 102; refine (norm_calls x _).mono ?_; rintro e w1 ⟨rfl, hf⟩; rw [HY.out])
    go_ret
    exact ⟨by rw [HADD.out]; simp, hf⟩
  · have d1 : (s == 4611686018427387906) = false := by simpa using c1
    by_cases c2 : y = 4611686018427387906
    · subst c2
      go_enter Tryd.func101, Tryd.ntmps101
      go_wp2_with (go_at_call 102; refine (norm_calls x _).mono ?_; rintro e w1 ⟨rfl, hf⟩; rw [HY.out])
      all_goals go_ret
      all_goals exact ⟨by rw [HADD.out]; simp, hf⟩
    · have d2 : (y == 4611686018427387906) = false := by simpa using c2
      by_cases c3 : 4611686018427387904 < s
      · go_enter Tryd.func101, Tryd.ntmps101
        go_wp2_with (go_at_call 102; refine (norm_calls x _).mono ?_; rintro e w1 ⟨rfl, hf⟩; rw [HY.out])
        all_goals go_ret
        all_goals exact ⟨ret_int (by rw [HADD.out, if_neg (by omega), if_pos (.inl c3)]), hf⟩
      · by_cases c4 : 4611686018427387904 - s < y
        · go_enter Tryd.func101, Tryd.ntmps101
          go_wp2_with (go_at_call 102; refine (norm_calls x _).mono ?_; rintro e w1 ⟨rfl, hf⟩; rw [HY.out])
          all_goals go_ret
          all_goals exact ⟨ret_int (by rw [HADD.out, if_neg (by omega), if_pos (.inr c4)]), hf⟩
        · go_enter Tryd.func101, Tryd.ntmps101
          go_wp2_with (go_at_call 102; refine (norm_calls x _).mono ?_; rintro e w1 ⟨rfl, hf⟩; rw [HY.out])
          all_goals go_ret
          all_goals exact ⟨ret_int (by rw [HADD.out, if_neg (by omega), if_neg (by omega)]), hf⟩

end Go.Proofs.YtlncmnphjdeeoaaDoor
