/- The law of layer 1 that tells distances apart by 'less'; walked. -/
import Derived.Test.YthflnhnhdgegdaaDoorDr
set_option linter.unusedVariables false
set_option linter.unusedSimpArgs false
namespace Go.Proofs.YthflnhnhdgegdaaDoor
open Go.RowKit

theorem less_self (a : Int) : decide (normI a < normI a) = false := by simp
theorem less_min (a b : Int) : decide (normI a < normI (min2 a b)) = false := by
  rw [norm_id (min2_b a b)]
  have ha := normI_b a; have hb := normI_b b
  unfold min2; simp; omega
theorem less_sum (a b : Int) : decide (normI (sum2 a b) < normI a) = false ∧ decide (normI (sum2 a b) < normI b) = false := by
  rw [norm_id (sum2_b a b)]
  have ha := normI_b a; have hb := normI_b b
  have := addN_cases ha hb
  unfold sum2
  constructor <;> (simp; omega)

set_option maxRecDepth 100000 in
set_option maxHeartbeats 4000000 in
theorem orders_lt (a b : Int) (w : World) (h : normI a < normI b) : Calls Tryd.prog 6 #[.int .i64 a, .int .i64 b] w fun e w' => e = .returned (.bool true) ∧ Fr No w w' := by
  have LAB := hid (show decide (normI a < normI b) = true by simp; omega)
  have LBA := hid (show decide (normI b < normI a) = false by simp; omega)
  have LAA := hid (less_self a)
  have LM := hid (less_min a b)
  have LS1 := hid (less_sum a b).1
  have LS2 := hid (less_sum a b).2
  obtain ⟨A, hA⟩ : ∃ y, normI a = y := ⟨_, rfl⟩
  obtain ⟨B, hB⟩ : ∃ y, normI b = y := ⟨_, rfl⟩
  rw [hA, hB] at h
  have HA := hid hA
  have HB := hid hB
  clear hA hB
  have q1 : (A == B) = false := by simp; omega
  have q2 : decide (A = B) = false := by simp; omega
  have q3 : (A = B) = False := by simp; omega
  go_enter Tryd.func6, Tryd.ntmps6
  go_wp2_with fail
  refine (awake01_calls w).mono ?_
  rintro e w0 ⟨rfl, hf⟩
  have G0 := hid hf
  clear hf
  go_wp2_with fail
  refine (less_calls a b w0).mono ?_
  rintro e w1 ⟨rfl, hf⟩
  rw [LAB.out]
  have G1 := hid (G0.out.trans hf)
  clear hf
  go_wp2_with fail
  refine (less_calls b a w1).mono ?_
  rintro e w2 ⟨rfl, hf⟩
  rw [LBA.out]
  have G2 := hid (G1.out.trans hf)
  clear hf
  go_wp2_with fail
  refine (less_calls a a w2).mono ?_
  rintro e w3 ⟨rfl, hf⟩
  rw [LAA.out]
  have G3 := hid (G2.out.trans hf)
  clear hf
  go_wp2_with fail
  refine (less_calls a b w3).mono ?_
  rintro e w4 ⟨rfl, hf⟩
  rw [LAB.out]
  have G4 := hid (G3.out.trans hf)
  clear hf
  go_wp2_with fail
  refine (rnorm_calls a w4).mono ?_
  rintro e w5 ⟨rfl, hf⟩
  rw [HA.out]
  have G5 := hid (G4.out.trans hf)
  clear hf
  go_wp2_with fail
  refine (rnorm_calls b w5).mono ?_
  rintro e w6 ⟨rfl, hf⟩
  rw [HB.out]
  have G6 := hid (G5.out.trans hf)
  clear hf
  go_wp2_with fail
  refine (min2_calls a b w6).mono ?_
  rintro e w7 ⟨rfl, hf⟩
  have G7 := hid (G6.out.trans hf)
  clear hf
  go_wp2_with fail
  refine (less_calls a (min2 a b) w7).mono ?_
  rintro e w8 ⟨rfl, hf⟩
  rw [LM.out]
  have G8 := hid (G7.out.trans hf)
  clear hf
  go_wp2_with fail
  refine (add2_calls a b w8).mono ?_
  rintro e w9 ⟨rfl, hf⟩
  have G9 := hid (G8.out.trans hf)
  clear hf
  go_wp2_with fail
  refine (less_calls (sum2 a b) a w9).mono ?_
  rintro e w10 ⟨rfl, hf⟩
  rw [LS1.out]
  have G10 := hid (G9.out.trans hf)
  clear hf
  go_wp2_with fail
  refine (add2_calls a b w10).mono ?_
  rintro e w11 ⟨rfl, hf⟩
  have G11 := hid (G10.out.trans hf)
  clear hf
  go_wp2_with fail
  refine (less_calls (sum2 a b) b w11).mono ?_
  rintro e w12 ⟨rfl, hf⟩
  rw [LS2.out]
  have G12 := hid (G11.out.trans hf)
  clear hf
  go_wp2
  go_ret
  exact ⟨rfl, G12.out⟩

set_option maxRecDepth 100000 in
set_option maxHeartbeats 4000000 in
theorem orders_eq (a b : Int) (w : World) (h : normI a = normI b) : Calls Tryd.prog 6 #[.int .i64 a, .int .i64 b] w fun e w' => e = .returned (.bool true) ∧ Fr No w w' := by
  have LAB := hid (show decide (normI a < normI b) = false by simp; omega)
  have LBA := hid (show decide (normI b < normI a) = false by simp; omega)
  have LAA := hid (less_self a)
  have LM := hid (less_min a b)
  have LS1 := hid (less_sum a b).1
  have LS2 := hid (less_sum a b).2
  obtain ⟨A, hA⟩ : ∃ y, normI a = y := ⟨_, rfl⟩
  obtain ⟨B, hB⟩ : ∃ y, normI b = y := ⟨_, rfl⟩
  rw [hA, hB] at h
  have HA := hid hA
  have HB := hid hB
  clear hA hB
  subst h
  go_enter Tryd.func6, Tryd.ntmps6
  go_wp2_with fail
  refine (awake01_calls w).mono ?_
  rintro e w0 ⟨rfl, hf⟩
  have G0 := hid hf
  clear hf
  go_wp2_with fail
  refine (less_calls a b w0).mono ?_
  rintro e w1 ⟨rfl, hf⟩
  rw [LAB.out]
  have G1 := hid (G0.out.trans hf)
  clear hf
  go_wp2_with fail
  refine (less_calls a a w1).mono ?_
  rintro e w2 ⟨rfl, hf⟩
  rw [LAA.out]
  have G2 := hid (G1.out.trans hf)
  clear hf
  go_wp2_with fail
  refine (less_calls a b w2).mono ?_
  rintro e w3 ⟨rfl, hf⟩
  rw [LAB.out]
  have G3 := hid (G2.out.trans hf)
  clear hf
  go_wp2_with fail
  refine (less_calls b a w3).mono ?_
  rintro e w4 ⟨rfl, hf⟩
  rw [LBA.out]
  have G4 := hid (G3.out.trans hf)
  clear hf
  go_wp2_with fail
  refine (rnorm_calls a w4).mono ?_
  rintro e w5 ⟨rfl, hf⟩
  rw [HA.out]
  have G5 := hid (G4.out.trans hf)
  clear hf
  go_wp2_with fail
  refine (rnorm_calls b w5).mono ?_
  rintro e w6 ⟨rfl, hf⟩
  rw [HB.out]
  have G6 := hid (G5.out.trans hf)
  clear hf
  go_wp2_with fail
  refine (min2_calls a b w6).mono ?_
  rintro e w7 ⟨rfl, hf⟩
  have G7 := hid (G6.out.trans hf)
  clear hf
  go_wp2_with fail
  refine (less_calls a (min2 a b) w7).mono ?_
  rintro e w8 ⟨rfl, hf⟩
  rw [LM.out]
  have G8 := hid (G7.out.trans hf)
  clear hf
  go_wp2_with fail
  refine (add2_calls a b w8).mono ?_
  rintro e w9 ⟨rfl, hf⟩
  have G9 := hid (G8.out.trans hf)
  clear hf
  go_wp2_with fail
  refine (less_calls (sum2 a b) a w9).mono ?_
  rintro e w10 ⟨rfl, hf⟩
  rw [LS1.out]
  have G10 := hid (G9.out.trans hf)
  clear hf
  go_wp2_with fail
  refine (add2_calls a b w10).mono ?_
  rintro e w11 ⟨rfl, hf⟩
  have G11 := hid (G10.out.trans hf)
  clear hf
  go_wp2_with fail
  refine (less_calls (sum2 a b) b w11).mono ?_
  rintro e w12 ⟨rfl, hf⟩
  rw [LS2.out]
  have G12 := hid (G11.out.trans hf)
  clear hf
  go_wp2
  go_ret
  exact ⟨rfl, G12.out⟩

set_option maxRecDepth 100000 in
set_option maxHeartbeats 4000000 in
theorem orders_gt (a b : Int) (w : World) (h : normI b < normI a) : Calls Tryd.prog 6 #[.int .i64 a, .int .i64 b] w fun e w' => e = .returned (.bool true) ∧ Fr No w w' := by
  have LAB := hid (show decide (normI a < normI b) = false by simp; omega)
  have LBA := hid (show decide (normI b < normI a) = true by simp; omega)
  have LAA := hid (less_self a)
  have LM := hid (less_min a b)
  have LS1 := hid (less_sum a b).1
  have LS2 := hid (less_sum a b).2
  obtain ⟨A, hA⟩ : ∃ y, normI a = y := ⟨_, rfl⟩
  obtain ⟨B, hB⟩ : ∃ y, normI b = y := ⟨_, rfl⟩
  rw [hA, hB] at h
  have HA := hid hA
  have HB := hid hB
  clear hA hB
  have q1 : (A == B) = false := by simp; omega
  have q2 : decide (A = B) = false := by simp; omega
  have q3 : (A = B) = False := by simp; omega
  go_enter Tryd.func6, Tryd.ntmps6
  go_wp2_with fail
  refine (awake01_calls w).mono ?_
  rintro e w0 ⟨rfl, hf⟩
  have G0 := hid hf
  clear hf
  go_wp2_with fail
  refine (less_calls a b w0).mono ?_
  rintro e w1 ⟨rfl, hf⟩
  rw [LAB.out]
  have G1 := hid (G0.out.trans hf)
  clear hf
  go_wp2_with fail
  refine (less_calls a a w1).mono ?_
  rintro e w2 ⟨rfl, hf⟩
  rw [LAA.out]
  have G2 := hid (G1.out.trans hf)
  clear hf
  go_wp2_with fail
  refine (less_calls a b w2).mono ?_
  rintro e w3 ⟨rfl, hf⟩
  rw [LAB.out]
  have G3 := hid (G2.out.trans hf)
  clear hf
  go_wp2_with fail
  refine (less_calls b a w3).mono ?_
  rintro e w4 ⟨rfl, hf⟩
  rw [LBA.out]
  have G4 := hid (G3.out.trans hf)
  clear hf
  go_wp2_with fail
  refine (rnorm_calls a w4).mono ?_
  rintro e w5 ⟨rfl, hf⟩
  rw [HA.out]
  have G5 := hid (G4.out.trans hf)
  clear hf
  go_wp2_with fail
  refine (rnorm_calls b w5).mono ?_
  rintro e w6 ⟨rfl, hf⟩
  rw [HB.out]
  have G6 := hid (G5.out.trans hf)
  clear hf
  go_wp2_with fail
  refine (min2_calls a b w6).mono ?_
  rintro e w7 ⟨rfl, hf⟩
  have G7 := hid (G6.out.trans hf)
  clear hf
  go_wp2_with fail
  refine (less_calls a (min2 a b) w7).mono ?_
  rintro e w8 ⟨rfl, hf⟩
  rw [LM.out]
  have G8 := hid (G7.out.trans hf)
  clear hf
  go_wp2_with fail
  refine (add2_calls a b w8).mono ?_
  rintro e w9 ⟨rfl, hf⟩
  have G9 := hid (G8.out.trans hf)
  clear hf
  go_wp2_with fail
  refine (less_calls (sum2 a b) a w9).mono ?_
  rintro e w10 ⟨rfl, hf⟩
  rw [LS1.out]
  have G10 := hid (G9.out.trans hf)
  clear hf
  go_wp2_with fail
  refine (add2_calls a b w10).mono ?_
  rintro e w11 ⟨rfl, hf⟩
  have G11 := hid (G10.out.trans hf)
  clear hf
  go_wp2_with fail
  refine (less_calls (sum2 a b) b w11).mono ?_
  rintro e w12 ⟨rfl, hf⟩
  rw [LS2.out]
  have G12 := hid (G11.out.trans hf)
  clear hf
  go_wp2
  go_ret
  exact ⟨rfl, G12.out⟩

theorem orders_law (a b : Int) (w : World) : Calls Tryd.prog 6 #[.int .i64 a, .int .i64 b] w fun e w' => e = .returned (.bool true) ∧ Fr No w w' := by
  rcases Int.lt_trichotomy (normI a) (normI b) with h | h | h
  · exact orders_lt a b w h
  · exact orders_eq a b w h
  · exact orders_gt a b w h

end Go.Proofs.YthflnhnhdgegdaaDoor
