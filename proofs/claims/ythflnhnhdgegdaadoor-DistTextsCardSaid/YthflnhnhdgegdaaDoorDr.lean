/- The laws of layer 1: sums and leasts of two and three; walked. -/
import Derived.Test.YthflnhnhdgegdaaDoorDw
set_option linter.unusedVariables false
set_option linter.unusedSimpArgs false
namespace Go.Proofs.YthflnhnhdgegdaaDoor
open Go.RowKit

def pf (a b : Int) (j : Nat) : Int := if j = 0 then a else b
def tf (a b c : Int) (j : Nat) : Int := if j = 0 then a else if j = 1 then b else c
def addN (A B : Int) : Int := if A = 4611686018427387906 ∨ B = 4611686018427387906 then 4611686018427387906 else if 4611686018427387904 < A ∨ 4611686018427387904 - A < B then 4611686018427387905 else A + B
def sum2 (a b : Int) : Int := addN (normI a) (normI b)
def min2 (a b : Int) : Int := min (normI a) (normI b)
def sum3 (a b c : Int) : Int := addN (sum2 a b) (normI c)
theorem addN_cases {A B : Int} (hA : 0 ≤ A ∧ A ≤ 4611686018427387906) (hB : 0 ≤ B ∧ B ≤ 4611686018427387906) :
    ((A = 4611686018427387906 ∨ B = 4611686018427387906) ∧ addN A B = 4611686018427387906) ∨ (A < 4611686018427387906 ∧ B < 4611686018427387906 ∧ 4611686018427387904 < A + B ∧ addN A B = 4611686018427387905) ∨ (A + B ≤ 4611686018427387904 ∧ addN A B = A + B) := by
  unfold addN
  by_cases h1 : A = 4611686018427387906 ∨ B = 4611686018427387906
  · rw [if_pos h1]; exact .inl ⟨h1, rfl⟩
  · rw [if_neg h1]
    by_cases h2 : 4611686018427387904 < A ∨ 4611686018427387904 - A < B
    · rw [if_pos h2]; exact .inr (.inl ⟨by omega, by omega, by omega, rfl⟩)
    · rw [if_neg h2]; exact .inr (.inr ⟨by omega, rfl⟩)
theorem addN_b {A B : Int} (hA : 0 ≤ A ∧ A ≤ 4611686018427387906) (hB : 0 ≤ B ∧ B ≤ 4611686018427387906) : 0 ≤ addN A B ∧ addN A B ≤ 4611686018427387906 := by
  have := addN_cases hA hB; omega
theorem sum2_b (a b : Int) : 0 ≤ sum2 a b ∧ sum2 a b ≤ 4611686018427387906 := addN_b (normI_b a) (normI_b b)
theorem min2_b (a b : Int) : 0 ≤ min2 a b ∧ min2 a b ≤ 4611686018427387906 := by
  have := normI_b a; have := normI_b b; unfold min2; omega
theorem norm_id {x : Int} (h : 0 ≤ x ∧ x ≤ 4611686018427387906) : normI x = x := by unfold normI; rw [if_neg (by omega), if_neg (by omega)]
theorem add1_zero (x : Int) : add1 0 x = normI x := by
  have := normI_b x
  unfold add1
  by_cases h1 : normI x = 4611686018427387906
  · rw [if_pos (.inr h1), h1]
  · rw [if_neg (by omega)]
    by_cases h2 : 4611686018427387904 - 0 < normI x
    · rw [if_pos (.inr h2)]; omega
    · rw [if_neg (by omega)]; omega
theorem acc_pf (a b : Int) : accF (pf a b) 2 = sum2 a b := by
  show add1 (add1 0 a) b = _
  rw [add1_zero]; rfl
theorem acc_tf (a b c : Int) : accF (tf a b c) 3 = sum3 a b c := by
  show add1 (add1 (add1 0 a) b) c = _
  rw [add1_zero]; rfl
theorem min_pf (a b : Int) : minF (pf a b) 2 = min2 a b := by
  show min (min 4611686018427387906 (normI a)) (normI b) = _
  have := normI_b a
  unfold min2; omega
theorem sum2_comm (a b : Int) : sum2 b a = sum2 a b := by
  have ha := normI_b a; have hb := normI_b b
  unfold sum2
  have := addN_cases ha hb; have := addN_cases hb ha; omega
theorem sum2_r (a : Int) {y : Int} (h : 0 ≤ y ∧ y ≤ 4611686018427387906) : sum2 a y = addN (normI a) y := by
  show addN (normI a) (normI y) = _; rw [norm_id h]
theorem sum2_l (c : Int) {y : Int} (h : 0 ≤ y ∧ y ≤ 4611686018427387906) : sum2 y c = addN y (normI c) := by
  show addN (normI y) (normI c) = _; rw [norm_id h]
theorem sum2_assoc (a b c : Int) : sum2 a (sum2 b c) = sum2 (sum2 a b) c := by
  rw [sum2_r a (sum2_b b c), sum2_l c (sum2_b a b)]
  show addN (normI a) (addN (normI b) (normI c)) = addN (addN (normI a) (normI b)) (normI c)
  have ha := normI_b a; have hb := normI_b b; have hc := normI_b c
  generalize normI a = A at *
  generalize normI b = B at *
  generalize normI c = C at *
  have e1 := addN_cases hb hc; have e2 := addN_cases ha hb
  have e3 := addN_cases ha (addN_b hb hc); have e4 := addN_cases (addN_b ha hb) hc
  omega
theorem sum2_min (a b c : Int) : sum2 a (min2 b c) = min2 (sum2 a b) (sum2 a c) := by
  have r : min2 (sum2 a b) (sum2 a c) = min (sum2 a b) (sum2 a c) := by
    show min (normI (sum2 a b)) (normI (sum2 a c)) = _
    rw [norm_id (sum2_b a b), norm_id (sum2_b a c)]
  rw [sum2_r a (min2_b b c), r]
  show addN (normI a) (min (normI b) (normI c)) = min (addN (normI a) (normI b)) (addN (normI a) (normI c))
  have ha := normI_b a; have hb := normI_b b; have hc := normI_b c
  generalize normI a = A at *
  generalize normI b = B at *
  generalize normI c = C at *
  have e1 := addN_cases ha hb; have e2 := addN_cases ha hc
  have e3 := addN_cases ha (B := min B C) (by omega)
  omega
theorem sum3_eq (a b c : Int) : sum3 a b c = sum2 (sum2 a b) c := by
  rw [sum2_l c (sum2_b a b)]; rfl

theorem add2_calls (a b : Int) (w : World) : Calls Tryd.prog 13 #[.slice (some ⟨w.heap.size, 0, none⟩) 2 2] (w.alloc (.cells #[.int .i64 a, .int .i64 b] 3)) fun e w' => e = .returned (.int .i64 (sum2 a b)) ∧ Fr No w w' := by
  have h := lit_ints (w := w) (C := #[.int .i64 a, .int .i64 b]) (T := 3) 2 (pf a b) (by intro j hj; (have : j = 0 ∨ j = 1 := by omega); rcases this with rfl | rfl <;> rfl)
  refine (add_calls (c := 2) h (by decide)).mono ?_
  rintro e w' ⟨rfl, hf⟩
  exact ⟨by rw [acc_pf], ((Fr.refl No w).alloc _).trans hf⟩
theorem min2_calls (a b : Int) (w : World) : Calls Tryd.prog 14 #[.slice (some ⟨w.heap.size, 0, none⟩) 2 2] (w.alloc (.cells #[.int .i64 a, .int .i64 b] 3)) fun e w' => e = .returned (.int .i64 (min2 a b)) ∧ Fr No w w' := by
  have h := lit_ints (w := w) (C := #[.int .i64 a, .int .i64 b]) (T := 3) 2 (pf a b) (by intro j hj; (have : j = 0 ∨ j = 1 := by omega); rcases this with rfl | rfl <;> rfl)
  refine (min_calls (c := 2) h (by decide)).mono ?_
  rintro e w' ⟨rfl, hf⟩
  exact ⟨by rw [min_pf], ((Fr.refl No w).alloc _).trans hf⟩
theorem add3_calls (a b c : Int) (w : World) : Calls Tryd.prog 13 #[.slice (some ⟨w.heap.size, 0, none⟩) 3 3] (w.alloc (.cells #[.int .i64 a, .int .i64 b, .int .i64 c] 3)) fun e w' => e = .returned (.int .i64 (sum3 a b c)) ∧ Fr No w w' := by
  have h := lit_ints (w := w) (C := #[.int .i64 a, .int .i64 b, .int .i64 c]) (T := 3) 3 (tf a b c) (by intro j hj; (have : j = 0 ∨ j = 1 ∨ j = 2 := by omega); rcases this with rfl | rfl | rfl <;> rfl)
  refine (add_calls (c := 3) h (by decide)).mono ?_
  rintro e w' ⟨rfl, hf⟩
  exact ⟨by rw [acc_tf], ((Fr.refl No w).alloc _).trans hf⟩

set_option maxRecDepth 100000 in
set_option maxHeartbeats 2000000 in
theorem awake01_calls (w : World) : Calls Tryd.prog 8 #[] w fun e w' => e = .returned (.bool true) ∧ Fr No w w' := by
  have a1 : sum2 4611686018427387904 1 = 4611686018427387905 := by decide
  have a2 : sum2 4611686018427387905 4611686018427387906 = 4611686018427387906 := by decide
  go_enter Tryd.func8, Tryd.ntmps8
  go_wp2_with fail
  refine (parse17_calls _).mono ?_
  rintro e w1 ⟨rfl, hf⟩
  have G1 := hid hf
  clear hf
  go_wp2_with fail
  refine (parse017_calls _).mono ?_
  rintro e w2 ⟨rfl, hf⟩
  have G2 := hid (G1.out.trans hf)
  clear hf
  go_wp2_with fail
  refine (add2_calls 4611686018427387904 1 w2).mono ?_
  rintro e w3 ⟨rfl, hf⟩
  rw [a1]
  have G3 := hid (G2.out.trans hf)
  clear hf
  go_wp2_with fail
  refine (add2_calls 4611686018427387905 4611686018427387906 w3).mono ?_
  rintro e w4 ⟨rfl, hf⟩
  rw [a2]
  have G4 := hid (G3.out.trans hf)
  clear hf
  go_wp2_with fail
  refine (min_calls (w := w4) (A := none) (n := 0) (c := 0) (f := fun _ => 0) (fun h => by omega) (by decide)).mono ?_
  rintro e w5 ⟨rfl, hf⟩
  rw [show minF (fun _ => 0) 0 = 4611686018427387906 from rfl]
  have G5 := hid (G4.out.trans hf)
  clear hf
  go_wp2_with fail
  refine (add_calls (w := w5) (A := none) (n := 0) (c := 0) (f := fun _ => 0) (fun h => by omega) (by decide)).mono ?_
  rintro e w6 ⟨rfl, hf⟩
  rw [show accF (fun _ => 0) 0 = 0 from rfl]
  have G6 := hid (G5.out.trans hf)
  clear hf
  go_wp2_with fail
  refine (textfar_calls w6).mono ?_
  rintro e w7 ⟨rfl, hf⟩
  have G7 := hid (G6.out.trans hf)
  clear hf
  go_wp2
  go_ret
  exact ⟨rfl, G7.out⟩

set_option maxRecDepth 100000 in
set_option maxHeartbeats 4000000 in
theorem rings_law (a b c : Int) (w : World) : Calls Tryd.prog 4 #[.int .i64 a, .int .i64 b, .int .i64 c] w fun e w' => e = .returned (.bool true) ∧ Fr No w w' := by
  have E1 := hid (sum2_comm a b)
  have E2 := hid (sum2_assoc a b c)
  have E3 := hid (sum2_min a b c)
  have E4 := hid (sum3_eq a b c)
  obtain ⟨ab, hab⟩ : ∃ y, sum2 a b = y := ⟨_, rfl⟩
  obtain ⟨bc, hbc⟩ : ∃ y, sum2 b c = y := ⟨_, rfl⟩
  obtain ⟨ac, hac⟩ : ∃ y, sum2 a c = y := ⟨_, rfl⟩
  obtain ⟨mbc, hmbc⟩ : ∃ y, min2 b c = y := ⟨_, rfl⟩
  rw [hab] at E1 E2 E3 E4
  rw [hbc] at E2
  rw [hac] at E3
  rw [hmbc] at E3
  have HAB := hid hab
  have HBC := hid hbc
  have HAC := hid hac
  have HM := hid hmbc
  clear hab hbc hac hmbc
  obtain ⟨x2, hx2⟩ : ∃ y, sum2 ab c = y := ⟨_, rfl⟩
  rw [hx2] at E2 E4
  have HX2 := hid hx2
  obtain ⟨x3, hx3⟩ : ∃ y, min2 ab ac = y := ⟨_, rfl⟩
  rw [hx3] at E3
  have HX3 := hid hx3
  clear hx2 hx3
  go_enter Tryd.func4, Tryd.ntmps4
  go_wp2_with fail
  refine (awake01_calls w).mono ?_
  rintro e w0 ⟨rfl, hf⟩
  have G0 := hid hf
  clear hf
  go_wp2_with fail
  refine (add2_calls a b w0).mono ?_
  rintro e w1 ⟨rfl, hf⟩
  rw [HAB.out]
  have G1 := hid (G0.out.trans hf)
  clear hf
  go_wp2_with fail
  refine (add2_calls b a w1).mono ?_
  rintro e w2 ⟨rfl, hf⟩
  rw [E1.out]
  have G2 := hid (G1.out.trans hf)
  clear hf
  go_wp2_with fail
  refine (add2_calls b c w2).mono ?_
  rintro e w3 ⟨rfl, hf⟩
  rw [HBC.out]
  have G3 := hid (G2.out.trans hf)
  clear hf
  go_wp2_with fail
  refine (add2_calls a bc w3).mono ?_
  rintro e w4 ⟨rfl, hf⟩
  rw [E2.out]
  have G4 := hid (G3.out.trans hf)
  clear hf
  go_wp2_with fail
  refine (add2_calls a b w4).mono ?_
  rintro e w5 ⟨rfl, hf⟩
  rw [HAB.out]
  have G5 := hid (G4.out.trans hf)
  clear hf
  go_wp2_with fail
  refine (add2_calls ab c w5).mono ?_
  rintro e w6 ⟨rfl, hf⟩
  rw [HX2.out]
  have G6 := hid (G5.out.trans hf)
  clear hf
  go_wp2_with fail
  refine (min2_calls b c w6).mono ?_
  rintro e w7 ⟨rfl, hf⟩
  rw [HM.out]
  have G7 := hid (G6.out.trans hf)
  clear hf
  go_wp2_with fail
  refine (add2_calls a mbc w7).mono ?_
  rintro e w8 ⟨rfl, hf⟩
  rw [E3.out]
  have G8 := hid (G7.out.trans hf)
  clear hf
  go_wp2_with fail
  refine (add2_calls a b w8).mono ?_
  rintro e w9 ⟨rfl, hf⟩
  rw [HAB.out]
  have G9 := hid (G8.out.trans hf)
  clear hf
  go_wp2_with fail
  refine (add2_calls a c w9).mono ?_
  rintro e w10 ⟨rfl, hf⟩
  rw [HAC.out]
  have G10 := hid (G9.out.trans hf)
  clear hf
  go_wp2_with fail
  refine (min2_calls ab ac w10).mono ?_
  rintro e w11 ⟨rfl, hf⟩
  rw [HX3.out]
  have G11 := hid (G10.out.trans hf)
  clear hf
  go_wp2_with fail
  refine (add3_calls a b c w11).mono ?_
  rintro e w12 ⟨rfl, hf⟩
  rw [E4.out]
  have G12 := hid (G11.out.trans hf)
  clear hf
  go_wp2_with fail
  refine (add2_calls a b w12).mono ?_
  rintro e w13 ⟨rfl, hf⟩
  rw [HAB.out]
  have G13 := hid (G12.out.trans hf)
  clear hf
  go_wp2_with fail
  refine (add2_calls ab c w13).mono ?_
  rintro e w14 ⟨rfl, hf⟩
  rw [HX2.out]
  have G14 := hid (G13.out.trans hf)
  clear hf
  go_wp2
  go_ret
  exact ⟨rfl, G14.out⟩

end Go.Proofs.YthflnhnhdgegdaaDoor
