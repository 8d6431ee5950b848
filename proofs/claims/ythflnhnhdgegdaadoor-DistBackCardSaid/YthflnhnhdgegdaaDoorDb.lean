/- The law of layer 1 that a distance's text is read as what it counts as; walked. -/
import Derived.Test.YthflnhnhdgegdaaDoorDk
set_option linter.unusedVariables false
set_option linter.unusedSimpArgs false
namespace Go.Proofs.YthflnhnhdgegdaaDoor
open Go.RowKit Go.Lib Go.Sort

set_option maxRecDepth 100000 in
set_option maxHeartbeats 1000000 in
theorem weight_calls (a : Int) (w : World) : Calls Tryd.prog 21 #[.int .i64 a] w fun e w' => e = .returned (.bool (decide (1 ≤ a ∧ a ≤ 4611686018427387904))) ∧ Fr No w w' := by
  by_cases h1 : 1 ≤ a
  · go_enter Tryd.func21, Tryd.ntmps21
    go_wp2
    go_ret
    exact ⟨by simp [h1], Fr.refl _ _⟩
  · go_enter Tryd.func21, Tryd.ntmps21
    go_wp2
    go_ret
    exact ⟨by simp; intro; omega, Fr.refl _ _⟩

set_option maxRecDepth 100000 in
set_option maxHeartbeats 4000000 in
theorem back_lo (a : Int) (w : World) (h : a ≤ 0) (ht : TabIs Tryd.prog w "internal/strconv.uint64pow10" .u64 pow10Tab) : Calls Tryd.prog 7 #[.int .i64 a] w fun e w' => e = .returned (.bool true) ∧ Fr No w w' := by
  have hb := normI_b a
  have HT := hid ht
  have HW := hid (show decide (1 ≤ a ∧ a ≤ 4611686018427387904) = false by simp; omega)
  obtain ⟨N, hN⟩ : ∃ N, normI a = N := ⟨_, rfl⟩
  have HN := hid hN
  rw [hN] at hb
  have HB := hid hb
  clear hN ht hb
  go_enter Tryd.func7, Tryd.ntmps7
  go_wp2_with fail
  refine (awake01_calls w).mono ?_
  rintro e w0 ⟨rfl, hf⟩
  have G0 := hid hf
  clear hf
  go_wp2_with fail
  refine (text_calls a w0 (tab_fr HT.out G0.out)).mono ?_
  rintro e w1 ⟨rfl, hf⟩
  rw [HN.out]
  have G1 := hid (G0.out.trans hf)
  clear hf
  obtain ⟨S, hS⟩ : ∃ S : ByteArray, (⟨(txt N).toArray⟩ : ByteArray) = S := ⟨_, rfl⟩
  rw [hS]
  have HS := hid hS
  clear hS
  go_wp2_with fail
  rw [← HS.out]
  refine (parse_txt N HB.out w1 (tab_fr HT.out G1.out)).mono ?_
  rintro e w2 ⟨rfl, hf⟩
  have G2 := hid (G1.out.trans hf)
  clear hf
  rw [HS.out]
  go_wp2_with fail
  refine (rnorm_calls a w2).mono ?_
  rintro e w3 ⟨rfl, hf⟩
  rw [HN.out]
  have G3 := hid (G2.out.trans hf)
  clear hf
  go_wp2_with fail
  refine (weight_calls a w3).mono ?_
  rintro e w4 ⟨rfl, hf⟩
  rw [HW.out]
  have G4 := hid (G3.out.trans hf)
  clear hf
  go_wp2_with fail
  refine (told_calls a w4).mono ?_
  rintro e w5 ⟨rfl, hf⟩
  rw [HN.out]
  have G5 := hid (G4.out.trans hf)
  clear hf
  go_wp2_with fail
  refine (norm_calls a w5).mono ?_
  rintro e w6 ⟨rfl, hf⟩
  rw [HN.out]
  have G6 := hid (G5.out.trans hf)
  clear hf
  go_wp2
  go_ret
  exact ⟨rfl, G6.out⟩

set_option maxRecDepth 100000 in
set_option maxHeartbeats 4000000 in
theorem back_mid (a : Int) (w : World) (h : 1 ≤ a ∧ a ≤ 4611686018427387904) (ht : TabIs Tryd.prog w "internal/strconv.uint64pow10" .u64 pow10Tab) : Calls Tryd.prog 7 #[.int .i64 a] w fun e w' => e = .returned (.bool true) ∧ Fr No w w' := by
  have hb := normI_b a
  have HT := hid ht
  have HW := hid (show decide (1 ≤ a ∧ a ≤ 4611686018427387904) = true by simp; omega)
  obtain ⟨N, hN⟩ : ∃ N, normI a = N := ⟨_, rfl⟩
  have HN := hid hN
  rw [hN] at hb
  have HB := hid hb
  clear hN ht hb
  obtain ⟨h1, h2⟩ := h
  go_enter Tryd.func7, Tryd.ntmps7
  go_wp2_with fail
  refine (awake01_calls w).mono ?_
  rintro e w0 ⟨rfl, hf⟩
  have G0 := hid hf
  clear hf
  go_wp2_with fail
  refine (text_calls a w0 (tab_fr HT.out G0.out)).mono ?_
  rintro e w1 ⟨rfl, hf⟩
  rw [HN.out]
  have G1 := hid (G0.out.trans hf)
  clear hf
  obtain ⟨S, hS⟩ : ∃ S : ByteArray, (⟨(txt N).toArray⟩ : ByteArray) = S := ⟨_, rfl⟩
  rw [hS]
  have HS := hid hS
  clear hS
  go_wp2_with fail
  rw [← HS.out]
  refine (parse_txt N HB.out w1 (tab_fr HT.out G1.out)).mono ?_
  rintro e w2 ⟨rfl, hf⟩
  have G2 := hid (G1.out.trans hf)
  clear hf
  rw [HS.out]
  go_wp2_with fail
  refine (rnorm_calls a w2).mono ?_
  rintro e w3 ⟨rfl, hf⟩
  rw [HN.out]
  have G3 := hid (G2.out.trans hf)
  clear hf
  go_wp2_with fail
  refine (weight_calls a w3).mono ?_
  rintro e w4 ⟨rfl, hf⟩
  rw [HW.out]
  have G4 := hid (G3.out.trans hf)
  clear hf
  go_wp2_with fail
  refine (told_calls a w4).mono ?_
  rintro e w5 ⟨rfl, hf⟩
  rw [HN.out]
  have G5 := hid (G4.out.trans hf)
  clear hf
  go_wp2_with fail
  refine (norm_calls a w5).mono ?_
  rintro e w6 ⟨rfl, hf⟩
  rw [HN.out]
  have G6 := hid (G5.out.trans hf)
  clear hf
  go_wp2
  go_ret
  exact ⟨rfl, G6.out⟩

set_option maxRecDepth 100000 in
set_option maxHeartbeats 4000000 in
theorem back_hi (a : Int) (w : World) (h : 4611686018427387904 < a) (ht : TabIs Tryd.prog w "internal/strconv.uint64pow10" .u64 pow10Tab) : Calls Tryd.prog 7 #[.int .i64 a] w fun e w' => e = .returned (.bool true) ∧ Fr No w w' := by
  have hb := normI_b a
  have HT := hid ht
  have HW := hid (show decide (1 ≤ a ∧ a ≤ 4611686018427387904) = false by simp; omega)
  obtain ⟨N, hN⟩ : ∃ N, normI a = N := ⟨_, rfl⟩
  have HN := hid hN
  rw [hN] at hb
  have HB := hid hb
  clear hN ht hb
  go_enter Tryd.func7, Tryd.ntmps7
  go_wp2_with fail
  refine (awake01_calls w).mono ?_
  rintro e w0 ⟨rfl, hf⟩
  have G0 := hid hf
  clear hf
  go_wp2_with fail
  refine (text_calls a w0 (tab_fr HT.out G0.out)).mono ?_
  rintro e w1 ⟨rfl, hf⟩
  rw [HN.out]
  have G1 := hid (G0.out.trans hf)
  clear hf
  obtain ⟨S, hS⟩ : ∃ S : ByteArray, (⟨(txt N).toArray⟩ : ByteArray) = S := ⟨_, rfl⟩
  rw [hS]
  have HS := hid hS
  clear hS
  go_wp2_with fail
  rw [← HS.out]
  refine (parse_txt N HB.out w1 (tab_fr HT.out G1.out)).mono ?_
  rintro e w2 ⟨rfl, hf⟩
  have G2 := hid (G1.out.trans hf)
  clear hf
  rw [HS.out]
  go_wp2_with fail
  refine (rnorm_calls a w2).mono ?_
  rintro e w3 ⟨rfl, hf⟩
  rw [HN.out]
  have G3 := hid (G2.out.trans hf)
  clear hf
  go_wp2_with fail
  refine (weight_calls a w3).mono ?_
  rintro e w4 ⟨rfl, hf⟩
  rw [HW.out]
  have G4 := hid (G3.out.trans hf)
  clear hf
  go_wp2_with fail
  refine (told_calls a w4).mono ?_
  rintro e w5 ⟨rfl, hf⟩
  rw [HN.out]
  have G5 := hid (G4.out.trans hf)
  clear hf
  go_wp2_with fail
  refine (norm_calls a w5).mono ?_
  rintro e w6 ⟨rfl, hf⟩
  rw [HN.out]
  have G6 := hid (G5.out.trans hf)
  clear hf
  go_wp2
  go_ret
  have hd : ¬ a ≤ 4611686018427387904 := by omega
  exact ⟨by simp [hd], G6.out⟩

theorem back_law (a : Int) (w : World) (ht : TabIs Tryd.prog w "internal/strconv.uint64pow10" .u64 pow10Tab) : Calls Tryd.prog 7 #[.int .i64 a] w fun e w' => e = .returned (.bool true) ∧ Fr No w w' := by
  rcases (show a ≤ 0 ∨ (1 ≤ a ∧ a ≤ 4611686018427387904) ∨ 4611686018427387904 < a by omega) with h | h | h
  · exact back_lo a w h ht
  · exact back_mid a w h ht
  · exact back_hi a w h ht

end Go.Proofs.YthflnhnhdgegdaaDoor
