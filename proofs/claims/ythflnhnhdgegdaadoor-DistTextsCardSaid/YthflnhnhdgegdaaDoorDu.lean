/- The document's writer of numerals; walked. -/
import Derived.Test.YthflnhnhdgegdaaDoorDt
set_option linter.unusedVariables false
set_option linter.unusedSimpArgs false
namespace Go.Proofs.YthflnhnhdgegdaaDoor
open Go.RowKit Go.Lib Go.Sort

theorem pick_digit (d : Nat) (h : d < 10) : ((⟨#[48, 49, 50, 51, 52, 53, 54, 55, 56, 57]⟩ : ByteArray).extract d (d + 1)).data.toList = [UInt8.ofNat (48 + d)] := by
  have : d = 0 ∨ d = 1 ∨ d = 2 ∨ d = 3 ∨ d = 4 ∨ d = 5 ∨ d = 6 ∨ d = 7 ∨ d = 8 ∨ d = 9 := by omega
  rcases this with rfl | rfl | rfl | rfl | rfl | rfl | rfl | rfl | rfl | rfl <;> decide

theorem app_list (x y : ByteArray) : (x ++ y).data.toList = x.data.toList ++ y.data.toList := by simp
theorem size_list (x : ByteArray) : x.size = x.data.toList.length := by rw [Array.length_toList]; rfl

set_option maxRecDepth 100000 in
set_option maxHeartbeats 2000000 in
theorem rdig_calls (u : Nat) (hu : u ≤ 4611686018427387904) (w : World) : Calls Tryd.prog 24 #[.int .i64 (u : Nat)] w fun e w' => ∃ S : ByteArray, e = .returned (.string S) ∧ S.data.toList = decDigits u ∧ Fr No w w' := by
  go_enter Tryd.func24, Tryd.ntmps24
  go_wp2
  go_loopg [0, 3, 4] 21 (fun g p q r wr => ∃ (n i : Nat) (S : ByteArray), p = .int .i64 n ∧ q = .string S ∧ r = .int .i64 i ∧ i ≤ 20 ∧ g = 21 - i ∧ wr = w ∧ n ≤ u ∧ S.size ≤ i ∧ n * 10 ^ i ≤ u ∧ ((0 < n ∨ i = 0) → decDigits n ++ S.data.toList = decDigits u) ∧ (n = 0 ∧ 0 < i → S.data.toList = decDigits u))
  case atStart => exact ⟨u, 0, ⟨#[]⟩, rfl, rfl, rfl, by omega, rfl, rfl, Nat.le_refl _, Nat.le_refl _, by simp, fun _ => by simp, fun h => by omega⟩
  case round =>
    obtain ⟨n, i, S, rfl, rfl, rfl, hi, hg, rfl, hnu, hsz, hp, ha, hb⟩ := hrel
    have HG := hid hg
    have HP := hid hp
    have HA := hid ha
    have HB := hid hb
    have hn20 : i = 20 → n = 0 := fun e => by subst e; omega
    clear hg hp ha hb
    by_cases hc : i < 20 ∧ (0 < n ∨ i = 0)
    · obtain ⟨hi2, hni⟩ := hc
      have hd : n % 10 < 10 := Nat.mod_lt _ (by omega)
      have hl1 : (0 : Int) ≤ (n : Int) % 10 := by omega
      have hl2 : (n : Int) % 10 < 10 := by omega
      have hpd := pick_digit (n % 10) hd
      have HPD := hid hpd
      have hxs : ((⟨#[48, 49, 50, 51, 52, 53, 54, 55, 56, 57]⟩ : ByteArray).extract (n % 10) (n % 10 + 1)).size = 1 := by rw [size_list, hpd]; rfl
      clear hpd hn20
      rcases (show 0 < n ∨ (n = 0 ∧ i = 0) by omega) with hn | ⟨rfl, rfl⟩
      · have hni2 : (0 : Int) < n := by omega
        go_wp2
        go_roundg (21 - (i + 1))
        case measure => have := HG.out; omega
        case rel =>
          refine ⟨n / 10, i + 1, _, by simp, rfl, by go_num, by omega, rfl, rfl, by omega, by rw [size_list, app_list, HPD.out]; have := size_list S; simp; omega, ?_, fun h => ?_, fun h => ?_⟩
          · have h1 : n / 10 * 10 ≤ n := by omega
            have h2 := Nat.mul_le_mul_right (10 ^ i) h1
            have h3 : n / 10 * (10 ^ i * 10) = n / 10 * 10 * 10 ^ i := by rw [Nat.mul_comm (10 ^ i) 10, Nat.mul_assoc]
            have := HP.out
            rw [Nat.pow_succ]; omega
          · rw [app_list, HPD.out, ← List.append_assoc, ← dec_big (by omega)]
            exact HA.out (.inl hn)
          · rw [app_list, HPD.out, ← HA.out (.inl hn), dec_small (u := n) (by omega), show n % 10 = n by omega]
      · have hx0 : ((⟨#[48, 49, 50, 51, 52, 53, 54, 55, 56, 57]⟩ : ByteArray).extract 0 1).size = 1 := by decide
        go_wp2
        go_roundg 20
        case measure => have := HG.out; omega
        case rel =>
          refine ⟨0, 1, _, rfl, rfl, rfl, by decide, rfl, rfl, Nat.zero_le _, ?_, by simp, fun h => by omega, fun h => ?_⟩
          · have h2 : ((⟨#[48, 49, 50, 51, 52, 53, 54, 55, 56, 57]⟩ : ByteArray).extract 0 1).data.toList = [UInt8.ofNat (48 + 0)] := pick_digit 0 (by omega)
            rw [size_list, app_list, h2, List.length_append, ← size_list S, List.length_singleton]; omega
          have h1 := HA.out (by simp)
          have h2 : ((⟨#[48, 49, 50, 51, 52, 53, 54, 55, 56, 57]⟩ : ByteArray).extract 0 1).data.toList = [UInt8.ofNat (48 + 0)] := pick_digit 0 (by omega)
          rw [app_list, h2, ← h1, dec_small (u := 0) (by omega)]
    · have hn0 : n = 0 := by
        rcases Nat.lt_or_ge i 20 with h | h
        · rcases Nat.eq_zero_or_pos n with h1 | h1
          · exact h1
          · exact absurd ⟨h, .inl h1⟩ hc
        · exact hn20 (by omega)
      subst hn0
      have hi0 : 0 < i := by
        rcases Nat.eq_zero_or_pos i with h | h
        · exact absurd ⟨by omega, .inr h⟩ hc
        · exact h
      have HS := hid (HB.out ⟨rfl, hi0⟩)
      have hi3 : ((i : Int) == 0) = false := by simp; omega
      clear hc hn20
      by_cases h20 : i < 20
      · go_wp2
        go_ret
        exact ⟨S, rfl, HS.out, Fr.refl _ _⟩
      · go_wp2
        go_ret
        exact ⟨S, rfl, HS.out, Fr.refl _ _⟩

set_option maxRecDepth 100000 in
set_option maxHeartbeats 1000000 in
theorem rtext_calls (a : Int) (w : World) : Calls Tryd.prog 12 #[.int .i64 a] w fun e w' => e = .returned (.string ⟨(txt (normI a)).toArray⟩) ∧ Fr No w w' := by
  have hb := normI_b a
  obtain ⟨N, hN⟩ : ∃ N, normI a = N := ⟨_, rfl⟩
  have HN := hid hN
  rw [hN] at hb ⊢
  clear hN
  by_cases h1 : N = 4611686018427387905
  · subst h1
    go_enter Tryd.func12, Tryd.ntmps12
    go_wp2_with (go_at_call 16; refine (rnorm_calls a _).mono ?_; rintro e w1 ⟨rfl, hf1⟩; rw [HN.out])
    go_ret
    exact ⟨rfl, hf1⟩
  · by_cases h2 : N = 4611686018427387906
    · subst h2
      go_enter Tryd.func12, Tryd.ntmps12
      go_wp2_with (go_at_call 16; refine (rnorm_calls a _).mono ?_; rintro e w1 ⟨rfl, hf1⟩; rw [HN.out])
      go_ret
      exact ⟨rfl, hf1⟩
    · obtain ⟨u, rfl⟩ := Int.eq_ofNat_of_zero_le hb.1
      have e1 : txt (u : Nat) = decDigits u := by unfold txt; rw [if_neg h1, if_neg h2]; rfl
      have HE := hid e1
      have d1 : (((u : Nat) : Int) == 4611686018427387905) = false := by simpa using h1
      have d2 : (((u : Nat) : Int) == 4611686018427387906) = false := by simpa using h2
      rw [e1]
      clear e1
      go_enter Tryd.func12, Tryd.ntmps12
      go_wp2_with fail
      refine (rnorm_calls a _).mono ?_
      rintro e w1 ⟨rfl, hf1⟩
      rw [HN.out]
      have G1 := hid hf1
      clear hf1
      go_wp2_with fail
      refine (rdig_calls u (by omega) w1).mono ?_
      rintro e w2 ⟨S, rfl, hs, hf2⟩
      have hs2 : S = ⟨(decDigits u).toArray⟩ := by
        apply ByteArray.ext
        rw [← hs]
      subst hs2
      clear hs
      go_wp2
      go_ret
      exact ⟨rfl, G1.out.trans hf2⟩

end Go.Proofs.YthflnhnhdgegdaaDoor
