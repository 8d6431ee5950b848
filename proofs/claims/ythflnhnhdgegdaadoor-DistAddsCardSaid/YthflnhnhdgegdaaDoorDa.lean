/- The law of layer 1 of sums and leasts of any list; walked. -/
import Derived.Test.YthflnhnhdgegdaaDoorDr
set_option linter.unusedVariables false
set_option linter.unusedSimpArgs false
namespace Go.Proofs.YthflnhnhdgegdaaDoor
open Go.RowKit

set_option maxRecDepth 100000 in
set_option maxHeartbeats 2000000 in
theorem two_calls (s x : Int) (hs : 0 ≤ s ∧ s ≤ 4611686018427387906) (w : World) : Calls Tryd.prog 28 #[.int .i64 s, .int .i64 x] w fun e w' => e = .returned (.int .i64 (add1 s x)) ∧ Fr No w w' := by
  have hb := normI_b x
  have HS := hid (norm_id hs)
  obtain ⟨y, hy⟩ : ∃ y, normI x = y := ⟨_, rfl⟩
  have HY := hid hy
  have hadd : add1 s x = if s = 4611686018427387906 ∨ y = 4611686018427387906 then 4611686018427387906 else if 4611686018427387904 < s ∨ 4611686018427387904 - s < y then 4611686018427387905 else s + y := by rw [add1, hy]
  have HADD := hid hadd
  rw [hy] at hb
  clear hadd hy
  by_cases c1 : s = 4611686018427387906
  · subst c1
    go_enter Tryd.func28, Tryd.ntmps28
    go_wp2_with (go_at_call 16; (first | (refine (rnorm_calls 4611686018427387906 _).mono ?_; rintro e w1 ⟨rfl, hf⟩; rw [HS.out]; have HF := hid hf; clear hf) | (refine (rnorm_calls x _).mono ?_; rintro e w2 ⟨rfl, hf⟩; rw [HY.out])))
    go_ret
    exact ⟨by rw [HADD.out]; simp, HF.out.trans hf⟩
  · have d1 : (s == 4611686018427387906) = false := by simpa using c1
    by_cases c2 : y = 4611686018427387906
    · subst c2
      go_enter Tryd.func28, Tryd.ntmps28
      go_wp2_with fail
      refine (rnorm_calls s _).mono ?_
      rintro e w1 ⟨rfl, hf⟩
      rw [HS.out]
      have HF := hid hf
      clear hf
      go_wp2_with fail
      refine (rnorm_calls x _).mono ?_
      rintro e w2 ⟨rfl, hf⟩
      rw [HY.out]
      go_wp2
      all_goals go_ret
      all_goals exact ⟨by rw [HADD.out]; simp, HF.out.trans hf⟩
    · have d2 : (y == 4611686018427387906) = false := by simpa using c2
      by_cases c3 : s = 4611686018427387905
      · subst c3
        go_enter Tryd.func28, Tryd.ntmps28
        go_wp2_with fail
        refine (rnorm_calls _ _).mono ?_
        rintro e w1 ⟨rfl, hf⟩
        rw [HS.out]
        have HF := hid hf
        clear hf
        go_wp2_with fail
        refine (rnorm_calls x _).mono ?_
        rintro e w2 ⟨rfl, hf⟩
        rw [HY.out]
        go_wp2
        all_goals go_ret
        all_goals exact ⟨ret_int (by rw [HADD.out, if_neg (by omega), if_pos (.inl (by omega))]), HF.out.trans hf⟩
      · have d3 : (s == 4611686018427387905) = false := by simpa using c3
        by_cases c4 : 4611686018427387904 - s < y
        · go_enter Tryd.func28, Tryd.ntmps28
          go_wp2_with fail
          refine (rnorm_calls s _).mono ?_
          rintro e w1 ⟨rfl, hf⟩
          rw [HS.out]
          have HF := hid hf
          clear hf
          go_wp2_with fail
          refine (rnorm_calls x _).mono ?_
          rintro e w2 ⟨rfl, hf⟩
          rw [HY.out]
          go_wp2
          all_goals go_ret
          all_goals exact ⟨ret_int (by rw [HADD.out, if_neg (by omega), if_pos (.inr c4)]), HF.out.trans hf⟩
        · have d4 : (y == 4611686018427387905) = false := by simp; omega
          go_enter Tryd.func28, Tryd.ntmps28
          go_wp2_with fail
          refine (rnorm_calls s _).mono ?_
          rintro e w1 ⟨rfl, hf⟩
          rw [HS.out]
          have HF := hid hf
          clear hf
          go_wp2_with fail
          refine (rnorm_calls x _).mono ?_
          rintro e w2 ⟨rfl, hf⟩
          rw [HY.out]
          go_wp2
          all_goals go_ret
          all_goals exact ⟨ret_int (by rw [HADD.out, if_neg (by omega), if_neg (by omega)]), HF.out.trans hf⟩

set_option maxRecDepth 100000 in
set_option maxHeartbeats 2000000 in
theorem radd_calls {w : World} {A : Option Addr} {n c : Nat} {f : Nat → Int} (h : IntsF w A n f) (hn : n ≤ 140737488351232) :
    Calls Tryd.prog 18 #[.slice A n c] w fun e w' => e = .returned (.int .i64 (accF f n)) ∧ Fr No w w' := by
  have H := hid h
  clear h
  go_enter Tryd.func18, Tryd.ntmps18
  go_wp2
  go_loopg [3, 4] n (fun g p q wr => ∃ i : Nat, p = .int .i64 (accF f i) ∧ q = .int .i64 i ∧ i ≤ n ∧ g = n - i ∧ Fr No w wr)
  case atStart => exact ⟨0, rfl, rfl, Nat.zero_le _, rfl, Fr.refl _ _⟩
  case round =>
    obtain ⟨i, rfl, rfl, hi, hg, hf⟩ := hrel
    have HG := hid hg
    have HF := hid hf
    clear hg hf
    by_cases hlt : i < n
    · obtain ⟨b, off, rfl, hc⟩ := H.out (by omega)
      have q0 := HF.out.cell_some (hc i hlt) (fun h => h)
      have hlt2 : (i : Int) < n := by omega
      have HB := hid (accF_b f i)
      clear hc
      go_wp2_with fail
      refine (two_calls (accF f i) (f i) HB.out _).mono ?_
      rintro e w1 ⟨rfl, hf1⟩
      go_wp2
      go_roundg (n - (i + 1))
      case measure => have := HG.out; omega
      case rel => exact ⟨i + 1, rfl, by go_num, hlt, rfl, HF.out.trans hf1⟩
    · have e : i = n := by omega
      subst e
      go_wp2
      go_ret
      exact ⟨rfl, HF.out⟩

set_option maxRecDepth 100000 in
set_option maxHeartbeats 2000000 in
theorem rmin_calls {w : World} {A : Option Addr} {n c : Nat} {f : Nat → Int} (h : IntsF w A n f) (hn : n ≤ 140737488351232) :
    Calls Tryd.prog 19 #[.slice A n c] w fun e w' => e = .returned (.int .i64 (minF f n)) ∧ Fr No w w' := by
  have H := hid h
  clear h
  go_enter Tryd.func19, Tryd.ntmps19
  go_wp2
  go_loopg [3, 4] n (fun g p q wr => ∃ i : Nat, p = .int .i64 (minF f i) ∧ q = .int .i64 i ∧ i ≤ n ∧ g = n - i ∧ Fr No w wr)
  case atStart => exact ⟨0, rfl, rfl, Nat.zero_le _, rfl, Fr.refl _ _⟩
  case round =>
    obtain ⟨i, rfl, rfl, hi, hg, hf⟩ := hrel
    have HG := hid hg
    have HF := hid hf
    clear hg hf
    by_cases hlt : i < n
    · obtain ⟨b, off, rfl, hc⟩ := H.out (by omega)
      have q0 := HF.out.cell_some (hc i hlt) (fun h => h)
      have hlt2 : (i : Int) < n := by omega
      have hs : minF f (i + 1) = min (minF f i) (normI (f i)) := rfl
      obtain ⟨m, hm⟩ : ∃ m, minF f i = m := ⟨_, rfl⟩
      obtain ⟨y, hy⟩ : ∃ y, normI (f i) = y := ⟨_, rfl⟩
      obtain ⟨x, hx⟩ : ∃ x, f i = x := ⟨_, rfl⟩
      rw [hm, hy] at hs
      rw [hx] at hy q0
      rw [hm]
      have HS := hid hs
      have HY := hid hy
      clear hs hy hx hm
      have HC := hid hc
      clear hc
      by_cases hlt3 : y < m
      · have e : min m y = y := by omega
        rw [e] at HS
        clear e
        go_wp2_with fail
        refine (rnorm_calls x _).mono ?_
        rintro e w1 ⟨rfl, hf1⟩
        rw [HY.out]
        have q1 := hf1.cell_some q0 (fun h => h)
        have HF1 := hid (HF.out.trans hf1)
        clear hf1
        go_wp2_with fail
        refine (rnorm_calls x _).mono ?_
        rintro e w2 ⟨rfl, hf2⟩
        rw [HY.out]
        go_wp2
        go_roundg (n - (i + 1))
        case measure => have := HG.out; omega
        case rel => exact ⟨i + 1, by rw [HS.out], by go_num, hlt, rfl, HF1.out.trans hf2⟩
      · have e : min m y = m := by omega
        rw [e] at HS
        clear e
        go_wp2_with fail
        refine (rnorm_calls x _).mono ?_
        rintro e w1 ⟨rfl, hf1⟩
        rw [HY.out]
        go_wp2
        go_roundg (n - (i + 1))
        case measure => have := HG.out; omega
        case rel => exact ⟨i + 1, by rw [HS.out], by go_num, hlt, rfl, HF.out.trans hf1⟩
    · have e : i = n := by omega
      subst e
      go_wp2
      go_ret
      exact ⟨rfl, HF.out⟩

end Go.Proofs.YthflnhnhdgegdaaDoor
