/- The document's sum of two distances; walked. -/
import Derived.Test.YtpkocidcfnlbiaaDoorDst
import Derived.Test.YtpkocidcfnlbiaaDoorLks
import Derived.Test.YtpkocidcfnlbiaaDoorSum
set_option linter.unusedVariables false
set_option linter.unusedSimpArgs false
namespace Go.Proofs.YtpkocidcfnlbiaaDoor
open Go.RowKit

set_option maxRecDepth 100000 in
set_option maxHeartbeats 1000000 in
theorem rnorm_calls (x : Int) (w : World) : Calls Tryd.prog 58 #[.int .i64 x] w fun e w' => e = .returned (.int .i64 (normI x)) ∧ Fr No w w' := by
  rcases (show x < 0 ∨ (0 ≤ x ∧ 4611686018427387906 < x) ∨ (0 ≤ x ∧ x ≤ 4611686018427387906) by omega) with h | ⟨h1, h2⟩ | ⟨h1, h2⟩
  · have e : normI x = 0 := by unfold normI; rw [if_pos h]
    go_enter Tryd.func58, Tryd.ntmps58
    go_wp2
    go_ret
    exact ⟨ret_int (by rw [e]), Fr.refl _ _⟩
  · have e : normI x = 4611686018427387906 := by unfold normI; rw [if_neg (by omega), if_pos h2]
    go_enter Tryd.func58, Tryd.ntmps58
    go_wp2
    go_ret
    exact ⟨ret_int (by rw [e]), Fr.refl _ _⟩
  · have e : normI x = x := by unfold normI; rw [if_neg (by omega), if_neg (by omega)]
    go_enter Tryd.func58, Tryd.ntmps58
    go_wp2
    go_ret
    exact ⟨ret_int (by rw [e]), Fr.refl _ _⟩

set_option maxRecDepth 100000 in
set_option maxHeartbeats 2000000 in
theorem rsum_calls (q x : Int) (w : World) : Calls Tryd.prog 29 #[.int .i64 q, .int .i64 x] w fun e w' => e = .returned (.int .i64 (add1 (normI q) x)) ∧ Fr No w w' := by
  have hb := normI_b x
  have hs := normI_b q
  obtain ⟨s, hsq⟩ : ∃ s, normI q = s := ⟨_, rfl⟩
  have HS := hid hsq
  rw [hsq] at hs ⊢
  clear hsq
  obtain ⟨y, hy⟩ : ∃ y, normI x = y := ⟨_, rfl⟩
  have HY := hid hy
  have hadd : add1 s x = if s = 4611686018427387906 ∨ y = 4611686018427387906 then 4611686018427387906 else if 4611686018427387904 < s ∨ 4611686018427387904 - s < y then 4611686018427387905 else s + y := by rw [add1, hy]
  have HADD := hid hadd
  rw [hy] at hb
  clear hadd hy
  by_cases c1 : s = 4611686018427387906
  · subst c1
    go_enter Tryd.func29, Tryd.ntmps29
    go_wp2_with (go_at_call 58; (first | (refine (rnorm_calls q _).mono ?_; rintro e w1 ⟨rfl, hf⟩; rw [HS.out]; have HF := hid hf; clear hf) | (refine (rnorm_calls x _).mono ?_; rintro e w2 ⟨rfl, hf⟩; rw [HY.out])))
    go_ret
    exact ⟨by rw [HADD.out]; simp, HF.out.trans hf⟩
  · have d1 : (s == 4611686018427387906) = false := by simpa using c1
    by_cases c2 : y = 4611686018427387906
    · subst c2
      go_enter Tryd.func29, Tryd.ntmps29
      go_wp2_with fail
      refine (rnorm_calls q _).mono ?_
      rintro e w1 ⟨rfl, hf⟩
      rw [HS.out]
      have HF := hid hf
      clear hf
      go_wp2_with fail
      refine (rnorm_calls x _).mono ?_
      rintro e w2 ⟨rfl, hf⟩
      rw [HY.out]
      go_wp2
      all_goals go_ret
      all_goals exact ⟨by rw [HADD.out]; simp, HF.out.trans hf⟩
    · have d2 : (y == 4611686018427387906) = false := by simpa using c2
      by_cases c3 : s = 4611686018427387905
      · subst c3
        go_enter Tryd.func29, Tryd.ntmps29
        go_wp2_with fail
        refine (rnorm_calls q _).mono ?_
        rintro e w1 ⟨rfl, hf⟩
        rw [HS.out]
        have HF := hid hf
        clear hf
        go_wp2_with fail
        refine (rnorm_calls x _).mono ?_
        rintro e w2 ⟨rfl, hf⟩
        rw [HY.out]
        go_wp2
        all_goals go_ret
        all_goals exact ⟨ret_int (by rw [HADD.out, if_neg (by omega), if_pos (.inl (by omega))]), HF.out.trans hf⟩
      · have d3 : (s == 4611686018427387905) = false := by simpa using c3
        by_cases c4 : 4611686018427387904 - s < y
        · go_enter Tryd.func29, Tryd.ntmps29
          go_wp2_with fail
          refine (rnorm_calls q _).mono ?_
          rintro e w1 ⟨rfl, hf⟩
          rw [HS.out]
          have HF := hid hf
          clear hf
          go_wp2_with fail
          refine (rnorm_calls x _).mono ?_
          rintro e w2 ⟨rfl, hf⟩
          rw [HY.out]
          go_wp2
          all_goals go_ret
          all_goals exact ⟨ret_int (by rw [HADD.out, if_neg (by omega), if_pos (.inr c4)]), HF.out.trans hf⟩
        · have d4 : (y == 4611686018427387905) = false := by simp; omega
          go_enter Tryd.func29, Tryd.ntmps29
          go_wp2_with fail
          refine (rnorm_calls q _).mono ?_
          rintro e w1 ⟨rfl, hf⟩
          rw [HS.out]
          have HF := hid hf
          clear hf
          go_wp2_with fail
          refine (rnorm_calls x _).mono ?_
          rintro e w2 ⟨rfl, hf⟩
          rw [HY.out]
          go_wp2
          all_goals go_ret
          all_goals exact ⟨ret_int (by rw [HADD.out, if_neg (by omega), if_neg (by omega)]), HF.out.trans hf⟩

theorem add1_zero (a : Int) : add1 0 a = normI a := by
  have h := normI_b a
  have h0 : normI 0 = 0 := by decide
  unfold add1
  repeat' split
  all_goals omega
theorem norm_id {s : Int} (hs : 0 ≤ s ∧ s ≤ 4611686018427387906) : normI s = s := by unfold normI; rw [if_neg (by omega), if_neg (by omega)]

end Go.Proofs.YtpkocidcfnlbiaaDoor

/- The middles of two vertices: the program's; walked. -/
set_option linter.unusedVariables false
set_option linter.unusedSimpArgs false
namespace Go.Proofs.YtpkocidcfnlbiaaDoor
open Go.RowKit Go.Deep
attribute [local go_sem high] run_field0

theorem sum2_none_dec (s : Int) : (s ≠ 4611686018427387906) ∨ s = 4611686018427387906 := by omega
/-- The vertices by way of which, of the r lowest, it is just as long. -/
def Ix.midsTo (x : Ix) (u v : Int) : Nat → List Int
  | 0 => []
  | r + 1 => if x.sum2 u v r ≠ 4611686018427387906 ∧ x.sum2 u v r = (x.at_ u v).w then x.midsTo u v r ++ [((x.by_ r : Nat) : Int)] else x.midsTo u v r
def Ix.mids (x : Ix) (u v : Int) : List Int := if x.two u v = true then x.midsTo u v (min (x.rk u.toNat) (x.rk v.toNat)) else []
theorem Ix.midsTo_le (x : Ix) (u v : Int) : ∀ r, (x.midsTo u v r).length ≤ r
  | 0 => Nat.le_refl _
  | r + 1 => by
    have := x.midsTo_le u v r
    unfold Ix.midsTo
    split
    · simp; omega
    · omega
theorem Ix.Ok.mids_le {x : Ix} (h : x.Ok) (u v : Int) : (x.mids u v).length ≤ 24 := by
  unfold Ix.mids
  split
  · rename_i ht
    obtain ⟨_, hu0, hu1, _, _⟩ := two_iff ht
    have h1 := x.midsTo_le u v (min (x.rk u.toNat) (x.rk v.toNat))
    have h2 := (h.rk u.toNat (by omega)).1
    have h3 := h.n2
    omega
  · simp
theorem Ix.Ok.rank_low {x : Ix} (h : x.Ok) {u v : Int} (ht : x.two u v = true) : x.rank (x.low u v) = ((min (x.rk u.toNat) (x.rk v.toNat) : Nat) : Int) := by
  obtain ⟨_, hu0, hu1, hv0, hv1⟩ := two_iff ht
  unfold Ix.low
  rw [if_pos ht]
  split
  · unfold Ix.rank; rw [if_pos ⟨hu0, hu1⟩]; omega
  · unfold Ix.rank; rw [if_pos ⟨hv0, hv1⟩]; omega
theorem Ix.Ok.byr_nat {x : Ix} (h : x.Ok) {r : Nat} (hr : r < x.n) : x.byr (r : Nat) = (x.by_ r : Nat) := by
  unfold Ix.byr; rw [if_pos ⟨by omega, by omega⟩]; simp

end Go.Proofs.YtpkocidcfnlbiaaDoor

/- The middles of two vertices: the document's; walked. -/
set_option linter.unusedVariables false
set_option linter.unusedSimpArgs false
namespace Go.Proofs.YtpkocidcfnlbiaaDoor
open Go.RowKit Go.Deep

theorem two_sym (x : Ix) (u v : Int) : x.two u v = x.two v u := by
  unfold Ix.two
  rw [Bool.eq_iff_iff]
  simp
  omega
theorem at_nat {x : Ix} {u v : Nat} (h : x.two (u : Nat) (v : Nat) = true) : x.at_ (u : Nat) (v : Nat) = x.ent u v := by
  unfold Ix.at_; rw [if_pos h]; rfl

end Go.Proofs.YtpkocidcfnlbiaaDoor
