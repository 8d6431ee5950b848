/- dist.Norm, dist.Add at two numbers; walked. -/

import Derived.Test.YtoepbhacpidcbaaGreatDoorQBase
import Derived.Test.YtoepbhacpidcbaaGreatDoorQIdx
import Derived.Test.YtoepbhacpidcbaaGreatDoorQIdxB
import Derived.Test.YtoepbhacpidcbaaGreatDoorQPerm
import Derived.Test.YtoepbhacpidcbaaGreatDoorQRef
import Derived.Test.YtoepbhacpidcbaaGreatDoorQUnref
import Derived.Test.YtoepbhacpidcbaaGreatDoorQUnE
import Derived.Test.YtoepbhacpidcbaaGreatDoorQItr

set_option linter.unusedVariables false
set_option linter.unusedSimpArgs false
namespace Go.Proofs.YtoepbhacpidcbaaGreatDoor
open Go.RowKit Go.Deep

def normI (x : Int) : Int := if x < 0 then 0 else if 4611686018427387906 < x then 4611686018427387906 else x
def add1 (s x : Int) : Int :=
  if s = 4611686018427387906 ∨ normI x = 4611686018427387906 then 4611686018427387906 else if 4611686018427387904 < s ∨ 4611686018427387904 - s < normI x then 4611686018427387905 else s + normI x
theorem normI_b (x : Int) : 0 ≤ normI x ∧ normI x ≤ 4611686018427387906 := by unfold normI; split <;> (try split) <;> omega
theorem add1_b {s : Int} (h : 0 ≤ s ∧ s ≤ 4611686018427387906) (x : Int) : 0 ≤ add1 s x ∧ add1 s x ≤ 4611686018427387906 := by
  have := normI_b x
  unfold add1
  split
  · omega
  · split <;> omega

set_option maxRecDepth 100000 in
set_option maxHeartbeats 1000000 in
theorem norm_calls (x : Int) (w : World) : Calls Tryz.prog 190 #[.int .i64 x] w fun e w' => e = .returned (.int .i64 (normI x)) ∧ Fr No w w' := by
  rcases (show x < 0 ∨ (0 ≤ x ∧ 4611686018427387906 < x) ∨ (0 ≤ x ∧ x ≤ 4611686018427387906) by omega) with h | h | h
  · have e : normI x = 0 := by unfold normI; rw [if_pos h]
    have h2 := h
    go_enter Tryz.func190, Tryz.ntmps190
    go_wp2
    all_goals (try (exfalso; split at * <;> omega))
    all_goals go_ret
    all_goals exact ⟨ret_int (by rw [e]), Fr.refl _ _⟩
  · have e : normI x = 4611686018427387906 := by unfold normI; rw [if_neg (by omega), if_pos h.2]
    obtain ⟨h1, h2⟩ := h
    go_enter Tryz.func190, Tryz.ntmps190
    go_wp2
    all_goals (try (exfalso; split at * <;> omega))
    all_goals go_ret
    all_goals exact ⟨ret_int (by rw [e]), Fr.refl _ _⟩
  · have e : normI x = x := by unfold normI; rw [if_neg (by omega), if_neg (by omega)]
    obtain ⟨h1, h2⟩ := h
    go_enter Tryz.func190, Tryz.ntmps190
    go_wp2
    all_goals (try (exfalso; split at * <;> omega))
    all_goals go_ret
    all_goals exact ⟨ret_int (by rw [e]), Fr.refl _ _⟩

set_option maxRecDepth 100000 in
set_option maxHeartbeats 2000000 in
theorem add1_calls (s x : Int) (hs : 0 ≤ s ∧ s ≤ 4611686018427387906) (w : World) : Calls Tryz.prog 189 #[.int .i64 s, .int .i64 x] w fun e w' => e = .returned (.int .i64 (add1 s x)) ∧ Fr No w w' := by
  have hb := normI_b x
  obtain ⟨y, hy⟩ : ∃ y, normI x = y := ⟨_, rfl⟩
  have HY := hid hy
  have hadd : add1 s x = if s = 4611686018427387906 ∨ y = 4611686018427387906 then 4611686018427387906 else if 4611686018427387904 < s ∨ 4611686018427387904 - s < y then 4611686018427387905 else s + y := by rw [add1, hy]
  have HADD := hid hadd
  rw [hy] at hb
  clear hadd hy
  by_cases c1 : s = 4611686018427387906
  · subst c1
    go_enter Tryz.func189, Tryz.ntmps189
    go_wp2_with (go_at_call 190; refine (norm_calls x _).mono ?_; rintro e w1 ⟨rfl, hf⟩; rw [HY.out])
    go_ret
    exact ⟨by rw [HADD.out]; simp, hf⟩
  · have d1 : (s == 4611686018427387906) = false := by simpa using c1
    by_cases c2 : y = 4611686018427387906
    · subst c2
      go_enter Tryz.func189, Tryz.ntmps189
      go_wp2_with (go_at_call 190; refine (norm_calls x _).mono ?_; rintro e w1 ⟨rfl, hf⟩; rw [HY.out])
      all_goals go_ret
      all_goals exact ⟨by rw [HADD.out]; simp, hf⟩
    · have d2 : (y == 4611686018427387906) = false := by simpa using c2
      by_cases c3 : 4611686018427387904 < s
      · go_enter Tryz.func189, Tryz.ntmps189
        go_wp2_with (go_at_call 190; refine (norm_calls x _).mono ?_; rintro e w1 ⟨rfl, hf⟩; rw [HY.out])
        all_goals go_ret
        all_goals exact ⟨ret_int (by rw [HADD.out, if_neg (by omega), if_pos (.inl c3)]), hf⟩
      · by_cases c4 : 4611686018427387904 - s < y
        · go_enter Tryz.func189, Tryz.ntmps189
          go_wp2_with (go_at_call 190; refine (norm_calls x _).mono ?_; rintro e w1 ⟨rfl, hf⟩; rw [HY.out])
          all_goals go_ret
          all_goals exact ⟨ret_int (by rw [HADD.out, if_neg (by omega), if_pos (.inr c4)]), hf⟩
        · go_enter Tryz.func189, Tryz.ntmps189
          go_wp2_with (go_at_call 190; refine (norm_calls x _).mono ?_; rintro e w1 ⟨rfl, hf⟩; rw [HY.out])
          all_goals go_ret
          all_goals exact ⟨ret_int (by rw [HADD.out, if_neg (by omega), if_neg (by omega)]), hf⟩

end Go.Proofs.YtoepbhacpidcbaaGreatDoor

/- dist.Add at a row of numbers; the index's 'Best'; walked. -/
set_option linter.unusedVariables false
set_option linter.unusedSimpArgs false
namespace Go.Proofs.YtoepbhacpidcbaaGreatDoor
open Go.RowKit Go.Deep

def accF (f : Nat → Int) : Nat → Int
  | 0 => 0
  | i + 1 => add1 (accF f i) (f i)
theorem accF_b (f : Nat → Int) : ∀ i, 0 ≤ accF f i ∧ accF f i ≤ 4611686018427387906 := by
  intro i
  induction i with
  | zero => simp [accF]
  | succ i ih => exact add1_b ih _

set_option maxRecDepth 100000 in
set_option maxHeartbeats 2000000 in
theorem fold_calls {w : World} {A : Option Addr} {n c : Nat} {f : Nat → Int} (h : IntsF w A n f) (hn : n ≤ 140737488351232) :
    Calls Tryz.prog 188 #[.slice A n c, .int .i64 0, .func (.func 189) #[] #[]] w fun e w' => e = .returned (.int .i64 (accF f n)) ∧ Fr No w w' := by
  have H := hid h
  clear h
  go_enter Tryz.func188, Tryz.ntmps188
  go_wp2
  go_loopg [1, 11] n (fun g p q wr => ∃ i : Nat, p = .int .i64 (accF f i) ∧ q = .int .i64 i ∧ i ≤ n ∧ g = n - i ∧ Fr No w wr)
  case atStart => exact ⟨0, rfl, rfl, Nat.zero_le _, rfl, Fr.refl _ _⟩
  case round =>
    obtain ⟨i, rfl, rfl, hi, hg, hf⟩ := hrel
    have HG := hid hg
    have HF := hid hf
    clear hg hf
    by_cases hlt : i < n
    · obtain ⟨b, off, rfl, hc⟩ := H.out (by omega)
      have q0 := HF.out.cell_some (hc i hlt) (fun h => h)
      have HC := hid hc
      have hlt2 : (i : Int) < n := by omega
      have hb := accF_b f i
      clear hc
      go_wp2_with (go_at_call 189; refine (add1_calls (accF f i) (f i) hb _).mono ?_; rintro e w1 ⟨rfl, hf1⟩)
      go_roundg (n - (i + 1))
      case measure => have := HG.out; omega
      case rel => exact ⟨i + 1, rfl, by go_num, hlt, rfl, HF.out.trans hf1⟩
    · have e : i = n := by omega
      subst e
      go_wp2
      go_ret
      exact ⟨rfl, HF.out⟩

set_option maxRecDepth 100000 in
set_option maxHeartbeats 1000000 in
theorem add_calls {w : World} {A : Option Addr} {n c : Nat} {f : Nat → Int} (h : IntsF w A n f) (hn : n ≤ 140737488351232) :
    Calls Tryz.prog 133 #[.slice A n c] w fun e w' => e = .returned (.int .i64 (accF f n)) ∧ Fr No w w' := by
  have H := hid h
  clear h
  go_enter Tryz.func133, Tryz.ntmps133
  go_wp2_with (go_at_call 188; refine (fold_calls H.out hn).mono ?_; rintro e w1 ⟨rfl, hf1⟩)
  go_ret
  exact ⟨rfl, hf1⟩

theorem run_field0 (a b c : Int) (w : World) : (Instr.field 117 (.agg #[.int .i64 a, .int .i64 b, .int .i64 c]) 0).run Tryz.prog w = .ok (.int .i64 a) w := by kernel_rfl
attribute [local go_sem high] run_field0

/-- The best entry by way of one of the first k vertices, by rank. -/
def Ix.sum2 (x : Ix) (u v : Int) (k : Nat) : Int := add1 (add1 0 (x.at_ u (x.by_ k : Nat)).w) (x.at_ (x.by_ k : Nat) v).w
def Ix.bestTo (x : Ix) (u v : Int) (b : En) : Nat → En
  | 0 => b
  | k + 1 => if x.sum2 u v k < (x.bestTo u v b k).w then ⟨x.sum2 u v k, -1, (x.by_ k : Nat)⟩ else x.bestTo u v b k
def Ix.best (x : Ix) (u v : Int) (d : Int × Int) : En :=
  if x.two u v = true then x.bestTo u v (if 0 ≤ d.2 then ⟨d.1, d.2, -1⟩ else En.none) (min (x.rk u.toNat) (x.rk v.toNat)) else En.none

theorem OutAt.fr {w w' : World} {b : Nat} {v : Int} {zs : List Id64} (h : OutAt w.heap.size w b v zs) (hf : Fr No w w') : OutAt w'.heap.size w' b v zs := by
  obtain ⟨h1, h2, A, nv, cv, h3, h4, h5⟩ := OutAt.below h hf.below
  have hs := hf.size
  refine ⟨by omega, h2, A, nv, cv, h3, h4, ?_⟩
  rcases h5 with h5 | ⟨ba, k, cap, S, rfl, e, hk, hba, hc, hI⟩
  · exact .inl h5
  · refine .inr ⟨ba, k, cap, S, rfl, e, hk, by omega, hc, ?_⟩
    rcases hI with hI | ⟨b', o', c', e', hb', hc'⟩
    · exact .inl hI
    · exact .inr ⟨b', o', c', e', by omega, hc'⟩
theorem ArcsAt.fr {w w' : World} {b : Nat} {arc : Nat → Arc4} (h : ArcsAt w b arc) (hf : Fr No w w') : ArcsAt w' b arc := fun i hi =>
  ⟨hf.cell_some (h i hi).1 (fun h => h), hf.cell_some (h i hi).2.1 (fun h => h), hf.cell_some (h i hi).2.2.1 (fun h => h), hf.cell_some (h i hi).2.2.2 (fun h => h)⟩

end Go.Proofs.YtoepbhacpidcbaaGreatDoor
