/- The small readers of an index, walked. -/
import Derived.Test.YtakgjihhgpnnfaaDoorProg
import Derived.Test.YtakgjihhgpnnfaaDoorIdx
import Derived.WalkLawsBesides
import Derived.Deep.QuietTactic
import Derived.BigQuiet
import Derived.KernelRfl
set_option linter.unusedVariables false
set_option linter.unusedSimpArgs false
namespace Go.Proofs.YtakgjihhgpnnfaaDoor
open Go.RowKit

set_option maxHeartbeats 400000 in
theorem pick_out (A : Option Addr) (n c : Nat) (i : Int) (w : World) (h : i < 0 ∨ (n : Int) ≤ i) :
    Calls Tryd.prog 78 #[.slice A n c, .int .i64 i] w fun e w' => e = .returned (.int .i64 (-1)) ∧ w = w' := by
  by_cases h0 : i < 0
  · go_enter Tryd.func78, Tryd.ntmps78
    go_wp2
    go_ret
    exact ⟨rfl, rfl⟩
  · have h1 : (n : Int) ≤ i := by omega
    go_enter Tryd.func78, Tryd.ntmps78
    go_wp2
    go_ret
    exact ⟨rfl, rfl⟩

set_option maxHeartbeats 400000 in
theorem pick_in (b off n c : Nat) (i : Int) (v : Int) (w : World) (h0 : 0 ≤ i) (h1 : i < n) (hc : w.cell? ⟨b, off + i.toNat, none⟩ = some (.int .i64 v)) :
    Calls Tryd.prog 78 #[.slice (some ⟨b, off, none⟩) n c, .int .i64 i] w fun e w' => e = .returned (.int .i64 v) ∧ w = w' := by
  go_enter Tryd.func78, Tryd.ntmps78
  go_wp2
  go_ret
  exact ⟨rfl, rfl⟩


set_option maxHeartbeats 400000 in
theorem rank_calls {w : World} {L : IxLoc} {x : Ix} (h : IxMem w L x) (v : Int) :
    Calls Tryd.prog 48 #[.pointer (some ⟨L.b, 0, none⟩), .int .i64 v] w fun e w' => e = .returned (.int .i64 (x.rank v)) ∧ w = w' := by
  have h0 := h.c0
  by_cases hv : 0 ≤ v ∧ v < x.n
  · have hr := h.rk v.toNat (by omega)
    have e : x.rank v = x.rk v.toNat := if_pos hv
    rw [e]
    go_enter Tryd.func48, Tryd.ntmps48
    go_wp2_with (go_at_call 78; refine (pick_in _ _ _ _ _ _ _ hv.1 hv.2 (by simpa using hr)).mono ?_; rintro e w' ⟨rfl, rfl⟩)
    go_ret
    exact ⟨rfl, rfl⟩
  · have e : x.rank v = -1 := if_neg hv
    rw [e]
    go_enter Tryd.func48, Tryd.ntmps48
    go_wp2_with (go_at_call 78; refine (pick_out _ _ _ _ _ (by omega)).mono ?_; rintro e w' ⟨rfl, rfl⟩)
    go_ret
    exact ⟨rfl, rfl⟩

set_option maxHeartbeats 400000 in
theorem by_calls {w : World} {L : IxLoc} {x : Ix} (h : IxMem w L x) (v : Int) :
    Calls Tryd.prog 49 #[.pointer (some ⟨L.b, 0, none⟩), .int .i64 v] w fun e w' => e = .returned (.int .i64 (x.byr v)) ∧ w = w' := by
  have h0 := h.c1
  by_cases hv : 0 ≤ v ∧ v < x.n
  · have hr := h.by_ v.toNat (by omega)
    have e : x.byr v = x.by_ v.toNat := if_pos hv
    rw [e]
    go_enter Tryd.func49, Tryd.ntmps49
    go_wp2_with (go_at_call 78; refine (pick_in _ _ _ _ _ _ _ hv.1 hv.2 (by simpa using hr)).mono ?_; rintro e w' ⟨rfl, rfl⟩)
    go_ret
    exact ⟨rfl, rfl⟩
  · have e : x.byr v = -1 := if_neg hv
    rw [e]
    go_enter Tryd.func49, Tryd.ntmps49
    go_wp2_with (go_at_call 78; refine (pick_out _ _ _ _ _ (by omega)).mono ?_; rintro e w' ⟨rfl, rfl⟩)
    go_ret
    exact ⟨rfl, rfl⟩

theorem rank_nonneg (x : Ix) (v : Int) : (0 ≤ x.rank v) = (0 ≤ v ∧ v < x.n) := by
  unfold Ix.rank
  split
  · rename_i h; simp [h]; 
  · rename_i h; simp only [h, eq_iff_iff, iff_false]; omega

set_option maxHeartbeats 400000 in
theorem two_calls {w : World} {L : IxLoc} {x : Ix} (h : IxMem w L x) (u v : Int) :
    Calls Tryd.prog 38 #[.pointer (some ⟨L.b, 0, none⟩), .int .i64 u, .int .i64 v] w fun e w' => e = .returned (.bool (x.two u v)) ∧ w = w' := by
  have hu := rank_nonneg x u
  have hv := rank_nonneg x v
  have e : x.two u v = (decide (u ≠ v) && decide (0 ≤ x.rank u) && decide (0 ≤ x.rank v)) := by
    rw [Bool.eq_iff_iff]; simp only [Ix.two, hu, hv, decide_eq_true_eq, Bool.and_eq_true]; constructor
    · rintro ⟨a, b, c, d, e⟩; exact ⟨⟨a, b, c⟩, d, e⟩
    · rintro ⟨⟨a, b, c⟩, d, e⟩; exact ⟨a, b, c, d, e⟩
  rw [e]
  clear hu hv e
  by_cases h1 : u = v
  · subst h1
    go_enter Tryd.func38, Tryd.ntmps38
    go_wp2
    go_ret
    exact ⟨by simp, rfl⟩
  · have H1 := hid h1
    have h1' : (u != v) = true := by simpa using h1
    clear h1
    by_cases h2 : 0 ≤ x.rank u
    · go_enter Tryd.func38, Tryd.ntmps38
      go_wp2_with (go_at_call 48; refine (rank_calls h _).mono ?_; rintro e w' ⟨rfl, rfl⟩)
      go_ret
      exact ⟨by simp [H1.out, h2], rfl⟩
    · go_enter Tryd.func38, Tryd.ntmps38
      go_wp2_with (go_at_call 48; refine (rank_calls h _).mono ?_; rintro e w' ⟨rfl, rfl⟩)
      go_ret
      have h3 : ¬ 0 ≤ x.rank u := by omega
      exact ⟨by simp [h3], rfl⟩


theorem two_iff {x : Ix} {u v : Int} (h : x.two u v = true) : u ≠ v ∧ 0 ≤ u ∧ u < x.n ∧ 0 ≤ v ∧ v < x.n := by simpa [Ix.two] using h

set_option maxHeartbeats 400000 in
theorem low_calls {w : World} {L : IxLoc} {x : Ix} (h : IxMem w L x) (u v : Int) :
    Calls Tryd.prog 24 #[.pointer (some ⟨L.b, 0, none⟩), .int .i64 u, .int .i64 v] w fun e w' => e = .returned (.int .i64 (x.low u v)) ∧ ∃ k, w' = w.drewN k := by
  have h0 := h.c0
  have h1 := h.c1
  cases ht : x.two u v with
  | false =>
    have e : x.low u v = -1 := by simp [Ix.low, ht]
    rw [e]
    clear e
    have HT := hid ht
    clear ht
    go_enter Tryd.func24, Tryd.ntmps24
    go_wp2_with (go_at_call 38; refine (two_calls h _ _).mono ?_; rintro e w' ⟨rfl, rfl⟩; rw [HT.out])
    go_ret
    exact ⟨rfl, 0, rfl⟩
  | true =>
    obtain ⟨hne, hu0, hu1, hv0, hv1⟩ := two_iff ht
    have hru := h.rk u.toNat (by omega)
    have hrv := h.rk v.toNat (by omega)
    have gu := (h.ok.rk u.toNat (by omega))
    have gv := (h.ok.rk v.toNat (by omega))
    have hne' : x.rk u.toNat ≠ x.rk v.toNat := fun e => hne (by have := h.ok.inj (by omega) (by omega) e; omega)
    have HT := hid ht
    have GU := gu.1
    have GV := gv.1
    by_cases hlt : x.rk u.toNat < x.rk v.toNat
    · have hm := h.by_ _ GU
      have e : x.low u v = x.by_ (x.rk u.toNat) := by
        simp only [Ix.low, ht, if_true, hlt]; rw [gu.2]; omega
      rw [e]
      clear ht gu gv e hne
      go_enter Tryd.func24, Tryd.ntmps24
      go_wp2_with (first | (go_at_call 38; refine (two_calls h _ _).mono ?_; rintro e w' ⟨rfl, rfl⟩; rw [HT.out]))
      go_quiet (fail)
      go_wp2
      go_ret
      exact ⟨rfl, _, rfl⟩
    · have hm := h.by_ _ GV
      have hgt : x.rk v.toNat < x.rk u.toNat := by omega
      have e : x.low u v = x.by_ (x.rk v.toNat) := by
        simp only [Ix.low, ht, if_true, hlt, if_false]; rw [gv.2]; omega
      rw [e]
      clear ht gu gv e hne
      go_enter Tryd.func24, Tryd.ntmps24
      go_wp2_with (first | (go_at_call 38; refine (two_calls h _ _).mono ?_; rintro e w' ⟨rfl, rfl⟩; rw [HT.out]))
      go_quiet (fail)
      go_wp2
      go_ret
      exact ⟨rfl, _, rfl⟩

end Go.Proofs.YtakgjihhgpnnfaaDoor
