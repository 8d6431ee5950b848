/- An index's entries: where one is kept, how it is told and kept; walked. -/
import Derived.Deep.RegionHeld3
import Derived.Deep.DrawnRows
import Derived.Test.YtoepbhacpidcbaaGreatDoorQBase
import Derived.Test.YtoepbhacpidcbaaGreatDoorQIdx

set_option linter.unusedVariables false
set_option linter.unusedSimpArgs false
namespace Go.Proofs.YtoepbhacpidcbaaGreatDoor
open Go.RowKit

/-- Where an entry is kept. -/
def Ix.pl (x : Ix) (u v : Nat) : Nat := if x.rk u < x.rk v then 2 + x.rk u * 144 + x.rk v * 3 else 2 + x.rk v * 144 + 72 + x.rk u * 3

set_option maxHeartbeats 400000 in
theorem place_calls {w : World} {L : IxLoc} {x : Ix} (h : IxMem w L x) (u v : Int) (ht : x.two u v = true) :
    Calls Tryz.prog 119 #[.pointer (some ⟨L.b, 0, none⟩), .int .i64 u, .int .i64 v] w fun e w' => e = .returned (.pointer (some ⟨L.b, x.pl u.toNat v.toNat, none⟩)) ∧ ∃ k, w' = w.drewN k := by
  have h0 := h.c0
  obtain ⟨hne, hu0, hu1, hv0, hv1⟩ := two_iff ht
  have hru := h.rk u.toNat (by omega)
  have hrv := h.rk v.toNat (by omega)
  have GU := (h.ok.rk u.toNat (by omega)).1
  have GV := (h.ok.rk v.toNat (by omega)).1
  have hn := h.ok.n2
  have hne' : x.rk u.toNat ≠ x.rk v.toNat := fun e => hne (by have := h.ok.inj (by omega) (by omega) e; omega)
  clear ht hne
  by_cases hlt : x.rk u.toNat < x.rk v.toNat
  · have e : x.pl u.toNat v.toNat = 2 + x.rk u.toNat * 144 + x.rk v.toNat * 3 := by simp [Ix.pl, hlt]
    rw [e]; clear e
    go_enter Tryz.func119, Tryz.ntmps119
    go_wp2
    go_quiet (fail)
    go_wp2
    go_ret
    exact ⟨by simp, _, rfl⟩
  · have e : x.pl u.toNat v.toNat = 2 + x.rk v.toNat * 144 + 72 + x.rk u.toNat * 3 := by simp [Ix.pl, hlt]
    rw [e]; clear e
    go_enter Tryz.func119, Tryz.ntmps119
    go_wp2
    go_quiet (fail)
    go_wp2
    go_ret
    exact ⟨by simp, _, rfl⟩

set_option maxHeartbeats 400000 in
theorem told_calls (l a m : Int) (w : World) (hl0 : 0 ≤ l) (hl1 : l ≤ 4611686018427387906) (ha0 : 0 ≤ a) (ha1 : a ≤ 64) (hm0 : 0 ≤ m) (hm1 : m ≤ 24) :
    Calls Tryz.prog 159 #[.agg #[.int .i64 l, .int .i64 a, .int .i64 m]] w fun e w' => e = .returned (.agg #[.int .i64 (4611686018427387906 - l), .int .i64 (a - 1), .int .i64 (m - 1)]) ∧ Fr No w w' := by
  go_enter Tryz.func159, Tryz.ntmps159
  go_wp2
  exact bodyPost_ret (v := .agg #[.int .i64 (4611686018427387906 - l), .int .i64 (a - 1), .int .i64 (m - 1)]) (by simp [results, Tryz.results159, go_sem]) rfl ⟨rfl, (((Fr.refl _ _).alloc _).alloc _)⟩

set_option maxHeartbeats 400000 in
theorem keep_calls (e : En) (w : World) (he : e.Ok) :
    Calls Tryz.prog 118 #[e.val] w fun r w' => r = .returned (.agg #[.int .i64 (e.kf 0), .int .i64 (e.kf 1), .int .i64 (e.kf 2)]) ∧ Fr No w w' := by
  obtain ⟨h1, h2, h3, h4, h5, h6⟩ := he
  obtain ⟨p, a, m⟩ := e
  simp only at h1 h2 h3 h4 h5 h6
  simp only [En.val, En.kf]
  go_enter Tryz.func118, Tryz.ntmps118
  go_wp2
  exact bodyPost_ret (v := .agg #[.int .i64 (4611686018427387906 - p), .int .i64 (a + 1), .int .i64 (m + 1)]) (by simp [results, Tryz.results118, go_sem]) rfl ⟨rfl, (((Fr.refl _ _).alloc _).alloc _)⟩


theorem Ix.Ok.pl_lt {x : Ix} (h : x.Ok) {u v : Nat} (hu : u < x.n) (hv : v < x.n) : 2 ≤ x.pl u v ∧ x.pl u v + 3 ≤ 3458 := by
  have := (h.rk u hu).1
  have := (h.rk v hv).1
  have := h.n2
  unfold Ix.pl
  split <;> omega

theorem Ix.Ok.K_pl {x : Ix} (h : x.Ok) {u v : Nat} (hu : u < x.n) (hv : v < x.n) (hne : u ≠ v) (c : Nat) (hc : c < 3) : x.K (x.pl u v - 2 + c) = (x.ent u v).kf c := by
  have gu := h.rk u hu
  have gv := h.rk v hv
  have := h.n2
  have hn : x.rk u ≠ x.rk v := fun e => hne (h.inj hu hv e)
  unfold Ix.pl
  split
  · have e1 : (2 + x.rk u * 144 + x.rk v * 3 - 2 + c) / 144 = x.rk u := by omega
    have e2 : (2 + x.rk u * 144 + x.rk v * 3 - 2 + c) % 72 / 3 = x.rk v := by omega
    have e3 : (2 + x.rk u * 144 + x.rk v * 3 - 2 + c) % 144 < 72 := by omega
    have e4 : (2 + x.rk u * 144 + x.rk v * 3 - 2 + c) % 3 = c := by omega
    rw [Ix.K, e1, e2, e4, if_pos (by omega), if_pos e3, gu.2, gv.2]
  · have e1 : (2 + x.rk v * 144 + 72 + x.rk u * 3 - 2 + c) / 144 = x.rk v := by omega
    have e2 : (2 + x.rk v * 144 + 72 + x.rk u * 3 - 2 + c) % 72 / 3 = x.rk u := by omega
    have e3 : ¬ (2 + x.rk v * 144 + 72 + x.rk u * 3 - 2 + c) % 144 < 72 := by omega
    have e4 : (2 + x.rk v * 144 + 72 + x.rk u * 3 - 2 + c) % 3 = c := by omega
    rw [Ix.K, e1, e2, e4, if_pos (by omega), if_neg e3, gu.2, gv.2]

theorem IxMem.at_pl {w : World} {L : IxLoc} {x : Ix} (h : IxMem w L x) {u v : Nat} (hu : u < x.n) (hv : v < x.n) (hne : u ≠ v) (c : Nat) (hc : c < 3) :
    w.cell? ⟨L.b, x.pl u v + c, none⟩ = some (.int .i64 ((x.ent u v).kf c)) := by
  have := h.ok.pl_lt hu hv
  rw [h.blk.cell (by omega), Ix.V, if_neg (by omega), if_neg (by omega), show x.pl u v + c - 2 = x.pl u v - 2 + c by omega, h.ok.K_pl hu hv hne c hc]

set_option maxHeartbeats 400000 in
theorem at_calls {w : World} {L : IxLoc} {x : Ix} (h : IxMem w L x) (u v : Int) :
    Calls Tryz.prog 84 #[.pointer (some ⟨L.b, 0, none⟩), .int .i64 u, .int .i64 v] w fun e w' => e = .returned (x.at_ u v).val ∧ Fr No w w' := by
  cases ht : x.two u v with
  | false =>
    have e : x.at_ u v = En.none := by simp [Ix.at_, ht]
    rw [e, En.none, En.val]; clear e
    have HT := hid ht
    have g0 := h.gn.c0
    have g1 := h.gn.c1
    have g2 := h.gn.c2
    have gl := h.gn.lt
    clear ht
    go_enter Tryz.func84, Tryz.ntmps84
    go_wp2_with (first | (go_at_call 116; refine (two_calls (h.alloc _) _ _).mono ?_; rintro e w' ⟨rfl, rfl⟩; rw [HT.out]))
    exact bodyPost_ret (v := .agg #[.int .i64 4611686018427387906, .int .i64 (-1), .int .i64 (-1)]) (by simp [results, Tryz.results84, go_sem]) rfl ⟨rfl, (((Fr.refl _ _).alloc _))⟩
  | true =>
    obtain ⟨hne, hu0, hu1, hv0, hv1⟩ := two_iff ht
    have kl := h.lt
    have k0 : w.cell? ⟨L.b, x.pl u.toNat v.toNat, none⟩ = _ := h.at_pl (u := u.toNat) (v := v.toNat) (by omega) (by omega) (by omega) 0 (by omega)
    have k1 := h.at_pl (u := u.toNat) (v := v.toNat) (by omega) (by omega) (by omega) 1 (by omega)
    have k2 := h.at_pl (u := u.toNat) (v := v.toNat) (by omega) (by omega) (by omega) 2 (by omega)
    have e : x.at_ u v = x.ent u.toNat v.toNat := by simp [Ix.at_, ht]
    obtain ⟨he1, he2, he3, he4, he5, he6⟩ := h.ok.ent u.toNat v.toNat
    rw [e]; clear e
    have HT := hid ht
    clear ht
    go_enter Tryz.func84, Tryz.ntmps84
    go_wp2_with (first 
      | (go_at_call 116; refine (two_calls (h.alloc _) _ _).mono ?_; rintro e w' ⟨rfl, rfl⟩; rw [HT.out])
      | (go_at_call 119; refine (place_calls (h.alloc _) _ _ HT.out).mono ?_; rintro e w' ⟨rfl, k, rfl⟩)
      | (go_at_call 159; refine (told_calls _ _ _ _ (by simp [En.kf]; omega) (by simp [En.kf]; omega) (by simp [En.kf]; omega) (by simp [En.kf]; omega) (by simp [En.kf]; omega) (by simp [En.kf]; omega)).mono ?_; rintro e w1 ⟨rfl, hf⟩; obtain ⟨o1, o2, o3, o4⟩ := own_no hf w.heap.size (heap_newN _ _ _))
      | (fail))
    have q := cell_of (set3 o4 (.int .i64 (4611686018427387906 - (x.ent u.toNat v.toNat).kf 0)) (.int .i64 ((x.ent u.toNat v.toNat).kf 1 - 1)) (.int .i64 ((x.ent u.toNat v.toNat).kf 2 - 1)))
    refine bodyPost_ret (v := .agg #[.int .i64 (4611686018427387906 - (x.ent u.toNat v.toNat).kf 0), .int .i64 ((x.ent u.toNat v.toNat).kf 1 - 1), .int .i64 ((x.ent u.toNat v.toNat).kf 2 - 1)]) (by simp [results, Tryz.results84, go_sem, q 0, q 1, q 2]) rfl ⟨?_, ?_⟩
    · rw [En.val]; congr 4 <;> (simp [En.kf]; try omega)
    · exact ((((Fr.refl _ _).alloc _).drewN _).trans hf |>.setCell (.inr (Nat.le_refl _)) _).setCell (.inr (Nat.le_refl _)) _ |>.setCell (.inr (Nat.le_refl _)) _

end Go.Proofs.YtoepbhacpidcbaaGreatDoor

/- What may be an entry, and setting one; walked. -/
set_option linter.unusedVariables false
set_option linter.unusedSimpArgs false
namespace Go.Proofs.YtoepbhacpidcbaaGreatDoor
open Go.RowKit

def Ix.May (x : Ix) (u v : Int) (e : En) : Prop :=
  (e.w = 4611686018427387906 ∧ e.a = -1 ∧ e.m = -1) ∨
  (1 ≤ e.w ∧ e.w ≤ 4611686018427387905 ∧ ((e.m = -1 ∧ 0 ≤ e.a ∧ e.a < 64) ∨ (e.m ≠ -1 ∧ e.a = -1 ∧ 0 ≤ x.rank e.m ∧ x.rank e.m < x.rank u ∧ x.rank e.m < x.rank v)))
instance (x : Ix) (u v : Int) (e : En) : Decidable (x.May u v e) := by unfold Ix.May; infer_instance

theorem ret_bool {a b : Bool} (h : a = b) : Ending.returned (.bool a) = .returned (.bool b) := by rw [h]
theorem ret_int {k : IntKind} {a b : Int} (h : a = b) : Ending.returned (.int k a) = .returned (.int k b) := by rw [h]
theorem eq_decide {a : Bool} {p : Prop} [Decidable p] (h : a = true ↔ p) : a = decide p := by
  rw [Bool.eq_iff_iff, decide_eq_true_eq]; exact h

set_option maxHeartbeats 1000000 in
theorem may_calls {w : World} {L : IxLoc} {x : Ix} (h : IxMem w L x) (u v : Int) (ht : x.two u v = true) (e : En) :
    Calls Tryz.prog 117 #[.pointer (some ⟨L.b, 0, none⟩), .int .i64 u, .int .i64 v, e.val] w fun r w' => r = .returned (.bool (decide (x.May u v e))) ∧ Fr No w w' := by
  obtain ⟨e0, e1, e2⟩ := e
  have g0 := h.gn.c0
  have g1 := h.gn.c1
  have g2 := h.gn.c2
  have gl := h.gn.lt
  have kl := h.lt
  have h0 := h.c0
  obtain ⟨hne, hu0, hu1, hv0, hv1⟩ := two_iff ht
  have hru := h.rk u.toNat (by omega)
  have hrv := h.rk v.toNat (by omega)
  have hrl := h.hr.1
  have ru : x.rank u = x.rk u.toNat := if_pos ⟨hu0, hu1⟩
  have rv : x.rank v = x.rk v.toNat := if_pos ⟨hv0, hv1⟩
  have EQ : Hid (x.May u v ⟨e0, e1, e2⟩ ↔ (e0 = 4611686018427387906 ∧ e1 = -1 ∧ e2 = -1) ∨ (1 ≤ e0 ∧ e0 ≤ 4611686018427387905 ∧ ((e2 = -1 ∧ 0 ≤ e1 ∧ e1 < 64) ∨ (e2 ≠ -1 ∧ e1 = -1 ∧ 0 ≤ x.rank e2 ∧ x.rank e2 < x.rk u.toNat ∧ x.rank e2 < x.rk v.toNat)))) := by
    rw [← ru, ← rv]; exact Iff.rfl
  clear ru rv ht hne
  simp only [En.val]
  cases hA : (e1 == -1) <;> cases hB : decide (0 ≤ x.rank e2) <;> rcases Nat.lt_or_ge (x.rk v.toNat) (x.rk u.toNat) with hC | hC
  all_goals
    go_enter Tryz.func117, Tryz.ntmps117
    go_wp2_with (go_at_call 102; refine (rank_calls (h.alloc _) _).mono ?_; rintro e w' ⟨rfl, rfl⟩)
  all_goals try (go_quiet (fail); go_wp2)
  all_goals (go_ret; refine ⟨ret_bool (eq_decide ?_), ?_⟩)
  all_goals first | exact ((Fr.refl _ _).alloc _) | exact ((Fr.refl _ _).alloc _).drewN _ | skip
  all_goals have EQ := EQ.out
  all_goals (rw [EQ]; clear EQ h g0 g1 g2 hru hrv h0)
  all_goals try simp [-beq_iff_eq, -bne_iff_ne] at *
  all_goals try simp only [beq_iff_eq, beq_eq_false_iff_ne, ne_eq, decide_eq_true_eq, decide_eq_false_iff_not, Bool.and_eq_true, Bool.or_eq_true, Bool.not_eq_true'] at *
  all_goals omega

end Go.Proofs.YtoepbhacpidcbaaGreatDoor

/- Setting an entry of an index; walked. -/
set_option linter.unusedVariables false
set_option linter.unusedSimpArgs false
namespace Go.Proofs.YtoepbhacpidcbaaGreatDoor
open Go.RowKit
attribute [local go_sem ↓] Go.wp_at_zero Go.wp_at_succ

/-- The index behind a set entry. -/
def Ix.set (x : Ix) (u v : Nat) (e : En) : Ix := { x with ent := fun a b => if a = u ∧ b = v then e else x.ent a b }
theorem IxMem.sto {w : World} {L : IxLoc} {x : Ix} (h : IxMem w L x) {u v : Int} (ht : x.two u v = true) :
    w.cell? ⟨L.b, x.pl u.toNat v.toNat, none⟩ = some (.int .i64 ((x.ent u.toNat v.toNat).kf 0)) ∧ w.cell? ⟨L.b, x.pl u.toNat v.toNat + 1, none⟩ = some (.int .i64 ((x.ent u.toNat v.toNat).kf 1)) ∧
    w.cell? ⟨L.b, x.pl u.toNat v.toNat + 2, none⟩ = some (.int .i64 ((x.ent u.toNat v.toNat).kf 2)) ∧ (∀ i, w.frozen? ⟨L.b, i, none⟩ = false) := by
  obtain ⟨hne, hu0, hu1, hv0, hv1⟩ := two_iff ht
  exact ⟨h.at_pl (by omega) (by omega) (by omega) 0 (by omega), h.at_pl (by omega) (by omega) (by omega) 1 (by omega), h.at_pl (by omega) (by omega) (by omega) 2 (by omega), fun i => h.blk.frozen i⟩

theorem Ix.Ok.may_ok {x : Ix} (h : x.Ok) {u v : Int} {e : En} (hm : x.May u v e) : e.Ok := by
  have h2 := h.n2
  have hr : 0 ≤ x.rank e.m → 0 ≤ e.m ∧ e.m < x.n := fun h => by
    unfold Ix.rank at h; split at h
    · assumption
    · omega
  rcases hm with ⟨a, b, c⟩ | ⟨a, b, ⟨c, d, e⟩ | ⟨c, d, e, f, g⟩⟩
  · constructor <;> omega
  · constructor <;> omega
  · have := hr e; constructor <;> omega

def Ix.setI (x : Ix) (u v : Int) (e : En) : Ix := if x.two u v = true ∧ x.May u v e then x.set u.toNat v.toNat e else x

set_option maxHeartbeats 1000000 in
theorem set_no {w : World} {L : IxLoc} {x : Ix} (h : IxMem w L x) (u v : Int) (e : En) (hno : ¬ (x.two u v = true ∧ x.May u v e)) :
    Calls Tryz.prog 56 #[.pointer (some ⟨L.b, 0, none⟩), .int .i64 u, .int .i64 v, e.val] w fun r w' => r = .returned (.int .i64 1) ∧ Fr No w w' := by
  cases ht : x.two u v with
  | false =>
    have HT := hid ht
    clear hno ht
    simp only [En.val]
    go_enter Tryz.func56, Tryz.ntmps56
    go_wp2_with (go_at_call 116; refine (two_calls (h.alloc _) _ _).mono ?_; rintro e w' ⟨rfl, rfl⟩; rw [HT.out])
    go_ret
    exact ⟨rfl, (Fr.refl _ _).alloc _⟩
  | true =>
    have HM : Hid (decide (x.May u v e) = false) := hid (by simpa [ht] using hno)
    have HT := hid ht
    clear hno ht
    obtain ⟨e0, e1, e2⟩ := e
    simp only [En.val]
    go_enter Tryz.func56, Tryz.ntmps56
    go_wp2_with (first
      | (go_at_call 116; refine (two_calls (h.alloc _) _ _).mono ?_; rintro e w' ⟨rfl, rfl⟩; rw [HT.out])
      | (go_at_call 117; refine (may_calls (h.alloc _) _ _ HT.out ⟨e0, e1, e2⟩).mono ?_; rintro e w' ⟨rfl, hf⟩; rw [HM.out]))
    go_ret
    exact ⟨rfl, ((Fr.refl _ _).alloc _).trans hf⟩

set_option maxHeartbeats 1000000 in
theorem set_yes {w : World} {L : IxLoc} {x : Ix} (h : IxMem w L x) (u v : Int) (e : En) (ht : x.two u v = true) (hm : x.May u v e) :
    Calls Tryz.prog 56 #[.pointer (some ⟨L.b, 0, none⟩), .int .i64 u, .int .i64 v, e.val] w fun r w' => r = .returned (.int .i64 0) ∧
      ∃ w1, Fr No w w1 ∧ w' = ((w1.setCell ⟨L.b, x.pl u.toNat v.toNat, none⟩ (.int .i64 (e.kf 0))).setCell ⟨L.b, x.pl u.toNat v.toNat + 1, none⟩ (.int .i64 (e.kf 1))).setCell ⟨L.b, x.pl u.toNat v.toNat + 2, none⟩ (.int .i64 (e.kf 2)) := by
  have HM : Hid (decide (x.May u v e) = true) := hid (by simpa using hm)
  have HE := hid (h.ok.may_ok hm)
  have HT := hid ht
  have kl := h.lt
  clear ht hm
  obtain ⟨e0, e1, e2⟩ := e
  simp only [En.val]
  go_enter Tryz.func56, Tryz.ntmps56
  go_wp2_with (first
    | (go_at_call 116; refine (two_calls (h.alloc _) _ _).mono ?_; rintro e w' ⟨rfl, rfl⟩; rw [HT.out])
    | (go_at_call 117; refine (may_calls (h.alloc _) _ _ HT.out ⟨e0, e1, e2⟩).mono ?_; rintro e w' ⟨rfl, hf⟩; rw [HM.out]; obtain ⟨o1, o2, o3, o4⟩ := own_no hf w.heap.size (heap_new _ _); have hx := hid ((h.alloc _).no hf)))
  go_region_with (first
    | (go_at_call 119; refine (place_calls hx.out.drew _ _ HT.out).mono ?_; rintro e w' ⟨rfl, k, rfl⟩)
    | (go_at_call 118; refine (keep_calls ⟨e0, e1, e2⟩ _ HE.out).mono ?_; rintro e w3 ⟨rfl, hf2⟩; obtain ⟨z0, z1, z2, z3⟩ := ((hx.out.drewN _).no hf2).sto HT.out))
  all_goals go_wp2
  all_goals go_ret
  all_goals exact ⟨rfl, w3, ((((Fr.refl _ _).alloc _).trans hf).drewN _).trans hf2, rfl⟩

/-- Behind the three stores the index is the one with that entry. -/
theorem IxMem.stored {w : World} {L : IxLoc} {x : Ix} (h : IxMem w L x) {u v : Int} (ht : x.two u v = true) {e : En} (he : e.Ok) :
    IxMem (((w.setCell ⟨L.b, x.pl u.toNat v.toNat, none⟩ (.int .i64 (e.kf 0))).setCell ⟨L.b, x.pl u.toNat v.toNat + 1, none⟩ (.int .i64 (e.kf 1))).setCell ⟨L.b, x.pl u.toNat v.toNat + 2, none⟩ (.int .i64 (e.kf 2))) L (x.set u.toNat v.toNat e) := by
  obtain ⟨hne, hu0, hu1, hv0, hv1⟩ := two_iff ht
  have hu : u.toNat < x.n := by omega
  have hv : v.toNat < x.n := by omega
  have huv : u.toNat ≠ v.toNat := by omega
  generalize u.toNat = a at hu huv ⊢
  generalize v.toNat = b at hv huv ⊢
  have hk := h.ok.pl_lt hu hv
  have F : Fr (One L.b) w (((w.setCell ⟨L.b, x.pl a b, none⟩ (.int .i64 (e.kf 0))).setCell ⟨L.b, x.pl a b + 1, none⟩ (.int .i64 (e.kf 1))).setCell ⟨L.b, x.pl a b + 2, none⟩ (.int .i64 (e.kf 2))) :=
    (((Fr.refl _ _).set1 _ _).set1 _ _).set1 _ _
  have ok' : (x.set a b e).Ok := ⟨h.ok.n1, h.ok.n2, h.ok.rk, h.ok.by_, fun p q => by
    show (if p = a ∧ q = b then e else x.ent p q).Ok
    split
    · exact he
    · exact h.ok.ent p q⟩
  refine ⟨ok', ?_, h.rk.of_fr F h.hr.1 h.hr.2, h.by_.of_fr F h.hb.1 h.hb.2, ⟨by simpa using h.hr.1, h.hr.2⟩, ⟨by simpa using h.hb.1, h.hb.2⟩, h.gn.fr F (Ne.symm h.nz.1), h.nz⟩
  refine (((h.blk.setCell (x.pl a b) _).setCell (x.pl a b + 1) _).setCell (x.pl a b + 2) _).congr fun i hi => ?_
  have key : ∀ c, c < 3 → (x.set a b e).V L (x.pl a b + c) = .int .i64 (e.kf c) := fun c hc => by
    have k := Ix.Ok.K_pl (x := x.set a b e) ok' hu hv huv c hc
    have e1 : (x.set a b e).pl a b = x.pl a b := rfl
    have e2 : (x.set a b e).ent a b = e := if_pos ⟨rfl, rfl⟩
    rw [e1, e2] at k
    rw [Ix.V, if_neg (by omega), if_neg (by omega), show x.pl a b + c - 2 = x.pl a b - 2 + c by omega, k]
  simp only [upd]
  by_cases h2 : i = x.pl a b + 2
  · rw [if_pos h2, h2, key 2 (by omega)]
  · rw [if_neg h2]
    by_cases h1 : i = x.pl a b + 1
    · rw [if_pos h1, h1, key 1 (by omega)]
    · rw [if_neg h1]
      by_cases h0 : i = x.pl a b
      · rw [if_pos h0, h0]; exact (key 0 (by omega)).symm
      · rw [if_neg h0]
        -- another cell: another entry
        simp only [Ix.V, Ix.set]
        split
        · rfl
        · split
          · rfl
          · congr 1
            have hn := h.ok.n2
            unfold Ix.K
            simp only
            split
            · rename_i hc
              obtain ⟨hc1, hc2⟩ := hc
              have ga := h.ok.by_ ((i - 2) / 144) (by omega)
              have gb := h.ok.by_ ((i - 2) % 72 / 3) (by omega)
              split
              · rename_i hlt
                rw [if_neg]
                rintro ⟨ea, eb⟩
                rw [← ea, ← eb, Ix.pl, ga.2, gb.2, if_pos hc1] at h0 h1 h2
                omega
              · rename_i hlt
                rw [if_neg]
                rintro ⟨ea, eb⟩
                rw [← ea, ← eb, Ix.pl, ga.2, gb.2, if_neg (by omega)] at h0 h1 h2
                omega
            · rfl

/-- What setting an entry answers: 0 (done), 1 (it may not be). -/
def Ix.codeI (x : Ix) (u v : Int) (e : En) : Int := if x.two u v = true ∧ x.May u v e then 0 else 1

theorem set_calls {w : World} {L : IxLoc} {x : Ix} (h : IxMem w L x) (u v : Int) (e : En) :
    Calls Tryz.prog 56 #[.pointer (some ⟨L.b, 0, none⟩), .int .i64 u, .int .i64 v, e.val] w fun r w' =>
      r = .returned (.int .i64 (x.codeI u v e)) ∧ IxMem w' L (x.setI u v e) ∧ Fr (One L.b) w w' := by
  by_cases hc : x.two u v = true ∧ x.May u v e
  · rw [Ix.codeI, if_pos hc, Ix.setI, if_pos hc]
    refine (set_yes h u v e hc.1 hc.2).mono ?_
    rintro r w' ⟨rfl, w1, hf, rfl⟩
    exact ⟨rfl, (h.no hf).stored hc.1 (h.ok.may_ok hc.2), (((hf.no (F := One L.b)).set1 _ _).set1 _ _).set1 _ _⟩
  · rw [Ix.codeI, if_neg hc, Ix.setI, if_neg hc]
    refine (set_no h u v e hc).mono ?_
    rintro r w' ⟨rfl, hf⟩
    exact ⟨rfl, h.no hf, hf.no⟩

end Go.Proofs.YtoepbhacpidcbaaGreatDoor
