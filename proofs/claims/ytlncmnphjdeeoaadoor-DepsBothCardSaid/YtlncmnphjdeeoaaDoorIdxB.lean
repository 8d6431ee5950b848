/- An index's entries: where one is kept, how it is told and kept; walked. -/
import Derived.Test.YtlncmnphjdeeoaaDoorIdxA
set_option linter.unusedVariables false
set_option linter.unusedSimpArgs false
namespace Go.Proofs.YtlncmnphjdeeoaaDoor
open Go.RowKit

/-- Where an entry is kept. -/
def Ix.pl (x : Ix) (u v : Nat) : Nat := if x.rk u < x.rk v then 2 + x.rk u * 144 + x.rk v * 3 else 2 + x.rk v * 144 + 72 + x.rk u * 3

set_option maxHeartbeats 400000 in
theorem place_calls {w : World} {L : IxLoc} {x : Ix} (h : IxMem w L x) (u v : Int) (ht : x.two u v = true) :
    Calls Tryd.prog 66 #[.pointer (some ⟨L.b, 0, none⟩), .int .i64 u, .int .i64 v] w fun e w' => e = .returned (.pointer (some ⟨L.b, x.pl u.toNat v.toNat, none⟩)) ∧ ∃ k, w' = w.drewN k := by
  have h0 := h.c0
  obtain ⟨hne, hu0, hu1, hv0, hv1⟩ := two_iff ht
  have hru := h.rk u.toNat (by omega)
  have hrv := h.rk v.toNat (by omega)
  have GU := (h.ok.rk u.toNat (by omega)).1
  have GV := (h.ok.rk v.toNat (by omega)).1
  have hn := h.ok.n2
  have hne' : x.rk u.toNat ≠ x.rk v.toNat := fun e => hne (by have := h.ok.inj (by omega) (by omega) e; omega)
  clear ht hne
  by_cases hlt : x.rk u.toNat < x.rk v.toNat
  · have e : x.pl u.toNat v.toNat = 2 + x.rk u.toNat * 144 + x.rk v.toNat * 3 := by simp [Ix.pl, hlt]
    rw [e]; clear e
    go_enter Tryd.func66, Tryd.ntmps66
    go_wp2
    go_quiet (fail)
    go_wp2
    go_ret
    exact ⟨by simp, _, rfl⟩
  · have e : x.pl u.toNat v.toNat = 2 + x.rk v.toNat * 144 + 72 + x.rk u.toNat * 3 := by simp [Ix.pl, hlt]
    rw [e]; clear e
    go_enter Tryd.func66, Tryd.ntmps66
    go_wp2
    go_quiet (fail)
    go_wp2
    go_ret
    exact ⟨by simp, _, rfl⟩

set_option maxHeartbeats 400000 in
theorem told_calls (l a m : Int) (w : World) (hl0 : 0 ≤ l) (hl1 : l ≤ 4611686018427387906) (ha0 : 0 ≤ a) (ha1 : a ≤ 64) (hm0 : 0 ≤ m) (hm1 : m ≤ 24) :
    Calls Tryd.prog 67 #[.agg #[.int .i64 l, .int .i64 a, .int .i64 m]] w fun e w' => e = .returned (.agg #[.int .i64 (4611686018427387906 - l), .int .i64 (a - 1), .int .i64 (m - 1)]) ∧ Fr No w w' := by
  go_enter Tryd.func67, Tryd.ntmps67
  go_wp2
  exact bodyPost_ret (v := .agg #[.int .i64 (4611686018427387906 - l), .int .i64 (a - 1), .int .i64 (m - 1)]) (by simp [results, Tryd.results67, go_sem]) rfl ⟨rfl, (((Fr.refl _ _).alloc _).alloc _)⟩

set_option maxHeartbeats 400000 in
theorem keep_calls (e : En) (w : World) (he : e.Ok) :
    Calls Tryd.prog 72 #[e.val] w fun r w' => r = .returned (.agg #[.int .i64 (e.kf 0), .int .i64 (e.kf 1), .int .i64 (e.kf 2)]) ∧ Fr No w w' := by
  obtain ⟨h1, h2, h3, h4, h5, h6⟩ := he
  obtain ⟨p, a, m⟩ := e
  simp only at h1 h2 h3 h4 h5 h6
  simp only [En.val, En.kf]
  go_enter Tryd.func72, Tryd.ntmps72
  go_wp2
  exact bodyPost_ret (v := .agg #[.int .i64 (4611686018427387906 - p), .int .i64 (a + 1), .int .i64 (m + 1)]) (by simp [results, Tryd.results72, go_sem]) rfl ⟨rfl, (((Fr.refl _ _).alloc _).alloc _)⟩


theorem Ix.Ok.pl_lt {x : Ix} (h : x.Ok) {u v : Nat} (hu : u < x.n) (hv : v < x.n) : 2 ≤ x.pl u v ∧ x.pl u v + 3 ≤ 3458 := by
  have := (h.rk u hu).1
  have := (h.rk v hv).1
  have := h.n2
  unfold Ix.pl
  split <;> omega

theorem Ix.Ok.K_pl {x : Ix} (h : x.Ok) {u v : Nat} (hu : u < x.n) (hv : v < x.n) (hne : u ≠ v) (c : Nat) (hc : c < 3) : x.K (x.pl u v - 2 + c) = (x.ent u v).kf c := by
  have gu := h.rk u hu
  have gv := h.rk v hv
  have := h.n2
  have hn : x.rk u ≠ x.rk v := fun e => hne (h.inj hu hv e)
  unfold Ix.pl
  split
  · have e1 : (2 + x.rk u * 144 + x.rk v * 3 - 2 + c) / 144 = x.rk u := by omega
    have e2 : (2 + x.rk u * 144 + x.rk v * 3 - 2 + c) % 72 / 3 = x.rk v := by omega
    have e3 : (2 + x.rk u * 144 + x.rk v * 3 - 2 + c) % 144 < 72 := by omega
    have e4 : (2 + x.rk u * 144 + x.rk v * 3 - 2 + c) % 3 = c := by omega
    rw [Ix.K, e1, e2, e4, if_pos (by omega), if_pos e3, gu.2, gv.2]
  · have e1 : (2 + x.rk v * 144 + 72 + x.rk u * 3 - 2 + c) / 144 = x.rk v := by omega
    have e2 : (2 + x.rk v * 144 + 72 + x.rk u * 3 - 2 + c) % 72 / 3 = x.rk u := by omega
    have e3 : ¬ (2 + x.rk v * 144 + 72 + x.rk u * 3 - 2 + c) % 144 < 72 := by omega
    have e4 : (2 + x.rk v * 144 + 72 + x.rk u * 3 - 2 + c) % 3 = c := by omega
    rw [Ix.K, e1, e2, e4, if_pos (by omega), if_neg e3, gu.2, gv.2]

theorem IxMem.at_pl {w : World} {L : IxLoc} {x : Ix} (h : IxMem w L x) {u v : Nat} (hu : u < x.n) (hv : v < x.n) (hne : u ≠ v) (c : Nat) (hc : c < 3) :
    w.cell? ⟨L.b, x.pl u v + c, none⟩ = some (.int .i64 ((x.ent u v).kf c)) := by
  have := h.ok.pl_lt hu hv
  rw [h.blk.cell (by omega), Ix.V, if_neg (by omega), if_neg (by omega), show x.pl u v + c - 2 = x.pl u v - 2 + c by omega, h.ok.K_pl hu hv hne c hc]

set_option maxHeartbeats 400000 in
theorem at_calls {w : World} {L : IxLoc} {x : Ix} (h : IxMem w L x) (u v : Int) :
    Calls Tryd.prog 25 #[.pointer (some ⟨L.b, 0, none⟩), .int .i64 u, .int .i64 v] w fun e w' => e = .returned (x.at_ u v).val ∧ Fr No w w' := by
  cases ht : x.two u v with
  | false =>
    have e : x.at_ u v = En.none := by simp [Ix.at_, ht]
    rw [e, En.none, En.val]; clear e
    have HT := hid ht
    have g0 := h.gn.c0
    have g1 := h.gn.c1
    have g2 := h.gn.c2
    have gl := h.gn.lt
    clear ht
    go_enter Tryd.func25, Tryd.ntmps25
    go_wp2_with (first | (go_at_call 65; refine (two_calls (h.alloc _) _ _).mono ?_; rintro e w' ⟨rfl, rfl⟩; rw [HT.out]))
    exact bodyPost_ret (v := .agg #[.int .i64 4611686018427387906, .int .i64 (-1), .int .i64 (-1)]) (by simp [results, Tryd.results25, go_sem]) rfl ⟨rfl, (((Fr.refl _ _).alloc _))⟩
  | true =>
    obtain ⟨hne, hu0, hu1, hv0, hv1⟩ := two_iff ht
    have kl := h.lt
    have k0 : w.cell? ⟨L.b, x.pl u.toNat v.toNat, none⟩ = _ := h.at_pl (u := u.toNat) (v := v.toNat) (by omega) (by omega) (by omega) 0 (by omega)
    have k1 := h.at_pl (u := u.toNat) (v := v.toNat) (by omega) (by omega) (by omega) 1 (by omega)
    have k2 := h.at_pl (u := u.toNat) (v := v.toNat) (by omega) (by omega) (by omega) 2 (by omega)
    have e : x.at_ u v = x.ent u.toNat v.toNat := by simp [Ix.at_, ht]
    obtain ⟨he1, he2, he3, he4, he5, he6⟩ := h.ok.ent u.toNat v.toNat
    rw [e]; clear e
    have HT := hid ht
    clear ht
    go_enter Tryd.func25, Tryd.ntmps25
    go_wp2_with (first 
      | (go_at_call 65; refine (two_calls (h.alloc _) _ _).mono ?_; rintro e w' ⟨rfl, rfl⟩; rw [HT.out])
      | (go_at_call 66; refine (place_calls (h.alloc _) _ _ HT.out).mono ?_; rintro e w' ⟨rfl, k, rfl⟩)
      | (go_at_call 67; refine (told_calls _ _ _ _ (by simp [En.kf]; omega) (by simp [En.kf]; omega) (by simp [En.kf]; omega) (by simp [En.kf]; omega) (by simp [En.kf]; omega) (by simp [En.kf]; omega)).mono ?_; rintro e w1 ⟨rfl, hf⟩; obtain ⟨o1, o2, o3, o4⟩ := own_no hf w.heap.size (heap_newN _ _ _))
      | (fail))
    have q := cell_of (set3 o4 (.int .i64 (4611686018427387906 - (x.ent u.toNat v.toNat).kf 0)) (.int .i64 ((x.ent u.toNat v.toNat).kf 1 - 1)) (.int .i64 ((x.ent u.toNat v.toNat).kf 2 - 1)))
    refine bodyPost_ret (v := .agg #[.int .i64 (4611686018427387906 - (x.ent u.toNat v.toNat).kf 0), .int .i64 ((x.ent u.toNat v.toNat).kf 1 - 1), .int .i64 ((x.ent u.toNat v.toNat).kf 2 - 1)]) (by simp [results, Tryd.results25, go_sem, q 0, q 1, q 2]) rfl ⟨?_, ?_⟩
    · rw [En.val]; congr 4 <;> (simp [En.kf]; try omega)
    · exact ((((Fr.refl _ _).alloc _).drewN _).trans hf |>.setCell (.inr (Nat.le_refl _)) _).setCell (.inr (Nat.le_refl _)) _ |>.setCell (.inr (Nat.le_refl _)) _

end Go.Proofs.YtlncmnphjdeeoaaDoor
