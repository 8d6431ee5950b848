/- Setting an entry of an index; walked. -/
import Derived.Test.YtlncmnphjdeeoaaDoorIdxC
import Derived.Deep.RegionHeld3
import Derived.Deep.DrawnRows
set_option linter.unusedVariables false
set_option linter.unusedSimpArgs false
namespace Go.Proofs.YtlncmnphjdeeoaaDoor
open Go.RowKit
attribute [local go_sem ↓] Go.wp_at_zero Go.wp_at_succ

/-- The index behind a set entry. -/
def Ix.set (x : Ix) (u v : Nat) (e : En) : Ix := { x with ent := fun a b => if a = u ∧ b = v then e else x.ent a b }
theorem IxMem.sto {w : World} {L : IxLoc} {x : Ix} (h : IxMem w L x) {u v : Int} (ht : x.two u v = true) :
    w.cell? ⟨L.b, x.pl u.toNat v.toNat, none⟩ = some (.int .i64 ((x.ent u.toNat v.toNat).kf 0)) ∧ w.cell? ⟨L.b, x.pl u.toNat v.toNat + 1, none⟩ = some (.int .i64 ((x.ent u.toNat v.toNat).kf 1)) ∧
    w.cell? ⟨L.b, x.pl u.toNat v.toNat + 2, none⟩ = some (.int .i64 ((x.ent u.toNat v.toNat).kf 2)) ∧ (∀ i, w.frozen? ⟨L.b, i, none⟩ = false) := by
  obtain ⟨hne, hu0, hu1, hv0, hv1⟩ := two_iff ht
  exact ⟨h.at_pl (by omega) (by omega) (by omega) 0 (by omega), h.at_pl (by omega) (by omega) (by omega) 1 (by omega), h.at_pl (by omega) (by omega) (by omega) 2 (by omega), fun i => h.blk.frozen i⟩

theorem Ix.Ok.may_ok {x : Ix} (h : x.Ok) {u v : Int} {e : En} (hm : x.May u v e) : e.Ok := by
  have h2 := h.n2
  have hr : 0 ≤ x.rank e.m → 0 ≤ e.m ∧ e.m < x.n := fun h => by
    unfold Ix.rank at h; split at h
    · assumption
    · omega
  rcases hm with ⟨a, b, c⟩ | ⟨a, b, ⟨c, d, e⟩ | ⟨c, d, e, f, g⟩⟩
  · constructor <;> omega
  · constructor <;> omega
  · have := hr e; constructor <;> omega

def Ix.setI (x : Ix) (u v : Int) (e : En) : Ix := if x.two u v = true ∧ x.May u v e then x.set u.toNat v.toNat e else x

set_option maxHeartbeats 1000000 in
theorem set_no {w : World} {L : IxLoc} {x : Ix} (h : IxMem w L x) (u v : Int) (e : En) (hno : ¬ (x.two u v = true ∧ x.May u v e)) :
    Calls Tryd.prog 29 #[.pointer (some ⟨L.b, 0, none⟩), .int .i64 u, .int .i64 v, e.val] w fun r w' => r = .returned (.int .i64 1) ∧ Fr No w w' := by
  cases ht : x.two u v with
  | false =>
    have HT := hid ht
    clear hno ht
    simp only [En.val]
    go_enter Tryd.func29, Tryd.ntmps29
    go_wp2_with (go_at_call 65; refine (two_calls (h.alloc _) _ _).mono ?_; rintro e w' ⟨rfl, rfl⟩; rw [HT.out])
    go_ret
    exact ⟨rfl, (Fr.refl _ _).alloc _⟩
  | true =>
    have HM : Hid (decide (x.May u v e) = false) := hid (by simpa [ht] using hno)
    have HT := hid ht
    clear hno ht
    obtain ⟨e0, e1, e2⟩ := e
    simp only [En.val]
    go_enter Tryd.func29, Tryd.ntmps29
    go_wp2_with (first
      | (go_at_call 65; refine (two_calls (h.alloc _) _ _).mono ?_; rintro e w' ⟨rfl, rfl⟩; rw [HT.out])
      | (go_at_call 71; refine (may_calls (h.alloc _) _ _ HT.out ⟨e0, e1, e2⟩).mono ?_; rintro e w' ⟨rfl, hf⟩; rw [HM.out]))
    go_ret
    exact ⟨rfl, ((Fr.refl _ _).alloc _).trans hf⟩

set_option maxHeartbeats 1000000 in
theorem set_yes {w : World} {L : IxLoc} {x : Ix} (h : IxMem w L x) (u v : Int) (e : En) (ht : x.two u v = true) (hm : x.May u v e) :
    Calls Tryd.prog 29 #[.pointer (some ⟨L.b, 0, none⟩), .int .i64 u, .int .i64 v, e.val] w fun r w' => r = .returned (.int .i64 0) ∧
      ∃ w1, Fr No w w1 ∧ w' = ((w1.setCell ⟨L.b, x.pl u.toNat v.toNat, none⟩ (.int .i64 (e.kf 0))).setCell ⟨L.b, x.pl u.toNat v.toNat + 1, none⟩ (.int .i64 (e.kf 1))).setCell ⟨L.b, x.pl u.toNat v.toNat + 2, none⟩ (.int .i64 (e.kf 2)) := by
  have HM : Hid (decide (x.May u v e) = true) := hid (by simpa using hm)
  have HE := hid (h.ok.may_ok hm)
  have HT := hid ht
  have kl := h.lt
  clear ht hm
  obtain ⟨e0, e1, e2⟩ := e
  simp only [En.val]
  go_enter Tryd.func29, Tryd.ntmps29
  go_wp2_with (first
    | (go_at_call 65; refine (two_calls (h.alloc _) _ _).mono ?_; rintro e w' ⟨rfl, rfl⟩; rw [HT.out])
    | (go_at_call 71; refine (may_calls (h.alloc _) _ _ HT.out ⟨e0, e1, e2⟩).mono ?_; rintro e w' ⟨rfl, hf⟩; rw [HM.out]; obtain ⟨o1, o2, o3, o4⟩ := own_no hf w.heap.size (heap_new _ _); have hx := hid ((h.alloc _).no hf)))
  go_region_with (first
    | (go_at_call 66; refine (place_calls hx.out.drew _ _ HT.out).mono ?_; rintro e w' ⟨rfl, k, rfl⟩)
    | (go_at_call 72; refine (keep_calls ⟨e0, e1, e2⟩ _ HE.out).mono ?_; rintro e w3 ⟨rfl, hf2⟩; obtain ⟨z0, z1, z2, z3⟩ := ((hx.out.drewN _).no hf2).sto HT.out))
  all_goals go_wp2
  all_goals go_ret
  all_goals exact ⟨rfl, w3, ((((Fr.refl _ _).alloc _).trans hf).drewN _).trans hf2, rfl⟩

/-- Behind the three stores the index is the one with that entry. -/
theorem IxMem.stored {w : World} {L : IxLoc} {x : Ix} (h : IxMem w L x) {u v : Int} (ht : x.two u v = true) {e : En} (he : e.Ok) :
    IxMem (((w.setCell ⟨L.b, x.pl u.toNat v.toNat, none⟩ (.int .i64 (e.kf 0))).setCell ⟨L.b, x.pl u.toNat v.toNat + 1, none⟩ (.int .i64 (e.kf 1))).setCell ⟨L.b, x.pl u.toNat v.toNat + 2, none⟩ (.int .i64 (e.kf 2))) L (x.set u.toNat v.toNat e) := by
  obtain ⟨hne, hu0, hu1, hv0, hv1⟩ := two_iff ht
  have hu : u.toNat < x.n := by omega
  have hv : v.toNat < x.n := by omega
  have huv : u.toNat ≠ v.toNat := by omega
  generalize u.toNat = a at hu huv ⊢
  generalize v.toNat = b at hv huv ⊢
  have hk := h.ok.pl_lt hu hv
  have F : Fr (One L.b) w (((w.setCell ⟨L.b, x.pl a b, none⟩ (.int .i64 (e.kf 0))).setCell ⟨L.b, x.pl a b + 1, none⟩ (.int .i64 (e.kf 1))).setCell ⟨L.b, x.pl a b + 2, none⟩ (.int .i64 (e.kf 2))) :=
    (((Fr.refl _ _).set1 _ _).set1 _ _).set1 _ _
  have ok' : (x.set a b e).Ok := ⟨h.ok.n1, h.ok.n2, h.ok.rk, h.ok.by_, fun p q => by
    show (if p = a ∧ q = b then e else x.ent p q).Ok
    split
    · exact he
    · exact h.ok.ent p q⟩
  refine ⟨ok', ?_, h.rk.of_fr F h.hr.1 h.hr.2, h.by_.of_fr F h.hb.1 h.hb.2, ⟨by simpa using h.hr.1, h.hr.2⟩, ⟨by simpa using h.hb.1, h.hb.2⟩, h.gn.fr F (Ne.symm h.nz.1), h.nz⟩
  refine (((h.blk.setCell (x.pl a b) _).setCell (x.pl a b + 1) _).setCell (x.pl a b + 2) _).congr fun i hi => ?_
  have key : ∀ c, c < 3 → (x.set a b e).V L (x.pl a b + c) = .int .i64 (e.kf c) := fun c hc => by
    have k := Ix.Ok.K_pl (x := x.set a b e) ok' hu hv huv c hc
    have e1 : (x.set a b e).pl a b = x.pl a b := rfl
    have e2 : (x.set a b e).ent a b = e := if_pos ⟨rfl, rfl⟩
    rw [e1, e2] at k
    rw [Ix.V, if_neg (by omega), if_neg (by omega), show x.pl a b + c - 2 = x.pl a b - 2 + c by omega, k]
  simp only [upd]
  by_cases h2 : i = x.pl a b + 2
  · rw [if_pos h2, h2, key 2 (by omega)]
  · rw [if_neg h2]
    by_cases h1 : i = x.pl a b + 1
    · rw [if_pos h1, h1, key 1 (by omega)]
    · rw [if_neg h1]
      by_cases h0 : i = x.pl a b
      · rw [if_pos h0, h0]; exact (key 0 (by omega)).symm
      · rw [if_neg h0]
        -- another cell: another entry
        simp only [Ix.V, Ix.set]
        split
        · rfl
        · split
          · rfl
          · congr 1
            have hn := h.ok.n2
            unfold Ix.K
            simp only
            split
            · rename_i hc
              obtain ⟨hc1, hc2⟩ := hc
              have ga := h.ok.by_ ((i - 2) / 144) (by omega)
              have gb := h.ok.by_ ((i - 2) % 72 / 3) (by omega)
              split
              · rename_i hlt
                rw [if_neg]
                rintro ⟨ea, eb⟩
                rw [← ea, ← eb, Ix.pl, ga.2, gb.2, if_pos hc1] at h0 h1 h2
                omega
              · rename_i hlt
                rw [if_neg]
                rintro ⟨ea, eb⟩
                rw [← ea, ← eb, Ix.pl, ga.2, gb.2, if_neg (by omega)] at h0 h1 h2
                omega
            · rfl

/-- What setting an entry answers: 0 (done), 1 (it may not be). -/
def Ix.codeI (x : Ix) (u v : Int) (e : En) : Int := if x.two u v = true ∧ x.May u v e then 0 else 1

theorem set_calls {w : World} {L : IxLoc} {x : Ix} (h : IxMem w L x) (u v : Int) (e : En) :
    Calls Tryd.prog 29 #[.pointer (some ⟨L.b, 0, none⟩), .int .i64 u, .int .i64 v, e.val] w fun r w' =>
      r = .returned (.int .i64 (x.codeI u v e)) ∧ IxMem w' L (x.setI u v e) ∧ Fr (One L.b) w w' := by
  by_cases hc : x.two u v = true ∧ x.May u v e
  · rw [Ix.codeI, if_pos hc, Ix.setI, if_pos hc]
    refine (set_yes h u v e hc.1 hc.2).mono ?_
    rintro r w' ⟨rfl, w1, hf, rfl⟩
    exact ⟨rfl, (h.no hf).stored hc.1 (h.ok.may_ok hc.2), (((hf.no (F := One L.b)).set1 _ _).set1 _ _).set1 _ _⟩
  · rw [Ix.codeI, if_neg hc, Ix.setI, if_neg hc]
    refine (set_no h u v e hc).mono ?_
    rintro r w' ⟨rfl, hf⟩
    exact ⟨rfl, h.no hf, hf.no⟩

end Go.Proofs.YtlncmnphjdeeoaaDoor
