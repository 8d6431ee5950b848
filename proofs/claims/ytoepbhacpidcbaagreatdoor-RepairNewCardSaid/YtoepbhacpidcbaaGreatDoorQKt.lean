/- What came in all of a fresh keeper's steps: as many entries as there are links; plain. -/

import Derived.Test.YtoepbhacpidcbaaGreatDoorQBase
import Derived.Test.YtoepbhacpidcbaaGreatDoorQIdx
import Derived.Test.YtoepbhacpidcbaaGreatDoorQPerm
import Derived.Test.YtoepbhacpidcbaaGreatDoorQIdxB
import Derived.Test.YtoepbhacpidcbaaGreatDoorQRef
import Derived.Test.YtoepbhacpidcbaaGreatDoorQUnref
import Derived.Test.YtoepbhacpidcbaaGreatDoorQItr
import Derived.Test.YtoepbhacpidcbaaGreatDoorQUnE
import Derived.Test.YtoepbhacpidcbaaGreatDoorQDst
import Derived.Test.YtoepbhacpidcbaaGreatDoorQLnk
import Derived.Test.YtoepbhacpidcbaaGreatDoorQLks
import Derived.Test.YtoepbhacpidcbaaGreatDoorQMid
import Derived.Test.YtoepbhacpidcbaaGreatDoorQBig
import Derived.Test.YtoepbhacpidcbaaGreatDoorQCp2
import Derived.Test.YtoepbhacpidcbaaGreatDoorQGoes
import Derived.Test.YtoepbhacpidcbaaGreatDoorQGOps
import Derived.Test.YtoepbhacpidcbaaGreatDoorQGB
import Derived.Test.YtoepbhacpidcbaaGreatDoorQG8
import Derived.Test.YtoepbhacpidcbaaGreatDoorQWh
import Derived.Test.YtoepbhacpidcbaaGreatDoorQDMov
import Derived.Test.YtoepbhacpidcbaaGreatDoorQWk
import Derived.Test.YtoepbhacpidcbaaGreatDoorQHpK
import Derived.Test.YtoepbhacpidcbaaGreatDoorQSqO
import Derived.Test.YtoepbhacpidcbaaGreatDoorQRBt
import Derived.Test.YtoepbhacpidcbaaGreatDoorQWhl
import Derived.Test.YtoepbhacpidcbaaGreatDoorQKl
import Derived.Test.YtoepbhacpidcbaaGreatDoorQRB
import Derived.Test.YtoepbhacpidcbaaGreatDoorQRbd

set_option linter.unusedVariables false
set_option linter.unusedSimpArgs false
namespace Go.Proofs.YtoepbhacpidcbaaGreatDoor
open Go.RowKit Go.Deep

theorem Kp.Ok.run_keep {G : Gr} (hw : G.Wt) : ∀ (m : Nat) {K : Kp}, K.Ok → ∀ a b z : Nat, K.x.low (a : Nat) (b : Nat) = (z : Nat) → K.x.rk z < K.fl → (Kp.run G m K).x.ent a b = K.x.ent a b
  | 0, K, hok, a, b, z, hl, hz => rfl
  | m + 1, K, hok, a, b, z, hl, hz => by
    rw [Kp.run_succ]
    split
    · rename_i hf
      have h1 := Kp.Ok.run_keep hw m (hok.step hw) a b z hl (show K.x.rk z < (K.step G).fl by have := hok.fl_step hw hf; omega)
      rw [h1]
      show (K.x.part G K.v _).ent a b = _
      refine Ix.part_ent _ _ _ _ (fun e => ?_)
      have h2 := (hok.v_lt hf).2
      rw [hl] at e
      have e : z = K.v := by omega
      rw [e] at hz; omega
    · rfl
theorem Kp.run_snoc' (G : Gr) (i : Nat) (K : Kp) (h : (Kp.run G i K).fl < (Kp.run G i K).x.n) : Kp.run G (i + 1) K = (Kp.run G i K).step G := by
  have h1 := (Kp.run_add G i 1 K).1
  rw [h1, Kp.run_succ, if_pos h]; rfl
theorem Kp.run_off' (G : Gr) : ∀ (m : Nat) (K : Kp) (a b : Nat), K.x.two (a : Nat) (b : Nat) = false → (Kp.run G m K).x.ent a b = K.x.ent a b
  | 0, K, a, b, h => rfl
  | m + 1, K, a, b, h => by
    rw [Kp.run_succ]
    split
    · rw [Kp.run_off' G m (K.step G) a b h]
      show (K.x.part G K.v _).ent a b = _
      exact Ix.part_ent _ _ _ _ (fun e => by rw [Ix.low_two e] at h; cases h)
    · rfl
theorem qCame_none (b : En) : qCame En.none b = if b = En.none then 0 else 1 := by
  unfold qCame
  by_cases h : b = En.none
  · rw [if_pos h, if_neg (fun hh => hh.1 h.symm)]
  · rw [if_neg h, if_pos ⟨fun e => h e.symm, rfl⟩]
/-- What came in a step of a fresh keeper, told by the last index. -/
theorem Frsh.came {K : Kp} {i : Nat} (h : Frsh K i) (hok : K.Ok) {G : Gr} (hw : G.Wt) (hi : i < K.x.n) (m : Nat) {y : Ix} (hy : (Kp.run G m (K.step G)).x = y) :
    (K.work G).c = sumN (fun r => if i < r then y.cnt (K.x.by_ i) (K.x.by_ r) else 0) K.x.n + sumN (fun r => if i < r then y.cnt (K.x.by_ r) (K.x.by_ i) else 0) K.x.n := by
  obtain ⟨e, hv, hr⟩ := h.v hok hi
  have hf1 : (K.step G).fl = i + 1 := (h.step hok hw hi).fl (hok.step hw) (show i + 1 ≤ K.x.n by omega)
  have hyn : y.n = K.x.n := by rw [← hy]; exact (Kp.run_n G m (K.step G)).1
  have key : ∀ a b : Nat, a < K.x.n → b < K.x.n → K.x.low (a : Nat) (b : Nat) = (K.v : Nat) → K.x.ent a b = En.none → qCame (K.x.ent a b) (K.x.best (a : Nat) (b : Nat) (G.best (a : Nat) (b : Nat))) = y.cnt a b := fun a b ha hb hl hn => by
    have hne := (Ix.low_is hl).2.2.1
    have h1 := Kp.Ok.run_keep hw m (hok.step hw) a b K.v hl (show K.x.rk K.v < (K.step G).fl by rw [hf1, hr]; omega)
    rw [hy] at h1
    have h2 : (K.step G).x.ent a b = K.x.best (a : Nat) (b : Nat) (G.best (a : Nat) (b : Nat)) := Ix.redo_ent _ _ _ hl
    rw [hn, qCame_none]
    unfold Ix.cnt
    rw [at_nat (two_nat (x := y) (by omega) (by omega) hne), h1, h2]
  show sumN (K.x.tal G K.v qCame) K.x.n = _
  rw [sumN_perm hok.ok, ← sumN_add]
  refine sumN_congr _ fun r hrn => ?_
  have hb := hok.ok.by_ r hrn
  unfold Ix.tal
  rw [hr, hb.2]
  split
  · rename_i hlt
    obtain ⟨l1, l2⟩ := Ix.low_up hv hb.1 (by rw [hr, hb.2]; exact hlt)
    have hne : K.v ≠ K.x.by_ r := fun ee => by have := hb.2; rw [← ee, hr] at this; omega
    rw [key _ _ hv hb.1 l1 (h.no _ _ hv hb.1 hne (by rw [hr, hb.2]; omega)), key _ _ hb.1 hv l2 (h.no _ _ hb.1 hv (fun ee => hne ee.symm) (by rw [hr, hb.2]; omega)), e]
  · rfl
theorem Frsh.wks_at {G : Gr} (hw : G.Wt) {K : Kp} (h : Frsh K 0) (hok : K.Ok) {i : Nat} (hi : i < K.x.n) : (Kp.wks G K.x.n K)[i]? = some ((Kp.run G i K).work G) := by
  obtain ⟨h1, h2, _⟩ := Frsh.run hw i h hok (by omega)
  rw [Nat.zero_add] at h1
  have hn := (Kp.run_n G i K).1
  have hf : (Kp.run G i K).fl < (Kp.run G i K).x.n := by rw [h1.fl (Kp.Ok.run hw i hok) (by omega)]; omega
  have e := (Kp.run_add G i (K.x.n - i - 1 + 1) K).2
  rw [show i + (K.x.n - i - 1 + 1) = K.x.n by omega, Kp.wks_succ, if_pos hf] at e
  rw [e, List.getElem?_append_right (by omega), h2, Nat.sub_self]
  rfl
def wrk0 : Wrk := ⟨0, 0, 0, 0, fun _ => false⟩
/-- What came in all. -/
theorem Frsh.came_all {G : Gr} (hw : G.Wt) {K : Kp} (h : Frsh K 0) (hok : K.Ok) : sumN (fun i => ((Kp.wks G K.x.n K).getD i wrk0).c) K.x.n = ((Kp.run G K.x.n K).x.lks K.x.n).length := by
  have hyn := Kp.run_n G K.x.n K
  obtain ⟨y, hy⟩ : ∃ y, (Kp.run G K.x.n K).x = y := ⟨_, rfl⟩
  rw [hy] at hyn ⊢
  rw [Ix.lks_cnt, hyn.1, hyn.2.2, ← sumN_tri (fun a b => y.cnt (K.x.by_ a) (K.x.by_ b)) K.x.n (fun a ha => by
    have : y.two (K.x.by_ a : Nat) (K.x.by_ a : Nat) = false := by unfold Ix.two; simp
    have hat : y.at_ (K.x.by_ a : Nat) (K.x.by_ a : Nat) = En.none := by unfold Ix.at_; rw [this]; rfl
    exact if_pos hat)]
  refine sumN_congr _ fun i hi => ?_
  obtain ⟨h1, _, _⟩ := Frsh.run hw i h hok (by omega)
  rw [Nat.zero_add] at h1
  have hn := Kp.run_n G i K
  have hoki := Kp.Ok.run hw i hok
  have hf : (Kp.run G i K).fl < (Kp.run G i K).x.n := by rw [h1.fl hoki (by omega)]; omega
  have hs := (Kp.run_snoc' G i K hf)
  have e := (Kp.run_add G (i + 1) (K.x.n - i - 1) K).1
  rw [show i + 1 + (K.x.n - i - 1) = K.x.n by omega, hs] at e
  have hc := h1.came hoki hw (by omega) (K.x.n - i - 1) (y := y) (by rw [← e]; exact hy)
  rw [hn.1, hn.2.2] at hc
  rw [List.getD, h.wks_at hw hok hi]
  exact hc

theorem Ix.same4 {x y : Ix} (e1 : x.n = y.n) (e2 : x.rk = y.rk) (e3 : x.by_ = y.by_) (e4 : x.ent = y.ent) : x = y := by
  obtain ⟨n1, r1, b1, t1⟩ := x
  obtain ⟨n2, r2, b2, t2⟩ := y
  simp only at e1 e2 e3 e4
  subst e1; subst e2; subst e3; subst e4
  rfl
/-- The index that is built is the one that a fresh keeper comes to. -/
theorem Frsh.built {G : Gr} (hw : G.Wt) {x0 : Ix} (h0 : x0.Ok) {K : Kp} (hK : K.x = x0) (h : Frsh K 0) (hok : K.Ok) : (Kp.run G K.x.n K).x = x0.build G ∧ (Kp.run G K.x.n K).fl = K.x.n := by
  have hfl : (Kp.run G K.x.n K).fl = K.x.n := hok.drain hw K.x.n (by omega)
  have hn := Kp.run_n G K.x.n K
  obtain ⟨hbok, hbw⟩ := h0.build_whole hw
  have hwk := (Kp.Inv.run hw K.x.n hok (h.inv G)).whole (Kp.Ok.run hw K.x.n hok) (by rw [hfl, hn.1])
  have hoff := Kp.run_off' G K.x.n K
  refine ⟨?_, hfl⟩
  have he : (Kp.run G K.x.n K).x.ent = (x0.build G).ent := by
    funext a b
    by_cases ht : a < x0.n ∧ b < x0.n ∧ a ≠ b
    · exact hbw.sole hwk hbok (by rw [hn.1, Ix.build_n, hK]) (by rw [hn.2.1, Ix.build_rk, hK]) (by rw [hn.2.2, Ix.build_by, hK]) (by rw [Ix.build_n]; exact ht.1) (by rw [Ix.build_n]; exact ht.2.1) ht.2.2
    · rw [hoff a b (by
        unfold Ix.two
        rw [decide_eq_false_iff_not, hK]
        rintro ⟨h1, h2, h3, h4, h5⟩
        exact ht ⟨by omega, by omega, fun e => h1 (by rw [e])⟩), hK, ← h0.pds_build hw]
      exact (Ix.Ok.bld_out hw _ _ h0 rfl a b ht).symm
  have e2 := hn.2.1.trans ((congrArg Ix.rk hK).trans (Ix.build_rk x0 G).symm)
  have e3 := hn.2.2.trans ((congrArg Ix.by_ hK).trans (Ix.build_by x0 G).symm)
  have e1 := hn.1.trans ((congrArg Ix.n hK).trans (Ix.build_n x0 G).symm)
  exact Ix.same4 e1 e2 e3 he

end Go.Proofs.YtoepbhacpidcbaaGreatDoor
