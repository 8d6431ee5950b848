/- The law 'BypassTells' returns true, by the contracts; walked. -/

import Derived.Test.YtoepbhacpidcbaaGreatDoorQBase
import Derived.Test.YtoepbhacpidcbaaGreatDoorQIdx
import Derived.Test.YtoepbhacpidcbaaGreatDoorQIdxB
import Derived.Test.YtoepbhacpidcbaaGreatDoorQPerm
import Derived.Test.YtoepbhacpidcbaaGreatDoorQRef
import Derived.Test.YtoepbhacpidcbaaGreatDoorQBig
import Derived.Test.YtoepbhacpidcbaaGreatDoorQUnref
import Derived.Test.YtoepbhacpidcbaaGreatDoorQUnE
import Derived.Test.YtoepbhacpidcbaaGreatDoorQItr
import Derived.Test.YtoepbhacpidcbaaGreatDoorQDst
import Derived.Test.YtoepbhacpidcbaaGreatDoorQLnk
import Derived.Test.YtoepbhacpidcbaaGreatDoorQRow2
import Derived.Test.YtoepbhacpidcbaaGreatDoorQGr
import Derived.Test.YtoepbhacpidcbaaGreatDoorQGOps
import Derived.Test.YtoepbhacpidcbaaGreatDoorQBld
import Derived.Test.YtoepbhacpidcbaaGreatDoorQBW
import Derived.Test.YtoepbhacpidcbaaGreatDoorQHpK
import Derived.Test.YtoepbhacpidcbaaGreatDoorQG8
import Derived.Test.YtoepbhacpidcbaaGreatDoorQSqO
import Derived.Test.YtoepbhacpidcbaaGreatDoorQGoes
import Derived.Test.YtoepbhacpidcbaaGreatDoorQUp
import Derived.Test.YtoepbhacpidcbaaGreatDoorQSetP
import Derived.Test.YtoepbhacpidcbaaGreatDoorQBf
import Derived.Test.YtoepbhacpidcbaaGreatDoorQRp
import Derived.Test.YtoepbhacpidcbaaGreatDoorQAll
import Derived.Test.YtoepbhacpidcbaaGreatDoorQAw6
import Derived.Test.YtoepbhacpidcbaaGreatDoorQRq
import Derived.Test.YtoepbhacpidcbaaGreatDoorQLs
import Derived.Test.YtoepbhacpidcbaaGreatDoorQSt
import Derived.Test.YtoepbhacpidcbaaGreatDoorQOu1
import Derived.Test.YtoepbhacpidcbaaGreatDoorQSp
import Derived.Test.YtoepbhacpidcbaaGreatDoorQAw22

set_option linter.unusedVariables false
set_option linter.unusedSimpArgs false
namespace Go.Proofs.YtoepbhacpidcbaaGreatDoor
open Go.RowKit Go.Deep

theorem LinksF.frT {w w' : World} {A : Option Addr} {n : Nat} {f : Nat → Lk} (h : LinksF w A n f) (hf : Fr No w w') : LinksF w' A n f := fun h0 => by
  obtain ⟨b, off, e, hc⟩ := h h0
  exact ⟨b, off, e, fun j hj => (hc j hj).fr hf (fun h => h)⟩
theorem vx_no {x : Ix} {s : Int} (h : ¬ (0 ≤ s ∧ s < x.n)) : x.vertex s = false := by unfold Ix.vertex; simpa using h

set_option maxRecDepth 100000 in
set_option maxHeartbeats 8000000 in
theorem bytells_law (n num : Nat) (A2 : Option Addr) (ln2 cp2 : Nat) (lk2 : Nat → Lk) (A3 : Option Addr) (ln3 cp3 : Nat) (ch : Nat → Chg) (floor s t : Int) (W : World) (hn : n ≤ 255) (hnum : (num : Int) ≤ 18446744073709551615) (hl : LinksF W A2 ln2 lk2) (b2 : ln2 ≤ 140737488351232) (hc : ChgsF W A3 ln3 ch) (b3 : ln3 ≤ 140737488351232) (hN : NoneVar W) :
    Calls Tryz.prog 3 #[.int .u8 (n : Nat), .int .u64 (num : Nat), .slice A2 ln2 cp2, .slice A3 ln3 cp3, .int .i64 floor, .int .i64 s, .int .i64 t] W fun e w' => e = .returned (.bool true) ∧ Fr No W w' := by
  have HL := hid hl
  have HC := hid hc
  have HN := hid hN
  clear hl hc hN
  go_enter Tryz.func3, Tryz.ntmps3
  go_wp2_with fail
  refine (awake22_calls W HN.out).mono ?_
  rintro e w1 ⟨rfl, hf⟩
  have G1 := hid hf
  clear hf
  go_wp2_with fail
  refine (made_calls n num A2 ln2 cp2 lk2 w1 hn hnum (HL.out.frT G1.out) b2 (HN.out.fr G1.out (fun h => h))).mono ?_
  rintro e w2 ⟨L, R, rfl, hf, hx, hr, _, _, _, _, _, _, _, _, _, hcb⟩
  have G2 := hid (G1.out.trans hf)
  have hxn : ((Ix.start (1 + n % 24) num).sets lk2 (min ln2 300)).n = 1 + n % 24 := by rw [Ix.sets_n]; rfl
  obtain ⟨x, hX⟩ : ∃ x, (Ix.start (1 + n % 24) num).sets lk2 (min ln2 300) = x := ⟨_, rfl⟩
  rw [hX] at hx hr hxn
  have HX2 := hid hx
  have HR2 := hid hr
  have HXN := hid hxn
  clear hf hx hr hxn hX hcb
  go_wp2_with fail
  refine (made8_calls n A3 ln3 cp3 ch w2 hn (HC.out.fr G2.out) b3).mono ?_
  rintro e w3 ⟨Lg, b, rfl, hf, hm, hr, _, _⟩
  have hwt := Gr.steps_wt (1 + n % 24) 64 ch (min ln3 150)
  have hhd := Gr.steps_hd (1 + n % 24) 64 (by omega) ch (min ln3 150)
  rw [← HXN.out] at hhd
  obtain ⟨G, hG⟩ : ∃ G, (Gr.zero (1 + n % 24) 64).steps ch (min ln3 150) = G := ⟨_, rfl⟩
  rw [HXN.out] at hhd
  rw [hG] at hm hr hwt hhd
  rw [← HXN.out] at hhd
  have hgn : G.n = x.n := hhd.1
  have HX := hid (HX2.out.no hf)
  have HR := hid (HR2.out.no hf)
  have HG := hid hm
  have HRG := hid hr
  have HWT := hid hwt
  have HHD := hid hhd
  have G3 := hid (G2.out.trans hf)
  have HGN := hid hgn
  have hn2 := hm.ok.n2
  clear hf hm hr hG HX2 HR2 hwt hhd G1 G2 HL HC HN
  by_cases hs : 0 ≤ s ∧ s < x.n
  · by_cases ht : 0 ≤ t ∧ t < x.n
    · obtain ⟨s', rfl⟩ := Int.eq_ofNat_of_zero_le hs.1
      have hs1 : s' < x.n := by omega
      obtain ⟨t', rfl⟩ := Int.eq_ofNat_of_zero_le ht.1
      have ht1 : t' < x.n := by omega
      have hvs : decide (0 ≤ ((s' : Nat) : Int) ∧ ((s' : Nat) : Int) < G.n) = true := by simp; omega
      have hvt : decide (0 ≤ ((t' : Nat) : Int) ∧ ((t' : Nat) : Int) < G.n) = true := by simp; omega
      have HVS := hid hvs
      have HVT := hid hvt
      clear hvs hvt hs ht
      go_wp2_with fail
      refine (bout_yes HX.out HG.out HWT.out HHD.out floor s' hs1).mono ?_
      rintro e w4 ⟨B1, U, rfl, hb1, hf, hU⟩
      have HB1 := hid hb1
      have HU := hid hU
      clear hb1 hU
      have F4 := hid hf
      clear hf
      go_wp2_with fail
      refine (bin_yes (HX.out.no F4.out) floor t' ht1).mono ?_
      rintro e w5 ⟨B2, V, rfl, hb2, hf, hV⟩
      have HB2 := hid hb2
      have HV := hid hV
      clear hb2 hV
      have HB15 := hid (HB1.out.fr hf (fun h => h))
      have F5 := hid (F4.out.trans hf)
      clear hf F4
      go_wp2_with fail
      refine (bdist_yes (HX.out.no F5.out) (HG.out.no F5.out) HWT.out HHD.out floor s' t' hs1 ht1).mono ?_
      rintro e w6 ⟨U', V', rfl, hf, hU', hV'⟩
      have HU' := hid hU'
      have HV' := hid hV'
      clear hU' hV'
      have HB16 := hid (HB15.out.fr hf (fun h => h))
      have HB26 := hid (HB2.out.fr hf (fun h => h))
      have F6 := hid (F5.out.trans hf)
      clear hf F5
      go_wp2_with fail
      refine (rgvertex_calls (HRG.out.no F6.out) ((s' : Nat) : Int)).mono ?_
      rintro e w7 ⟨rfl, hw⟩
      subst hw
      rw [HVS.out]
      go_wp2_with fail
      refine (rgvertex_calls (HRG.out.no F6.out) ((t' : Nat) : Int)).mono ?_
      rintro e w7 ⟨rfl, hw⟩
      subst hw
      rw [HVT.out]
      go_wp2_with fail
      refine (rgvertex_calls (HRG.out.no F6.out) ((s' : Nat) : Int)).mono ?_
      rintro e w7 ⟨rfl, hw⟩
      subst hw
      rw [HVS.out]
      go_wp2_with fail
      refine (rgvertex_calls (HRG.out.no F6.out) ((t' : Nat) : Int)).mono ?_
      rintro e w7 ⟨rfl, hw⟩
      subst hw
      rw [HVT.out]
      go_wp2_with fail
      refine (rout22_calls (HR.out.no F6.out) (HRG.out.no F6.out) HWT.out floor s' hs1 U HU.out).mono ?_
      rintro e w7 ⟨C1, rfl, hf, _, hc1⟩
      have F7 := hid (F6.out.trans hf)
      have I1 := hid (blk_ints (HB16.out.fr hf (fun h => h)))
      have J1 := hid hc1.ints
      have HB27 := hid (HB26.out.fr hf (fun h => h))
      clear hf hc1
      go_wp2_with fail
      refine (ints_calls (some ⟨B1, 0, none⟩) (some ⟨C1, 0, none⟩) x.n x.n x.n x.n U U _ I1.out J1.out (by omega) (by omega) true ⟨fun _ => ⟨rfl, fun _ _ => rfl⟩, fun _ => rfl⟩).mono ?_
      rintro e w8 ⟨rfl, hf⟩
      have F8 := hid (F7.out.trans hf)
      have HB28 := hid (HB27.out.fr hf (fun h => h))
      clear hf I1 J1
      go_wp2_with fail
      refine (rin22_calls (HR.out.no F8.out) floor t' ht1 V HV.out).mono ?_
      rintro e w9 ⟨C2, rfl, hf, _, hc2⟩
      have F9 := hid (F8.out.trans hf)
      have I2 := hid (blk_ints (HB28.out.fr hf (fun h => h)))
      have J2 := hid hc2.ints
      clear hf hc2
      go_wp2_with fail
      refine (ints_calls (some ⟨B2, 0, none⟩) (some ⟨C2, 0, none⟩) x.n x.n x.n x.n V V _ I2.out J2.out (by omega) (by omega) true ⟨fun _ => ⟨rfl, fun _ _ => rfl⟩, fun _ => rfl⟩).mono ?_
      rintro e w10 ⟨rfl, hf⟩
      have F10 := hid (F9.out.trans hf)
      clear hf I2 J2
      go_wp2_with fail
      refine (rdist22_calls (HR.out.no F10.out) (HRG.out.no F10.out) HWT.out floor s' t' hs1 ht1 U' V' HU'.out HV'.out).mono ?_
      rintro e w11 ⟨rfl, hf⟩
      have F11 := hid (F10.out.trans hf)
      clear hf
      go_wp2
      go_ret
      exact ⟨rfl, G3.out.trans F11.out⟩
    · obtain ⟨s', rfl⟩ := Int.eq_ofNat_of_zero_le hs.1
      have hs1 : s' < x.n := by omega
      have hvs : decide (0 ≤ ((s' : Nat) : Int) ∧ ((s' : Nat) : Int) < G.n) = true := by simp; omega
      have hvt : decide (0 ≤ t ∧ t < G.n) = false := by simp; omega
      have HVS := hid hvs
      have HVT := hid hvt
      have HNT := hid (vx_no ht)
      clear hvs hvt hs ht
      go_wp2_with fail
      refine (bout_yes HX.out HG.out HWT.out HHD.out floor s' hs1).mono ?_
      rintro e w4 ⟨B1, U, rfl, hb1, hf, hU⟩
      have HB1 := hid hb1
      have HU := hid hU
      clear hb1 hU
      have F4 := hid hf
      clear hf
      go_wp2_with fail
      refine (bin_no (HX.out.no F4.out) floor t HNT.out).mono ?_
      rintro e w5 ⟨rfl, hf⟩
      have HB15 := hid (HB1.out.fr hf (fun h => h))
      have F5 := hid (F4.out.trans hf)
      clear hf F4
      go_wp2_with fail
      refine (bdist_no _ (HX.out.no F5.out) floor ((s' : Nat) : Int) t (.inr HNT.out)).mono ?_
      rintro e w6 ⟨rfl, hf⟩
      have HB16 := hid (HB15.out.fr hf (fun h => h))
      have F6 := hid (F5.out.trans hf)
      clear hf F5
      go_wp2_with fail
      refine (rgvertex_calls (HRG.out.no F6.out) ((s' : Nat) : Int)).mono ?_
      rintro e w7 ⟨rfl, hw⟩
      subst hw
      rw [HVS.out]
      go_wp2_with fail
      refine (rgvertex_calls (HRG.out.no F6.out) t).mono ?_
      rintro e w7 ⟨rfl, hw⟩
      subst hw
      rw [HVT.out]
      go_wp2_with fail
      refine (rgvertex_calls (HRG.out.no F6.out) ((s' : Nat) : Int)).mono ?_
      rintro e w7 ⟨rfl, hw⟩
      subst hw
      rw [HVS.out]
      go_wp2_with fail
      refine (rgvertex_calls (HRG.out.no F6.out) t).mono ?_
      rintro e w7 ⟨rfl, hw⟩
      subst hw
      rw [HVT.out]
      go_wp2_with fail
      refine (rout22_calls (HR.out.no F6.out) (HRG.out.no F6.out) HWT.out floor s' hs1 U HU.out).mono ?_
      rintro e w7 ⟨C1, rfl, hf, _, hc1⟩
      have F7 := hid (F6.out.trans hf)
      have I1 := hid (blk_ints (HB16.out.fr hf (fun h => h)))
      have J1 := hid hc1.ints
      clear hf hc1
      go_wp2_with fail
      refine (ints_calls (some ⟨B1, 0, none⟩) (some ⟨C1, 0, none⟩) x.n x.n x.n x.n U U _ I1.out J1.out (by omega) (by omega) true ⟨fun _ => ⟨rfl, fun _ _ => rfl⟩, fun _ => rfl⟩).mono ?_
      rintro e w8 ⟨rfl, hf⟩
      have F8 := hid (F7.out.trans hf)
      clear hf I1 J1
      go_wp2
      go_ret
      exact ⟨rfl, G3.out.trans F8.out⟩
  · by_cases ht : 0 ≤ t ∧ t < x.n
    · obtain ⟨t', rfl⟩ := Int.eq_ofNat_of_zero_le ht.1
      have ht1 : t' < x.n := by omega
      have hvs : decide (0 ≤ s ∧ s < G.n) = false := by simp; omega
      have hvt : decide (0 ≤ ((t' : Nat) : Int) ∧ ((t' : Nat) : Int) < G.n) = true := by simp; omega
      have HVS := hid hvs
      have HVT := hid hvt
      have HNS := hid (vx_no hs)
      clear hvs hvt hs ht
      go_wp2_with fail
      refine (bout_no _ HX.out floor s HNS.out).mono ?_
      rintro e w4 ⟨rfl, hf⟩
      have F4 := hid hf
      clear hf
      go_wp2_with fail
      refine (bin_yes (HX.out.no F4.out) floor t' ht1).mono ?_
      rintro e w5 ⟨B2, V, rfl, hb2, hf, hV⟩
      have HB2 := hid hb2
      have HV := hid hV
      clear hb2 hV
      have F5 := hid (F4.out.trans hf)
      clear hf F4
      go_wp2_with fail
      refine (bdist_no _ (HX.out.no F5.out) floor s ((t' : Nat) : Int) (.inl HNS.out)).mono ?_
      rintro e w6 ⟨rfl, hf⟩
      have HB26 := hid (HB2.out.fr hf (fun h => h))
      have F6 := hid (F5.out.trans hf)
      clear hf F5
      go_wp2_with fail
      refine (rgvertex_calls (HRG.out.no F6.out) s).mono ?_
      rintro e w7 ⟨rfl, hw⟩
      subst hw
      rw [HVS.out]
      go_wp2_with fail
      refine (rgvertex_calls (HRG.out.no F6.out) ((t' : Nat) : Int)).mono ?_
      rintro e w7 ⟨rfl, hw⟩
      subst hw
      rw [HVT.out]
      go_wp2_with fail
      refine (rgvertex_calls (HRG.out.no F6.out) s).mono ?_
      rintro e w7 ⟨rfl, hw⟩
      subst hw
      rw [HVS.out]
      go_wp2_with fail
      refine (rin22_calls (HR.out.no F6.out) floor t' ht1 V HV.out).mono ?_
      rintro e w9 ⟨C2, rfl, hf, _, hc2⟩
      have F9 := hid (F6.out.trans hf)
      have I2 := hid (blk_ints (HB26.out.fr hf (fun h => h)))
      have J2 := hid hc2.ints
      clear hf hc2
      go_wp2_with fail
      refine (ints_calls (some ⟨B2, 0, none⟩) (some ⟨C2, 0, none⟩) x.n x.n x.n x.n V V _ I2.out J2.out (by omega) (by omega) true ⟨fun _ => ⟨rfl, fun _ _ => rfl⟩, fun _ => rfl⟩).mono ?_
      rintro e w10 ⟨rfl, hf⟩
      have F10 := hid (F9.out.trans hf)
      clear hf I2 J2
      go_wp2
      go_ret
      exact ⟨rfl, G3.out.trans F10.out⟩
    · have hvs : decide (0 ≤ s ∧ s < G.n) = false := by simp; omega
      have hvt : decide (0 ≤ t ∧ t < G.n) = false := by simp; omega
      have HVS := hid hvs
      have HVT := hid hvt
      have HNS := hid (vx_no hs)
      have HNT := hid (vx_no ht)
      clear hvs hvt hs ht
      go_wp2_with fail
      refine (bout_no _ HX.out floor s HNS.out).mono ?_
      rintro e w4 ⟨rfl, hf⟩
      have F4 := hid hf
      clear hf
      go_wp2_with fail
      refine (bin_no (HX.out.no F4.out) floor t HNT.out).mono ?_
      rintro e w5 ⟨rfl, hf⟩
      have F5 := hid (F4.out.trans hf)
      clear hf F4
      go_wp2_with fail
      refine (bdist_no _ (HX.out.no F5.out) floor s t (.inl HNS.out)).mono ?_
      rintro e w6 ⟨rfl, hf⟩
      have F6 := hid (F5.out.trans hf)
      clear hf F5
      go_wp2_with fail
      refine (rgvertex_calls (HRG.out.no F6.out) s).mono ?_
      rintro e w7 ⟨rfl, hw⟩
      subst hw
      rw [HVS.out]
      go_wp2_with fail
      refine (rgvertex_calls (HRG.out.no F6.out) t).mono ?_
      rintro e w7 ⟨rfl, hw⟩
      subst hw
      rw [HVT.out]
      go_wp2_with fail
      refine (rgvertex_calls (HRG.out.no F6.out) s).mono ?_
      rintro e w7 ⟨rfl, hw⟩
      subst hw
      rw [HVS.out]
      go_wp2
      go_ret
      exact ⟨rfl, G3.out.trans F6.out⟩

end Go.Proofs.YtoepbhacpidcbaaGreatDoor
