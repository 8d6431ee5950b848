/- The law 'BuildTells' returns true, by the contracts; walked. -/
import Derived.Test.YtpkocidcfnlbiaaGreatDoorRbd
import Derived.Test.YtpkocidcfnlbiaaGreatDoorGsm
import Derived.Test.YtpkocidcfnlbiaaGreatDoorBbL
set_option linter.unusedVariables false
set_option linter.unusedSimpArgs false
namespace Go.Proofs.YtpkocidcfnlbiaaGreatDoor
open Go.RowKit Go.Deep

set_option maxRecDepth 100000 in
set_option maxHeartbeats 4000000 in
theorem btells_law (n : Nat) (A1 : Option Addr) (ln1 cp1 : Nat) (ch : Nat → Chg) (A2 : Option Addr) (ln2 cp2 : Nat) (f : Nat → Int) (W : World) (hn : n ≤ 255) (hc : ChgsF W A1 ln1 ch) (b1 : ln1 ≤ 140737488351232) (hl2 : IntsF W A2 ln2 f) (b2 : ln2 ≤ 140737488351232) (hN : NoneVar W) :
    Calls Tryz.prog 3 #[.int .u8 (n : Nat), .slice A1 ln1 cp1, .slice A2 ln2 cp2] W fun e w' => e = .returned (.bool true) ∧ Fr No W w' := by
  have HC := hid hc
  have HN := hid hN
  have HL := hid hl2
  have hmod : n % 24 < 24 := Nat.mod_lt _ (by omega)
  clear hc hN hl2
  go_enter Tryz.func3, Tryz.ntmps3
  go_wp2_with fail
  refine (awake16_calls W HN.out).mono ?_
  rintro e w1 ⟨rfl, hf⟩
  have G1 := hid hf
  clear hf
  go_wp2_with fail
  refine (made8_calls n A1 ln1 cp1 ch w1 hn (HC.out.fr G1.out) b1).mono ?_
  rintro e w2 ⟨Lg, b, rfl, hf, hm, hr, _, _⟩
  have hgw := Gr.steps_wt (1 + n % 24) 64 ch (min ln1 150)
  have hgz := Gr.steps_zl (1 + n % 24) 64 ch (min ln1 150)
  obtain ⟨G, hG⟩ : ∃ G, (Gr.zero (1 + n % 24) 64).steps ch (min ln1 150) = G := ⟨_, rfl⟩
  rw [hG] at hm hr hgw hgz
  have HG := hid hm
  have HRG := hid hr
  have HGW := hid hgw
  have HGZ := hid hgz
  have HOK := hid hm.ok
  have G2 := hid (G1.out.trans hf)
  clear hf hm hr hG hgw hgz
  by_cases hbig : 100 < ln2
  · have hbig2 : (100 : Int) < ln2 := by omega
    go_wp2
    go_ret
    exact ⟨rfl, G2.out⟩
  · have hbig2 : ¬ (100 : Int) < ln2 := by omega
    by_cases hyes : ln2 = G.n ∧ PermF ln2 f
    · obtain ⟨hl, hp⟩ := hyes
      subst hl
      obtain ⟨g, hg1, hg2⟩ := hp.inv
      have HP := hid hp
      have HG1 := hid hg1
      have HG2 := hid hg2
      have hn1 := HOK.out.n1
      clear hp hg1 hg2
      go_wp2_with fail
      refine (build_calls HG.out A2 cp2 f (HL.out.fr G2.out) HP.out g HG1.out HG2.out (HN.out.fr G2.out (fun h => h))).mono ?_
      rintro e w3 ⟨L, rfl, hf, hx, _, _, _, hcb⟩
      have hw := (Ix.new_ok hn1 HP.out HG1.out HG2.out).build_whole HGW.out
      have hxn : ((Ix.new G.n f g).build G).n = G.n := Ix.build_n _ _
      obtain ⟨x, hX⟩ : ∃ x, (Ix.new G.n f g).build G = x := ⟨_, rfl⟩
      have HX0 := hid hX
      rw [hX] at hx hw hxn
      have HX := hid hx
      have HW := hid hw.2
      have HG3 := hid (HG.out.no hf)
      have HRG3 := hid (HRG.out.no hf)
      have G3 := hid (G2.out.trans hf)
      have HCB := hid hcb
      clear hf hx hw hX HG HRG hcb
      go_wp2_with fail
      refine (rmay16_calls HRG3.out A2 G.n cp2 f (HL.out.fr G3.out) b2 true ⟨fun _ => ⟨rfl, HP.out⟩, fun _ => rfl⟩).mono ?_
      rintro e w4 ⟨rfl, hf⟩
      have HRG4 := hid (HRG3.out.no hf)
      have HG4 := hid (HG3.out.no hf)
      have HX4 := hid (HX.out.no hf)
      have G4 := hid (G3.out.trans hf)
      clear hf HRG3 HG3 HX
      have hcells := (HL.out.fr G4.out) (by omega)
      obtain ⟨br, off, rfl, hcl⟩ := hcells
      have HCL := hid hcl
      clear hcl
      go_wp2_with fail
      refine (rbuild_calls HRG4.out hn1 HOK.out.n2 HGW.out br off cp2 f HCL.out HP.out g HG1.out HG2.out).mono ?_
      rintro e w5 ⟨R, rfl, hf, hr, _, _⟩
      rw [HX0.out] at hr
      have HR := hid hr
      have HRG5 := hid (HRG4.out.no hf)
      have HG5 := hid (HG4.out.no hf)
      have HX5 := hid (HX4.out.no hf)
      have G5 := hid (G4.out.trans hf)
      clear hf hr HRG4 HG4 HX4
      go_wp2_with fail
      refine (same_calls HX5.out HR.out).mono ?_
      rintro e w6 ⟨rfl, hf⟩
      have HRG6 := hid (HRG5.out.no hf)
      have HG6 := hid (HG5.out.no hf)
      have HX6 := hid (HX5.out.no hf)
      have G6 := hid (G5.out.trans hf)
      clear hf HRG5 HG5 HX5 HR
      go_wp2_with fail
      refine (whole_calls HG6.out HX6.out (by rw [HCB.out]; omega)).mono ?_
      rintro e w7 ⟨bb, rfl, hf, hbb⟩
      obtain rfl : bb = true := hbb.2 ⟨hxn.symm, HW.out⟩
      have HRG7 := hid (HRG6.out.no hf)
      have HG7 := hid (HG6.out.no hf)
      have G7 := hid (G6.out.trans hf)
      clear hf HRG6 HG6 HX6 hbb
      go_wp2_with fail
      refine (gsame_calls HG7.out HRG7.out HGZ.out).mono ?_
      rintro e w8 ⟨rfl, hf⟩
      have G8 := hid (G7.out.trans hf)
      clear hf
      go_wp2
      go_ret
      exact ⟨rfl, G8.out⟩
    · have HNO := hid hyes
      clear hyes
      go_wp2_with fail
      refine (build_no HG.out A2 ln2 cp2 f (HL.out.fr G2.out) b2 (HN.out.fr G2.out (fun h => h)) HNO.out).mono ?_
      rintro e w3 ⟨rfl, hf⟩
      have HRG3 := hid (HRG.out.no hf)
      have G3 := hid (G2.out.trans hf)
      clear hf
      go_wp2_with fail
      refine (rmay16_calls HRG3.out A2 ln2 cp2 f (HL.out.fr G3.out) b2 false ⟨fun h => (by cases h), fun h => absurd h HNO.out⟩).mono ?_
      rintro e w4 ⟨rfl, hf⟩
      have G4 := hid (G3.out.trans hf)
      clear hf HRG3
      go_wp2
      go_ret
      exact ⟨rfl, G4.out⟩

end Go.Proofs.YtpkocidcfnlbiaaGreatDoor
