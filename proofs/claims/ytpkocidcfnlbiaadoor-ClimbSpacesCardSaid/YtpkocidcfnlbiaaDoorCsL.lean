/- The law 'ClimbSpaces' returns true, by the contracts; walked. -/
import Derived.Test.YtpkocidcfnlbiaaDoorClb
import Derived.Test.YtpkocidcfnlbiaaDoorWay
import Derived.Test.YtpkocidcfnlbiaaDoorMade
set_option linter.unusedVariables false
set_option linter.unusedSimpArgs false
namespace Go.Proofs.YtpkocidcfnlbiaaDoor
open Go.RowKit Go.Deep

set_option maxRecDepth 100000 in
set_option maxHeartbeats 4000000 in
theorem cspaces_law (n num : Nat) (A2 : Option Addr) (ln2 cp2 : Nat) (lk2 : Nat → Lk) (s : Int) (W : World) (hn : n ≤ 255) (hnum : (num : Int) ≤ 18446744073709551615) (hl : LinksF W A2 ln2 lk2) (b2 : ln2 ≤ 140737488351232) (hN : NoneVar W) :
    Calls Tryd.prog 3 #[.int .u8 (n : Nat), .int .u64 (num : Nat), .slice A2 ln2 cp2, .int .i64 s] W fun e w' => e = .returned (.bool true) ∧ Fr No W w' := by
  have HL := hid hl
  have HN := hid hN
  clear hl hN
  go_enter Tryd.func3, Tryd.ntmps3
  go_wp2_with fail
  refine (awake20_calls W HN.out).mono ?_
  rintro e w1 ⟨rfl, hf⟩
  have G1 := hid hf
  clear hf
  go_wp2_with fail
  refine (made_calls n num A2 ln2 cp2 lk2 w1 hn hnum (HL.out.fr G1.out) b2 (HN.out.fr G1.out (fun h => h))).mono ?_
  rintro e w2 ⟨L, R, rfl, hf, hx, hr, _, _, _, _, _, _, _, _, _, hcb⟩
  have G2 := hid (G1.out.trans hf)
  obtain ⟨x, hX⟩ : ∃ x, (Ix.start (1 + n % 24) num).sets lk2 (min ln2 300) = x := ⟨_, rfl⟩
  rw [hX] at hx hr
  have hn24 := hx.ok.n2
  have HX2 := hid hx
  have HR2 := hid hr
  clear hf hx hr hX hcb
  by_cases hs : 0 ≤ s ∧ s < (x.n : Int)
  · obtain ⟨hs0, hs1⟩ := hs
    obtain ⟨s, rfl⟩ : ∃ k : Nat, s = k := ⟨s.toNat, (Int.toNat_of_nonneg hs0).symm⟩
    have hsx : s < x.n := by omega
    have d1 : x.vertex (s : Nat) = true := by unfold Ix.vertex; simp; omega
    have D1 := hid d1
    clear d1 hs0
    go_wp2_with fail
    refine (cup_yes HX2.out s hsx).mono ?_
    rintro e w3 ⟨B1, U, rfl, hb1, hf, _, hu⟩
    have HX3 := hid (HX2.out.no hf)
    have HR3 := hid (HR2.out.no hf)
    have G3 := hid (G2.out.trans hf)
    have HB1 := hid hb1
    have HU := hid hu
    clear hf hb1 hu HX2 HR2 G2
    go_wp2_with fail
    refine (cdown_yes HX3.out s hsx).mono ?_
    rintro e w4 ⟨B2, D, rfl, hb2, hf, _, hd⟩
    have HR4 := hid (HR3.out.no hf)
    have G4 := hid (G3.out.trans hf)
    have HB14 := hid (HB1.out.fr hf (fun h => h))
    have HB2 := hid hb2
    have HD := hid hd
    clear hf hb2 hd HX3 HR3 G3 HB1
    go_wp2_with fail
    refine (rvertex_calls HR4.out (s : Nat)).mono ?_
    rw [D1.out]
    rintro e w5 ⟨rfl, hw5⟩
    subst hw5
    go_wp2_with fail
    refine (rways_calls HR4.out s hsx false).mono ?_
    rintro e w6 ⟨r1, c1, U', rfl, hf, _, hr1, hu⟩
    have HR6 := hid (HR4.out.no hf)
    have G6 := hid (G4.out.trans hf)
    have HB26 := hid (HB2.out.fr hf (fun h => h))
    have I1 := hid (blk_ints (HB14.out.fr hf (fun h => h)))
    have J1 := hid (hr1.congr (fun i hi => hu.uniq HU.out hi)).ints
    clear hf hr1 hu HR4 G4 HB2 HB14
    go_wp2_with fail
    refine (ints_calls (some ⟨B1, 0, none⟩) (some ⟨r1, 0, none⟩) x.n x.n x.n c1 U U _ I1.out J1.out (by omega) (by omega) true ⟨fun _ => ⟨rfl, fun _ _ => rfl⟩, fun _ => rfl⟩).mono ?_
    rintro e w7 ⟨rfl, hf⟩
    have HR7 := hid (HR6.out.no hf)
    have G7 := hid (G6.out.trans hf)
    have HB27 := hid (HB26.out.fr hf (fun h => h))
    clear hf HR6 G6 HB26 I1 J1
    go_wp2_with fail
    refine (rways_calls HR7.out s hsx true).mono ?_
    rintro e w8 ⟨r2, c2, D', rfl, hf, _, hr2, hd⟩
    have G8 := hid (G7.out.trans hf)
    have I2 := hid (blk_ints (HB27.out.fr hf (fun h => h)))
    have J2 := hid (hr2.congr (fun i hi => hd.uniq HD.out hi)).ints
    clear hf hr2 hd HR7 G7 HB27
    go_wp2_with fail
    refine (ints_calls (some ⟨B2, 0, none⟩) (some ⟨r2, 0, none⟩) x.n x.n x.n c2 D D _ I2.out J2.out (by omega) (by omega) true ⟨fun _ => ⟨rfl, fun _ _ => rfl⟩, fun _ => rfl⟩).mono ?_
    rintro e w9 ⟨rfl, hf⟩
    have G9 := hid (G8.out.trans hf)
    clear hf I2 J2
    go_wp2
    go_ret
    exact ⟨rfl, G9.out⟩
  · have d1 : x.vertex s = false := by unfold Ix.vertex; simp; omega
    have D1 := hid d1
    clear d1
    go_wp2_with fail
    refine (cup_no HX2.out s hs).mono ?_
    rintro e w3 ⟨rfl, hf⟩
    have HX3 := hid (HX2.out.no hf)
    have HR3 := hid (HR2.out.no hf)
    have G3 := hid (G2.out.trans hf)
    clear hf HX2 HR2 G2
    go_wp2_with fail
    refine (cdown_no HX3.out s hs).mono ?_
    rintro e w4 ⟨rfl, hf⟩
    have HR4 := hid (HR3.out.no hf)
    have G4 := hid (G3.out.trans hf)
    clear hf HX3 HR3 G3
    go_wp2_with fail
    refine (rvertex_calls HR4.out s).mono ?_
    rw [D1.out]
    rintro e w5 ⟨rfl, hw5⟩
    subst hw5
    go_wp2
    go_ret
    exact ⟨rfl, G4.out⟩

end Go.Proofs.YtpkocidcfnlbiaaDoor
