/- The law 'ClimbMeets' returns true, by the contracts; walked. -/
import Derived.Test.YtpkocidcfnlbiaaGreatDoorClb
import Derived.Test.YtpkocidcfnlbiaaGreatDoorAll
import Derived.Test.YtpkocidcfnlbiaaGreatDoorRbd
import Derived.Test.YtpkocidcfnlbiaaGreatDoorMt
set_option linter.unusedVariables false
set_option linter.unusedSimpArgs false
namespace Go.Proofs.YtpkocidcfnlbiaaGreatDoor
open Go.RowKit Go.Deep

set_option maxRecDepth 100000 in
set_option maxHeartbeats 4000000 in
theorem cmeets_law (n : Nat) (A1 : Option Addr) (ln1 cp1 : Nat) (ch : Nat → Chg) (num : Nat) (s t : Int) (W : World) (hn : n ≤ 255) (hc : ChgsF W A1 ln1 ch) (b1 : ln1 ≤ 140737488351232) (hnum : (num : Int) ≤ 18446744073709551615) (hN : NoneVar W) :
    Calls Tryz.prog 8 #[.int .u8 (n : Nat), .slice A1 ln1 cp1, .int .u64 (num : Nat), .int .i64 s, .int .i64 t] W fun e w' => e = .returned (.bool true) ∧ Fr No W w' := by
  have HC := hid hc
  have HN := hid hN
  have hmod : n % 24 < 24 := Nat.mod_lt _ (by omega)
  have hd0 := rank_perm (1 + n % 24) num (by omega) (by omega)
  have HD0 := hid hd0
  have HI0 := hid (Classical.choose_spec hd0.inv)
  obtain ⟨g0, hg0⟩ : ∃ g, Classical.choose hd0.inv = g := ⟨_, rfl⟩
  rw [hg0] at HI0
  clear hg0 hd0
  clear hc hN
  go_enter Tryz.func8, Tryz.ntmps8
  go_wp2_with fail
  refine (awake20_calls W HN.out).mono ?_
  rintro e w1 ⟨rfl, hf⟩
  have G1 := hid hf
  clear hf
  go_wp2_with fail
  refine (made8_calls n A1 ln1 cp1 ch w1 hn (HC.out.fr G1.out) b1).mono ?_
  rintro e w2 ⟨Lg, b, rfl, hf, hm, hr, _, _⟩
  have hgn := ((Gr.zero (1 + n % 24) 64).steps_n ch (min ln1 150)).1
  have hgw := Gr.steps_wt (1 + n % 24) 64 ch (min ln1 150)
  obtain ⟨G, hG⟩ : ∃ G, (Gr.zero (1 + n % 24) 64).steps ch (min ln1 150) = G := ⟨_, rfl⟩
  rw [hG] at hm hr hgn hgw
  have hgn' : 1 + n % 24 = G.n := hgn.symm
  rw [hgn'] at HD0 HI0
  have HG0 := hid hm
  have HRG0 := hid hr
  have HGW := hid hgw
  have HOKG := hid hm.ok
  have hn24 := hm.ok.n2
  have Z0 := hid (G1.out.trans hf)
  clear hf hm hr hG hgw hgn
  go_wp2_with fail
  refine (rank_law_calls n num w2 hn hnum).mono ?_
  rintro e r0 ⟨br0, rfl, hf, _, hblk⟩
  rw [hgn'] at hblk ⊢
  have HB0a := hid hblk
  have HGa := hid (HG0.out.no hf)
  have HRGa := hid (HRG0.out.no hf)
  have Z1 := hid (Z0.out.trans hf)
  clear hf hblk HG0 HRG0 Z0
  go_wp2_with fail
  refine (build_calls HGa.out (some ⟨br0, 0, none⟩) G.n (fun i => ((rankOf G.n num i : Nat) : Int)) (fun _ => ⟨br0, 0, rfl, fun j hj => by rw [Nat.zero_add]; exact HB0a.out.cell hj⟩) HD0.out g0 HI0.out.1 HI0.out.2 (HN.out.fr Z1.out (fun h => h))).mono ?_
  rintro e t0 ⟨L0, rfl, hf, hx, _, _, _, _⟩
  have hw := (Ix.new_ok (show 0 < G.n by omega) HD0.out HI0.out.1 HI0.out.2).build_whole HGW.out
  have hxn : ((Ix.new G.n (fun i => ((rankOf G.n num i : Nat) : Int)) g0).build G).n = G.n := Ix.build_n _ _
  have hxr : ∀ v, ((Ix.new G.n (fun i => ((rankOf G.n num i : Nat) : Int)) g0).build G).rk v = rankOf G.n num v := fun v => by rw [Ix.build_rk]; exact Int.toNat_natCast _
  obtain ⟨x0, hX⟩ : ∃ x, (Ix.new G.n (fun i => ((rankOf G.n num i : Nat) : Int)) g0).build G = x := ⟨_, rfl⟩
  have HXE0 := hid hX
  rw [hX] at hx hw hxn hxr
  have HX0 := hid hx
  have HW0 := hid hw.2
  have HOKX0 := hid hw.1
  have HXN0 := hid hxn
  have HXR0 := hid hxr
  have HG0 := hid (HGa.out.no hf)
  have HRG0 := hid (HRGa.out.no hf)
  have HB0 := hid (HB0a.out.fr hf (fun h => h))
  have Z0 := hid (Z1.out.trans hf)
  clear hf hx hw hX hxr hxn HGa HRGa Z1 HB0a
  have hno : x0.n = G.n := HXN0.out
  by_cases hst : (0 ≤ s ∧ s < (G.n : Int)) ∧ (0 ≤ t ∧ t < (G.n : Int))
  · obtain ⟨⟨hs0, hs⟩, ht0, ht⟩ := hst
    obtain ⟨s, rfl⟩ : ∃ k : Nat, s = k := ⟨s.toNat, (Int.toNat_of_nonneg hs0).symm⟩
    obtain ⟨t, rfl⟩ : ∃ k : Nat, t = k := ⟨t.toNat, (Int.toNat_of_nonneg ht0).symm⟩
    have hsn : s < G.n := by omega
    have htn : t < G.n := by omega
    have hsx : s < x0.n := by omega
    have htx : t < x0.n := by omega
    have d1 : decide ((0 : Int) ≤ (s : Nat) ∧ ((s : Nat) : Int) < G.n) = true := by simp; omega
    have d2 : decide ((0 : Int) ≤ (t : Nat) ∧ ((t : Nat) : Int) < G.n) = true := by simp; omega
    have D1 := hid d1
    have D2 := hid d2
    have x1 := run_index_sq G.far s (by omega)
    have x2 := run_index_rw G.far s t (by omega)
    have X1 := hid x1
    have X2 := hid x2
    clear d1 d2 x1 x2 hs0 ht0
    by_cases hfar : G.far s t = 4611686018427387906
    · go_wp2_with fail
      refine (cmeet_none HX0.out HW0.out HOKG.out HGW.out HXN0.out.symm s t hsx htx hfar).mono ?_
      rintro e w5 ⟨rfl, hf⟩
      have HRG5 := hid (HRG0.out.no hf)
      have Z5 := hid (Z0.out.trans hf)
      have HFAR := hid hfar
      clear hf HX0 HRG0 HG0 HB0 Z0 hfar
      go_wp2_with fail
      refine (rgvertex_calls HRG5.out (s : Nat)).mono ?_
      rw [D1.out]
      rintro e w6 ⟨rfl, hw6⟩
      subst hw6
      go_wp2_with fail
      refine (rgvertex_calls HRG5.out (t : Nat)).mono ?_
      rw [D2.out]
      rintro e w6 ⟨rfl, hw6⟩
      subst hw6
      go_wp2_with fail
      refine (all10_calls HRG5.out HOKG.out HGW.out).mono ?_
      rintro e w6 ⟨rfl, hf⟩
      have Z6 := hid (Z5.out.trans hf)
      have x1 := X1.out
      have x2 := X2.out
      rw [HFAR.out] at x2
      generalize sqV G.far = V1 at x1 ⊢
      generalize (rowV G.far s).toArray = V2 at x1 x2
      clear hf HRG5 Z5 X1 X2 HFAR
      go_wp2
      go_ret
      exact ⟨rfl, Z6.out⟩
    · go_wp2_with fail
      refine (cmeet_yes HX0.out HW0.out HOKG.out HGW.out HXN0.out.symm s t hsx htx hfar).mono ?_
      obtain ⟨far, hfr⟩ : ∃ f, G.far s t = f := ⟨_, rfl⟩
      rw [hfr] at hfar ⊢
      rintro e w5 ⟨U, D, top, rfl, hf, hu, hd, hT⟩
      have HFR := hid hfr
      have HRG5 := hid (HRG0.out.no hf)
      have HB5 := hid (HB0.out.fr hf (fun h => h))
      have Z5 := hid (Z0.out.trans hf)
      have HU := hid hu
      have HD := hid hd
      have HT := hid hT
      clear hf hu hd hT HX0 HRG0 HG0 HB0 Z0 hfr
      go_wp2_with fail
      refine (rgvertex_calls HRG5.out (s : Nat)).mono ?_
      rw [D1.out]
      rintro e w6 ⟨rfl, hw6⟩
      subst hw6
      go_wp2_with fail
      refine (rgvertex_calls HRG5.out (t : Nat)).mono ?_
      rw [D2.out]
      rintro e w6 ⟨rfl, hw6⟩
      subst hw6
      go_wp2_with fail
      refine (all10_calls HRG5.out HOKG.out HGW.out).mono ?_
      rintro e w6 ⟨rfl, hf⟩
      have HRG6 := hid (HRG5.out.no hf)
      have HB6 := hid (HB5.out.fr hf (fun h => h))
      have Z6 := hid (Z5.out.trans hf)
      have x1 := X1.out
      have x2 := X2.out
      rw [HFR.out] at x2
      generalize sqV G.far = V1 at x1 ⊢
      generalize (rowV G.far s).toArray = V2 at x1 x2
      have gfar : (far == 4611686018427387906) = false := by simp; exact hfar
      clear hf HRG5 HB5 Z5 X1 X2 hfar
      go_wp2_with fail
      clear x1 x2
      refine (rbuild_calls HRG6.out HOKG.out.n1 hn24 HGW.out br0 0 G.n (fun i => ((rankOf G.n num i : Nat) : Int)) (fun j hj => by rw [Nat.zero_add]; exact HB6.out.cell hj) HD0.out g0 HI0.out.1 HI0.out.2).mono ?_
      rintro e w7 ⟨R, rfl, hf, hR, _, _⟩
      rw [HXE0.out] at hR
      have HRG7 := hid (HRG6.out.no hf)
      have Z7 := hid (Z6.out.trans hf)
      have HR7 := hid hR
      clear hf hR HRG6 HB6 Z6
      go_wp2_with fail
      refine (rways_calls HR7.out s hsx false).mono ?_
      rintro e w8 ⟨r1, c1, U', rfl, hf, _, hr1, hu⟩
      have HRG8 := hid (HRG7.out.no hf)
      have Z8 := hid (Z7.out.trans hf)
      have HR8 := hid (HR7.out.no hf)
      have HR1 := hid (hr1.congr (fun i hi => hu.uniq HU.out hi))
      clear hf hr1 hu HRG7 Z7 HR7
      go_wp2_with fail
      refine (rways_calls HR8.out t htx true).mono ?_
      rintro e w9 ⟨r2, c2, D', rfl, hf, _, hr2, hd⟩
      have HRG9 := hid (HRG8.out.no hf)
      have Z9 := hid (Z8.out.trans hf)
      have HR9 := hid (HR8.out.no hf)
      have HR19 := hid (HR1.out.fr hf (fun h => h))
      have HR2 := hid (hr2.congr (fun i hi => hd.uniq HD.out hi))
      clear hf hr2 hd HRG8 Z8 HR8 HR1
      go_wp2
      go_loopg [22, 23] (G.n + 1) (fun gk p q wr => ∃ (k : Nat) (tp : Int), p = .int .i64 tp ∧ q = .int .i64 k ∧ k ≤ G.n ∧ gk = G.n + 1 - k ∧ Fr No w9 wr ∧ TopB x0 (fun v => decide (tw (U v) (D v) = far)) k tp)
      case atStart => exact ⟨0, -1, rfl, rfl, by omega, rfl, Fr.refl _ _, TopB.first _ _⟩
      case round =>
        obtain ⟨k, tp, rfl, rfl, hk, hg, hf, hTB⟩ := hrel
        have HGK := hid hg
        have HF := hid hf
        have HTB := hid hTB
        have c0 := (HRG9.out.no hf).c0
        clear hg hf hTB
        by_cases hlt : k < G.n
        · have hlt2 : (k : Int) < G.n := by omega
          have hby := (HOKX0.out.by_ k (by omega)).1
          have hbr : x0.byr (k : Nat) = (x0.by_ k : Nat) := by
            unfold Ix.byr
            rw [if_pos ⟨by omega, by omega⟩, Int.toNat_natCast]
          obtain ⟨z, hz⟩ : ∃ z, x0.by_ k = z := ⟨_, rfl⟩
          rw [hz] at hby hbr
          have hzx2 : (z : Int) < x0.n := by omega
          have HZ := hid hz
          have HBR := hid hbr
          clear hz hbr
          go_wp2_with fail
          clear c0
          refine (rby_calls (HR9.out.no HF.out) (k : Nat)).mono ?_
          rw [HBR.out]
          rintro e w10 ⟨rfl, hf10⟩
          have HF10 := hid (HF.out.trans hf10)
          clear hf10 HF
          have s1 := (HR19.out.fr HF10.out (fun h => h)).cell hby
          have s2 := (HR2.out.fr HF10.out (fun h => h)).cell hby
          have b1 := HU.out.b z hby
          have b2 := HD.out.b z hby
          have hcase : (fun v => decide (tw (U v) (D v) = far)) (x0.by_ k) = decide (tw (U z) (D z) = far) := by rw [HZ.out]
          obtain ⟨uv, eu⟩ : ∃ r, U z = r := ⟨_, rfl⟩
          obtain ⟨dv, ed⟩ : ∃ r, D z = r := ⟨_, rfl⟩
          rw [eu] at s1 b1 hcase
          rw [ed] at s2 b2 hcase
          have htw := fun W => tw_calls b1 b2 W
          obtain ⟨sm, hsm⟩ : ∃ r, tw uv dv = r := ⟨_, rfl⟩
          simp only [hsm] at htw hcase
          have HTW := hid htw
          have HCASE := hid hcase
          clear eu ed b1 b2 hsm htw hcase
          go_wp2_with fail
          have k1 : ∀ nn : Fam w10, nn.v.cell? ⟨r1, z, none⟩ = some (.int .i64 uv) := Fam.cell s1
          have k2 : ∀ nn : Fam w10, nn.v.cell? ⟨r2, z, none⟩ = some (.int .i64 dv) := Fam.cell s2
          have k3 : ∀ nn : Fam w10, Calls Tryz.prog 35 #[.int .i64 uv, .int .i64 dv] nn.v fun e w' => e = .returned (.int .i64 sm) ∧ Fr No nn.v w' := fun nn => HTW.out nn.v
          by_cases hp : sm = far
          · have g1 : (sm == far) = true := by simp; exact hp
            have hpk : (fun v => decide (tw (U v) (D v) = far)) (x0.by_ k) = true := HCASE.out.trans (by simp; exact hp)
            have HPK := hid hpk
            clear hpk
            refine wp_region_fam (by kernel_rfl) (by kernel_rfl) ?_
            repeat (go_big_quiet_step (exact Calls.fam (k3 _)))
            refine wpQuiet_nil ?_
            rintro w11 ⟨⟨w11, hf11⟩, rfl⟩
            have F11 := hid (HF10.out.trans hf11)
            clear hf11 k1 k2 k3 s1 s2 HF10
            go_wp2
            go_roundg (G.n + 1 - (k + 1))
            case measure => have := HGK.out; omega
            case rel => exact ⟨k + 1, (z : Nat), rfl, by go_num, by omega, rfl, F11.out, by rw [← HZ.out]; exact TopB.yes HPK.out⟩
          · have g1 : (sm == far) = false := by simp; exact hp
            have hpk : (fun v => decide (tw (U v) (D v) = far)) (x0.by_ k) = false := HCASE.out.trans (by simp; exact hp)
            have HPK := hid hpk
            clear hpk
            refine wp_region_fam (by kernel_rfl) (by kernel_rfl) ?_
            repeat (go_big_quiet_step (exact Calls.fam (k3 _)))
            refine wpQuiet_nil ?_
            rintro w11 ⟨⟨w11, hf11⟩, rfl⟩
            have F11 := hid (HF10.out.trans hf11)
            clear hf11 k1 k2 k3 s1 s2 HF10
            go_wp2
            go_roundg (G.n + 1 - (k + 1))
            case measure => have := HGK.out; omega
            case rel => exact ⟨k + 1, tp, rfl, by go_num, by omega, rfl, F11.out, HTB.out.no HPK.out⟩
        · obtain rfl : k = G.n := by omega
          have hte : tp = top := (Top.eq HOKX0.out HT.out (by rw [hno]; exact HTB.out)).symm
          subst hte
          go_wp2
          go_ret
          exact ⟨rfl, Z9.out.trans HF.out⟩
  · go_wp2_with fail
    refine (cmeet_no HX0.out s t (by rw [hno]; exact hst)).mono ?_
    rintro e w5 ⟨rfl, hf⟩
    have HRG5 := hid (HRG0.out.no hf)
    have Z5 := hid (Z0.out.trans hf)
    clear hf HX0 HRG0 HG0 HB0 Z0
    by_cases hs : 0 ≤ s ∧ s < (G.n : Int)
    · have d1 : decide (0 ≤ s ∧ s < (G.n : Int)) = true := by simp; exact hs
      have d2 : decide (0 ≤ t ∧ t < (G.n : Int)) = false := by simp only [decide_eq_false_iff_not]; exact fun h => hst ⟨hs, h⟩
      have D1 := hid d1
      have D2 := hid d2
      clear d1 d2 hst hs
      go_wp2_with fail
      refine (rgvertex_calls HRG5.out s).mono ?_
      rw [D1.out]
      rintro e w6 ⟨rfl, hw6⟩
      subst hw6
      go_wp2_with fail
      refine (rgvertex_calls HRG5.out t).mono ?_
      rw [D2.out]
      rintro e w6 ⟨rfl, hw6⟩
      subst hw6
      go_wp2
      go_ret
      exact ⟨rfl, Z5.out⟩
    · have d1 : decide (0 ≤ s ∧ s < (G.n : Int)) = false := by simp only [decide_eq_false_iff_not]; exact hs
      have D1 := hid d1
      clear d1 hst hs
      go_wp2_with fail
      refine (rgvertex_calls HRG5.out s).mono ?_
      rw [D1.out]
      rintro e w6 ⟨rfl, hw6⟩
      subst hw6
      go_wp2
      go_ret
      exact ⟨rfl, Z5.out⟩

end Go.Proofs.YtpkocidcfnlbiaaGreatDoor
