/- The law 'ClimbOrders' returns true, by the contracts; walked. -/
import Derived.Test.YtpkocidcfnlbiaaGreatDoorClb
import Derived.Test.YtpkocidcfnlbiaaGreatDoorAll
import Derived.Test.YtpkocidcfnlbiaaGreatDoorRbd
set_option linter.unusedVariables false
set_option linter.unusedSimpArgs false
namespace Go.Proofs.YtpkocidcfnlbiaaGreatDoor
open Go.RowKit Go.Deep

set_option maxRecDepth 100000 in
set_option maxHeartbeats 4000000 in
theorem corders_law (n : Nat) (A1 : Option Addr) (ln1 cp1 : Nat) (ch : Nat → Chg) (numa : Nat) (numb : Nat) (W : World) (hn : n ≤ 255) (hc : ChgsF W A1 ln1 ch) (b1 : ln1 ≤ 140737488351232) (hnuma : (numa : Int) ≤ 18446744073709551615) (hnumb : (numb : Int) ≤ 18446744073709551615) (hN : NoneVar W) :
    Calls Tryz.prog 6 #[.int .u8 (n : Nat), .slice A1 ln1 cp1, .int .u64 (numa : Nat), .int .u64 (numb : Nat)] W fun e w' => e = .returned (.bool true) ∧ Fr No W w' := by
  have HC := hid hc
  have HN := hid hN
  have hmod : n % 24 < 24 := Nat.mod_lt _ (by omega)
  have hd0 := rank_perm (1 + n % 24) numa (by omega) (by omega)
  have HD0 := hid hd0
  have HI0 := hid (Classical.choose_spec hd0.inv)
  obtain ⟨g0, hg0⟩ : ∃ g, Classical.choose hd0.inv = g := ⟨_, rfl⟩
  rw [hg0] at HI0
  clear hg0 hd0
  have hd1 := rank_perm (1 + n % 24) numb (by omega) (by omega)
  have HD1 := hid hd1
  have HI1 := hid (Classical.choose_spec hd1.inv)
  obtain ⟨g1, hg1⟩ : ∃ g, Classical.choose hd1.inv = g := ⟨_, rfl⟩
  rw [hg1] at HI1
  clear hg1 hd1
  clear hc hN
  go_enter Tryz.func6, Tryz.ntmps6
  go_wp2_with fail
  refine (awake20_calls W HN.out).mono ?_
  rintro e w1 ⟨rfl, hf⟩
  have G1 := hid hf
  clear hf
  go_wp2_with fail
  refine (made8_calls n A1 ln1 cp1 ch w1 hn (HC.out.fr G1.out) b1).mono ?_
  rintro e w2 ⟨Lg, b, rfl, hf, hm, hr, _, _⟩
  have hgn := ((Gr.zero (1 + n % 24) 64).steps_n ch (min ln1 150)).1
  have hgw := Gr.steps_wt (1 + n % 24) 64 ch (min ln1 150)
  obtain ⟨G, hG⟩ : ∃ G, (Gr.zero (1 + n % 24) 64).steps ch (min ln1 150) = G := ⟨_, rfl⟩
  rw [hG] at hm hr hgn hgw
  have hgn' : 1 + n % 24 = G.n := hgn.symm
  rw [hgn'] at HD0 HI0 HD1 HI1
  have HG0 := hid hm
  have HRG0 := hid hr
  have HGW := hid hgw
  have HOKG := hid hm.ok
  have hn24 := hm.ok.n2
  have Z0 := hid (G1.out.trans hf)
  clear hf hm hr hG hgw hgn
  go_wp2_with fail
  refine (rank_law_calls n numa w2 hn hnuma).mono ?_
  rintro e r0 ⟨br0, rfl, hf, _, hblk⟩
  rw [hgn'] at hblk ⊢
  have HB0a := hid hblk
  have HGa := hid (HG0.out.no hf)
  have HRGa := hid (HRG0.out.no hf)
  have Z1 := hid (Z0.out.trans hf)
  clear hf hblk HG0 HRG0 Z0
  go_wp2_with fail
  refine (build_calls HGa.out (some ⟨br0, 0, none⟩) G.n (fun i => ((rankOf G.n numa i : Nat) : Int)) (fun _ => ⟨br0, 0, rfl, fun j hj => by rw [Nat.zero_add]; exact HB0a.out.cell hj⟩) HD0.out g0 HI0.out.1 HI0.out.2 (HN.out.fr Z1.out (fun h => h))).mono ?_
  rintro e t0 ⟨L0, rfl, hf, hx, _, _, _, _⟩
  have hw := (Ix.new_ok (show 0 < G.n by omega) HD0.out HI0.out.1 HI0.out.2).build_whole HGW.out
  have hxn : ((Ix.new G.n (fun i => ((rankOf G.n numa i : Nat) : Int)) g0).build G).n = G.n := Ix.build_n _ _
  have hxr : ∀ v, ((Ix.new G.n (fun i => ((rankOf G.n numa i : Nat) : Int)) g0).build G).rk v = rankOf G.n numa v := fun v => by rw [Ix.build_rk]; exact Int.toNat_natCast _
  obtain ⟨x0, hX⟩ : ∃ x, (Ix.new G.n (fun i => ((rankOf G.n numa i : Nat) : Int)) g0).build G = x := ⟨_, rfl⟩
  have HXE0 := hid hX
  rw [hX] at hx hw hxn hxr
  have HX0 := hid hx
  have HW0 := hid hw.2
  have HOKX0 := hid hw.1
  have HXN0 := hid hxn
  have HXR0 := hid hxr
  have HG0 := hid (HGa.out.no hf)
  have HRG0 := hid (HRGa.out.no hf)
  have HB0 := hid (HB0a.out.fr hf (fun h => h))
  have Z0 := hid (Z1.out.trans hf)
  clear hf hx hw hX hxr hxn HGa HRGa Z1 HB0a
  go_wp2_with fail
  refine (rank_law_calls n numb t0 hn hnumb).mono ?_
  rintro e r1 ⟨br1, rfl, hf, _, hblk⟩
  rw [hgn'] at hblk ⊢
  have HB1a := hid hblk
  have HGa := hid (HG0.out.no hf)
  have HRGa := hid (HRG0.out.no hf)
  have Z1 := hid (Z0.out.trans hf)
  have HX0a := hid (HX0.out.no hf)
  have HB0b := hid (HB0.out.fr hf (fun h => h))
  clear hf hblk HG0 HRG0 Z0 HX0 HB0
  go_wp2_with fail
  refine (build_calls HGa.out (some ⟨br1, 0, none⟩) G.n (fun i => ((rankOf G.n numb i : Nat) : Int)) (fun _ => ⟨br1, 0, rfl, fun j hj => by rw [Nat.zero_add]; exact HB1a.out.cell hj⟩) HD1.out g1 HI1.out.1 HI1.out.2 (HN.out.fr Z1.out (fun h => h))).mono ?_
  rintro e t1 ⟨L1, rfl, hf, hx, _, _, _, _⟩
  have hw := (Ix.new_ok (show 0 < G.n by omega) HD1.out HI1.out.1 HI1.out.2).build_whole HGW.out
  have hxn : ((Ix.new G.n (fun i => ((rankOf G.n numb i : Nat) : Int)) g1).build G).n = G.n := Ix.build_n _ _
  have hxr : ∀ v, ((Ix.new G.n (fun i => ((rankOf G.n numb i : Nat) : Int)) g1).build G).rk v = rankOf G.n numb v := fun v => by rw [Ix.build_rk]; exact Int.toNat_natCast _
  obtain ⟨x1, hX⟩ : ∃ x, (Ix.new G.n (fun i => ((rankOf G.n numb i : Nat) : Int)) g1).build G = x := ⟨_, rfl⟩
  have HXE1 := hid hX
  rw [hX] at hx hw hxn hxr
  have HX1 := hid hx
  have HW1 := hid hw.2
  have HOKX1 := hid hw.1
  have HXN1 := hid hxn
  have HXR1 := hid hxr
  have HG0 := hid (HGa.out.no hf)
  have HRG0 := hid (HRGa.out.no hf)
  have HB1 := hid (HB1a.out.fr hf (fun h => h))
  have Z0 := hid (Z1.out.trans hf)
  have HX0 := hid (HX0a.out.no hf)
  have HB0 := hid (HB0b.out.fr hf (fun h => h))
  clear hf hx hw hX hxr hxn HGa HRGa Z1 HB1a HX0a HB0b
  have HRG7 := hid HRG0.out
  go_wp2
  go_loopg [15] (G.n + 1) (fun gk p wr => ∃ u : Nat, p = .int .i64 u ∧ u ≤ G.n ∧ gk = G.n + 1 - u ∧ Fr No t1 wr)
  case atStart => exact ⟨0, rfl, by omega, rfl, Fr.refl _ _⟩
  case round =>
    obtain ⟨u, rfl, hu, hgk, hf⟩ := hrel
    have HGK := hid hgk
    have HF := hid hf
    have c0 := (HRG7.out.no hf).c0
    clear hgk hf
    by_cases hlu : u < G.n
    · have hlu2 : (u : Int) < G.n := by omega
      go_wp2
      clear c0
      go_loopg [16] (G.n + 1) (fun gk p wr => ∃ v : Nat, p = .int .i64 v ∧ v ≤ G.n ∧ gk = G.n + 1 - v ∧ Fr No t1 wr)
      case atStart => exact ⟨0, rfl, by omega, rfl, HF.out⟩
      case round =>
        clear HF
        obtain ⟨v, rfl, hv, hgk2, hf⟩ := hrel
        have HGK2 := hid hgk2
        have HF := hid hf
        have c0 := (HRG7.out.no hf).c0
        clear hgk2 hf
        by_cases hlv : v < G.n
        · have hlv2 : (v : Int) < G.n := by omega
          have hu24 : (u : Int) < 24 := by omega
          have hv24 : (v : Int) < 24 := by omega
          obtain ⟨d, hd⟩ : ∃ d, G.far u v = d := ⟨_, rfl⟩
          have HDD := hid hd
          have g1 : (d != d) = false := by simp
          clear hd
          go_wp2_with fail
          clear c0
          refine (cdist_far (HX0.out.no HF.out) HW0.out HOKG.out HGW.out HXN0.out.symm u v (by rw [HXN0.out]; exact hlu) (by rw [HXN0.out]; exact hlv)).mono ?_
          rw [HDD.out]
          rintro e w8 ⟨rfl, hf8⟩
          have HF8 := hid (HF.out.trans hf8)
          clear hf8
          go_wp2_with fail
          refine (cdist_far (HX1.out.no HF8.out) HW1.out HOKG.out HGW.out HXN1.out.symm u v (by rw [HXN1.out]; exact hlu) (by rw [HXN1.out]; exact hlv)).mono ?_
          rw [HDD.out]
          rintro e w9 ⟨rfl, hf9⟩
          have HF9 := hid (HF8.out.trans hf9)
          clear hf9
          go_wp2
          go_roundg (G.n + 1 - (v + 1))
          case measure => have := HGK2.out; omega
          case rel => exact ⟨v + 1, by go_num, by omega, rfl, HF9.out⟩
        · obtain rfl : v = G.n := by omega
          go_wp2
          go_roundg (G.n + 1 - (u + 1))
          case measure => have := HGK.out; omega
          case rel => exact ⟨u + 1, by go_num, by omega, rfl, HF.out⟩
    · obtain rfl : u = G.n := by omega
      go_wp2
      go_ret
      exact ⟨rfl, Z0.out.trans HF.out⟩

end Go.Proofs.YtpkocidcfnlbiaaGreatDoor
