/- The law 'ClimbDists' returns true, by the contracts; walked. -/
import Derived.Test.YtpkocidcfnlbiaaGreatDoorClb
import Derived.Test.YtpkocidcfnlbiaaGreatDoorAll
import Derived.Test.YtpkocidcfnlbiaaGreatDoorRbd
import Derived.Test.YtpkocidcfnlbiaaGreatDoorBuL
set_option linter.unusedVariables false
set_option linter.unusedSimpArgs false
namespace Go.Proofs.YtpkocidcfnlbiaaGreatDoor
open Go.RowKit Go.Deep

set_option maxRecDepth 100000 in
set_option maxHeartbeats 4000000 in
theorem cdists_law (n : Nat) (A1 : Option Addr) (ln1 cp1 : Nat) (ch : Nat → Chg) (num : Nat) (W : World) (hn : n ≤ 255) (hc : ChgsF W A1 ln1 ch) (b1 : ln1 ≤ 140737488351232) (hnum : (num : Int) ≤ 18446744073709551615) (hN : NoneVar W) :
    Calls Tryz.prog 5 #[.int .u8 (n : Nat), .slice A1 ln1 cp1, .int .u64 (num : Nat)] W fun e w' => e = .returned (.bool true) ∧ Fr No W w' := by
  have HC := hid hc
  have HN := hid hN
  have hmod : n % 24 < 24 := Nat.mod_lt _ (by omega)
  have hd0 := rank_perm (1 + n % 24) num (by omega) (by omega)
  have HD0 := hid hd0
  have HI0 := hid (Classical.choose_spec hd0.inv)
  obtain ⟨g0, hg0⟩ : ∃ g, Classical.choose hd0.inv = g := ⟨_, rfl⟩
  rw [hg0] at HI0
  clear hg0 hd0
  clear hc hN
  go_enter Tryz.func5, Tryz.ntmps5
  go_wp2_with fail
  refine (awake20_calls W HN.out).mono ?_
  rintro e w1 ⟨rfl, hf⟩
  have G1 := hid hf
  clear hf
  go_wp2_with fail
  refine (made8_calls n A1 ln1 cp1 ch w1 hn (HC.out.fr G1.out) b1).mono ?_
  rintro e w2 ⟨Lg, b, rfl, hf, hm, hr, _, _⟩
  have hgn := ((Gr.zero (1 + n % 24) 64).steps_n ch (min ln1 150)).1
  have hgw := Gr.steps_wt (1 + n % 24) 64 ch (min ln1 150)
  obtain ⟨G, hG⟩ : ∃ G, (Gr.zero (1 + n % 24) 64).steps ch (min ln1 150) = G := ⟨_, rfl⟩
  rw [hG] at hm hr hgn hgw
  have hgn' : 1 + n % 24 = G.n := hgn.symm
  rw [hgn'] at HD0 HI0
  have HG0 := hid hm
  have HRG0 := hid hr
  have HGW := hid hgw
  have HOKG := hid hm.ok
  have hn24 := hm.ok.n2
  have Z0 := hid (G1.out.trans hf)
  clear hf hm hr hG hgw hgn
  go_wp2_with fail
  refine (rank_law_calls n num w2 hn hnum).mono ?_
  rintro e r0 ⟨br0, rfl, hf, _, hblk⟩
  rw [hgn'] at hblk ⊢
  have HB0a := hid hblk
  have HGa := hid (HG0.out.no hf)
  have HRGa := hid (HRG0.out.no hf)
  have Z1 := hid (Z0.out.trans hf)
  clear hf hblk HG0 HRG0 Z0
  go_wp2_with fail
  refine (build_calls HGa.out (some ⟨br0, 0, none⟩) G.n (fun i => ((rankOf G.n num i : Nat) : Int)) (fun _ => ⟨br0, 0, rfl, fun j hj => by rw [Nat.zero_add]; exact HB0a.out.cell hj⟩) HD0.out g0 HI0.out.1 HI0.out.2 (HN.out.fr Z1.out (fun h => h))).mono ?_
  rintro e t0 ⟨L0, rfl, hf, hx, _, _, _, _⟩
  have hw := (Ix.new_ok (show 0 < G.n by omega) HD0.out HI0.out.1 HI0.out.2).build_whole HGW.out
  have hxn : ((Ix.new G.n (fun i => ((rankOf G.n num i : Nat) : Int)) g0).build G).n = G.n := Ix.build_n _ _
  have hxr : ∀ v, ((Ix.new G.n (fun i => ((rankOf G.n num i : Nat) : Int)) g0).build G).rk v = rankOf G.n num v := fun v => by rw [Ix.build_rk]; exact Int.toNat_natCast _
  obtain ⟨x0, hX⟩ : ∃ x, (Ix.new G.n (fun i => ((rankOf G.n num i : Nat) : Int)) g0).build G = x := ⟨_, rfl⟩
  have HXE0 := hid hX
  rw [hX] at hx hw hxn hxr
  have HX0 := hid hx
  have HW0 := hid hw.2
  have HOKX0 := hid hw.1
  have HXN0 := hid hxn
  have HXR0 := hid hxr
  have HG0 := hid (HGa.out.no hf)
  have HRG0 := hid (HRGa.out.no hf)
  have HB0 := hid (HB0a.out.fr hf (fun h => h))
  have Z0 := hid (Z1.out.trans hf)
  clear hf hx hw hX hxr hxn HGa HRGa Z1 HB0a
  go_wp2_with fail
  refine (all10_calls HRG0.out HOKG.out HGW.out).mono ?_
  rintro e w6 ⟨rfl, hf⟩
  have HX6 := hid (HX0.out.no hf)
  have HRG6 := hid (HRG0.out.no hf)
  have Z6 := hid (Z0.out.trans hf)
  clear hf HX0 HRG0 HG0 Z0
  have hinf : (Tryz.prog.info? 44).map (·.size) = some 576 := by kernel_rfl
  go_wp2_with (refine wpList_store_row rfl 44 (.tmp 11) (.tmp 37) rfl w6.heap.size (sqV G.far) rfl rfl 44 Tryz.zeroCells44 (heap_alloc_new w6 _) (by rw [hinf, sqV_size]) (by rw [sqV_size, sq_size]) (sqV_one _) ?_)
  have hfs := srow_fr (w6.alloc (.cells Tryz.zeroCells44 44)) w6.heap.size (sqV G.far)
  have hsq : Sq ((w6.alloc (.cells Tryz.zeroCells44 44)).setRow w6.heap.size (sqV G.far)) w6.heap.size 24 G.far := Sq.of_heap rfl (setRow_heap _ w6.heap.size _ _ _ _ (heap_alloc_new w6 _))
  have f7 : Fr No w6 ((w6.alloc (.cells Tryz.zeroCells44 44)).setRow w6.heap.size (sqV G.far)) := ((Fr.refl No w6).alloc _).trans' hfs (fun k hk (e : k = w6.heap.size) => by omega)
  generalize (w6.alloc (.cells Tryz.zeroCells44 44)).setRow w6.heap.size (sqV G.far) = W7 at hsq f7 ⊢
  obtain ⟨B, hB⟩ : ∃ B, w6.heap.size = B := ⟨_, rfl⟩
  rw [hB] at hsq ⊢
  have HSQ := hid hsq
  have HX7 := hid (HX6.out.no f7)
  have HRG7 := hid (HRG6.out.no f7)
  have Z7 := hid (Z6.out.trans f7)
  clear hfs hsq f7 HX6 HRG6 hinf hB
  go_wp2
  go_loopg [12] (G.n + 1) (fun gk p wr => ∃ u : Nat, p = .int .i64 u ∧ u ≤ G.n ∧ gk = G.n + 1 - u ∧ Fr No W7 wr)
  case atStart => exact ⟨0, rfl, by omega, rfl, Fr.refl _ _⟩
  case round =>
    obtain ⟨u, rfl, hu, hgk, hf⟩ := hrel
    have HGK := hid hgk
    have HF := hid hf
    have c0 := (HRG7.out.no hf).c0
    clear hgk hf
    by_cases hlu : u < G.n
    · have hlu2 : (u : Int) < G.n := by omega
      go_wp2
      clear c0
      go_loopg [13] (G.n + 1) (fun gk p wr => ∃ v : Nat, p = .int .i64 v ∧ v ≤ G.n ∧ gk = G.n + 1 - v ∧ Fr No W7 wr)
      case atStart => exact ⟨0, rfl, by omega, rfl, HF.out⟩
      case round =>
        clear HF
        obtain ⟨v, rfl, hv, hgk2, hf⟩ := hrel
        have HGK2 := hid hgk2
        have HF := hid hf
        have c0 := (HRG7.out.no hf).c0
        clear hgk2 hf
        by_cases hlv : v < G.n
        · have hlv2 : (v : Int) < G.n := by omega
          have hu24 : (u : Int) < 24 := by omega
          have hv24 : (v : Int) < 24 := by omega
          obtain ⟨d, hd⟩ : ∃ d, G.far u v = d := ⟨_, rfl⟩
          have s1 := (HSQ.out.fr HF.out (fun h => h)).cell (by omega) (show u < 24 by omega) (show v < 24 by omega)
          rw [hd] at s1
          have HDD := hid hd
          have S1 := hid s1
          have g1 : (d != d) = false := by simp
          clear hd s1
          go_wp2_with fail
          clear c0
          refine (cdist_far (HX7.out.no HF.out) HW0.out HOKG.out HGW.out HXN0.out.symm u v (by rw [HXN0.out]; exact hlu) (by rw [HXN0.out]; exact hlv)).mono ?_
          rw [HDD.out]
          rintro e w8 ⟨rfl, hf8⟩
          have s2 := hf8.cell_some S1.out (fun h => h)
          have HF8 := hid (HF.out.trans hf8)
          have lB := cell_lt s2
          clear hf8
          go_wp2
          go_roundg (G.n + 1 - (v + 1))
          case measure => have := HGK2.out; omega
          case rel => exact ⟨v + 1, by go_num, by omega, rfl, HF8.out⟩
        · obtain rfl : v = G.n := by omega
          go_wp2
          go_roundg (G.n + 1 - (u + 1))
          case measure => have := HGK.out; omega
          case rel => exact ⟨u + 1, by go_num, by omega, rfl, HF.out⟩
    · obtain rfl : u = G.n := by omega
      go_wp2
      go_ret
      exact ⟨rfl, Z7.out.trans HF.out⟩

end Go.Proofs.YtpkocidcfnlbiaaGreatDoor
