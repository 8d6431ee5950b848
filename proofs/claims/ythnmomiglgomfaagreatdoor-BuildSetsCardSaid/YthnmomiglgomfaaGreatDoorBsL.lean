/- The law 'BuildSets' returns true, by the contracts; walked. -/
import Derived.Test.YthnmomiglgomfaaGreatDoorAw6
import Derived.Test.YthnmomiglgomfaaGreatDoorRBt
import Derived.Test.YthnmomiglgomfaaGreatDoorSetP
import Derived.Test.YthnmomiglgomfaaGreatDoorRef
import Derived.Test.YthnmomiglgomfaaGreatDoorG8
set_option linter.unusedVariables false
set_option linter.unusedSimpArgs false
namespace Go.Proofs.YthnmomiglgomfaaGreatDoor
open Go.RowKit Go.Deep
attribute [local go_sem high] run_eql_en run_neq_en

set_option maxRecDepth 100000 in
set_option maxHeartbeats 2000000 in
theorem right16_calls {w : World} {b : Nat} {G : Gr} (h : RGM w b G) (hn1 : 1 ≤ G.n) (hn : G.n ≤ 24) (hw : G.Wt) (br off c : Nat) (f : Nat → Int) (hc : ∀ j, j < G.n → w.cell? ⟨br, off + j, none⟩ = some (.int .i64 (f j))) (u v : Nat) (hu : u < G.n) (hv : v < G.n)
    (L : Nat → Bool) (hL : ∀ z, z < G.n → L z = decide (f z < min (f u) (f v))) (e0 e1 e2 bt dw di : Int) (hbt : G.btw L u v = bt) (hd : G.best (u : Nat) (v : Nat) = (dw, di))
    (hcase : (bt < dw ∧ e0 = bt ∧ e1 = -1 ∧ 0 ≤ e2) ∨ (dw ≤ bt ∧ 0 ≤ di ∧ e0 = dw ∧ e1 = di ∧ e2 = -1) ∨ (dw ≤ bt ∧ di = -1 ∧ e0 = 4611686018427387906 ∧ e1 = -1 ∧ e2 = -1)) :
    Calls Tryz.prog 33 #[.pointer (some ⟨b, 0, none⟩), .slice (some ⟨br, off, none⟩) G.n c, .int .i64 (u : Nat), .int .i64 (v : Nat), .agg #[.int .i64 e0, .int .i64 e1, .int .i64 e2]] w fun e w' => e = .returned (.bool true) ∧ Fr No w w' := by
  have fa := (Fr.refl No w).alloc (.cells #[.int .i64 e0, .int .i64 e1, .int .i64 e2] 51)
  have H1 := hid (h.no fa)
  have HC1 : Hid (∀ j, j < G.n → (w.alloc (.cells #[.int .i64 e0, .int .i64 e1, .int .i64 e2] 51)).cell? ⟨br, off + j, none⟩ = some (.int .i64 (f j))) := hid fun j hj => fa.cell_some (hc j hj) (fun h => h)
  have HL := hid hL
  have HW := hid hw
  have HBT := hid hbt
  have HD := hid hd
  have F0 := hid fa
  clear h hc hL hw hbt hd fa
  go_enter Tryz.func33, Tryz.ntmps33
  go_wp2_with fail
  refine (rbtw_calls H1.out hn1 hn HW.out br off c f HC1.out u v hu hv L HL.out).mono ?_
  rintro e w2 ⟨rfl, hf⟩
  rw [HBT.out]
  have c0 := hf.cell_some (p := ⟨w.heap.size, 0, none⟩) (v := .int .i64 e0) (by simp [go_sem]) (fun h => h)
  have c1 := hf.cell_some (p := ⟨w.heap.size, 1, none⟩) (v := .int .i64 e1) (by simp [go_sem]) (fun h => h)
  have c2 := hf.cell_some (p := ⟨w.heap.size, 2, none⟩) (v := .int .i64 e2) (by simp [go_sem]) (fun h => h)
  have H2 := hid (H1.out.no hf)
  have F2 := hid (F0.out.trans hf)
  clear hf H1 HC1 F0
  go_wp2_with fail
  refine (rgbest_calls H2.out (u : Nat) (v : Nat)).mono ?_
  rw [HD.out]
  rintro e w3 ⟨rfl, hf⟩
  have d0 := hf.cell_some c0 (fun h => h)
  have d1 := hf.cell_some c1 (fun h => h)
  have d2 := hf.cell_some c2 (fun h => h)
  have F3 := hid (F2.out.trans hf)
  clear hf H2 F2 c0 c1 c2
  rcases hcase with ⟨h1, rfl, rfl, h2⟩ | ⟨h1, h2, rfl, rfl, rfl⟩ | ⟨h1, rfl, rfl, rfl, rfl⟩
  · have g1 : decide (e0 < dw) = true := by simp; exact h1
    have g2 : decide (0 ≤ e2) = true := by simp; exact h2
    go_wp2
    go_ret
    exact ⟨ret_bool (by simp; try omega), F3.out⟩
  · have g1 : decide (bt < e0) = false := by simp; omega
    have g2 : decide (0 ≤ e1) = true := by simp; exact h2
    have g3 := eq3_same e0 e1 (-1)
    go_wp2
    go_ret
    exact ⟨rfl, F3.out⟩
  · have g1 : decide (bt < dw) = false := by simp; omega
    have g3 := eq3_same 4611686018427387906 (-1) (-1)
    have kk0 : ∀ nn : Fam w3, nn.v.cell? ⟨w.heap.size, 0, none⟩ = some (.int .i64 4611686018427387906) := Fam.cell d0
    have kk1 : ∀ nn : Fam w3, nn.v.cell? ⟨w.heap.size, 1, none⟩ = some (.int .i64 (-1)) := Fam.cell d1
    have kk2 : ∀ nn : Fam w3, nn.v.cell? ⟨w.heap.size, 2, none⟩ = some (.int .i64 (-1)) := Fam.cell d2
    have hnn : ∀ nn : Fam w3, Calls Tryz.prog 83 #[] nn.v fun e w' => e = .returned (.agg #[.int .i64 4611686018427387906, .int .i64 (-1), .int .i64 (-1)]) ∧ Fr No nn.v w' := fun nn => rnone_calls nn.v
    go_wp2_with fail
    refine wp_region_fam (by kernel_rfl) (by kernel_rfl) ?_
    repeat (go_big_quiet_step (exact Calls.fam (hnn _)))
    refine wpQuiet_nil ?_
    rintro w5 ⟨⟨w5, hf5⟩, rfl⟩
    have F5 := hid (F3.out.trans hf5)
    clear hf5 kk0 kk1 kk2 hnn d0 d1 d2
    go_wp2
    go_ret
    exact ⟨rfl, F5.out⟩

set_option maxRecDepth 100000 in
set_option maxHeartbeats 4000000 in
theorem bsets_law (n : Nat) (A1 : Option Addr) (ln1 cp1 : Nat) (ch : Nat → Chg) (num : Nat) (W : World) (hn : n ≤ 255) (hc : ChgsF W A1 ln1 ch) (b1 : ln1 ≤ 140737488351232) (hnum : (num : Int) ≤ 18446744073709551615) (hN : NoneVar W) :
    Calls Tryz.prog 8 #[.int .u8 (n : Nat), .slice A1 ln1 cp1, .int .u64 (num : Nat)] W fun e w' => e = .returned (.bool true) ∧ Fr No W w' := by
  have HC := hid hc
  have HN := hid hN
  obtain ⟨q, hq⟩ : ∃ q, n % 12 = q := ⟨_, rfl⟩
  have hqq : (n : Int) % 12 = (q : Nat) := by omega
  have hqt : Int.tmod (n : Int) 12 = (q : Nat) := by rw [Int.tmod_eq_emod_of_nonneg (by omega)]; exact hqq
  have hq2 : q ≤ 255 := by omega
  have hmod : q % 24 < 24 := Nat.mod_lt _ (by omega)
  have hd := rank_perm (1 + q % 24) num (by omega) (by omega)
  have HD := hid hd
  have HI := hid (Classical.choose_spec hd.inv)
  obtain ⟨g, hg⟩ : ∃ g, Classical.choose hd.inv = g := ⟨_, rfl⟩
  rw [hg] at HI
  clear hc hN hg hd hq
  go_enter Tryz.func8, Tryz.ntmps8
  go_wp2_with fail
  refine (awake16_calls W HN.out).mono ?_
  rintro e w1 ⟨rfl, hf⟩
  have G1 := hid hf
  clear hf
  go_wp2_with fail
  refine (made8_calls q A1 ln1 cp1 ch w1 hq2 (HC.out.fr G1.out) b1).mono ?_
  rintro e w2 ⟨Lg, b, rfl, hf, hm, hr, _, _⟩
  have hgn := ((Gr.zero (1 + q % 24) 64).steps_n ch (min ln1 150)).1
  have hgw := Gr.steps_wt (1 + q % 24) 64 ch (min ln1 150)
  obtain ⟨G, hG⟩ : ∃ G, (Gr.zero (1 + q % 24) 64).steps ch (min ln1 150) = G := ⟨_, rfl⟩
  rw [hG] at hm hr hgn hgw
  have hgn' : 1 + q % 24 = G.n := hgn.symm
  rw [hgn'] at HD HI
  have HG := hid hm
  have HRG := hid hr
  have HGW := hid hgw
  have HOKG := hid hm.ok
  have G2 := hid (G1.out.trans hf)
  clear hf hm hr hG hgw hgn
  go_wp2_with fail
  refine (rank_law_calls q num w2 hq2 hnum).mono ?_
  rintro e w3 ⟨br, rfl, hf, _, hblk⟩
  rw [hgn'] at hblk ⊢
  have HB := hid hblk
  have HG3 := hid (HG.out.no hf)
  have HRG3 := hid (HRG.out.no hf)
  have G3 := hid (G2.out.trans hf)
  clear hf hblk HG HRG
  go_wp2_with fail
  refine (build_calls HG3.out (some ⟨br, 0, none⟩) G.n (fun i => ((rankOf G.n num i : Nat) : Int)) (fun _ => ⟨br, 0, rfl, fun j hj => by rw [Nat.zero_add]; exact HB.out.cell hj⟩) HD.out g HI.out.1 HI.out.2 (HN.out.fr G3.out (fun h => h))).mono ?_
  rintro e w4 ⟨L, rfl, hf, hx, _, _, _, _⟩
  have hw := (Ix.new_ok (show 0 < G.n by omega) HD.out HI.out.1 HI.out.2).build_whole HGW.out
  have hxn : ((Ix.new G.n (fun i => ((rankOf G.n num i : Nat) : Int)) g).build G).n = G.n := Ix.build_n _ _
  have hxr : ∀ i, ((Ix.new G.n (fun i => ((rankOf G.n num i : Nat) : Int)) g).build G).rk i = rankOf G.n num i := fun i => by rw [Ix.build_rk]; exact Int.toNat_natCast _
  obtain ⟨x, hX⟩ : ∃ x, (Ix.new G.n (fun i => ((rankOf G.n num i : Nat) : Int)) g).build G = x := ⟨_, rfl⟩
  rw [hX] at hx hw hxn hxr
  have HX := hid hx
  have HW := hid hw.2
  have HOKX := hid hw.1
  have HRG4 := hid (HRG3.out.no hf)
  have HB4 := hid (HB.out.fr hf (fun h => h))
  have HXR := hid hxr
  have G4 := hid (G3.out.trans hf)
  clear hf hx hw hX HRG3 HB HG3 hxr
  go_wp2
  go_loopg [12] (G.n + 1) (fun gk p wr => ∃ u : Nat, p = .int .i64 u ∧ u ≤ G.n ∧ gk = G.n + 1 - u ∧ Fr No w4 wr)
  case atStart => exact ⟨0, rfl, by omega, rfl, Fr.refl _ _⟩
  case round =>
    obtain ⟨u, rfl, hu, hgk, hf⟩ := hrel
    have HGK := hid hgk
    have HF := hid hf
    have c0 := (HRG4.out.no hf).c0
    clear hgk hf
    by_cases hlu : u < G.n
    · have hlu2 : (u : Int) < G.n := by omega
      go_wp2
      clear c0
      go_loopg [13] (G.n + 1) (fun gk p wr => ∃ v : Nat, p = .int .i64 v ∧ v ≤ G.n ∧ gk = G.n + 1 - v ∧ Fr No w4 wr)
      case atStart => exact ⟨0, rfl, by omega, rfl, HF.out⟩
      case round =>
        clear HF
        obtain ⟨v, rfl, hv, hgk2, hf⟩ := hrel
        have HGK2 := hid hgk2
        have HF := hid hf
        have c0 := (HRG4.out.no hf).c0
        clear hgk2 hf
        by_cases hlv : v < G.n
        · have hlv2 : (v : Int) < G.n := by omega
          by_cases huv : u = v
          · subst huv
            go_wp2
            go_roundg (G.n + 1 - (u + 1))
            case measure => have := HGK2.out; omega
            case rel => exact ⟨u + 1, by go_num, by omega, rfl, HF.out⟩
          · have g1 : ((u : Int) != (v : Int)) = true := by simp; omega
            have g2 : decide ((u : Int) = (v : Int)) = false := by simp; omega
            have hat : x.at_ (u : Nat) (v : Nat) = x.ent u v := at_nat (two_nat (by omega) (by omega) huv)
            obtain ⟨⟨e0, e1, e2⟩, he⟩ : ∃ y, x.ent u v = y := ⟨_, rfl⟩
            obtain ⟨⟨dw, di⟩, hdd⟩ : ∃ y, G.best (u : Nat) (v : Nat) = y := ⟨_, rfl⟩
            have hLz : ∀ z, z < G.n → x.below u v z = decide (((rankOf G.n num z : Nat) : Int) < min ((rankOf G.n num u : Nat) : Int) ((rankOf G.n num v : Nat) : Int)) := fun z hz => by
              show decide (x.rk z < min (x.rk u) (x.rk v)) = _
              rw [HXR.out, HXR.out, HXR.out, decide_eq_decide]
              omega
            have hsets := HW.out.sets HOKX.out hxn.symm HGW.out (u := u) (w := v) (by omega) (by omega) huv (x.below u v) (fun z _ => by show decide _ = true ↔ _; exact decide_eq_true_iff)
            have hbd : G.bst u v = dw := by unfold Gr.bst; rw [hdd]
            rw [he, hdd, hbd] at hsets
            rw [he] at hat
            have hcase : (G.btw (x.below u v) u v < dw ∧ e0 = G.btw (x.below u v) u v ∧ e1 = -1 ∧ 0 ≤ e2) ∨ (dw ≤ G.btw (x.below u v) u v ∧ 0 ≤ di ∧ e0 = dw ∧ e1 = di ∧ e2 = -1) ∨ (dw ≤ G.btw (x.below u v) u v ∧ di = -1 ∧ e0 = 4611686018427387906 ∧ e1 = -1 ∧ e2 = -1) := by
              rcases hsets with ⟨s1, s2, s3, s4⟩ | ⟨s1, s2, s3⟩ | ⟨s1, s2, s3⟩
              · exact .inl ⟨s1, s2, s3, s4⟩
              · simp only [En.mk.injEq] at s3
                exact .inr (.inl ⟨by omega, s2, s3⟩)
              · have s3' : (⟨e0, e1, e2⟩ : En) = ⟨4611686018427387906, -1, -1⟩ := s3
                simp only [En.mk.injEq] at s3'
                exact .inr (.inr ⟨by omega, s2, s3'⟩)
            have HAT := hid hat
            have HLZ := hid hLz
            have HCASE := hid hcase
            have HDD := hid hdd
            clear hat he hdd hLz hsets hbd hcase
            go_wp2_with fail
            clear c0
            refine (at_calls (HX.out.no HF.out) (u : Nat) (v : Nat)).mono ?_
            rw [HAT.out]
            simp only [En.val]
            rintro e w5 ⟨rfl, hf5⟩
            have HF5 := hid (HF.out.trans hf5)
            clear hf5 HF
            go_wp2_with fail
            refine (right16_calls (HRG4.out.no HF5.out) HOKG.out.n1 HOKG.out.n2 HGW.out br 0 G.n (fun i => ((rankOf G.n num i : Nat) : Int)) (fun j hj => by rw [Nat.zero_add]; exact (HB4.out.fr HF5.out (fun h => h)).cell hj) u v hlu hlv _ HLZ.out e0 e1 e2 _ dw di rfl HDD.out HCASE.out).mono ?_
            rintro e w6 ⟨rfl, hf6⟩
            have HF6 := hid (HF5.out.trans hf6)
            clear hf6 HF5
            go_wp2
            go_roundg (G.n + 1 - (v + 1))
            case measure => have := HGK2.out; omega
            case rel => exact ⟨v + 1, by go_num, by omega, rfl, HF6.out⟩
        · obtain rfl : v = G.n := by omega
          go_wp2
          go_roundg (G.n + 1 - (u + 1))
          case measure => have := HGK.out; omega
          case rel => exact ⟨u + 1, by go_num, by omega, rfl, HF.out⟩
    · obtain rfl : u = G.n := by omega
      go_wp2
      go_ret
      exact ⟨rfl, G4.out.trans HF.out⟩

end Go.Proofs.YthnmomiglgomfaaGreatDoor
