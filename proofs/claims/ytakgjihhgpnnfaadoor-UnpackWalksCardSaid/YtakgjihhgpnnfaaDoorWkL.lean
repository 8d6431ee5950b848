/- The law 'UnpackWalks' returns true, by the contracts; walked. -/
import Derived.Test.YtakgjihhgpnnfaaDoorR9
import Derived.Test.YtakgjihhgpnnfaaDoorUp
set_option linter.unusedVariables false
set_option linter.unusedSimpArgs false
namespace Go.Proofs.YtakgjihhgpnnfaaDoor
open Go.RowKit Go.Deep
attribute [local go_sem high] run_field0

set_option maxRecDepth 100000 in
set_option maxHeartbeats 8000000 in
theorem walks_law (n : Nat) (A1 : Option Addr) (ln1 cp1 : Nat) (ch : Nat → Chg) (num : Nat) (W : World) (hn : n ≤ 255) (hc : ChgsF W A1 ln1 ch) (b1 : ln1 ≤ 140737488351232) (hnum : (num : Int) ≤ 18446744073709551615) (hN : NoneVar W) :
    Calls Tryd.prog 3 #[.int .u8 (n : Nat), .slice A1 ln1 cp1, .int .u64 (num : Nat)] W fun e w' => e = .returned (.bool true) ∧ Fr No W w' := by
  have HC := hid hc
  have HN := hid hN
  have hmod : n % 24 < 24 := Nat.mod_lt _ (by omega)
  have hd := rank_perm (1 + n % 24) num (by omega) (by omega)
  have HD := hid hd
  have HI := hid (Classical.choose_spec hd.inv)
  obtain ⟨g, hg⟩ : ∃ g, Classical.choose hd.inv = g := ⟨_, rfl⟩
  rw [hg] at HI
  clear hc hN hg hd
  go_enter Tryd.func3, Tryd.ntmps3
  go_wp2_with fail
  refine (awake_calls W HN.out).mono ?_
  rintro e w1 ⟨rfl, hf⟩
  have G1 := hid hf
  clear hf
  go_wp2_with fail
  refine (made8_calls n A1 ln1 cp1 ch w1 hn (HC.out.fr G1.out) b1).mono ?_
  rintro e w2 ⟨Lg, b, rfl, hf, hm, hr, _, _⟩
  have hgn := ((Gr.zero (1 + n % 24) 64).steps_n ch (min ln1 150)).1
  have hgw := Gr.steps_wt (1 + n % 24) 64 ch (min ln1 150)
  obtain ⟨G, hG⟩ : ∃ G, (Gr.zero (1 + n % 24) 64).steps ch (min ln1 150) = G := ⟨_, rfl⟩
  rw [hG] at hm hr hgn hgw
  have hgn' : 1 + n % 24 = G.n := hgn.symm
  rw [hgn'] at HD HI
  have HG := hid hm
  have HRG := hid hr
  have HGW := hid hgw
  have HGO := hid hm.ok
  have G2 := hid (G1.out.trans hf)
  clear hf hm hr hG hgw hgn
  go_wp2_with fail
  refine (rank_law_calls n num w2 hn hnum).mono ?_
  rintro e w3 ⟨br, rfl, hf, _, hblk⟩
  rw [hgn'] at hblk ⊢
  have HB := hid hblk
  have HG3 := hid (HG.out.no hf)
  have HRG3 := hid (HRG.out.no hf)
  have G3 := hid (G2.out.trans hf)
  clear hf hblk HG HRG
  go_wp2_with fail
  refine (build_calls HG3.out (some ⟨br, 0, none⟩) G.n (fun i => ((rankOf G.n num i : Nat) : Int)) (fun _ => ⟨br, 0, rfl, fun j hj => by rw [Nat.zero_add]; exact HB.out.cell hj⟩) HD.out g HI.out.1 HI.out.2 (HN.out.fr G3.out (fun h => h))).mono ?_
  rintro e w4 ⟨L, rfl, hf, hx, _, _, _, _⟩
  have hw := (Ix.new_ok (show 0 < G.n by omega) HD.out HI.out.1 HI.out.2).build_whole HGW.out
  have hfit := (Ix.Fit.new G.n (fun i => ((rankOf G.n num i : Nat) : Int)) g).build G
  have hxn : ((Ix.new G.n (fun i => ((rankOf G.n num i : Nat) : Int)) g).build G).n = G.n := Ix.build_n _ _
  have hrk : ∀ i, (rankOf G.n num i : Nat) = ((Ix.new G.n (fun i => ((rankOf G.n num i : Nat) : Int)) g).build G).rk i := fun i => by rw [Ix.build_rk]; show _ = ((rankOf G.n num i : Nat) : Int).toNat; omega
  obtain ⟨x, hX⟩ : ∃ x, (Ix.new G.n (fun i => ((rankOf G.n num i : Nat) : Int)) g).build G = x := ⟨_, rfl⟩
  rw [hX] at hx hw hxn hfit hrk
  have HX := hid hx
  have HW := hid hw.2
  have HFIT := hid hfit
  have HRG4 := hid (HRG3.out.no hf)
  have HB4 := hid (show Blk w4 br G.n 3 (fun i => .int .i64 (x.rk i : Nat)) from (HB.out.fr hf (fun h => h)).congr (fun i _ => by rw [hrk i]))
  have G4 := hid (G3.out.trans hf)
  have hn24 := HGO.out.n2
  clear hf hx hw hX hfit hrk HRG3 HB HG3
  go_wp2
  go_loopg [12] (G.n + 1) (fun gk p wr => ∃ u : Nat, p = .int .i64 u ∧ u ≤ G.n ∧ gk = G.n + 1 - u ∧ Fr No w4 wr)
  case atStart => exact ⟨0, rfl, by omega, rfl, Fr.refl _ _⟩
  case round =>
    obtain ⟨u, rfl, hu, hgk, hf⟩ := hrel
    have HGK := hid hgk
    have HF := hid hf
    have c0 := (HRG4.out.no hf).c0
    clear hgk hf
    obtain ⟨wo, rfl⟩ : ∃ wo : World, wo = wr := ⟨_, rfl⟩
    by_cases hult : u < G.n
    · have hult2 : (u : Int) < G.n := by omega
      go_wp2
      clear c0
      go_loopg [13] (G.n + 1) (fun gk p wr => ∃ v : Nat, p = .int .i64 v ∧ v ≤ G.n ∧ gk = G.n + 1 - v ∧ Fr No w4 wr)
      case atStart => exact ⟨0, rfl, by omega, rfl, HF.out⟩
      case round =>
        obtain ⟨v, rfl, hv, hgk2, hf⟩ := hrel
        clear HF
        have HGK2 := hid hgk2
        have HF := hid hf
        have c0 := (HRG4.out.no hf).c0
        clear hgk2 hf
        by_cases hvlt : v < G.n
        · have hvlt2 : (v : Int) < G.n := by omega
          go_wp2_with fail
          clear c0
          refine (at_calls (HX.out.no HF.out) (u : Nat) (v : Nat)).mono ?_
          rintro e w5 ⟨rfl, hf5⟩
          have HF5 := hid (HF.out.trans hf5)
          obtain ⟨⟨a0, a1, a2⟩, hat⟩ : ∃ e, x.at_ (u : Nat) (v : Nat) = e := ⟨_, rfl⟩
          rw [hat]
          simp only [En.val]
          have HAT := hid hat
          clear hf5 HF hat
          by_cases huv : u = v
          · have g1 : ((u : Int) == (v : Int)) = true := by simp; omega
            go_wp2
            go_roundg (G.n + 1 - (v + 1))
            case measure => have := HGK2.out; omega
            case rel => exact ⟨v + 1, by go_num, by omega, rfl, HF5.out⟩
          · have g1 : ((u : Int) == (v : Int)) = false := by simp; omega
            by_cases hmost : 4611686018427387904 < a0
            · have g2 : decide (4611686018427387904 < a0) = true := by simpa using hmost
              go_wp2
              go_roundg (G.n + 1 - (v + 1))
              case measure => have := HGK2.out; omega
              case rel => exact ⟨v + 1, by go_num, by omega, rfl, HF5.out⟩
            · have g2 : decide (4611686018427387904 < a0) = false := by simp; omega
              have hux : u < x.n := by omega
              have hvx : v < x.n := by omega
              have hent : (x.ent u v).w = a0 := by
                have := HAT.out
                rw [at_nat (two_nat hux hvx huv)] at this
                rw [this]
              obtain ⟨r1, r2, r3⟩ := HW.out.arcs_pth HX.out.ok HGO.out HGW.out hxn.symm hux hvx huv (by omega)
              have hru := (HX.out.ok.rk u hux).1
              have hn2 := HX.out.ok.n2
              obtain ⟨s1, s2, s3, s4⟩ := HW.out.pth HX.out.ok HGO.out HGW.out hxn.symm 25 u v hux hvx huv (by omega) (by omega)
              have s5 := (HW.out.path HX.out.ok HGO.out HGW.out hxn.symm hux hvx huv (by omega) (f := 25) (by omega)).1
              obtain ⟨P, hP⟩ : ∃ P, x.pth 25 u v = P := ⟨_, rfl⟩
              rw [hP] at r1 r2 r3 s1 s2 s3 s4 s5
              rw [hent] at s2
              have HR1 := hid r1
              have HS1 := hid s1
              have HS2 := hid s2
              have HS4 := hid s4
              have HS5 := hid s5
              have hvl := G.vis_len u P
              have hvs : ∀ i, 1 ≤ i → i + 1 < (G.vis u P).length → ∃ z : Nat, (G.vis u P).getD i 0 = (z : Nat) ∧ z < x.n ∧ x.rk z < min (x.rk u) (x.rk v) := fun i hi1 hi2 => by
                rw [hvl] at hi2
                obtain ⟨q, rfl⟩ : ∃ q, i = q + 1 := ⟨i - 1, by omega⟩
                have hmem : G.hd (P.getD q 0) ∈ G.mds P := by
                  unfold Gr.mds
                  have hq : q < P.dropLast.length := by simp; omega
                  refine List.mem_map.2 ⟨P.getD q 0, ?_, rfl⟩
                  have e : P.dropLast.getD q 0 = P.getD q 0 := by rw [List.dropLast_eq_take, List.getD, List.getElem?_take_of_lt (by omega), List.getD]
                  rw [← e, List.getD, List.getElem?_eq_getElem hq]
                  exact List.getElem_mem hq
                refine ⟨_, G.vis_next u P q (by omega), ?_, s4 _ hmem⟩
                rw [hxn]
                refine Wk.hds HGO.out s1 _ ?_
                obtain ⟨k, hk1, hk2⟩ := List.mem_map.1 hmem
                exact List.mem_map.2 ⟨k, List.dropLast_subset _ hk1, hk2⟩
              have HVS := hid hvs
              clear r1 s1 s2 s3 s4 s5 hP hent hvs
              go_wp2_with fail
              refine (parcs_calls HFIT.out (HX.out.no HF5.out) (u : Nat) (v : Nat)).mono ?_
              rintro e w6 ⟨sv, rfl, hf6, hs6⟩
              rw [HR1.out] at hs6 ⊢
              simp only at hs6 ⊢
              obtain ⟨Aa, ca, rfl, hint⟩ := hs6.intsF
              have HF6 := hid (HF5.out.trans hf6)
              have hint2 : IntsF w6 Aa P.length (fun j => ((P.getD j 0 : Nat) : Int)) := fun h0 => by
                obtain ⟨bb, oo, e1, e2⟩ := hint (by rw [List.length_map]; exact h0)
                refine ⟨bb, oo, e1, fun j hj => ?_⟩
                have h5 : w6.cell? ⟨bb, oo + j, none⟩ = some (.int .i64 ((P.map (fun k : Nat => (k : Int))).getD j 0)) := e2 j (by rw [List.length_map]; exact hj)
                have e3 : (P.map (fun k : Nat => (k : Int))).getD j 0 = ((P.getD j 0 : Nat) : Int) := by rw [List.getD, List.getElem?_map, List.getElem?_eq_getElem hj, List.getD, List.getElem?_eq_getElem hj]; rfl
                rw [e3] at h5
                exact h5
              rw [List.length_map]
              have HIN := hid hint2
              clear hf6 hs6 hint hint2
              have hP100 : P.length ≤ 100 := by omega
              go_wp2_with fail
              refine (rvisits_calls (HRG4.out.no HF6.out) HGO.out hult HS1.out hP100 HIN.out).mono ?_
              rintro e w7 ⟨Av, cv, rfl, hf7, hsl⟩
              obtain ⟨bo, oo, rfl, hco⟩ := (SlL.ints' hsl) (by rw [hvl]; omega)
              have HCO := hid hco
              have HF7 := hid (HF6.out.trans hf7)
              have HIN7 := hid (HIN.out.fr hf7)
              clear hf7 hsl hco
              go_wp2_with fail
              refine (rcheck_calls (HRG4.out.no HF7.out) HGO.out hult hvlt HS1.out hP100 HIN7.out).mono ?_
              rintro e w8 ⟨rfl, hf8⟩
              have HF8 := hid (HF7.out.trans hf8)
              have HIN8 := hid (HIN7.out.fr hf8)
              have HC8 := hid (show Fr No w7 w8 from hf8)
              clear hf8
              go_wp2_with fail
              refine (rsum9_calls (HRG4.out.no HF8.out) HGW.out HS1.out hP100 (by rw [HS2.out]; omega) HIN8.out).mono ?_
              rintro e w9 ⟨rfl, hf9⟩
              rw [HS2.out]
              have HF9 := hid (HF8.out.trans hf9)
              have HIN9 := hid (HIN8.out.fr hf9)
              have HC9 := hid (HC8.out.trans hf9)
              have g3 : (a0 != a0) = false := by simp
              clear hf9
              go_wp2_with fail
              refine (rsimple_calls (HRG4.out.no HF9.out) HGO.out hult HS1.out hP100 HS5.out HIN9.out).mono ?_
              rintro e w10 ⟨rfl, hf10⟩
              have HF10 := hid (HF9.out.trans hf10)
              have HC10 := hid (HC9.out.trans hf10)
              obtain ⟨M, hM⟩ : ∃ M, P.length + 1 = M := ⟨_, rfl⟩
              rw [hvl] at HCO HVS
              rw [hM] at HCO HVS ⊢
              have hM24 : M ≤ 101 := by omega
              clear hf10 hM hvl
              go_wp2
              go_loopg [19] (M + 1) (fun gk p wr => ∃ i : Nat, p = .int .i64 (i + 1 : Nat) ∧ i ≤ M ∧ gk = M + 1 - i ∧ Fr No w10 wr)
              case atStart => exact ⟨0, rfl, by omega, rfl, Fr.refl _ _⟩
              case round =>
                obtain ⟨i, rfl, hi, hgk3, hf⟩ := hrel
                have HGK3 := hid hgk3
                have HF := hid hf
                clear hgk3 hf
                by_cases hiM : i + 1 + 1 < M
                · have hiM2 : (((i + 1 : Nat) : Int) + 1) < M := by omega
                  have hiM3 : ((i + 1 : Nat) : Int) < M := by omega
                  obtain ⟨z, hz1, hz2, hz3⟩ := HVS.out (i + 1) (by omega) hiM
                  have hz2' : (z : Int) < G.n := by omega
                  have q0 : wr.cell? ⟨bo, oo + (i + 1), none⟩ = some (.int .i64 (z : Nat)) := by
                    have := HC10.out.cell_some (HCO.out (i + 1) (by omega)) (fun h => h)
                    rw [hz1] at this
                    exact HF.out.cell_some this (fun h => h)
                  have hFB := HF10.out.trans HF.out
                  have q1 : wr.cell? ⟨br, z, none⟩ = some (.int .i64 (x.rk z : Nat)) := hFB.cell_some (HB4.out.cell (by omega)) (fun h => h)
                  have q2 : wr.cell? ⟨br, u, none⟩ = some (.int .i64 (x.rk u : Nat)) := hFB.cell_some (HB4.out.cell hult) (fun h => h)
                  have q3 : wr.cell? ⟨br, v, none⟩ = some (.int .i64 (x.rk v : Nat)) := hFB.cell_some (HB4.out.cell hvlt) (fun h => h)
                  have kk0 : ∀ nn : Fam wr, nn.v.cell? ⟨bo, oo + (i + 1), none⟩ = some (.int .i64 (z : Nat)) := Fam.cell q0
                  have kk1 : ∀ nn : Fam wr, nn.v.cell? ⟨br, z, none⟩ = some (.int .i64 (x.rk z : Nat)) := Fam.cell q1
                  have kk2 : ∀ nn : Fam wr, nn.v.cell? ⟨br, u, none⟩ = some (.int .i64 (x.rk u : Nat)) := Fam.cell q2
                  have kk3 : ∀ nn : Fam wr, nn.v.cell? ⟨br, v, none⟩ = some (.int .i64 (x.rk v : Nat)) := Fam.cell q3
                  have g4 : ¬ min (x.rk u : Int) (x.rk v : Nat) ≤ (x.rk z : Nat) := by omega
                  have g5 : decide (min (x.rk u : Int) (x.rk v : Nat) ≤ (x.rk z : Nat)) = false := by simp; omega
                  clear q0 q1 q2 q3 hFB hz1 hz3
                  go_wp2_with fail
                  refine wp_region_fam (by kernel_rfl) (by kernel_rfl) ?_
                  repeat (go_big_quiet_step (fail))
                  refine wpQuiet_nil ?_
                  rintro w11 ⟨⟨w11, hf11⟩, rfl⟩
                  have HF11 := hid (HF.out.trans hf11)
                  clear hf11 kk0 kk1 kk2 kk3
                  go_wp2
                  go_roundg (M + 1 - (i + 1))
                  case measure => have := HGK3.out; omega
                  case rel => exact ⟨i + 1, by go_num, by omega, rfl, HF11.out⟩
                · have hiM2 : ¬ (((i + 1 : Nat) : Int) + 1) < M := by omega
                  go_wp2
                  go_roundg (G.n + 1 - (v + 1))
                  case measure => have := HGK2.out; omega
                  case rel => exact ⟨v + 1, by go_num, by omega, rfl, HF10.out.trans HF.out⟩
        · have hvlt2 : ¬ (v : Int) < G.n := by omega
          go_wp2
          go_roundg (G.n + 1 - (u + 1))
          case measure => have := HGK.out; omega
          case rel => exact ⟨u + 1, by go_num, by omega, rfl, HF.out⟩
    · have hult2 : ¬ (u : Int) < G.n := by omega
      go_wp2
      go_ret
      exact ⟨rfl, G4.out.trans HF.out⟩

end Go.Proofs.YtakgjihhgpnnfaaDoor
