/- The law 'UnpackHalves' returns true, by the contracts; walked. -/
import Derived.Test.YtakgjihhgpnnfaaDoorTl2
import Derived.Test.YtakgjihhgpnnfaaDoorUp
set_option linter.unusedVariables false
set_option linter.unusedSimpArgs false
namespace Go.Proofs.YtakgjihhgpnnfaaDoor
open Go.RowKit Go.Deep

theorem Ix.Ok.shorts_le' {x : Ix} (h : x.Ok) : x.shorts.length ≤ 1000 := by
  have hn2 := h.n2
  have hlen := x.lks_len x.n
  have hnn : x.n * x.n ≤ 24 * 24 := Nat.mul_le_mul hn2 hn2
  have h2 : x.shorts.length ≤ (x.lks x.n).length := by rw [Ix.shorts_filter]; exact List.length_filter_le _ _
  omega

set_option maxRecDepth 100000 in
set_option maxHeartbeats 4000000 in
theorem halves_law (n : Nat) (A1 : Option Addr) (ln1 cp1 : Nat) (ch : Nat → Chg) (num : Nat) (W : World) (hn : n ≤ 255) (hc : ChgsF W A1 ln1 ch) (b1 : ln1 ≤ 140737488351232) (hnum : (num : Int) ≤ 18446744073709551615) (hN : NoneVar W) :
    Calls Tryd.prog 4 #[.int .u8 (n : Nat), .slice A1 ln1 cp1, .int .u64 (num : Nat)] W fun e w' => e = .returned (.bool true) ∧ Fr No W w' := by
  have HC := hid hc
  have HN := hid hN
  have hmod : n % 24 < 24 := Nat.mod_lt _ (by omega)
  have hd := rank_perm (1 + n % 24) num (by omega) (by omega)
  have HD := hid hd
  have HI := hid (Classical.choose_spec hd.inv)
  obtain ⟨g, hg⟩ : ∃ g, Classical.choose hd.inv = g := ⟨_, rfl⟩
  rw [hg] at HI
  clear hc hN hg hd
  go_enter Tryd.func4, Tryd.ntmps4
  go_wp2_with fail
  refine (awake_calls W HN.out).mono ?_
  rintro e w1 ⟨rfl, hf⟩
  have G1 := hid hf
  clear hf
  go_wp2_with fail
  refine (made8_calls n A1 ln1 cp1 ch w1 hn (HC.out.fr G1.out) b1).mono ?_
  rintro e w2 ⟨Lg, b, rfl, hf, hm, hr, _, _⟩
  have hgn := ((Gr.zero (1 + n % 24) 64).steps_n ch (min ln1 150)).1
  have hgw := Gr.steps_wt (1 + n % 24) 64 ch (min ln1 150)
  obtain ⟨G, hG⟩ : ∃ G, (Gr.zero (1 + n % 24) 64).steps ch (min ln1 150) = G := ⟨_, rfl⟩
  rw [hG] at hm hr hgn hgw
  have hgn' : 1 + n % 24 = G.n := hgn.symm
  rw [hgn'] at HD HI
  have HG := hid hm
  have HRG := hid hr
  have HGW := hid hgw
  have HGO := hid hm.ok
  have G2 := hid (G1.out.trans hf)
  clear hf hm hr hG hgw hgn
  go_wp2_with fail
  refine (rank_law_calls n num w2 hn hnum).mono ?_
  rintro e w3 ⟨br, rfl, hf, _, hblk⟩
  rw [hgn'] at hblk ⊢
  have HB := hid hblk
  have HG3 := hid (HG.out.no hf)
  have HRG3 := hid (HRG.out.no hf)
  have G3 := hid (G2.out.trans hf)
  clear hf hblk HG HRG
  go_wp2_with fail
  refine (build_calls HG3.out (some ⟨br, 0, none⟩) G.n (fun i => ((rankOf G.n num i : Nat) : Int)) (fun _ => ⟨br, 0, rfl, fun j hj => by rw [Nat.zero_add]; exact HB.out.cell hj⟩) HD.out g HI.out.1 HI.out.2 (HN.out.fr G3.out (fun h => h))).mono ?_
  rintro e w4 ⟨L, rfl, hf, hx, _, _, _, _⟩
  have hw := (Ix.new_ok (show 0 < G.n by omega) HD.out HI.out.1 HI.out.2).build_whole HGW.out
  have hfit := (Ix.Fit.new G.n (fun i => ((rankOf G.n num i : Nat) : Int)) g).build G
  have hxn : ((Ix.new G.n (fun i => ((rankOf G.n num i : Nat) : Int)) g).build G).n = G.n := Ix.build_n _ _
  obtain ⟨x, hX⟩ : ∃ x, (Ix.new G.n (fun i => ((rankOf G.n num i : Nat) : Int)) g).build G = x := ⟨_, rfl⟩
  rw [hX] at hx hw hxn hfit
  have HX := hid hx
  have HW := hid hw.2
  have HFIT := hid hfit
  have HRG4 := hid (HRG3.out.no hf)
  have G4 := hid (G3.out.trans hf)
  clear hf hx hw hX hfit HRG3 HB HG3
  go_wp2_with fail
  refine (shortcuts_calls HX.out).mono ?_
  rintro e w5 ⟨As, cs, rfl, hf, hsl⟩
  have hle := HX.out.ok.shorts_le'
  have hsh : ∀ i, i < x.shorts.length → ∃ (u v j : Nat), (x.shorts.getD i Lk.zero).t = u ∧ (x.shorts.getD i Lk.zero).h = v ∧ (x.shorts.getD i Lk.zero).e = x.ent u v ∧ x.Cut u v j := fun i hi => by
    refine HW.out.short ?_
    rw [List.getD, List.getElem?_eq_getElem hi]
    exact List.getElem_mem hi
  obtain ⟨N, hNN⟩ : ∃ N, x.shorts.length = N := ⟨_, rfl⟩
  have HSL := hid hsl
  have HSH := hid hsh
  rw [hNN] at HSH hle HSL ⊢
  have HX5 := hid (HX.out.no hf)
  have HRG5 := hid (HRG4.out.no hf)
  have G5 := hid (G4.out.trans hf)
  have HNN := hid hNN
  have hn24 := HGO.out.n2
  clear hf hsl hsh hNN HX HRG4
  go_wp2
  go_loopg [12] (N + 1) (fun gk p wr => ∃ i : Nat, p = .int .i64 i ∧ i ≤ N ∧ gk = N + 1 - i ∧ Fr No w5 wr)
  case atStart => exact ⟨0, rfl, by omega, rfl, Fr.refl _ _⟩
  case round =>
    obtain ⟨i, rfl, hi, hgk, hf⟩ := hrel
    have HGK := hid hgk
    have HF := hid hf
    clear hgk hf
    by_cases hlt : i < N
    · have hlt2 : (i : Int) < N := by omega
      obtain ⟨u, v, j, e1, e2, e3, hcut⟩ := HSH.out i hlt
      have HCUT := hid hcut
      have hsl := HSL.out (by omega)
      have hh : ∃ bs os, As = some ⟨bs, os, none⟩ ∧ LkAt w5 bs (os + i * 5) (x.shorts.getD i Lk.zero) := by
        rcases hsl with ⟨e0, _⟩ | ⟨bs, os, c', _, e0, hcc⟩
        · have := HNN.out; rw [e0] at this; simp at this; omega
        · simp only [Value.slice.injEq] at e0
          exact ⟨bs, os, e0.1, hcc i (by have := HNN.out; omega)⟩
      obtain ⟨bs, os, rfl, hlk⟩ := hh
      obtain ⟨k0, k1, k2, _, k4⟩ := hlk.fr HF.out (fun h => h)
      rw [e1] at k0
      rw [e2] at k1
      rw [e3] at k2
      rw [e3, hcut.m] at k4
      obtain ⟨wt, hwt⟩ : ∃ wt, (x.ent u v).w = wt := ⟨_, rfl⟩
      rw [hwt] at k2
      by_cases hmost : 4611686018427387904 < wt
      · clear hsl hlk e1 e2 e3 k0 k1 k4 hcut hwt
        go_wp2
        go_roundg (N + 1 - (i + 1))
        case measure => have := HGK.out; omega
        case rel => exact ⟨i + 1, by go_num, by omega, rfl, HF.out⟩
      · have hmost2 : decide (4611686018427387904 < wt) = false := by simp; omega
        obtain ⟨P, hp1, hp2, hp3, hp4⟩ := HW.out.halves HX5.out.ok HGO.out HGW.out hxn.symm hcut (by omega)
        have HP1 := hid hp1
        have HP2 := hid hp2
        have kk0 : ∀ nn : Fam wr, nn.v.cell? ⟨bs, os + i * 5, none⟩ = some (.int .i64 (u : Nat)) := Fam.cell k0
        have kk1 : ∀ nn : Fam wr, nn.v.cell? ⟨bs, os + i * 5 + 1, none⟩ = some (.int .i64 (v : Nat)) := Fam.cell k1
        clear hsl hlk e1 e2 e3 hcut hwt hp1 hp2
        go_wp2_with fail
        clear k2
        refine wp_region_fam_mid 11 0 (by kernel_rfl) (by kernel_rfl) ?_
        simp only [List.take_succ_cons, List.take_zero, List.drop_succ_cons, List.drop_zero]
        repeat (go_big_quiet_step (fail))
        refine wpQuiet_nil ?_
        rintro w6 ⟨⟨w6, hf6⟩, rfl⟩
        have HF6 := hid (HF.out.trans hf6)
        have k06 := hf6.cell_some k0 (fun h => h)
        have k16 := hf6.cell_some k1 (fun h => h)
        have k46 := hf6.cell_some k4 (fun h => h)
        clear hf6 kk0 kk1 k0 k1 k4
        go_wp2_with fail
        refine (parcs_calls HFIT.out (HX5.out.no HF6.out) (u : Nat) (v : Nat)).mono ?_
        rintro e w7 ⟨sv, rfl, hf7, hs7⟩
        rw [HP1.out] at hs7 ⊢
        simp only at hs7 ⊢
        have HF7 := hid (HF6.out.trans hf7)
        have k07 := hf7.cell_some k06 (fun h => h)
        have k17 := hf7.cell_some k16 (fun h => h)
        have k47 := hf7.cell_some k46 (fun h => h)
        have HS7 := hid hs7
        clear hf7 hs7 k06 k16 k46
        go_wp2_with fail
        refine sureQ_rest ?_
        repeat (go_big_quiet_step (fail))
        refine wpQuiet_nil ?_
        rintro w8 ⟨⟨w8, hf8⟩, rfl⟩
        have HF8 := hid (HF7.out.trans hf8)
        have HS8 := hid (HS7.out.fr hf8)
        have k08 := hf8.cell_some k07 (fun h => h)
        have k18 := hf8.cell_some k17 (fun h => h)
        have k48 := hf8.cell_some k47 (fun h => h)
        have kk0 : ∀ nn : Fam w8, nn.v.cell? ⟨bs, os + i * 5, none⟩ = some (.int .i64 (u : Nat)) := Fam.cell k08
        have kk1 : ∀ nn : Fam w8, nn.v.cell? ⟨bs, os + i * 5 + 1, none⟩ = some (.int .i64 (v : Nat)) := Fam.cell k18
        have kk4 : ∀ nn : Fam w8, nn.v.cell? ⟨bs, os + i * 5 + 2 + 2, none⟩ = some (.int .i64 (x.by_ j : Nat)) := Fam.cell k48
        clear hf8 k07 k17 k47 HS7 k08 k18 k48
        go_wp2_with fail
        refine wp_region_fam_mid0 16 1 (.tmp 9) rfl rfl (by kernel_rfl) (by kernel_rfl) ?_
        simp only [List.take_succ_cons, List.take_zero, List.drop_succ_cons, List.drop_zero]
        simp only [Act.put, Act.eval, List.setIfInBounds_toArray, List.set_cons_zero, List.set_cons_succ]
        repeat (go_big_quiet_step (fail))
        refine wpQuiet_nil ?_
        rintro w9 ⟨⟨w9, hf9⟩, rfl⟩
        have HF9 := hid (HF8.out.trans hf9)
        have HS9 := hid (HS8.out.fr hf9)
        clear hf9 kk0 kk1 kk4 HS8
        go_wp2_with fail
        have fa : Fr No w9 (w9.alloc (Obj.cells #[.int .i64 (u : Nat), .int .i64 (x.by_ j : Nat), .int .i64 (v : Nat)] 3)) := (Fr.refl _ _).alloc _
        have HF10 := hid (HF9.out.trans fa)
        have HS10 := hid (HS9.out.fr fa)
        refine (pway_calls HFIT.out HX5.out.ok (HX5.out.no HF10.out) (some ⟨w9.heap.size, 0, none⟩) 3 3 (fun i => [(u : Int), ((x.by_ j : Nat) : Int), (v : Int)].getD i 0) (lit_ints 3 _ (by intro q hq; (have : q = 0 ∨ q = 1 ∨ q = 2 := by omega); rcases this with rfl | rfl | rfl <;> rfl)) (by decide)).mono ?_
        rintro e w11 ⟨sv2, rfl, hf11, hs11⟩
        rw [show (3 : Nat) - 1 = 2 from rfl, HP2.out] at hs11 ⊢
        simp only at hs11 ⊢
        have HF11 := hid (HF10.out.trans hf11)
        have HS11 := hid (HS10.out.fr hf11)
        have HT11 := hid hs11
        clear hf11 hs11 fa HS9 HS10
        go_wp2_with fail
        refine sureQ_rest ?_
        repeat (go_big_quiet_step (fail))
        refine wpQuiet_nil ?_
        rintro w12 ⟨⟨w12, hf12⟩, rfl⟩
        have HF12 := hid (HF11.out.trans hf12)
        have HS12 := hid (HS11.out.fr hf12)
        have HT12 := hid (HT11.out.fr hf12)
        clear hf12 HS11 HT11
        obtain ⟨Aa, ca, rfl, _⟩ := HS12.out.intsF
        have c0 := (HRG5.out.no HF12.out).c0
        have hp2' : ¬ (P.length : Int) < 2 := by omega
        have hp2'' : decide ((P.length : Int) < 2) = false := by simp; omega
        have hp4' : (P.length : Int) < G.n := by omega
        have hp4'' : ¬ (G.n : Int) ≤ (P.length : Int) := by omega
        clear c0
        go_wp2_with fail
        refine (ints_same HS12.out HT12.out (by omega)).mono ?_
        rintro e w13 ⟨rfl, hf13⟩
        have HF13 := hid (HF12.out.trans hf13)
        have c0 := (HRG5.out.no HF13.out).c0
        clear hf13
        go_wp2
        go_roundg (N + 1 - (i + 1))
        case measure => have := HGK.out; omega
        case rel => exact ⟨i + 1, by go_num, by omega, rfl, HF13.out⟩
    · have hlt2 : ¬ (i : Int) < N := by omega
      go_wp2
      go_ret
      exact ⟨rfl, G5.out.trans HF.out⟩

end Go.Proofs.YtakgjihhgpnnfaaDoor
