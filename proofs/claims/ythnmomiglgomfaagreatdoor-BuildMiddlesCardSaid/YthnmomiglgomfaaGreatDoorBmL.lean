/- The law 'BuildMiddles' returns true, by the contracts; walked. -/
import Derived.Test.YthnmomiglgomfaaGreatDoorAw6
import Derived.Test.YthnmomiglgomfaaGreatDoorTw1
import Derived.Test.YthnmomiglgomfaaGreatDoorG8
set_option linter.unusedVariables false
set_option linter.unusedSimpArgs false
namespace Go.Proofs.YthnmomiglgomfaaGreatDoor
open Go.RowKit Go.Deep
attribute [local go_sem high] run_field0

set_option maxRecDepth 100000 in
set_option maxHeartbeats 4000000 in
theorem middles_law (n : Nat) (A1 : Option Addr) (ln1 cp1 : Nat) (ch : Nat → Chg) (num : Nat) (W : World) (hn : n ≤ 255) (hc : ChgsF W A1 ln1 ch) (b1 : ln1 ≤ 140737488351232) (hnum : (num : Int) ≤ 18446744073709551615) (hN : NoneVar W) :
    Calls Tryz.prog 11 #[.int .u8 (n : Nat), .slice A1 ln1 cp1, .int .u64 (num : Nat)] W fun e w' => e = .returned (.bool true) ∧ Fr No W w' := by
  have HC := hid hc
  have HN := hid hN
  have hmod : n % 24 < 24 := Nat.mod_lt _ (by omega)
  have hd := rank_perm (1 + n % 24) num (by omega) (by omega)
  have HD := hid hd
  have HI := hid (Classical.choose_spec hd.inv)
  obtain ⟨g, hg⟩ : ∃ g, Classical.choose hd.inv = g := ⟨_, rfl⟩
  rw [hg] at HI
  clear hc hN hg hd
  go_enter Tryz.func11, Tryz.ntmps11
  go_wp2_with fail
  refine (awake16_calls W HN.out).mono ?_
  rintro e w1 ⟨rfl, hf⟩
  have G1 := hid hf
  clear hf
  go_wp2_with fail
  refine (made8_calls n A1 ln1 cp1 ch w1 hn (HC.out.fr G1.out) b1).mono ?_
  rintro e w2 ⟨Lg, b, rfl, hf, hm, hr, _, _⟩
  have hgn := ((Gr.zero (1 + n % 24) 64).steps_n ch (min ln1 150)).1
  have hgw := Gr.steps_wt (1 + n % 24) 64 ch (min ln1 150)
  obtain ⟨G, hG⟩ : ∃ G, (Gr.zero (1 + n % 24) 64).steps ch (min ln1 150) = G := ⟨_, rfl⟩
  rw [hG] at hm hr hgn hgw
  have hgn' : 1 + n % 24 = G.n := hgn.symm
  rw [hgn'] at HD HI
  have HG := hid hm
  have HRG := hid hr
  have HGW := hid hgw
  have G2 := hid (G1.out.trans hf)
  clear hf hm hr hG hgw hgn
  go_wp2_with fail
  refine (rank_law_calls n num w2 hn hnum).mono ?_
  rintro e w3 ⟨br, rfl, hf, _, hblk⟩
  rw [hgn'] at hblk ⊢
  have HB := hid hblk
  have HG3 := hid (HG.out.no hf)
  have HRG3 := hid (HRG.out.no hf)
  have G3 := hid (G2.out.trans hf)
  clear hf hblk HG HRG
  go_wp2_with fail
  refine (build_calls HG3.out (some ⟨br, 0, none⟩) G.n (fun i => ((rankOf G.n num i : Nat) : Int)) (fun _ => ⟨br, 0, rfl, fun j hj => by rw [Nat.zero_add]; exact HB.out.cell hj⟩) HD.out g HI.out.1 HI.out.2 (HN.out.fr G3.out (fun h => h))).mono ?_
  rintro e w4 ⟨L, rfl, hf, hx, _, _, _, _⟩
  have hw := (Ix.new_ok (show 0 < G.n by omega) HD.out HI.out.1 HI.out.2).build_whole HGW.out
  have hxn : ((Ix.new G.n (fun i => ((rankOf G.n num i : Nat) : Int)) g).build G).n = G.n := Ix.build_n _ _
  have hxr : ∀ i, ((Ix.new G.n (fun i => ((rankOf G.n num i : Nat) : Int)) g).build G).rk i = rankOf G.n num i := fun i => by rw [Ix.build_rk]; exact Int.toNat_natCast _
  obtain ⟨x, hX⟩ : ∃ x, (Ix.new G.n (fun i => ((rankOf G.n num i : Nat) : Int)) g).build G = x := ⟨_, rfl⟩
  rw [hX] at hx hw hxn hxr
  have HX := hid hx
  have HW := hid hw.2
  have HRG4 := hid (HRG3.out.no hf)
  have HB4 := hid (HB.out.fr hf (fun h => h))
  have HXR := hid hxr
  have G4 := hid (G3.out.trans hf)
  clear hf hx hw hX HRG3 HB HG3 hxr
  go_wp2_with fail
  refine (shortcuts_calls HX.out).mono ?_
  rintro e w5 ⟨As, cs, rfl, hf, hsl⟩
  have hlen := x.lks_len x.n
  have hle : x.shorts.length ≤ 1000 := by
    have hn2 := HX.out.ok.n2
    have hnn : x.n * x.n ≤ 24 * 24 := Nat.mul_le_mul hn2 hn2
    have h2 : x.shorts.length ≤ (x.lks x.n).length := by rw [Ix.shorts_filter]; exact List.length_filter_le _ _
    omega
  have hsh : ∀ i, i < x.shorts.length → ∃ (u v j : Nat), (x.shorts.getD i Lk.zero).t = u ∧ (x.shorts.getD i Lk.zero).h = v ∧ (x.shorts.getD i Lk.zero).e = x.ent u v ∧ x.Cut u v j := fun i hi => by
    refine HW.out.short ?_
    rw [List.getD, List.getElem?_eq_getElem hi]
    exact List.getElem_mem hi
  obtain ⟨N, hNN⟩ : ∃ N, x.shorts.length = N := ⟨_, rfl⟩
  have HSL := hid hsl
  have HSH := hid hsh
  rw [hNN] at HSH hle HSL ⊢
  have HX5 := hid (HX.out.no hf)
  have HRG5 := hid (HRG4.out.no hf)
  have HB5 := hid (HB4.out.fr hf (fun h => h))
  have G5 := hid (G4.out.trans hf)
  have HNN := hid hNN
  clear hf hsl hsh hNN HX HRG4 HB4 hlen
  go_wp2
  go_loopg [13] (N + 1) (fun gk p wr => ∃ i : Nat, p = .int .i64 i ∧ i ≤ N ∧ gk = N + 1 - i ∧ Fr No w5 wr)
  case atStart => exact ⟨0, rfl, by omega, rfl, Fr.refl _ _⟩
  case round =>
    obtain ⟨i, rfl, hi, hgk, hf⟩ := hrel
    have HGK := hid hgk
    have HF := hid hf
    clear hgk hf
    by_cases hlt : i < N
    · have hlt2 : (i : Int) < N := by omega
      obtain ⟨u, v, j, e1, e2, e3, hcut⟩ := HSH.out i hlt
      have HCUT := hid hcut
      have hsl := HSL.out (by omega)
      have hh : ∃ bs os, As = some ⟨bs, os, none⟩ ∧ LkAt w5 bs (os + i * 5) (x.shorts.getD i Lk.zero) := by
        rcases hsl with ⟨e0, _⟩ | ⟨bs, os, c', _, e0, hcc⟩
        · have := HNN.out; rw [e0] at this; simp at this; omega
        · simp only [Value.slice.injEq] at e0
          exact ⟨bs, os, e0.1, hcc i (by have := HNN.out; omega)⟩
      obtain ⟨bs, os, rfl, hlk⟩ := hh
      obtain ⟨k0, k1, k2, k3, k4⟩ := hlk.fr HF.out (fun h => h)
      obtain ⟨mid, hmid⟩ : ∃ m, x.by_ j = m := ⟨_, rfl⟩
      obtain ⟨sw, hsw⟩ : ∃ s, x.sum2 (u : Nat) (v : Nat) j = s := ⟨_, rfl⟩
      rw [e1] at k0
      rw [e2] at k1
      rw [e3, hcut.w, hsw] at k2
      rw [e3, hcut.a] at k3
      rw [e3, hcut.m, hmid] at k4
      have lbs := cell_lt k0
      simp only at lbs
      have HSW := hid hsw
      have HMID := hid hmid
      clear hsl hlk e1 e2 e3 hcut hsw hmid
      go_wp2_with fail
      go_region
      go_wp2_with fail
      have hju : j < x.rk u ∧ j < x.rk v := by have := HCUT.out.lo; omega
      have humid := HX5.out.ok.by_ j (by have := (HX5.out.ok.rk u HCUT.out.hu).1; omega)
      rw [HMID.out] at humid
      have fa : Fr No wr ((wr.alloc (.cells #[.int .i64 sw, .int .i64 (-1), .int .i64 (mid : Nat)] 51)).drew) := ((Fr.refl No wr).alloc _).drew
      have c0 : ((wr.alloc (.cells #[.int .i64 sw, .int .i64 (-1), .int .i64 (mid : Nat)] 51)).drew).cell? ⟨wr.heap.size, 0, none⟩ = some (.int .i64 sw) := cell_of (heap_new wr _) 0
      have c2 : ((wr.alloc (.cells #[.int .i64 sw, .int .i64 (-1), .int .i64 (mid : Nat)] 51)).drew).cell? ⟨wr.heap.size, 2, none⟩ = some (.int .i64 (mid : Nat)) := cell_of (heap_new wr _) 2
      obtain ⟨W6, hW6⟩ : ∃ W6, (wr.alloc (.cells #[.int .i64 sw, .int .i64 (-1), .int .i64 (mid : Nat)] 51)).drew = W6 := ⟨_, rfl⟩
      rw [hW6] at fa c0 c2 ⊢
      have F6 := hid (HF.out.trans fa)
      have HX6 := hid (HX5.out.no F6.out)
      have HRG6 := hid (HRG5.out.no F6.out)
      have HB6 := hid (HB5.out.fr F6.out (fun h => h))
      have cu := HB6.out.cell (i := u) (by have := HCUT.out.hu; omega)
      have cv := HB6.out.cell (i := v) (by have := HCUT.out.hv; omega)
      have cm := HB6.out.cell (i := mid) (by omega)
      rw [← HXR.out u] at cu
      rw [← HXR.out v] at cv
      rw [← HXR.out mid, humid.2] at cm
      obtain ⟨ru, hru⟩ : ∃ r, x.rk u = r := ⟨_, rfl⟩
      obtain ⟨rv, hrv⟩ : ∃ r, x.rk v = r := ⟨_, rfl⟩
      rw [hru] at cu hju
      rw [hrv] at cv hju
      obtain ⟨A16, hA16⟩ : ∃ A, wr.heap.size = A := ⟨_, rfl⟩
      rw [hA16] at c0 c2 ⊢
      have lA : A16 < W6.heap.size := cell_lt c0
      have lB : br < W6.heap.size := HB6.out.lt
      clear hA16 hW6 fa k0 k1 k2 k3 k4 lbs HF
      have hu' := HCUT.out.hu
      have hv' := HCUT.out.hv
      have hmd : mid < G.n := by omega
      have hu2 : (u : Int) < G.n := by omega
      have hv2 : (v : Int) < G.n := by omega
      have hm2 : (mid : Int) < G.n := by omega
      have d1 : decide ((0 : Int) ≤ (u : Nat) ∧ ((u : Nat) : Int) < G.n) = true := by simp; omega
      have d2 : decide ((0 : Int) ≤ (v : Nat) ∧ ((v : Nat) : Int) < G.n) = true := by simp; omega
      have d3 : decide ((0 : Int) ≤ (mid : Nat) ∧ ((mid : Nat) : Int) < G.n) = true := by simp; omega
      have hv1 : ∀ nn : Fam W6, Calls Tryz.prog 24 #[.pointer (some ⟨b, 0, none⟩), .int .i64 (u : Nat)] nn.v fun e w' => e = .returned (.bool true) ∧ Fr No nn.v w' := fun nn => (rgvertex_calls (HRG6.out.no nn.h) (u : Nat)).mono fun e w' ⟨h1, h2⟩ => ⟨by rw [h1, d1], by rw [← h2]; exact Fr.refl _ _⟩
      have hv2' : ∀ nn : Fam W6, Calls Tryz.prog 24 #[.pointer (some ⟨b, 0, none⟩), .int .i64 (v : Nat)] nn.v fun e w' => e = .returned (.bool true) ∧ Fr No nn.v w' := fun nn => (rgvertex_calls (HRG6.out.no nn.h) (v : Nat)).mono fun e w' ⟨h1, h2⟩ => ⟨by rw [h1, d2], by rw [← h2]; exact Fr.refl _ _⟩
      have hv3 : ∀ nn : Fam W6, Calls Tryz.prog 24 #[.pointer (some ⟨b, 0, none⟩), .int .i64 (mid : Nat)] nn.v fun e w' => e = .returned (.bool true) ∧ Fr No nn.v w' := fun nn => (rgvertex_calls (HRG6.out.no nn.h) (mid : Nat)).mono fun e w' ⟨h1, h2⟩ => ⟨by rw [h1, d3], by rw [← h2]; exact Fr.refl _ _⟩
      have hs2 := HX6.out.ok.sum2_tw (u : Nat) (v : Nat) j
      rw [HSW.out, HMID.out] at hs2
      have hpb := HX6.out.ok.at_b (u : Nat) (mid : Nat)
      have hqb := HX6.out.ok.at_b (mid : Nat) (v : Nat)
      obtain ⟨⟨p0, p1, p2⟩, hp⟩ : ∃ y, x.at_ (u : Nat) (mid : Nat) = y := ⟨_, rfl⟩
      obtain ⟨⟨q0, q1, q2⟩, hq⟩ : ∃ y, x.at_ (mid : Nat) (v : Nat) = y := ⟨_, rfl⟩
      rw [hp, hq] at hs2
      rw [hp] at hpb
      rw [hq] at hqb
      simp only at hs2 hpb hqb
      have ha1 : ∀ nn : Fam W6, Calls Tryz.prog 22 #[.pointer (some ⟨L.b, 0, none⟩), .int .i64 (u : Nat), .int .i64 (mid : Nat)] nn.v fun e w' => e = .returned (.agg #[.int .i64 p0, .int .i64 p1, .int .i64 p2]) ∧ Fr No nn.v w' := fun nn => by
        have := at_calls (HX6.out.no nn.h) (u : Nat) (mid : Nat)
        rw [hp] at this
        exact this
      have ha2 : ∀ nn : Fam W6, Calls Tryz.prog 22 #[.pointer (some ⟨L.b, 0, none⟩), .int .i64 (mid : Nat), .int .i64 (v : Nat)] nn.v fun e w' => e = .returned (.agg #[.int .i64 q0, .int .i64 q1, .int .i64 q2]) ∧ Fr No nn.v w' := fun nn => by
        have := at_calls (HX6.out.no nn.h) (mid : Nat) (v : Nat)
        rw [hq] at this
        exact this
      have ht : ∀ nn : Fam W6, Calls Tryz.prog 28 #[.int .i64 p0, .int .i64 q0] nn.v fun e w' => e = .returned (.int .i64 sw) ∧ Fr No nn.v w' := fun nn => by
        have := tw_calls (a := p0) (b := q0) ⟨by omega, hpb.2⟩ ⟨by omega, hqb.2⟩ nn.v
        rw [← hs2] at this
        exact this
      have kkc0 : ∀ nn : Fam W6, nn.v.cell? ⟨A16, 0, none⟩ = some (.int .i64 sw) := Fam.cell c0
      have kkc2 : ∀ nn : Fam W6, nn.v.cell? ⟨A16, 2, none⟩ = some (.int .i64 (mid : Nat)) := Fam.cell c2
      have kku : ∀ nn : Fam W6, nn.v.cell? ⟨br, u, none⟩ = some (.int .i64 (ru : Nat)) := Fam.cell cu
      have kkv : ∀ nn : Fam W6, nn.v.cell? ⟨br, v, none⟩ = some (.int .i64 (rv : Nat)) := Fam.cell cv
      have kkm : ∀ nn : Fam W6, nn.v.cell? ⟨br, mid, none⟩ = some (.int .i64 (j : Nat)) := Fam.cell cm
      have gu : decide ((ru : Int) ≤ (j : Int)) = false := by simp; omega
      have gv : decide ((rv : Int) ≤ (j : Int)) = false := by simp; omega
      have gs : (sw != sw) = false := by simp
      have gu2 : decide (ru ≤ j) = false := by simp; omega
      have gv2 : decide (rv ≤ j) = false := by simp; omega
      have HRU := hid hru
      have HRV := hid hrv
      have HJU := hid hju
      have HUM := hid humid
      clear hp hq hs2 hpb hqb hru hrv hju humid d1 d2 d3
      refine wp_region_fam (by kernel_rfl) (by kernel_rfl) ?_
      iterate 3 (go_big_quiet_step (exact Calls.fam (hv1 _)))
      iterate 5 (go_big_quiet_step (exact Calls.fam (hv2' _)))
      iterate 7 (go_big_quiet_step (exact Calls.fam (hv3 _)))
      iterate 32 (go_big_quiet_step (exact Calls.fam (ha1 _)))
      iterate 6 (go_big_quiet_step (exact Calls.fam (ha2 _)))
      repeat (go_big_quiet_step (exact Calls.fam (ht _)))
      refine wpQuiet_nil ?_
      rintro w7 ⟨⟨w7, hf7⟩, rfl⟩
      have F7 := hid (F6.out.trans hf7)
      have b0 := hf7.cell_some c0 (fun h => h)
      have b2 := hf7.cell_some c2 (fun h => h)
      have bm := hf7.cell_some cm (fun h => h)
      clear hf7 kkc0 kkc2 kku kkv kkm hv1 hv2' hv3 ha1 ha2 ht c0 c2 cu cv cm HX6 HRG6 HB6 F6 gu gv gs gu2 gv2
      go_wp2
      go_loopg [17] (G.n + 1) (fun gk p wr => ∃ k : Nat, p = .int .i64 k ∧ k ≤ G.n ∧ gk = G.n + 1 - k ∧ Fr No w7 wr)
      case atStart => exact ⟨0, rfl, by omega, rfl, Fr.refl _ _⟩
      case round =>
        obtain ⟨k, rfl, hk, hgk2, hf⟩ := hrel
        have HGK2 := hid hgk2
        have HF8 := hid (F7.out.trans hf)
        have HF7 := hid hf
        have cn := (HRG5.out.no HF8.out).c0
        have e0 := hf.cell_some b0 (fun h => h)
        have e2 := hf.cell_some b2 (fun h => h)
        have em := hf.cell_some bm (fun h => h)
        clear hgk2 hf
        by_cases hkn : k < G.n
        · have hkn2 : (k : Int) < G.n := by omega
          have ck := (HB5.out.fr HF8.out (fun h => h)).cell hkn
          rw [← HXR.out k] at ck
          obtain ⟨rk, hrk⟩ : ∃ r, x.rk k = r := ⟨_, rfl⟩
          rw [hrk] at ck
          have HRK := hid hrk
          clear hrk
          go_wp2_with fail
          have kkc0 : ∀ nn : Fam wr, nn.v.cell? ⟨A16, 0, none⟩ = some (.int .i64 sw) := Fam.cell e0
          have kkc2 : ∀ nn : Fam wr, nn.v.cell? ⟨A16, 2, none⟩ = some (.int .i64 (mid : Nat)) := Fam.cell e2
          have kkk : ∀ nn : Fam wr, nn.v.cell? ⟨br, k, none⟩ = some (.int .i64 (rk : Nat)) := Fam.cell ck
          have kkm : ∀ nn : Fam wr, nn.v.cell? ⟨br, mid, none⟩ = some (.int .i64 (j : Nat)) := Fam.cell em
          clear cn e0 e2 em ck
          by_cases hrj : rk < j
          · have g1 : decide ((rk : Int) < (j : Int)) = true := by simp; exact hrj
            have g1n : decide (rk < j) = true := by simp; exact hrj
            have HX8 := hid (HX5.out.no HF8.out)
            have hbk : x.by_ rk = k := by rw [← HRK.out]; exact (HX5.out.ok.rk k (by omega)).2
            have hlt' := HCUT.out.fst rk hrj
            rw [HSW.out] at hlt'
            have hs2 := HX8.out.ok.sum2_tw (u : Nat) (v : Nat) rk
            rw [hbk] at hs2
            rw [hs2] at hlt'
            have hpb := HX8.out.ok.at_b (u : Nat) (k : Nat)
            have hqb := HX8.out.ok.at_b (k : Nat) (v : Nat)
            obtain ⟨⟨p0, p1, p2⟩, hp⟩ : ∃ y, x.at_ (u : Nat) (k : Nat) = y := ⟨_, rfl⟩
            obtain ⟨⟨q0, q1, q2⟩, hq⟩ : ∃ y, x.at_ (k : Nat) (v : Nat) = y := ⟨_, rfl⟩
            rw [hp, hq] at hlt'
            rw [hp] at hpb
            rw [hq] at hqb
            simp only at hlt' hpb hqb
            have ha1 : ∀ nn : Fam wr, Calls Tryz.prog 22 #[.pointer (some ⟨L.b, 0, none⟩), .int .i64 (u : Nat), .int .i64 (k : Nat)] nn.v fun e w' => e = .returned (.agg #[.int .i64 p0, .int .i64 p1, .int .i64 p2]) ∧ Fr No nn.v w' := fun nn => by
              have := at_calls (HX8.out.no nn.h) (u : Nat) (k : Nat)
              rw [hp] at this
              exact this
            have ha2 : ∀ nn : Fam wr, Calls Tryz.prog 22 #[.pointer (some ⟨L.b, 0, none⟩), .int .i64 (k : Nat), .int .i64 (v : Nat)] nn.v fun e w' => e = .returned (.agg #[.int .i64 q0, .int .i64 q1, .int .i64 q2]) ∧ Fr No nn.v w' := fun nn => by
              have := at_calls (HX8.out.no nn.h) (k : Nat) (v : Nat)
              rw [hq] at this
              exact this
            obtain ⟨sk, hsk⟩ : ∃ s, tw p0 q0 = s := ⟨_, rfl⟩
            have ht : ∀ nn : Fam wr, Calls Tryz.prog 28 #[.int .i64 p0, .int .i64 q0] nn.v fun e w' => e = .returned (.int .i64 sk) ∧ Fr No nn.v w' := fun nn => by
              have := tw_calls (a := p0) (b := q0) ⟨by omega, hpb.2⟩ ⟨by omega, hqb.2⟩ nn.v
              rw [hsk] at this
              exact this
            rw [hsk] at hlt'
            have g2 : decide (sk ≤ sw) = false := by simp; omega
            clear hp hq hs2 hpb hqb hsk hbk
            refine wp_region_fam (by kernel_rfl) (by kernel_rfl) ?_
            iterate 15 (go_big_quiet_step (exact Calls.fam (ha1 _)))
            iterate 5 (go_big_quiet_step (exact Calls.fam (ha2 _)))
            repeat (go_big_quiet_step (exact Calls.fam (ht _)))
            refine wpQuiet_nil ?_
            rintro w9 ⟨⟨w9, hf9⟩, rfl⟩
            have F9 := hid (HF7.out.trans hf9)
            clear hf9 kkc0 kkc2 kkk kkm ha1 ha2 ht
            go_wp2
            go_roundg (G.n + 1 - (k + 1))
            case measure => have := HGK2.out; omega
            case rel => exact ⟨k + 1, by go_num, by omega, rfl, F9.out⟩
          · have g1 : decide ((rk : Int) < (j : Int)) = false := by simp; omega
            have g1n : decide (rk < j) = false := by simp; omega
            refine wp_region_fam (by kernel_rfl) (by kernel_rfl) ?_
            repeat (go_big_quiet_step (fail))
            refine wpQuiet_nil ?_
            rintro w9 ⟨⟨w9, hf9⟩, rfl⟩
            have F9 := hid (HF7.out.trans hf9)
            clear hf9 kkc0 kkc2 kkk kkm
            go_wp2
            go_roundg (G.n + 1 - (k + 1))
            case measure => have := HGK2.out; omega
            case rel => exact ⟨k + 1, by go_num, by omega, rfl, F9.out⟩
        · obtain rfl : k = G.n := by omega
          go_wp2
          go_roundg (N + 1 - (i + 1))
          case measure => have := HGK.out; omega
          case rel => exact ⟨i + 1, by go_num, by omega, rfl, HF8.out⟩
    · have hlt2 : ¬ (i : Int) < N := by omega
      go_wp2
      go_ret
      exact ⟨rfl, G5.out.trans HF.out⟩

end Go.Proofs.YthnmomiglgomfaaGreatDoor
