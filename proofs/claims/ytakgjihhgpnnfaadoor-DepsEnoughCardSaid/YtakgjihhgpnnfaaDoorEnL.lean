/- The law 'DepsEnough' returns true, by the contracts; walked. -/
import Derived.Test.YtakgjihhgpnnfaaDoorBW
import Derived.Test.YtakgjihhgpnnfaaDoorWh
import Derived.Test.YtakgjihhgpnnfaaDoorDMov
import Derived.Test.YtakgjihhgpnnfaaDoorAwk17
set_option linter.unusedVariables false
set_option linter.unusedSimpArgs false
namespace Go.Proofs.YtakgjihhgpnnfaaDoor
open Go.RowKit Go.Deep
attribute [local go_sem high] run_eql_en run_neq_en

set_option maxRecDepth 100000 in
set_option maxHeartbeats 8000000 in
theorem enough_law (n num : Nat) (A2 : Option Addr) (ln2 cp2 : Nat) (ch : Nat → Chg) (v : Nat) (A4 : Option Addr) (ln4 cp4 : Nat) (lk : Nat → Lk) (W : World) (hn : n ≤ 255) (hnum : (num : Int) ≤ 18446744073709551615) (hc : ChgsF W A2 ln2 ch) (b2 : ln2 ≤ 140737488351232) (hv : v ≤ 255) (hl : LinksF W A4 ln4 lk) (b4 : ln4 ≤ 140737488351232) (hN : NoneVar W) :
    Calls Tryd.prog 6 #[.int .u8 (n : Nat), .int .u64 (num : Nat), .slice A2 ln2 cp2, .int .u8 (v : Nat), .slice A4 ln4 cp4] W fun e w' => e = .returned (.bool true) ∧ Fr No W w' := by
  have hd1 : Tryd.prog.underlying 61 = some _ := Tryd.underlying61
  have hi1 : (Tryd.prog.info? 61).map (·.size) = some 144 := by kernel_rfl
  have HC := hid hc
  have HL := hid hl
  have HN := hid hN
  have hmod : n % 24 < 24 := Nat.mod_lt _ (by omega)
  have hd := rank_perm (1 + n % 24) num (by omega) (by omega)
  have HD := hid hd
  have HI := hid (Classical.choose_spec hd.inv)
  obtain ⟨g, hg⟩ : ∃ g, Classical.choose hd.inv = g := ⟨_, rfl⟩
  rw [hg] at HI
  clear hc hN hg hd hl
  go_enter Tryd.func6, Tryd.ntmps6
  go_wp2_with fail
  refine (awake17_calls W HN.out).mono ?_
  rintro e w1 ⟨rfl, hf⟩
  have G1 := hid hf
  clear hf
  go_wp2_with fail
  refine (made8_calls n A2 ln2 cp2 ch w1 hn (HC.out.fr G1.out) b2).mono ?_
  rintro e w2 ⟨Lg, b, rfl, hf, hm, hr, hbge, hoge⟩
  have hgn := ((Gr.zero (1 + n % 24) 64).steps_n ch (min ln2 150)).1
  have hgw := Gr.steps_wt (1 + n % 24) 64 ch (min ln2 150)
  obtain ⟨G, hG⟩ : ∃ G, (Gr.zero (1 + n % 24) 64).steps ch (min ln2 150) = G := ⟨_, rfl⟩
  rw [hG] at hm hr hgn hgw
  have hgn' : 1 + n % 24 = G.n := hgn.symm
  rw [hgn'] at HD HI
  have HG := hid hm
  have HRG := hid hr
  have HGW := hid hgw
  have G2 := hid (G1.out.trans hf)
  clear hf hm hr hG hgw hgn
  go_wp2_with fail
  refine (rank_law_calls n num w2 hn hnum).mono ?_
  rintro e w3 ⟨br, rfl, hf, hbr, hblk⟩
  rw [hgn'] at hblk ⊢
  have HB := hid hblk
  have HG3 := hid (HG.out.no hf)
  have HRG3 := hid (HRG.out.no hf)
  have G3 := hid (G2.out.trans hf)
  clear hf hblk HG HRG
  go_wp2_with fail
  refine (build_calls HG3.out (some ⟨br, 0, none⟩) G.n (fun i => ((rankOf G.n num i : Nat) : Int)) (fun _ => ⟨br, 0, rfl, fun j hj => by rw [Nat.zero_add]; exact HB.out.cell hj⟩) HD.out g HI.out.1 HI.out.2 (HN.out.fr G3.out (fun h => h))).mono ?_
  rintro e w4 ⟨L, rfl, hf, hx, hL1, hL2, hL3, hcb⟩
  have hw := (Ix.new_ok (show 0 < G.n by omega) HD.out HI.out.1 HI.out.2).build_whole HGW.out
  have hxn : ((Ix.new G.n (fun i => ((rankOf G.n num i : Nat) : Int)) g).build G).n = G.n := Ix.build_n _ _
  have hrk : ∀ i, (rankOf G.n num i : Nat) = ((Ix.new G.n (fun i => ((rankOf G.n num i : Nat) : Int)) g).build G).rk i := fun i => by rw [Ix.build_rk]; show _ = ((rankOf G.n num i : Nat) : Int).toNat; omega
  obtain ⟨X, hX⟩ : ∃ X, (Ix.new G.n (fun i => ((rankOf G.n num i : Nat) : Int)) g).build G = X := ⟨_, rfl⟩
  rw [hX] at hx hw hxn hrk
  have HX := hid hx
  have HW := hid hw.2
  have HRG4 := hid (HRG3.out.no hf)
  have HG4 := hid (HG3.out.no hf)
  have HB4 := hid (show Blk w4 br G.n 3 (fun i => .int .i64 (X.rk i : Nat)) from (HB.out.fr hf (fun h => h)).congr (fun i _ => by rw [hrk i]))
  have G4 := hid (G3.out.trans hf)
  have hs3 := G3.out.size
  have hbL : br < L.b := by have := HB.out.lt; omega
  have hcap : X.n ≤ L.cb := by rw [hxn, hcb]; exact Nat.le_refl _
  have hown : ∀ j, Lg.own G.n j → j < L.b := fun j hj => by have := HG3.out.own_lt hj; omega
  have hbbL : b < L.b := by have := Blk.lt HRG3.out; omega
  have HOWN := hid hown
  have HRK := hid hrk
  have hLW : W.heap.size ≤ L.b := by omega
  obtain ⟨lo, hlo⟩ : ∃ lo, v % G.n = lo := ⟨_, rfl⟩
  have hloI : ((v : Int) % (G.n : Int)) = ((lo : Nat) : Int) := by rw [← hlo]; rfl
  have hlon : lo < G.n := by rw [← hlo]; exact Nat.mod_lt _ (by omega)
  have hg0 : (G.n : Int) ≠ 0 := by omega
  have hn24 := HG3.out.ok.n2
  have HLO := hid hloI
  have c0 := HRG4.out.c0
  have hnzb := HX.out.hr.2
  have hnzb2 := HX.out.hb.2
  clear hf hx hw hX HRG3 HB HG3 hrk hlo hcb hown hloI
  go_wp2_with fail
  rw [HLO.out]
  refine (star_calls HX.out (lo : Nat)).mono ?_
  rintro e w5 ⟨rfl, hf⟩
  have HX5 := hid (HX.out.no hf)
  have HRG5 := hid (HRG4.out.no hf)
  have HG5 := hid (HG4.out.no hf)
  have HB5 := hid (HB4.out.fr hf (fun h => h))
  have G5 := hid (G4.out.trans hf)
  clear hf c0
  have wfC : Wf (starC (X.star (lo : Nat) false) (X.star (lo : Nat) true)) := HX.out.ok.starWf (lo : Nat)
  have WFC := hid wfC
  obtain ⟨C, hC⟩ : ∃ C, starC (X.star (lo : Nat) false) (X.star (lo : Nat) true) = C := ⟨_, rfl⟩
  rw [hC] at WFC ⊢
  have HCC := hid hC
  have hs1 := (StarAt.new1 w5).set C
  have ht1 := (StarAt.new1 w5).there
  have ho1 := cellsR_one 144 C
  have hl1 := cellsR_len 144 C
  have f1 : Fr No w5 ((w5.alloc (.cells Tryd.zeroCells61 61)).setCells w5.heap.size 0 (cellsR 144 C)) := Fr.setCellsL (.inr (Nat.le_refl _)) _ _ _ ((Fr.refl _ _).alloc _)
  unfold starV
  obtain ⟨Z, hZ⟩ : ∃ Z, cellsR 144 C = Z := ⟨_, rfl⟩
  rw [hZ] at hs1 ho1 hl1 f1 ⊢
  have HZ := hid hZ
  have HS1 := hid hs1
  have HX7 := hid (HX5.out.no f1)
  have HRG7 := hid (HRG5.out.no f1)
  have HG7 := hid (HG5.out.no f1)
  have HB7 := hid (HB5.out.fr f1 (fun h => h))
  have G7 := hid (G5.out.trans f1)
  clear hZ hs1 f1 hC wfC HX HRG4 HG4 HB4
  go_wp2_with (refine wpList_store_mid rfl 61 (.tmp 17) (.tmp 52) rfl w5.heap.size 0 Z.toArray rfl rfl (by simpa [hl1] using ht1) (by rw [hi1]; simp [hl1]) ho1 ?_; simp only [List.toList_toArray])
  have hB7 : L.b < w5.heap.size := HX5.out.lt
  have hB7' : L.br < w5.heap.size ∧ L.bb < w5.heap.size := ⟨HX5.out.hr.1, HX5.out.hb.1⟩
  have hgnn : 0 < W.heap.size := HN.out.lt
  have hs5 := G5.out.size
  clear HX5 HRG5 HG5 HB5 G5
  generalize ((w5.alloc (.cells Tryd.zeroCells61 61)).setCells w5.heap.size 0 Z) = W7 at HS1 HX7 HRG7 HG7 HB7 G7 ⊢
  generalize w5.heap.size = B at *
  clear ht1 ho1 hl1
  go_loopg [18] (ln4 + 1) (fun gk p wr => ∃ k : Nat, p = .int .i64 k ∧ k ≤ ln4 ∧ k ≤ 100 ∧ gk = ln4 + 1 - k ∧ IxMem wr L (X.setsAt (lo : Nat) lk k) ∧ Fr (One L.b) W7 wr)
  case atStart => exact ⟨0, rfl, by omega, by omega, rfl, HX7.out, Fr.refl _ _⟩
  case round =>
    obtain ⟨k, rfl, hk, hk3, hgk, hx, hf⟩ := hrel
    have HGK := hid hgk
    have HY := hid hx
    have HF := hid hf
    have GW := hid (G7.out.trans' hf (fun i hi (h : i = L.b) => by omega))
    clear hgk hx hf
    by_cases hlt : k < ln4 ∧ k < 100
    · obtain ⟨hlt, hlt3⟩ := hlt
      have hlt2 : (k : Int) < ln4 := by omega
      have hlt4 : (k : Int) < 100 := by omega
      obtain ⟨bl, ol, rfl, hcl⟩ := HL.out (by omega)
      obtain ⟨c0, c1, c2, c3, c4⟩ := (hcl k hlt).fr GW.out (fun h => h)
      have hst : X.setsAt (lo : Nat) lk (k + 1) = if (X.setsAt (lo : Nat) lk k).low (lk k).t (lk k).h = (lo : Nat) then (X.setsAt (lo : Nat) lk k).setI (lk k).t (lk k).h (lk k).e else X.setsAt (lo : Nat) lk k := rfl
      obtain ⟨Y, hYY⟩ : ∃ Y, X.setsAt (lo : Nat) lk k = Y := ⟨_, rfl⟩
      obtain ⟨⟨t, h, ⟨e0, e1, e2⟩⟩, hlk⟩ : ∃ q, lk k = q := ⟨_, rfl⟩
      rw [hYY, hlk] at hst
      rw [hYY] at HY
      rw [hlk] at c0 c1 c2 c3 c4
      simp only at c0 c1 c2 c3 c4 hst
      obtain ⟨z, hz⟩ : ∃ z, Y.low t h = z := ⟨_, rfl⟩
      rw [hz] at hst
      have HST := hid hst
      have hlow : ∀ nn : Fam wr, Calls Tryd.prog 24 #[.pointer (some ⟨L.b, 0, none⟩), .int .i64 t, .int .i64 h] nn.v fun e w' => e = .returned (.int .i64 z) ∧ Fr No nn.v w' := fun nn => (low_calls (HY.out.no nn.h) t h).mono fun e w' ⟨q1, k', q2⟩ => ⟨by rw [q1, hz], by rw [q2]; exact Fr.of_drewN k'⟩
      have kk0 : ∀ nn : Fam wr, nn.v.cell? ⟨bl, ol + k * 5, none⟩ = some (.int .i64 t) := Fam.cell c0
      have kk1 : ∀ nn : Fam wr, nn.v.cell? ⟨bl, ol + k * 5 + 1, none⟩ = some (.int .i64 h) := Fam.cell c1
      clear hcl hst hYY hlk
      by_cases hzl : z = lo
      · subst hzl
        have hs := HST.out
        rw [if_pos rfl] at hs
        have HSS := hid hs
        clear hs HST
        go_wp2_with fail
        refine wp_region_fam (by kernel_rfl) (by kernel_rfl) ?_
        repeat (go_big_quiet_step (exact Calls.fam (hlow _)))
        refine wpQuiet_nil ?_
        rintro w8 ⟨⟨w8, hf8⟩, rfl⟩
        have HF8 := hid hf8
        have q0 := hf8.cell_some c0 (fun h => h)
        have q1 := hf8.cell_some c1 (fun h => h)
        have q2 := hf8.cell_some c2 (fun h => h)
        have q3 := hf8.cell_some c3 (fun h => h)
        have q4 := hf8.cell_some c4 (fun h => h)
        have rr0 : ∀ nn : Fam w8, nn.v.cell? ⟨bl, ol + k * 5, none⟩ = some (.int .i64 t) := Fam.cell q0
        have rr1 : ∀ nn : Fam w8, nn.v.cell? ⟨bl, ol + k * 5 + 1, none⟩ = some (.int .i64 h) := Fam.cell q1
        have rr2 : ∀ nn : Fam w8, nn.v.cell? ⟨bl, ol + k * 5 + 2, none⟩ = some (.int .i64 e0) := Fam.cell q2
        have rr3 : ∀ nn : Fam w8, nn.v.cell? ⟨bl, ol + k * 5 + 2 + 1, none⟩ = some (.int .i64 e1) := Fam.cell q3
        have rr4 : ∀ nn : Fam w8, nn.v.cell? ⟨bl, ol + k * 5 + 2 + 2, none⟩ = some (.int .i64 e2) := Fam.cell q4
        clear hf8 kk0 kk1 c0 c1 c2 c3 c4 hlow q0 q1 q2 q3 q4
        go_wp2_with fail
        refine wp_region_fam_tail 16 (by kernel_rfl) (by kernel_rfl) ?_
        simp only [List.take_succ_cons, List.take_zero, List.drop_succ_cons, List.drop_zero]
        repeat (go_big_quiet_step (fail))
        refine wpQuiet_nil ?_
        rintro w9 ⟨⟨w9, hf9⟩, rfl⟩
        have HF9 := hid (HF8.out.trans hf9)
        clear hf9 rr0 rr1 rr2 rr3 rr4
        go_wp2_with fail
        refine (set_calls (HY.out.no HF9.out) t h ⟨e0, e1, e2⟩).mono ?_
        rintro e w10 ⟨rfl, hm10, hf10⟩
        have HM10 := hid hm10
        have HF10 := hid hf10
        clear hm10 hf10
        go_wp2
        go_roundg (ln4 + 1 - (k + 1))
        case measure => have := HGK.out; omega
        case rel => exact ⟨k + 1, by go_num, by omega, by omega, rfl, by rw [HSS.out]; exact HM10.out, HF.out.trans ((HF9.out.no (F := One L.b)).trans HF10.out)⟩
      · have hs := HST.out
        rw [if_neg hzl] at hs
        have HSS := hid hs
        have hzb : (z == (lo : Int)) = false := by simpa using hzl
        clear hs HST
        go_wp2_with fail
        refine wp_region_fam (by kernel_rfl) (by kernel_rfl) ?_
        repeat (go_big_quiet_step (exact Calls.fam (hlow _)))
        refine wpQuiet_nil ?_
        rintro w8 ⟨⟨w8, hf8⟩, rfl⟩
        have HF8 := hid hf8
        clear hf8 kk0 kk1 c0 c1 c2 c3 c4 hlow
        go_wp2
        go_roundg (ln4 + 1 - (k + 1))
        case measure => have := HGK.out; omega
        case rel => exact ⟨k + 1, by go_num, by omega, by omega, rfl, by rw [HSS.out]; exact HY.out.no HF8.out, HF.out.trans (HF8.out.no (F := One L.b))⟩
    · have hsh := X.setsAt_shape (lo : Nat) lk k
      have hkp := fun a b => X.setsAt_keep (lo : Nat) lk a b
      obtain ⟨Y, hYY⟩ : ∃ Y, X.setsAt (lo : Nat) lk k = Y := ⟨_, rfl⟩
      have hkeep : ∀ a b : Nat, X.low (a : Nat) (b : Nat) ≠ (lo : Nat) → Y.at_ (a : Nat) (b : Nat) = X.at_ (a : Nat) (b : Nat) := fun a b h => by rw [← hYY]; exact hkp a b h k
      rw [hYY] at HY hsh
      have HSH := hid hsh
      have HKP := hid hkeep
      have hF7 : ∀ j, j ≠ L.b → ¬ One L.b j := fun j h1 h2 => h1 h2
      have HGr := hid (HG7.out.fr HF.out (fun j hj => hF7 j (by have := HOWN.out j hj; omega)))
      have HRGr := hid (HRG7.out.fr HF.out (hF7 b (by omega)))
      have HBr := hid (HB7.out.fr HF.out (hF7 br (by omega)))
      have HSr := hid (HS1.out.fr HF.out (hF7 B (by omega)))
      have hYcap : Y.n ≤ L.cb := by rw [hsh.1]; exact hcap
      obtain ⟨D, hD⟩ : ∃ D, starC (Y.star (lo : Nat) false) (Y.star (lo : Nat) true) = D := ⟨_, rfl⟩
      have wfD : Wf D := by rw [← hD]; exact HY.out.ok.starWf (lo : Nat)
      obtain ⟨s, hs⟩ := exists_setOf _ (HY.out.ok.mv_lt (lo : Nat) C D)
      obtain ⟨Q, hQ⟩ : ∃ Q, (cellsR 144 D).toArray = Q := ⟨_, rfl⟩
      have hof : ∀ nn : Fam wr, Calls Tryd.prog 23 #[.pointer (some ⟨L.b, 0, none⟩), .int .i64 (lo : Nat)] nn.v fun e w' => e = .returned (.agg Q) ∧ Fr No nn.v w' := fun nn => by
        rw [← hQ, ← hD]; exact star_calls (HY.out.no nn.h) (lo : Nat)
      have hmv : ∀ nn : Fam wr, Calls Tryd.prog 26 #[.pointer (some ⟨L.b, 0, none⟩), .int .i64 (lo : Nat), .agg Z.toArray, .agg Q] nn.v fun e w' => e = .returned (.int .u64 (s : Nat)) ∧ Fr No nn.v w' := fun nn => by
        rw [← hQ, ← HZ.out]; exact moves_canon (HY.out.no nn.h) (lo : Nat) C D WFC.out wfD hs
      have hld : ∀ nn : Fam wr, (Instr.loadAt 61 (.pointer (some ⟨B, 0, none⟩))).run Tryd.prog nn.v = .ok (.agg Z.toArray) nn.v := fun nn => by
        rw [← HZ.out]; exact run_loadAt_mid nn.v B 0 61 _ _ (HSr.out.fr nn.h (fun h => h)).range hd1 rfl (by rw [hi1, cellsR_len])
      have HSS := hid hs
      have HDD := hid hD
      have hend : decide ((k : Int) < ln4) = false ∨ ((k : Int) < ln4 ∧ decide ((k : Int) < 100) = false) := by
        by_cases h1 : k < ln4
        · exact .inr ⟨by omega, by simp; omega⟩
        · exact .inl (by simp; omega)
      clear hsh hkp hYY hkeep hQ hs hD hlt
      rcases hend with hend | ⟨hend0, hend⟩
      · have hend2 : ¬ (k : Int) < ln4 := by simpa using hend
        go_wp2_with fail
        refine wp_region_fam (by kernel_rfl) (by kernel_rfl) ?_
        iterate 2 (go_big_quiet_step (fail))
        go_big_quiet_want
        refine quiet_load 61 (.tmp 17) rfl (.pointer (some ⟨B, 0, none⟩)) (.agg Z.toArray) rfl (by rintro w' ⟨n, rfl⟩; exact hld n) ?_
        simp only [Act.put, List.setIfInBounds_toArray, List.set_cons_zero, List.set_cons_succ]
        go_big_quiet_on
        clear hld
        repeat (go_big_quiet_step (first | exact Calls.fam (hof _) | exact Calls.fam (hmv _)))
        refine wpQuiet_nil ?_
        rintro w8 ⟨⟨w8, hf8⟩, rfl⟩
        have HY8 := hid (HY.out.no hf8)
        have HG8 := hid (HGr.out.no hf8)
        have HRG8 := hid (HRGr.out.no hf8)
        have HB8 := hid (HBr.out.fr hf8 (fun h => h))
        have GW8 := hid (GW.out.trans hf8)
        clear hf8 hof hmv HF GW HGr HRGr HBr HSr
        go_wp2
        go_loopg [20] (G.n + 1) (fun gk p wr => ∃ u : Nat, p = .int .i64 u ∧ u ≤ G.n ∧ gk = G.n + 1 - u ∧ Fr No w8 wr)
        case atStart => exact ⟨0, rfl, by omega, rfl, Fr.refl _ _⟩
        case round =>
          obtain ⟨u, rfl, hu, hgk2, hf⟩ := hrel
          have HGK2 := hid hgk2
          have HF := hid hf
          have c0 := (HRG8.out.no hf).c0
          clear hgk2 hf
          obtain ⟨wo, rfl⟩ : ∃ wo : World, wo = wr := ⟨_, rfl⟩
          by_cases hult : u < G.n
          · have hult2 : (u : Int) < G.n := by omega
            go_wp2
            clear c0
            go_loopg [21] (G.n + 1) (fun gk p wr => ∃ w' : Nat, p = .int .i64 w' ∧ w' ≤ G.n ∧ gk = G.n + 1 - w' ∧ Fr No w8 wr)
            case atStart => exact ⟨0, rfl, by omega, rfl, HF.out⟩
            case round =>
              obtain ⟨q, rfl, hq, hgk3, hf⟩ := hrel
              clear HF
              have HGK3 := hid hgk3
              have HF := hid hf
              have c0 := (HRG8.out.no hf).c0
              clear hgk3 hf
              by_cases hqlt : q < G.n
              · have hqlt2 : (q : Int) < G.n := by omega
                have hlon2 : (lo : Int) < G.n := by omega
                have HYq := hid (HY8.out.no HF.out)
                have HGq := hid (HG8.out.no HF.out)
                have r0 : wr.cell? ⟨br, u, none⟩ = some (.int .i64 (X.rk u : Nat)) := HF.out.cell_some (HB8.out.cell hult) (fun h => h)
                have r1 : wr.cell? ⟨br, q, none⟩ = some (.int .i64 (X.rk q : Nat)) := HF.out.cell_some (HB8.out.cell hqlt) (fun h => h)
                have r2 : wr.cell? ⟨br, lo, none⟩ = some (.int .i64 (X.rk lo : Nat)) := HF.out.cell_some (HB8.out.cell hlon) (fun h => h)
                have kr0 : ∀ nn : Fam wr, nn.v.cell? ⟨br, u, none⟩ = some (.int .i64 (X.rk u : Nat)) := Fam.cell r0
                have kr1 : ∀ nn : Fam wr, nn.v.cell? ⟨br, q, none⟩ = some (.int .i64 (X.rk q : Nat)) := Fam.cell r1
                have kr2 : ∀ nn : Fam wr, nn.v.cell? ⟨br, lo, none⟩ = some (.int .i64 (X.rk lo : Nat)) := Fam.cell r2
                clear r0 r1 r2
                by_cases huq : u = q
                · have g1 : ((u : Int) != (q : Int)) = false := by simp; omega
                  go_wp2_with fail
                  refine wp_region_fam (by kernel_rfl) (by kernel_rfl) ?_
                  repeat (go_big_quiet_step (fail))
                  refine wpQuiet_nil ?_
                  rintro w9 ⟨⟨w9, hf9⟩, rfl⟩
                  have HF9 := hid (HF.out.trans hf9)
                  clear hf9 kr0 kr1 kr2 
                  go_wp2
                  go_roundg (G.n + 1 - (q + 1))
                  case measure => have := HGK3.out; omega
                  case rel => exact ⟨q + 1, by go_num, by omega, rfl, HF9.out⟩
                · have g1 : ((u : Int) != (q : Int)) = true := by simp; omega
                  by_cases h1 : X.rk lo < X.rk u
                  · have g2 : (X.rk lo : Int) < (X.rk u : Nat) := by omega
                    have g2' : decide ((X.rk lo : Int) < (X.rk u : Nat)) = true := by simp; omega
                    by_cases h2 : X.rk lo < X.rk q
                    · have g3 : (X.rk lo : Int) < (X.rk q : Nat) := by omega
                      have g3' : decide ((X.rk lo : Int) < (X.rk q : Nat)) = true := by simp; omega
                      have henough := fun hbad => HW.out.enough HX7.out.ok HSH.out.1 HSH.out.2.1 HSH.out.2.2 (lo := lo) (u := u) (w := q) (by omega) HKP.out HY.out.ok (by omega) (by omega) huq h1 h2 hbad
                      obtain ⟨⟨a0, a1, a2⟩, ha⟩ : ∃ e, Y.at_ (u : Nat) (q : Nat) = e := ⟨_, rfl⟩
                      obtain ⟨⟨d0, d1, d2⟩, hd⟩ : ∃ e, Y.best (u : Nat) (q : Nat) (G.best (u : Nat) (q : Nat)) = e := ⟨_, rfl⟩
                      rw [ha, hd] at henough
                      have hat : ∀ nn : Fam wr, Calls Tryd.prog 11 #[.pointer (some ⟨L.b, 0, none⟩), .int .i64 (u : Nat), .int .i64 (q : Nat)] nn.v fun e w' => e = .returned (.agg #[.int .i64 a0, .int .i64 a1, .int .i64 a2]) ∧ Fr No nn.v w' := fun nn => by
                        have := at_calls (HYq.out.no nn.h) (u : Nat) (q : Nat)
                        rw [ha] at this
                        exact this
                      have hbest : ∀ nn : Fam wr, Calls Tryd.prog 27 #[.pointer (some ⟨L.b, 0, none⟩), .pointer (some ⟨Lg.b, 0, none⟩), .int .i64 (u : Nat), .int .i64 (q : Nat)] nn.v fun e w' => e = .returned (.agg #[.int .i64 d0, .int .i64 d1, .int .i64 d2]) ∧ Fr No nn.v w' := fun nn => by
                        have := xbest_calls (HYq.out.no nn.h) hYcap (HGq.out.no nn.h) (u : Nat) (q : Nat)
                        rw [hd] at this
                        exact this
                      cases heq : eq3 a0 a1 a2 d0 d1 d2 with
                      | true =>
                        clear henough ha hd
                        go_wp2_with fail
                        refine wp_region_fam (by kernel_rfl) (by kernel_rfl) ?_
                        repeat (go_big_quiet_step (first | exact Calls.fam (hat _) | exact Calls.fam (hbest _)))
                        refine wpQuiet_nil ?_
                        rintro w9 ⟨⟨w9, hf9⟩, rfl⟩
                        have HF9 := hid (HF.out.trans hf9)
                        clear hf9 kr0 kr1 kr2 hat hbest
                        go_wp2
                        go_roundg (G.n + 1 - (q + 1))
                        case measure => have := HGK3.out; omega
                        case rel => exact ⟨q + 1, by go_num, by omega, rfl, HF9.out⟩
                      | false =>
                        have hhot := henough (fun e => by
                          injection e with e1 e2 e3
                          subst e1; subst e2; subst e3
                          rw [eq3_same] at heq; cases heq)
                        have hlw := Ix.low_eq (x := Y) (u := u) (v := q) (by rw [HSH.out.1, hxn]; exact hult) (by rw [HSH.out.1, hxn]; exact hqlt) huq
                        obtain ⟨z, hz⟩ : ∃ z, (if Y.rk u < Y.rk q then u else q) = z := ⟨_, rfl⟩
                        have hz24 : z < 24 := by rw [← hz]; split <;> omega
                        rw [hz] at hlw
                        have hbit : s.testBit z = true := by
                          rw [HSS.out.bit]
                          rw [HCC.out, HDD.out] at hhot
                          refine ⟨by unfold Ix.vertex; rw [HSH.out.1, hxn]; simp; omega, u, q, by rw [HSH.out.1, hxn]; exact hult, by rw [HSH.out.1, hxn]; exact hqlt, huq, ?_, ?_, hhot, hlw⟩
                          · rw [HSH.out.2.1]; simpa using h1
                          · rw [HSH.out.2.1]; simpa using h2
                        have hslt := HSS.out.lt
                        have hlow : ∀ nn : Fam wr, Calls Tryd.prog 24 #[.pointer (some ⟨L.b, 0, none⟩), .int .i64 (u : Nat), .int .i64 (q : Nat)] nn.v fun e w' => e = .returned (.int .i64 (z : Nat)) ∧ Fr No nn.v w' := fun nn => (low_calls (HYq.out.no nn.h) _ _).mono fun e w' ⟨q1, k', q2⟩ => ⟨by rw [q1, hlw], by rw [q2]; exact Fr.of_drewN k'⟩
                        have hhas : ∀ nn : Fam wr, Calls Tryd.prog 28 #[.int .u64 (s : Nat), .int .i64 (z : Nat)] nn.v fun e w' => e = .returned (.bool true) ∧ Fr No nn.v w' := fun nn => by
                          have := has_calls s z hslt hz24 nn.v
                          rw [hbit] at this
                          exact this
                        clear henough ha hd hhot hlw hz hbit
                        go_wp2_with fail
                        refine wp_region_fam (by kernel_rfl) (by kernel_rfl) ?_
                        repeat (go_big_quiet_step (first | exact Calls.fam (hat _) | exact Calls.fam (hbest _) | exact Calls.fam (hlow _) | exact Calls.fam (hhas _)))
                        refine wpQuiet_nil ?_
                        rintro w9 ⟨⟨w9, hf9⟩, rfl⟩
                        have HF9 := hid (HF.out.trans hf9)
                        clear hf9 kr0 kr1 kr2 hat hbest hlow hhas
                        go_wp2
                        go_roundg (G.n + 1 - (q + 1))
                        case measure => have := HGK3.out; omega
                        case rel => exact ⟨q + 1, by go_num, by omega, rfl, HF9.out⟩
                    · have g3 : ¬ (X.rk lo : Int) < (X.rk q : Nat) := by omega
                      have g3' : decide ((X.rk lo : Int) < (X.rk q : Nat)) = false := by simp; omega
                      go_wp2_with fail
                      refine wp_region_fam (by kernel_rfl) (by kernel_rfl) ?_
                      repeat (go_big_quiet_step (fail))
                      refine wpQuiet_nil ?_
                      rintro w9 ⟨⟨w9, hf9⟩, rfl⟩
                      have HF9 := hid (HF.out.trans hf9)
                      clear hf9 kr0 kr1 kr2 
                      go_wp2
                      go_roundg (G.n + 1 - (q + 1))
                      case measure => have := HGK3.out; omega
                      case rel => exact ⟨q + 1, by go_num, by omega, rfl, HF9.out⟩
                  · have g2 : ¬ (X.rk lo : Int) < (X.rk u : Nat) := by omega
                    have g2' : decide ((X.rk lo : Int) < (X.rk u : Nat)) = false := by simp; omega
                    go_wp2_with fail
                    refine wp_region_fam (by kernel_rfl) (by kernel_rfl) ?_
                    repeat (go_big_quiet_step (fail))
                    refine wpQuiet_nil ?_
                    rintro w9 ⟨⟨w9, hf9⟩, rfl⟩
                    have HF9 := hid (HF.out.trans hf9)
                    clear hf9 kr0 kr1 kr2 
                    go_wp2
                    go_roundg (G.n + 1 - (q + 1))
                    case measure => have := HGK3.out; omega
                    case rel => exact ⟨q + 1, by go_num, by omega, rfl, HF9.out⟩
              · have hqlt2 : ¬ (q : Int) < G.n := by omega
                go_wp2
                go_roundg (G.n + 1 - (u + 1))
                case measure => have := HGK2.out; omega
                case rel => exact ⟨u + 1, by go_num, by omega, rfl, HF.out⟩
          · have hult2 : ¬ (u : Int) < G.n := by omega
            go_wp2
            go_ret
            exact ⟨rfl, GW8.out.trans HF.out⟩
      · have hend2 : ¬ (k : Int) < 100 := by simpa using hend
        go_wp2_with fail
        refine wp_region_fam (by kernel_rfl) (by kernel_rfl) ?_
        iterate 2 (go_big_quiet_step (fail))
        go_big_quiet_want
        refine quiet_load 61 (.tmp 17) rfl (.pointer (some ⟨B, 0, none⟩)) (.agg Z.toArray) rfl (by rintro w' ⟨n, rfl⟩; exact hld n) ?_
        simp only [Act.put, List.setIfInBounds_toArray, List.set_cons_zero, List.set_cons_succ]
        go_big_quiet_on
        clear hld
        repeat (go_big_quiet_step (first | exact Calls.fam (hof _) | exact Calls.fam (hmv _)))
        refine wpQuiet_nil ?_
        rintro w8 ⟨⟨w8, hf8⟩, rfl⟩
        have HY8 := hid (HY.out.no hf8)
        have HG8 := hid (HGr.out.no hf8)
        have HRG8 := hid (HRGr.out.no hf8)
        have HB8 := hid (HBr.out.fr hf8 (fun h => h))
        have GW8 := hid (GW.out.trans hf8)
        clear hf8 hof hmv HF GW HGr HRGr HBr HSr
        go_wp2
        go_loopg [20] (G.n + 1) (fun gk p wr => ∃ u : Nat, p = .int .i64 u ∧ u ≤ G.n ∧ gk = G.n + 1 - u ∧ Fr No w8 wr)
        case atStart => exact ⟨0, rfl, by omega, rfl, Fr.refl _ _⟩
        case round =>
          obtain ⟨u, rfl, hu, hgk2, hf⟩ := hrel
          have HGK2 := hid hgk2
          have HF := hid hf
          have c0 := (HRG8.out.no hf).c0
          clear hgk2 hf
          obtain ⟨wo, rfl⟩ : ∃ wo : World, wo = wr := ⟨_, rfl⟩
          by_cases hult : u < G.n
          · have hult2 : (u : Int) < G.n := by omega
            go_wp2
            clear c0
            go_loopg [21] (G.n + 1) (fun gk p wr => ∃ w' : Nat, p = .int .i64 w' ∧ w' ≤ G.n ∧ gk = G.n + 1 - w' ∧ Fr No w8 wr)
            case atStart => exact ⟨0, rfl, by omega, rfl, HF.out⟩
            case round =>
              obtain ⟨q, rfl, hq, hgk3, hf⟩ := hrel
              clear HF
              have HGK3 := hid hgk3
              have HF := hid hf
              have c0 := (HRG8.out.no hf).c0
              clear hgk3 hf
              by_cases hqlt : q < G.n
              · have hqlt2 : (q : Int) < G.n := by omega
                have hlon2 : (lo : Int) < G.n := by omega
                have HYq := hid (HY8.out.no HF.out)
                have HGq := hid (HG8.out.no HF.out)
                have r0 : wr.cell? ⟨br, u, none⟩ = some (.int .i64 (X.rk u : Nat)) := HF.out.cell_some (HB8.out.cell hult) (fun h => h)
                have r1 : wr.cell? ⟨br, q, none⟩ = some (.int .i64 (X.rk q : Nat)) := HF.out.cell_some (HB8.out.cell hqlt) (fun h => h)
                have r2 : wr.cell? ⟨br, lo, none⟩ = some (.int .i64 (X.rk lo : Nat)) := HF.out.cell_some (HB8.out.cell hlon) (fun h => h)
                have kr0 : ∀ nn : Fam wr, nn.v.cell? ⟨br, u, none⟩ = some (.int .i64 (X.rk u : Nat)) := Fam.cell r0
                have kr1 : ∀ nn : Fam wr, nn.v.cell? ⟨br, q, none⟩ = some (.int .i64 (X.rk q : Nat)) := Fam.cell r1
                have kr2 : ∀ nn : Fam wr, nn.v.cell? ⟨br, lo, none⟩ = some (.int .i64 (X.rk lo : Nat)) := Fam.cell r2
                clear r0 r1 r2
                by_cases huq : u = q
                · have g1 : ((u : Int) != (q : Int)) = false := by simp; omega
                  go_wp2_with fail
                  refine wp_region_fam (by kernel_rfl) (by kernel_rfl) ?_
                  repeat (go_big_quiet_step (fail))
                  refine wpQuiet_nil ?_
                  rintro w9 ⟨⟨w9, hf9⟩, rfl⟩
                  have HF9 := hid (HF.out.trans hf9)
                  clear hf9 kr0 kr1 kr2 
                  go_wp2
                  go_roundg (G.n + 1 - (q + 1))
                  case measure => have := HGK3.out; omega
                  case rel => exact ⟨q + 1, by go_num, by omega, rfl, HF9.out⟩
                · have g1 : ((u : Int) != (q : Int)) = true := by simp; omega
                  by_cases h1 : X.rk lo < X.rk u
                  · have g2 : (X.rk lo : Int) < (X.rk u : Nat) := by omega
                    have g2' : decide ((X.rk lo : Int) < (X.rk u : Nat)) = true := by simp; omega
                    by_cases h2 : X.rk lo < X.rk q
                    · have g3 : (X.rk lo : Int) < (X.rk q : Nat) := by omega
                      have g3' : decide ((X.rk lo : Int) < (X.rk q : Nat)) = true := by simp; omega
                      have henough := fun hbad => HW.out.enough HX7.out.ok HSH.out.1 HSH.out.2.1 HSH.out.2.2 (lo := lo) (u := u) (w := q) (by omega) HKP.out HY.out.ok (by omega) (by omega) huq h1 h2 hbad
                      obtain ⟨⟨a0, a1, a2⟩, ha⟩ : ∃ e, Y.at_ (u : Nat) (q : Nat) = e := ⟨_, rfl⟩
                      obtain ⟨⟨d0, d1, d2⟩, hd⟩ : ∃ e, Y.best (u : Nat) (q : Nat) (G.best (u : Nat) (q : Nat)) = e := ⟨_, rfl⟩
                      rw [ha, hd] at henough
                      have hat : ∀ nn : Fam wr, Calls Tryd.prog 11 #[.pointer (some ⟨L.b, 0, none⟩), .int .i64 (u : Nat), .int .i64 (q : Nat)] nn.v fun e w' => e = .returned (.agg #[.int .i64 a0, .int .i64 a1, .int .i64 a2]) ∧ Fr No nn.v w' := fun nn => by
                        have := at_calls (HYq.out.no nn.h) (u : Nat) (q : Nat)
                        rw [ha] at this
                        exact this
                      have hbest : ∀ nn : Fam wr, Calls Tryd.prog 27 #[.pointer (some ⟨L.b, 0, none⟩), .pointer (some ⟨Lg.b, 0, none⟩), .int .i64 (u : Nat), .int .i64 (q : Nat)] nn.v fun e w' => e = .returned (.agg #[.int .i64 d0, .int .i64 d1, .int .i64 d2]) ∧ Fr No nn.v w' := fun nn => by
                        have := xbest_calls (HYq.out.no nn.h) hYcap (HGq.out.no nn.h) (u : Nat) (q : Nat)
                        rw [hd] at this
                        exact this
                      cases heq : eq3 a0 a1 a2 d0 d1 d2 with
                      | true =>
                        clear henough ha hd
                        go_wp2_with fail
                        refine wp_region_fam (by kernel_rfl) (by kernel_rfl) ?_
                        repeat (go_big_quiet_step (first | exact Calls.fam (hat _) | exact Calls.fam (hbest _)))
                        refine wpQuiet_nil ?_
                        rintro w9 ⟨⟨w9, hf9⟩, rfl⟩
                        have HF9 := hid (HF.out.trans hf9)
                        clear hf9 kr0 kr1 kr2 hat hbest
                        go_wp2
                        go_roundg (G.n + 1 - (q + 1))
                        case measure => have := HGK3.out; omega
                        case rel => exact ⟨q + 1, by go_num, by omega, rfl, HF9.out⟩
                      | false =>
                        have hhot := henough (fun e => by
                          injection e with e1 e2 e3
                          subst e1; subst e2; subst e3
                          rw [eq3_same] at heq; cases heq)
                        have hlw := Ix.low_eq (x := Y) (u := u) (v := q) (by rw [HSH.out.1, hxn]; exact hult) (by rw [HSH.out.1, hxn]; exact hqlt) huq
                        obtain ⟨z, hz⟩ : ∃ z, (if Y.rk u < Y.rk q then u else q) = z := ⟨_, rfl⟩
                        have hz24 : z < 24 := by rw [← hz]; split <;> omega
                        rw [hz] at hlw
                        have hbit : s.testBit z = true := by
                          rw [HSS.out.bit]
                          rw [HCC.out, HDD.out] at hhot
                          refine ⟨by unfold Ix.vertex; rw [HSH.out.1, hxn]; simp; omega, u, q, by rw [HSH.out.1, hxn]; exact hult, by rw [HSH.out.1, hxn]; exact hqlt, huq, ?_, ?_, hhot, hlw⟩
                          · rw [HSH.out.2.1]; simpa using h1
                          · rw [HSH.out.2.1]; simpa using h2
                        have hslt := HSS.out.lt
                        have hlow : ∀ nn : Fam wr, Calls Tryd.prog 24 #[.pointer (some ⟨L.b, 0, none⟩), .int .i64 (u : Nat), .int .i64 (q : Nat)] nn.v fun e w' => e = .returned (.int .i64 (z : Nat)) ∧ Fr No nn.v w' := fun nn => (low_calls (HYq.out.no nn.h) _ _).mono fun e w' ⟨q1, k', q2⟩ => ⟨by rw [q1, hlw], by rw [q2]; exact Fr.of_drewN k'⟩
                        have hhas : ∀ nn : Fam wr, Calls Tryd.prog 28 #[.int .u64 (s : Nat), .int .i64 (z : Nat)] nn.v fun e w' => e = .returned (.bool true) ∧ Fr No nn.v w' := fun nn => by
                          have := has_calls s z hslt hz24 nn.v
                          rw [hbit] at this
                          exact this
                        clear henough ha hd hhot hlw hz hbit
                        go_wp2_with fail
                        refine wp_region_fam (by kernel_rfl) (by kernel_rfl) ?_
                        repeat (go_big_quiet_step (first | exact Calls.fam (hat _) | exact Calls.fam (hbest _) | exact Calls.fam (hlow _) | exact Calls.fam (hhas _)))
                        refine wpQuiet_nil ?_
                        rintro w9 ⟨⟨w9, hf9⟩, rfl⟩
                        have HF9 := hid (HF.out.trans hf9)
                        clear hf9 kr0 kr1 kr2 hat hbest hlow hhas
                        go_wp2
                        go_roundg (G.n + 1 - (q + 1))
                        case measure => have := HGK3.out; omega
                        case rel => exact ⟨q + 1, by go_num, by omega, rfl, HF9.out⟩
                    · have g3 : ¬ (X.rk lo : Int) < (X.rk q : Nat) := by omega
                      have g3' : decide ((X.rk lo : Int) < (X.rk q : Nat)) = false := by simp; omega
                      go_wp2_with fail
                      refine wp_region_fam (by kernel_rfl) (by kernel_rfl) ?_
                      repeat (go_big_quiet_step (fail))
                      refine wpQuiet_nil ?_
                      rintro w9 ⟨⟨w9, hf9⟩, rfl⟩
                      have HF9 := hid (HF.out.trans hf9)
                      clear hf9 kr0 kr1 kr2 
                      go_wp2
                      go_roundg (G.n + 1 - (q + 1))
                      case measure => have := HGK3.out; omega
                      case rel => exact ⟨q + 1, by go_num, by omega, rfl, HF9.out⟩
                  · have g2 : ¬ (X.rk lo : Int) < (X.rk u : Nat) := by omega
                    have g2' : decide ((X.rk lo : Int) < (X.rk u : Nat)) = false := by simp; omega
                    go_wp2_with fail
                    refine wp_region_fam (by kernel_rfl) (by kernel_rfl) ?_
                    repeat (go_big_quiet_step (fail))
                    refine wpQuiet_nil ?_
                    rintro w9 ⟨⟨w9, hf9⟩, rfl⟩
                    have HF9 := hid (HF.out.trans hf9)
                    clear hf9 kr0 kr1 kr2 
                    go_wp2
                    go_roundg (G.n + 1 - (q + 1))
                    case measure => have := HGK3.out; omega
                    case rel => exact ⟨q + 1, by go_num, by omega, rfl, HF9.out⟩
              · have hqlt2 : ¬ (q : Int) < G.n := by omega
                go_wp2
                go_roundg (G.n + 1 - (u + 1))
                case measure => have := HGK2.out; omega
                case rel => exact ⟨u + 1, by go_num, by omega, rfl, HF.out⟩
          · have hult2 : ¬ (u : Int) < G.n := by omega
            go_wp2
            go_ret
            exact ⟨rfl, GW8.out.trans HF.out⟩

end Go.Proofs.YtakgjihhgpnnfaaDoor
