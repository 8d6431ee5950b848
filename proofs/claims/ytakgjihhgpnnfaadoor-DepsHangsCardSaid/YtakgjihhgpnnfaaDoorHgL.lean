/- The law 'DepsHangs' returns true, by the contracts; walked. -/
import Derived.Test.YtakgjihhgpnnfaaDoorBW
import Derived.Test.YtakgjihhgpnnfaaDoorWh
import Derived.Test.YtakgjihhgpnnfaaDoorMid
import Derived.Test.YtakgjihhgpnnfaaDoorAwk17
set_option linter.unusedVariables false
set_option linter.unusedSimpArgs false
namespace Go.Proofs.YtakgjihhgpnnfaaDoor
open Go.RowKit Go.Deep

theorem sumN_le (f : Nat → Nat) : ∀ n k, k ≤ n → sumN f k ≤ sumN f n
  | 0, k, h => by rw [show k = 0 by omega]; exact Nat.le_refl _
  | n + 1, k, h => by
    rcases Nat.lt_or_ge k (n + 1) with h' | h'
    · have := sumN_le f n k (by omega)
      show _ ≤ sumN f n + f n
      omega
    · rw [show k = n + 1 by omega]; exact Nat.le_refl _
theorem Ix.Ok.shorts_le {x : Ix} (h : x.Ok) : x.shorts.length ≤ 1000 := by
  have hn2 := h.n2
  have hlen := x.lks_len x.n
  have hnn : x.n * x.n ≤ 24 * 24 := Nat.mul_le_mul hn2 hn2
  have h2 : x.shorts.length ≤ (x.lks x.n).length := by rw [Ix.shorts_filter]; exact List.length_filter_le _ _
  omega
theorem SlL.first {w : World} {A : Option Addr} {c : Nat} {l : List Int} (h : SlL w (.slice A l.length c) l) {z : Int} {rest : List Int} (e : l = z :: rest) : ∃ b off, A = some ⟨b, off, none⟩ ∧ w.cell? ⟨b, off, none⟩ = some (.int .i64 z) := by
  rcases h with ⟨h1, _⟩ | ⟨b, off, c', _, h2, hc⟩
  · rw [e] at h1; cases h1
  · simp only [Value.slice.injEq] at h2
    have := hc 0 (by rw [e]; simp)
    rw [e] at this
    exact ⟨b, off, h2.1, this⟩

set_option maxRecDepth 100000 in
set_option maxHeartbeats 4000000 in
theorem hangs_law (n : Nat) (A1 : Option Addr) (ln1 cp1 : Nat) (ch : Nat → Chg) (num : Nat) (W : World) (hn : n ≤ 255) (hc : ChgsF W A1 ln1 ch) (b1 : ln1 ≤ 140737488351232) (hnum : (num : Int) ≤ 18446744073709551615) (hN : NoneVar W) :
    Calls Tryd.prog 5 #[.int .u8 (n : Nat), .slice A1 ln1 cp1, .int .u64 (num : Nat)] W fun e w' => e = .returned (.bool true) ∧ Fr No W w' := by
  have HC := hid hc
  have HN := hid hN
  have hmod : n % 24 < 24 := Nat.mod_lt _ (by omega)
  have hd := rank_perm (1 + n % 24) num (by omega) (by omega)
  have HD := hid hd
  have HI := hid (Classical.choose_spec hd.inv)
  obtain ⟨g, hg⟩ : ∃ g, Classical.choose hd.inv = g := ⟨_, rfl⟩
  rw [hg] at HI
  clear hc hN hg hd
  go_enter Tryd.func5, Tryd.ntmps5
  go_wp2_with fail
  refine (awake17_calls W HN.out).mono ?_
  rintro e w1 ⟨rfl, hf⟩
  have G1 := hid hf
  clear hf
  go_wp2_with fail
  refine (made8_calls n A1 ln1 cp1 ch w1 hn (HC.out.fr G1.out) b1).mono ?_
  rintro e w2 ⟨Lg, b, rfl, hf, hm, hr, _, _⟩
  have hgn := ((Gr.zero (1 + n % 24) 64).steps_n ch (min ln1 150)).1
  have hgw := Gr.steps_wt (1 + n % 24) 64 ch (min ln1 150)
  obtain ⟨G, hG⟩ : ∃ G, (Gr.zero (1 + n % 24) 64).steps ch (min ln1 150) = G := ⟨_, rfl⟩
  rw [hG] at hm hr hgn hgw
  have hgn' : 1 + n % 24 = G.n := hgn.symm
  rw [hgn'] at HD HI
  have HG := hid hm
  have HRG := hid hr
  have HGW := hid hgw
  have G2 := hid (G1.out.trans hf)
  clear hf hm hr hG hgw hgn
  go_wp2_with fail
  refine (rank_law_calls n num w2 hn hnum).mono ?_
  rintro e w3 ⟨br, rfl, hf, _, hblk⟩
  rw [hgn'] at hblk ⊢
  have HB := hid hblk
  have HG3 := hid (HG.out.no hf)
  have HRG3 := hid (HRG.out.no hf)
  have G3 := hid (G2.out.trans hf)
  clear hf hblk HG HRG
  go_wp2_with fail
  refine (build_calls HG3.out (some ⟨br, 0, none⟩) G.n (fun i => ((rankOf G.n num i : Nat) : Int)) (fun _ => ⟨br, 0, rfl, fun j hj => by rw [Nat.zero_add]; exact HB.out.cell hj⟩) HD.out g HI.out.1 HI.out.2 (HN.out.fr G3.out (fun h => h))).mono ?_
  rintro e w4 ⟨L, rfl, hf, hx, _, _, _, _⟩
  have hw := (Ix.new_ok (show 0 < G.n by omega) HD.out HI.out.1 HI.out.2).build_whole HGW.out
  have hxn : ((Ix.new G.n (fun i => ((rankOf G.n num i : Nat) : Int)) g).build G).n = G.n := Ix.build_n _ _
  obtain ⟨x, hX⟩ : ∃ x, (Ix.new G.n (fun i => ((rankOf G.n num i : Nat) : Int)) g).build G = x := ⟨_, rfl⟩
  rw [hX] at hx hw hxn
  have HX := hid hx
  have HW := hid hw.2
  have HRG4 := hid (HRG3.out.no hf)
  have G4 := hid (G3.out.trans hf)
  clear hf hx hw hX HRG3 HB HG3
  go_wp2_with fail
  refine (shortcuts_calls HX.out).mono ?_
  rintro e w5 ⟨As, cs, rfl, hf, hsl⟩
  have hle := HX.out.ok.shorts_le
  have hha := HW.out.hang_all HX.out.ok
  have hsh : ∀ i, i < x.shorts.length → ∃ (u v j : Nat), (x.shorts.getD i Lk.zero).t = u ∧ (x.shorts.getD i Lk.zero).h = v ∧ (x.shorts.getD i Lk.zero).e = x.ent u v ∧ x.Cut u v j := fun i hi => by
    refine HW.out.short ?_
    rw [List.getD, List.getElem?_eq_getElem hi]
    exact List.getElem_mem hi
  obtain ⟨N, hNN⟩ : ∃ N, x.shorts.length = N := ⟨_, rfl⟩
  have HSL := hid hsl
  have HSH := hid hsh
  rw [hNN] at HSH hle hha HSL ⊢
  have HX5 := hid (HX.out.no hf)
  have HRG5 := hid (HRG4.out.no hf)
  have G5 := hid (G4.out.trans hf)
  have HNN := hid hNN
  have HHA := hid hha
  clear hf hsl hsh hNN hha HX HRG4
  go_wp2
  go_loopg [12] (N + 1) (fun gk p wr => ∃ i : Nat, p = .int .i64 i ∧ i ≤ N ∧ gk = N + 1 - i ∧ Fr No w5 wr)
  case atStart => exact ⟨0, rfl, by omega, rfl, Fr.refl _ _⟩
  case round =>
    obtain ⟨i, rfl, hi, hgk, hf⟩ := hrel
    have HGK := hid hgk
    have HF := hid hf
    clear hgk hf
    by_cases hlt : i < N
    · have hlt2 : (i : Int) < N := by omega
      obtain ⟨u, v, j, e1, e2, e3, hcut⟩ := HSH.out i hlt
      have HCUT := hid hcut
      obtain ⟨rest, hmid⟩ := hcut.mids
      have HMID := hid hmid
      have hsl := HSL.out (by omega)
      have hh : ∃ bs os, As = some ⟨bs, os, none⟩ ∧ LkAt w5 bs (os + i * 5) (x.shorts.getD i Lk.zero) := by
        rcases hsl with ⟨e0, _⟩ | ⟨bs, os, c', _, e0, hcc⟩
        · have := HNN.out; rw [e0] at this; simp at this; omega
        · simp only [Value.slice.injEq] at e0
          exact ⟨bs, os, e0.1, hcc i (by have := HNN.out; omega)⟩
      obtain ⟨bs, os, rfl, hlk⟩ := hh
      obtain ⟨k0, k1, _, _, k4⟩ := hlk.fr HF.out (fun h => h)
      rw [e1] at k0
      rw [e2] at k1
      rw [e3, hcut.m] at k4
      have hml := HX5.out.ok.mids_le (u : Nat) (v : Nat)
      have kk0 : ∀ nn : Fam wr, nn.v.cell? ⟨bs, os + i * 5, none⟩ = some (.int .i64 (u : Nat)) := Fam.cell k0
      have kk1 : ∀ nn : Fam wr, nn.v.cell? ⟨bs, os + i * 5 + 1, none⟩ = some (.int .i64 (v : Nat)) := Fam.cell k1
      clear hmid hsl hlk e1 e2 e3 k0 k1 hcut
      go_wp2_with fail
      refine wp_region_fam_tail 11 (by kernel_rfl) (by kernel_rfl) ?_
      simp only [List.take_succ_cons, List.take_zero, List.drop_succ_cons, List.drop_zero]
      repeat (go_big_quiet_step (fail))
      refine wpQuiet_nil ?_
      rintro w6 ⟨⟨w6, hf6⟩, rfl⟩
      have HF6 := hid (HF.out.trans hf6)
      have k46 := hf6.cell_some k4 (fun h => h)
      clear hf6 kk0 kk1 k4
      go_wp2_with fail
      refine (mid_calls (HX5.out.no HF6.out) (u : Nat) (v : Nat)).mono ?_
      rintro e w7 ⟨Am, cm, rfl, hf7, hs7⟩
      have HF7 := hid (HF6.out.trans hf7)
      have k47 := hf7.cell_some k46 (fun h => h)
      obtain ⟨bm, om, rfl, hz⟩ := SlL.first hs7 HMID.out
      have hlen1 : (x.mids (u : Nat) (v : Nat)).length = rest.length + 1 := by rw [HMID.out]; rfl
      obtain ⟨M, hM⟩ : ∃ M, (x.mids (u : Nat) (v : Nat)).length = M := ⟨_, rfl⟩
      rw [hM] at hlen1 hml ⊢
      have hM0 : ((M : Int) == 0) = false := by simp; omega
      have hM1 : (0 : Int) < M := by omega
      have kk4 : ∀ nn : Fam w7, nn.v.cell? ⟨bs, os + i * 5 + 2 + 2, none⟩ = some (.int .i64 (x.by_ j : Nat)) := Fam.cell k47
      have kkm : ∀ nn : Fam w7, nn.v.cell? ⟨bm, om, none⟩ = some (.int .i64 (x.by_ j : Nat)) := Fam.cell hz
      clear hf7 hs7 k46 k47 hz hM hlen1
      go_wp2_with fail
      refine wp_region_fam (by kernel_rfl) (by kernel_rfl) ?_
      repeat (go_big_quiet_step (fail))
      refine wpQuiet_nil ?_
      rintro w8 ⟨⟨w8, hf8⟩, rfl⟩
      have HF8 := hid (HF7.out.trans hf8)
      clear hf8 kk4 kkm
      go_wp2
      go_roundg (N + 1 - (i + 1))
      case measure => have := HGK.out; omega
      case rel => exact ⟨i + 1, by go_num, by omega, rfl, HF8.out⟩
    · have hlt2 : ¬ (i : Int) < N := by omega
      go_wp2
      go_loopg [14, 15] (G.n + 1) (fun gk p q wr => ∃ v : Nat, p = .int .i64 (sumN (fun v => (x.hang (v : Nat)).length) v : Nat) ∧ q = .int .i64 v ∧ v ≤ G.n ∧ gk = G.n + 1 - v ∧ Fr No w5 wr)
      case atStart => exact ⟨0, rfl, rfl, by omega, rfl, HF.out⟩
      case round =>
        obtain ⟨v, rfl, rfl, hv, hgk2, hf⟩ := hrel
        clear HF
        have HGK2 := hid hgk2
        have HF := hid hf
        have c0 := (HRG5.out.no hf).c0
        clear hgk2 hf
        have hsm := sumN_le (fun v => (x.hang (v : Nat)).length) G.n v hv
        have hha2 := HHA.out
        rw [hxn] at hha2
        rw [hha2] at hsm
        by_cases hlv : v < G.n
        · have hlv2 : (v : Int) < G.n := by omega
          have hsm2 := sumN_le (fun v => (x.hang (v : Nat)).length) G.n (v + 1) (by omega)
          rw [hha2] at hsm2
          have hst : sumN (fun v => (x.hang (v : Nat)).length) (v + 1) = sumN (fun v => (x.hang (v : Nat)).length) v + (x.hang (v : Nat)).length := rfl
          obtain ⟨S, hS⟩ : ∃ S, sumN (fun v => (x.hang (v : Nat)).length) v = S := ⟨_, rfl⟩
          obtain ⟨T, hT⟩ : ∃ T, (x.hang (v : Nat)).length = T := ⟨_, rfl⟩
          have HST := hid hst
          rw [hst, hS, hT] at hsm2
          rw [hS, hT] at HST
          rw [hS] at hsm ⊢
          clear hst hha2
          go_wp2_with fail
          clear c0
          refine (hang_calls (HX5.out.no HF.out) (v : Nat)).mono ?_
          rintro e w6 ⟨Ah, cc, rfl, hf6, _, _⟩
          rw [hT]
          have HF6 := hid (HF.out.trans hf6)
          clear hf6 hS hT
          go_wp2
          go_roundg (G.n + 1 - (v + 1))
          case measure => have := HGK2.out; omega
          case rel => exact ⟨v + 1, by rw [HST.out]; go_num, by go_num, by omega, rfl, HF6.out⟩
        · have hlv2 : ¬ (v : Int) < G.n := by omega
          have e : v = G.n := by omega
          subst e
          rw [hha2]
          clear hha2
          go_wp2
          go_ret
          exact ⟨by simp, G5.out.trans HF.out⟩

end Go.Proofs.YtakgjihhgpnnfaaDoor
