/- The law 'ClimbEdges' returns true, by the contracts; walked. -/
import Derived.Test.YtpkocidcfnlbiaaGreatDoorClb
import Derived.Test.YtpkocidcfnlbiaaGreatDoorAll
import Derived.Test.YtpkocidcfnlbiaaGreatDoorRbd
set_option linter.unusedVariables false
set_option linter.unusedSimpArgs false
namespace Go.Proofs.YtpkocidcfnlbiaaGreatDoor
open Go.RowKit Go.Deep

/-- No way up comes to a lower vertex. -/
theorem UpS.low_none {x : Ix} {ew : Mat} {s : Nat} {U : Nat → Int} (h : UpS x ew s U) (he : ∀ i j, Bd (ew i j)) {v : Nat} (hv : v < x.n) (hlt : x.rk v < x.rk s) : U v = 4611686018427387906 := by
  have hl := h.low (fun v => if x.rk v < x.rk s then 4611686018427387906 else 0) (fun v _ => by
    show Bd (if x.rk v < x.rk s then 4611686018427387906 else 0)
    unfold Bd; split <;> omega) (if_neg (by omega)) (fun z v hz hv hzv => by
    show (if x.rk v < x.rk s then 4611686018427387906 else 0 : Int) ≤ tw (if x.rk z < x.rk s then 4611686018427387906 else 0) (ew z v)
    by_cases hc : x.rk v < x.rk s
    · rw [if_pos hc, if_pos (show x.rk z < x.rk s by omega), tw_none]; exact Int.le_refl _
    · rw [if_neg hc]
      refine (tw_b ?_ (he z v)).1
      unfold Bd; split <;> omega) v hv
  simp only [if_pos hlt] at hl
  have := (h.b v hv).2
  omega
theorem UpS.edge {x : Ix} {ew : Mat} {s : Nat} {U : Nat → Int} (h : UpS x ew s U) (he : ∀ i j, Bd (ew i j)) (hs : s < x.n) {v : Nat} (hv : v < x.n) (hlt : x.rk s < x.rk v) : U v ≤ ew s v := by
  have := h.tri s v hs hv hlt
  rw [h.s0, tw_self0 (he s v)] at this
  exact this
attribute [local go_sem high] run_field0

set_option maxRecDepth 100000 in
set_option maxHeartbeats 4000000 in
theorem cedges_law (n : Nat) (A1 : Option Addr) (ln1 cp1 : Nat) (ch : Nat → Chg) (num s8 : Nat) (W : World) (hn : n ≤ 255) (hc : ChgsF W A1 ln1 ch) (b1 : ln1 ≤ 140737488351232) (hnum : (num : Int) ≤ 18446744073709551615) (hs8 : s8 ≤ 255) (hN : NoneVar W) :
    Calls Tryz.prog 7 #[.int .u8 (n : Nat), .slice A1 ln1 cp1, .int .u64 (num : Nat), .int .u8 (s8 : Nat)] W fun e w' => e = .returned (.bool true) ∧ Fr No W w' := by
  have HC := hid hc
  have HN := hid hN
  have hmod : n % 24 < 24 := Nat.mod_lt _ (by omega)
  have hd0 := rank_perm (1 + n % 24) num (by omega) (by omega)
  have HD0 := hid hd0
  have HI0 := hid (Classical.choose_spec hd0.inv)
  obtain ⟨g0, hg0⟩ : ∃ g, Classical.choose hd0.inv = g := ⟨_, rfl⟩
  rw [hg0] at HI0
  clear hg0 hd0
  clear hc hN
  go_enter Tryz.func7, Tryz.ntmps7
  go_wp2_with fail
  refine (awake20_calls W HN.out).mono ?_
  rintro e w1 ⟨rfl, hf⟩
  have G1 := hid hf
  clear hf
  go_wp2_with fail
  refine (made8_calls n A1 ln1 cp1 ch w1 hn (HC.out.fr G1.out) b1).mono ?_
  rintro e w2 ⟨Lg, b, rfl, hf, hm, hr, _, _⟩
  have hgn := ((Gr.zero (1 + n % 24) 64).steps_n ch (min ln1 150)).1
  have hgw := Gr.steps_wt (1 + n % 24) 64 ch (min ln1 150)
  obtain ⟨G, hG⟩ : ∃ G, (Gr.zero (1 + n % 24) 64).steps ch (min ln1 150) = G := ⟨_, rfl⟩
  rw [hG] at hm hr hgn hgw
  have hgn' : 1 + n % 24 = G.n := hgn.symm
  rw [hgn'] at HD0 HI0
  have HG0 := hid hm
  have HRG0 := hid hr
  have HGW := hid hgw
  have HOKG := hid hm.ok
  have hn24 := hm.ok.n2
  have Z0 := hid (G1.out.trans hf)
  clear hf hm hr hG hgw hgn
  go_wp2_with fail
  refine (rank_law_calls n num w2 hn hnum).mono ?_
  rintro e r0 ⟨br0, rfl, hf, _, hblk⟩
  rw [hgn'] at hblk ⊢
  have HB0a := hid hblk
  have HGa := hid (HG0.out.no hf)
  have HRGa := hid (HRG0.out.no hf)
  have Z1 := hid (Z0.out.trans hf)
  clear hf hblk HG0 HRG0 Z0
  go_wp2_with fail
  refine (build_calls HGa.out (some ⟨br0, 0, none⟩) G.n (fun i => ((rankOf G.n num i : Nat) : Int)) (fun _ => ⟨br0, 0, rfl, fun j hj => by rw [Nat.zero_add]; exact HB0a.out.cell hj⟩) HD0.out g0 HI0.out.1 HI0.out.2 (HN.out.fr Z1.out (fun h => h))).mono ?_
  rintro e t0 ⟨L0, rfl, hf, hx, _, _, _, _⟩
  have hw := (Ix.new_ok (show 0 < G.n by omega) HD0.out HI0.out.1 HI0.out.2).build_whole HGW.out
  have hxn : ((Ix.new G.n (fun i => ((rankOf G.n num i : Nat) : Int)) g0).build G).n = G.n := Ix.build_n _ _
  have hxr : ∀ v, ((Ix.new G.n (fun i => ((rankOf G.n num i : Nat) : Int)) g0).build G).rk v = rankOf G.n num v := fun v => by rw [Ix.build_rk]; exact Int.toNat_natCast _
  obtain ⟨x0, hX⟩ : ∃ x, (Ix.new G.n (fun i => ((rankOf G.n num i : Nat) : Int)) g0).build G = x := ⟨_, rfl⟩
  have HXE0 := hid hX
  rw [hX] at hx hw hxn hxr
  have HX0 := hid hx
  have HW0 := hid hw.2
  have HOKX0 := hid hw.1
  have HXN0 := hid hxn
  have HXR0 := hid hxr
  have HG0 := hid (HGa.out.no hf)
  have HRG0 := hid (HRGa.out.no hf)
  have HB0 := hid (HB0a.out.fr hf (fun h => h))
  have Z0 := hid (Z1.out.trans hf)
  clear hf hx hw hX hxr hxn HGa HRGa Z1 HB0a
  have hG0 : 0 < G.n := HOKG.out.n1
  obtain ⟨k, hk⟩ : ∃ k, s8 % G.n = k := ⟨_, rfl⟩
  have hkn : k < G.n := by rw [← hk]; exact Nat.mod_lt _ hG0
  have hkk : (s8 : Int) % (G.n : Int) = (k : Nat) := by rw [← hk]; exact (Int.natCast_emod s8 G.n).symm
  have hkt : Int.tmod (s8 : Int) (G.n : Int) = (k : Nat) := by rw [Int.tmod_eq_emod_of_nonneg (by omega)]; exact hkk
  have hGi : (0 : Int) < G.n := by omega
  have hGne : ¬ (G.n : Int) = 0 := by omega
  have hkx : k < x0.n := by rw [HXN0.out]; exact hkn
  clear hk
  have c0 := HRG0.out.c0
  go_wp2_with fail
  refine (cup_yes HX0.out k hkx).mono ?_
  rintro e w5 ⟨B1, U, rfl, hb1, hf, _, hu⟩
  have HX5 := hid (HX0.out.no hf)
  have HRG5 := hid (HRG0.out.no hf)
  have HB5 := hid (HB0.out.fr hf (fun h => h))
  have Z5 := hid (Z0.out.trans hf)
  have HU := hid hu
  have HB1 := hid hb1
  clear hf hb1 hu HX0 HRG0 HB0 Z0 c0 HG0
  go_wp2_with fail
  refine (cdown_yes HX5.out k hkx).mono ?_
  rintro e w6 ⟨B2, D, rfl, hb2, hf, _, hd⟩
  have HX6 := hid (HX5.out.no hf)
  have HRG6 := hid (HRG5.out.no hf)
  have HB6 := hid (HB5.out.fr hf (fun h => h))
  have Z6 := hid (Z5.out.trans hf)
  have HD := hid hd
  have HB16 := hid (HB1.out.fr hf (fun h => h))
  have HB2 := hid hb2
  clear hf hb2 hd HX5 HRG5 HB5 Z5 HB1
  have c0 := HRG6.out.c0
  have s1 := HB16.out.cell hkx
  have s2 := HB2.out.cell hkx
  rw [HU.out.s0] at s1
  rw [HD.out.s0] at s2
  have hn1 := HXN0.out
  have gn : ((x0.n : Int) != (G.n : Int)) = false := by rw [hn1]; simp
  have hkx2 : (k : Int) < x0.n := by omega
  clear hn1
  have hgg := HRG6.out.c0
  go_wp2
  clear s1 s2 c0 gn hgg
  go_loopg [19] (G.n + 1) (fun gk p wr => ∃ v : Nat, p = .int .i64 v ∧ v ≤ G.n ∧ gk = G.n + 1 - v ∧ Fr No w6 wr)
  case atStart => exact ⟨0, rfl, by omega, rfl, Fr.refl _ _⟩
  case round =>
    obtain ⟨v, rfl, hv, hgk, hf⟩ := hrel
    have HGK := hid hgk
    have HF := hid hf
    have c0 := (HRG6.out.no hf).c0
    clear hgk hf
    by_cases hlv : v < G.n
    · have hlv2 : (v : Int) < G.n := by omega
      have hvx : v < x0.n := by rw [HXN0.out]; exact hlv
      have hvx2 : (v : Int) < x0.n := by omega
      have s1 := (HB16.out.fr HF.out (fun h => h)).cell hvx
      have s2 := (HB2.out.fr HF.out (fun h => h)).cell hvx
      have s3 := (HB6.out.fr HF.out (fun h => h)).cell hlv
      have s4 := (HB6.out.fr HF.out (fun h => h)).cell hkn
      have hrv := HXR0.out v
      have hrk := HXR0.out k
      rw [← hrv] at s3
      rw [← hrk] at s4
      obtain ⟨rv, ev⟩ : ∃ r, x0.rk v = r := ⟨_, rfl⟩
      obtain ⟨rk, ek⟩ : ∃ r, x0.rk k = r := ⟨_, rfl⟩
      obtain ⟨uv, eu⟩ : ∃ r, U v = r := ⟨_, rfl⟩
      obtain ⟨dv, ed⟩ : ∃ r, D v = r := ⟨_, rfl⟩
      rw [ev] at s3
      rw [ek] at s4
      rw [eu] at s1
      rw [ed] at s2
      have EV := hid ev
      have EK := hid ek
      have EU := hid eu
      have ED := hid ed
      clear hrv hrk ev ek eu ed
      go_wp2_with fail
      clear c0
      have k1 : ∀ nn : Fam wr, nn.v.cell? ⟨B1, v, none⟩ = some (.int .i64 uv) := Fam.cell s1
      have k2 : ∀ nn : Fam wr, nn.v.cell? ⟨B2, v, none⟩ = some (.int .i64 dv) := Fam.cell s2
      have k3 : ∀ nn : Fam wr, nn.v.cell? ⟨br0, v, none⟩ = some (.int .i64 (rv : Nat)) := Fam.cell s3
      have k4 : ∀ nn : Fam wr, nn.v.cell? ⟨br0, k, none⟩ = some (.int .i64 (rk : Nat)) := Fam.cell s4
      have hcase : (rv < rk ∧ ¬ rk < rv) ∨ (¬ rv < rk ∧ rk < rv) ∨ (¬ rv < rk ∧ ¬ rk < rv) := by omega
      rcases hcase with ⟨hlt, hgt⟩ | ⟨hlt, hgt⟩ | ⟨hlt, hgt⟩
      · have g1 : decide ((rv : Int) < (rk : Int)) = true := by simp; exact hlt
        have g1n : decide (rv < rk) = true := by simp; exact hlt
        have g2 : decide ((rk : Int) < (rv : Int)) = false := by simp; omega
        have g2n : decide (rk < rv) = false := by simp; omega
        have q1 : uv = 4611686018427387906 := by rw [← EU.out]; exact HU.out.low_none (fun i j => HOKX0.out.ew_b false i j) hvx (by rw [EV.out, EK.out]; exact hlt)
        have q2 : dv = 4611686018427387906 := by rw [← ED.out]; exact HD.out.low_none (fun i j => HOKX0.out.ew_b true i j) hvx (by rw [EV.out, EK.out]; exact hlt)
        rw [q1] at s1 k1
        rw [q2] at s2 k2
        clear q1 q2 EU ED
        refine wp_region_fam (by kernel_rfl) (by kernel_rfl) ?_
        repeat (go_big_quiet_step (fail))
        refine wpQuiet_nil ?_
        rintro w7 ⟨⟨w7, hf7⟩, rfl⟩
        have F7 := hid hf7
        have a3 := hf7.cell_some s3 (fun h => h)
        have a4 := hf7.cell_some s4 (fun h => h)
        clear hf7 k1 k2 k3 k4 s1 s2 s3 s4
        go_wp2_with fail
        have k3 : ∀ nn : Fam w7, nn.v.cell? ⟨br0, v, none⟩ = some (.int .i64 (rv : Nat)) := Fam.cell a3
        have k4 : ∀ nn : Fam w7, nn.v.cell? ⟨br0, k, none⟩ = some (.int .i64 (rk : Nat)) := Fam.cell a4
        refine wp_region_fam (by kernel_rfl) (by kernel_rfl) ?_
        repeat (go_big_quiet_step (fail))
        refine wpQuiet_nil ?_
        rintro w8 ⟨⟨w8, hf8⟩, rfl⟩
        have F8 := hid (F7.out.trans hf8)
        clear hf8 k3 k4 a3 a4
        go_wp2
        go_roundg (G.n + 1 - (v + 1))
        case measure => have := HGK.out; omega
        case rel => exact ⟨v + 1, by go_num, by omega, rfl, HF.out.trans F8.out⟩
      · have g1 : decide ((rv : Int) < (rk : Int)) = false := by simp; omega
        have g1n : decide (rv < rk) = false := by simp; omega
        have g2 : decide ((rk : Int) < (rv : Int)) = true := by simp; exact hgt
        have g2n : decide (rk < rv) = true := by simp; exact hgt
        have hne : k ≠ v := fun e => by
          have a := EV.out
          rw [← e, EK.out] at a; omega
        have q1 : uv ≤ (x0.ent k v).w := by rw [← EU.out]; exact HU.out.edge (fun i j => HOKX0.out.ew_b false i j) hkx hvx (by rw [EV.out, EK.out]; exact hgt)
        have q2 : dv ≤ (x0.ent v k).w := by rw [← ED.out]; exact HD.out.edge (fun i j => HOKX0.out.ew_b true i j) hkx hvx (by rw [EV.out, EK.out]; exact hgt)
        have p1 : x0.at_ (k : Nat) (v : Nat) = x0.ent k v := at_nat (two_nat hkx hvx hne)
        have p2 : x0.at_ (v : Nat) (k : Nat) = x0.ent v k := at_nat (two_nat hvx hkx (fun e => hne e.symm))
        refine wp_region_fam (by kernel_rfl) (by kernel_rfl) ?_
        repeat (go_big_quiet_step (fail))
        refine wpQuiet_nil ?_
        rintro w7 ⟨⟨w7, hf7⟩, rfl⟩
        have F7 := hid hf7
        have a1 := hf7.cell_some s1 (fun h => h)
        have a2 := hf7.cell_some s2 (fun h => h)
        have a3 := hf7.cell_some s3 (fun h => h)
        have a4 := hf7.cell_some s4 (fun h => h)
        clear hf7 k1 k2 k3 k4 s1 s2 s3 s4
        go_wp2_with fail
        have k1 : ∀ nn : Fam w7, nn.v.cell? ⟨B1, v, none⟩ = some (.int .i64 uv) := Fam.cell a1
        have k2 : ∀ nn : Fam w7, nn.v.cell? ⟨B2, v, none⟩ = some (.int .i64 dv) := Fam.cell a2
        have k3 : ∀ nn : Fam w7, nn.v.cell? ⟨br0, v, none⟩ = some (.int .i64 (rv : Nat)) := Fam.cell a3
        have k4 : ∀ nn : Fam w7, nn.v.cell? ⟨br0, k, none⟩ = some (.int .i64 (rk : Nat)) := Fam.cell a4
        have HX7 := hid ((HX6.out.no HF.out).no F7.out)
        obtain ⟨⟨u0, u1, u2⟩, hu⟩ : ∃ y, x0.ent k v = y := ⟨_, rfl⟩
        obtain ⟨⟨d0, d1, d2⟩, hd⟩ : ∃ y, x0.ent v k = y := ⟨_, rfl⟩
        rw [hu] at q1 p1
        rw [hd] at q2 p2
        simp only at q1 q2
        have ha1 : ∀ nn : Fam w7, Calls Tryz.prog 30 #[.pointer (some ⟨L0.b, 0, none⟩), .int .i64 (k : Nat), .int .i64 (v : Nat)] nn.v fun e w' => e = .returned (.agg #[.int .i64 u0, .int .i64 u1, .int .i64 u2]) ∧ Fr No nn.v w' := fun nn => by
          have := at_calls (HX7.out.no nn.h) (k : Nat) (v : Nat)
          rw [p1] at this
          exact this
        have ha2 : ∀ nn : Fam w7, Calls Tryz.prog 30 #[.pointer (some ⟨L0.b, 0, none⟩), .int .i64 (v : Nat), .int .i64 (k : Nat)] nn.v fun e w' => e = .returned (.agg #[.int .i64 d0, .int .i64 d1, .int .i64 d2]) ∧ Fr No nn.v w' := fun nn => by
          have := at_calls (HX7.out.no nn.h) (v : Nat) (k : Nat)
          rw [p2] at this
          exact this
        have e1 : decide (u0 < uv) = false := by simp; exact q1
        have e2 : decide (d0 < dv) = false := by simp; exact q2
        clear p1 p2 hu hd q1 q2 hne EV EK EU ED
        refine wp_region_fam (by kernel_rfl) (by kernel_rfl) ?_
        iterate 18 (go_big_quiet_step (exact Calls.fam (ha1 _)))
        repeat (go_big_quiet_step (exact Calls.fam (ha2 _)))
        refine wpQuiet_nil ?_
        rintro w8 ⟨⟨w8, hf8⟩, rfl⟩
        have F8 := hid (F7.out.trans hf8)
        clear hf8 k1 k2 k3 k4 a1 a2 a3 a4 ha1 ha2
        go_wp2
        go_roundg (G.n + 1 - (v + 1))
        case measure => have := HGK.out; omega
        case rel => exact ⟨v + 1, by go_num, by omega, rfl, HF.out.trans F8.out⟩
      · have g1 : decide ((rv : Int) < (rk : Int)) = false := by simp; omega
        have g1n : decide (rv < rk) = false := by simp; omega
        have g2 : decide ((rk : Int) < (rv : Int)) = false := by simp; omega
        have g2n : decide (rk < rv) = false := by simp; omega
        refine wp_region_fam (by kernel_rfl) (by kernel_rfl) ?_
        repeat (go_big_quiet_step (fail))
        refine wpQuiet_nil ?_
        rintro w7 ⟨⟨w7, hf7⟩, rfl⟩
        have F7 := hid hf7
        have a3 := hf7.cell_some s3 (fun h => h)
        have a4 := hf7.cell_some s4 (fun h => h)
        clear hf7 k1 k2 k3 k4 s1 s2 s3 s4
        go_wp2_with fail
        have k3 : ∀ nn : Fam w7, nn.v.cell? ⟨br0, v, none⟩ = some (.int .i64 (rv : Nat)) := Fam.cell a3
        have k4 : ∀ nn : Fam w7, nn.v.cell? ⟨br0, k, none⟩ = some (.int .i64 (rk : Nat)) := Fam.cell a4
        refine wp_region_fam (by kernel_rfl) (by kernel_rfl) ?_
        repeat (go_big_quiet_step (fail))
        refine wpQuiet_nil ?_
        rintro w8 ⟨⟨w8, hf8⟩, rfl⟩
        have F8 := hid (F7.out.trans hf8)
        clear hf8 k3 k4 a3 a4
        go_wp2
        go_roundg (G.n + 1 - (v + 1))
        case measure => have := HGK.out; omega
        case rel => exact ⟨v + 1, by go_num, by omega, rfl, HF.out.trans F8.out⟩
    · obtain rfl : v = G.n := by omega
      go_wp2
      go_ret
      exact ⟨rfl, Z6.out.trans HF.out⟩

end Go.Proofs.YtpkocidcfnlbiaaGreatDoor
