/- The law 'BuildUps' returns true, by the contracts; walked. -/
import Derived.Test.YtpkocidcfnlbiaaGreatDoorWay
import Derived.Test.YtpkocidcfnlbiaaGreatDoorAll
import Derived.Test.YtpkocidcfnlbiaaGreatDoorAw6
import Derived.Test.YtpkocidcfnlbiaaGreatDoorRbd
set_option linter.unusedVariables false
set_option linter.unusedSimpArgs false
namespace Go.Proofs.YtpkocidcfnlbiaaGreatDoor
open Go.RowKit Go.Deep

/-- The least that two rows come to. -/
def lst2 (U W : Nat → Int) (k : Nat) : Int := mn (fun _ => true) (fun v => tw (U v) (W v)) k
theorem lst2_meet {U W : Nat → Int} {n : Nat} {d : Int} (h1 : ∀ v, v < n → d ≤ tw (U v) (W v)) (h2 : d = 4611686018427387906 ∨ ∃ v, v < n ∧ tw (U v) (W v) = d) (hd : d ≤ 4611686018427387906) : lst2 U W n = d := by
  have h3 : lst2 U W n ≤ 4611686018427387906 := mn_none (p := fun _ => true) (f := fun v => tw (U v) (W v)) n
  have h4 : lst2 U W n = 4611686018427387906 ∨ ∃ i, i < n ∧ true = true ∧ lst2 U W n = tw (U i) (W i) := mn_is (p := fun _ => true) (f := fun v => tw (U v) (W v)) n
  have h5 : ∀ i, i < n → lst2 U W n ≤ tw (U i) (W i) := fun i hi => mn_le (p := fun _ => true) (f := fun v => tw (U v) (W v)) n i hi rfl
  rcases h2 with rfl | ⟨v, hv, e2⟩
  · rcases h4 with e | ⟨i, hi, _, e⟩
    · exact e
    · have := h1 i hi
      omega
  · have h6 := h5 v hv
    have h7 := h1 v hv
    rcases h4 with e | ⟨i, hi, _, e⟩
    · omega
    · have := h1 i hi
      omega

set_option maxRecDepth 100000 in
set_option maxHeartbeats 4000000 in
theorem rdist16_calls {w : World} {R : RxLoc} {x : Ix} (h : RxMem w R x) (s t : Nat) (hs : s < x.n) (ht : t < x.n) :
    Calls Tryz.prog 25 #[.pointer (some ⟨R.b, 0, none⟩), .int .i64 (s : Nat), .int .i64 (t : Nat)] w fun e w' => ∃ U W, e = .returned (.int .i64 (lst2 U W x.n)) ∧ Fr No w w' ∧ UpS x (x.ew false) s U ∧ UpS x (x.ew true) t W := by
  have H := hid h
  have hn := h.ok.n2
  clear h
  go_enter Tryz.func25, Tryz.ntmps25
  go_wp2_with fail
  refine (rways_calls H.out s hs false).mono ?_
  rintro e w1 ⟨g1, c1, U, rfl, hf1, _, hr1, hu⟩
  have HU := hid hu
  have F1 := hid hf1
  have HR1 := hid hr1
  clear hu hf1 hr1
  go_wp2_with fail
  refine (rways_calls (H.out.no F1.out) t ht true).mono ?_
  rintro e w2 ⟨g2, c2, W, rfl, hf2, _, hr2, hw⟩
  have HW := hid hw
  have F2 := hid (F1.out.trans hf2)
  have HR12 := hid (HR1.out.fr hf2 (fun h => h))
  have HR2 := hid hr2
  clear hw hf2 hr2 HR1 F1
  go_wp2
  go_loopg [9, 10] (x.n + 1) (fun gk p q wr => ∃ k : Nat, p = .int .i64 (lst2 U W k) ∧ q = .int .i64 k ∧ k ≤ x.n ∧ gk = x.n + 1 - k ∧ Fr No w wr ∧ Fr No w2 wr)
  case atStart => exact ⟨0, rfl, rfl, by omega, rfl, F2.out, Fr.refl _ _⟩
  case round =>
    clear F2
    obtain ⟨k, rfl, rfl, hk, hg, hf, hf2⟩ := hrel
    have HG := hid hg
    have HF := hid hf
    have HF2 := hid hf2
    have c0 := (H.out.no hf).c0
    clear hg hf hf2
    by_cases hlt : k < x.n
    · have hlt2 : (k : Int) < x.n := by omega
      have s1 := (HR12.out.fr HF2.out (fun h => h)).cell hlt
      have s2 := (HR2.out.fr HF2.out (fun h => h)).cell hlt
      have b1 := HU.out.b k hlt
      have b2 := HW.out.b k hlt
      have hst : lst2 U W (k + 1) = if tw (U k) (W k) < lst2 U W k then tw (U k) (W k) else lst2 U W k := by
        show (if (fun _ => true) k = true ∧ tw (U k) (W k) < lst2 U W k then tw (U k) (W k) else lst2 U W k) = _
        simp
      obtain ⟨u, hu⟩ : ∃ u, U k = u := ⟨_, rfl⟩
      obtain ⟨z, hz⟩ : ∃ u, W k = u := ⟨_, rfl⟩
      rw [hu] at s1 b1 hst
      rw [hz] at s2 b2 hst
      obtain ⟨d, hd⟩ : ∃ d, tw u z = d := ⟨_, rfl⟩
      obtain ⟨ls, hls⟩ : ∃ d, lst2 U W k = d := ⟨_, rfl⟩
      rw [hd, hls] at hst
      have HST := hid hst
      have htw : ∀ nn : Fam wr, Calls Tryz.prog 35 #[.int .i64 u, .int .i64 z] nn.v fun e w' => e = .returned (.int .i64 d) ∧ Fr No nn.v w' := fun nn => by
        have := tw_calls b1 b2 nn.v
        rw [hd] at this
        exact this
      have kk1 : ∀ nn : Fam wr, nn.v.cell? ⟨g1, k, none⟩ = some (.int .i64 u) := Fam.cell s1
      have kk2 : ∀ nn : Fam wr, nn.v.cell? ⟨g2, k, none⟩ = some (.int .i64 z) := Fam.cell s2
      rw [hls]
      clear s1 s2 b1 b2 hst hu hz hd hls
      go_wp2_with fail
      clear c0
      refine wp_region_fam (by kernel_rfl) (by kernel_rfl) ?_
      repeat (go_big_quiet_step (exact Calls.fam (htw _)))
      refine wpQuiet_nil ?_
      rintro w5 ⟨⟨w5, hf5⟩, rfl⟩
      have HF5 := hid (HF.out.trans hf5)
      have HF25 := hid (HF2.out.trans hf5)
      clear hf5 kk1 kk2 htw
      by_cases h4 : d < ls
      · have g4 : decide (d < ls) = true := by simp; exact h4
        go_wp2
        go_roundg (x.n + 1 - (k + 1))
        case measure => have := HG.out; omega
        case rel => exact ⟨k + 1, by rw [HST.out, if_pos h4], by go_num, by omega, rfl, HF5.out, HF25.out⟩
      · have g4 : decide (d < ls) = false := by simp; omega
        go_wp2
        go_roundg (x.n + 1 - (k + 1))
        case measure => have := HG.out; omega
        case rel => exact ⟨k + 1, by rw [HST.out, if_neg (by omega)], by go_num, by omega, rfl, HF5.out, HF25.out⟩
    · obtain rfl : k = x.n := by omega
      go_wp2
      go_ret
      exact ⟨U, W, rfl, HF.out, HU.out, HW.out⟩

/-- Entries that are told so far. -/
def Ix.mixd (x0 x : Ix) (u v : Nat) : Ix := ⟨x0.n, x0.rk, x0.by_, fun a b => if a < u ∨ (a = u ∧ b < v) then x.ent a b else x0.ent a b⟩
theorem RxMem.store {w : World} {L : RxLoc} {x : Ix} (h : RxMem w L x) {a b : Nat} (hu : a < 24) (hv : b < 24) {e : En} (he : e.Ok) :
    RxMem (((w.setCell ⟨L.b, 1 + a * 72 + b * 3, none⟩ (.int .i64 e.w)).setCell ⟨L.b, 1 + a * 72 + b * 3 + 1, none⟩ (.int .i64 e.a)).setCell ⟨L.b, 1 + a * 72 + b * 3 + 2, none⟩ (.int .i64 e.m)) L (x.set a b e) := by
  have F : Fr (One L.b) w (((w.setCell ⟨L.b, 1 + a * 72 + b * 3, none⟩ (.int .i64 e.w)).setCell ⟨L.b, 1 + a * 72 + b * 3 + 1, none⟩ (.int .i64 e.a)).setCell ⟨L.b, 1 + a * 72 + b * 3 + 2, none⟩ (.int .i64 e.m)) :=
    (((Fr.refl _ _).set1 _ _).set1 _ _).set1 _ _
  have ok' : (x.set a b e).Ok := ⟨h.ok.n1, h.ok.n2, h.ok.rk, h.ok.by_, fun p q => by
    show (if p = a ∧ q = b then e else x.ent p q).Ok
    split
    · exact he
    · exact h.ok.ent p q⟩
  refine ⟨ok', ?_, h.rk.of_fr F h.hr.1 h.hr.2, ⟨by simpa using h.hr.1, h.hr.2⟩⟩
  refine (((h.blk.setCell (1 + a * 72 + b * 3) _).setCell (1 + a * 72 + b * 3 + 1) _).setCell (1 + a * 72 + b * 3 + 2) _).congr fun i hi => ?_
  simp only [upd]
  by_cases h0 : i = 0
  · subst h0
    rw [if_neg (by omega), if_neg (by omega), if_neg (by omega)]; rfl
  · simp only [Ix.RV, if_neg h0, Ix.set]
    by_cases hc : (i - 1) / 72 = a ∧ (i - 1) % 72 / 3 = b
    · rw [if_pos hc]
      have hd : i = 1 + a * 72 + b * 3 + (i - 1) % 3 := by omega
      have h3 : (i - 1) % 3 < 3 := Nat.mod_lt _ (by omega)
      generalize (i - 1) % 3 = c at hd h3 ⊢
      subst hd
      match c, h3 with
      | 0, _ => rw [if_neg (by omega), if_neg (by omega), if_pos (by omega)]; rfl
      | 1, _ => rw [if_neg (by omega), if_pos (by omega)]; rfl
      | 2, _ => rw [if_pos (by omega)]; rfl
    · rw [if_neg hc, if_neg (by omega), if_neg (by omega), if_neg (by omega)]
theorem Ix.mixd_set (x0 x : Ix) (u v : Nat) : (x0.mixd x u v).set u v (x.ent u v) = x0.mixd x u (v + 1) := by
  unfold Ix.mixd Ix.set
  congr 1
  funext a b
  show (if a = u ∧ b = v then x.ent u v else if a < u ∨ (a = u ∧ b < v) then x.ent a b else x0.ent a b) = if a < u ∨ (a = u ∧ b < v + 1) then x.ent a b else x0.ent a b
  by_cases h : a = u ∧ b = v
  · obtain ⟨rfl, rfl⟩ := h
    rw [if_pos ⟨rfl, rfl⟩, if_pos (by omega)]
  · rw [if_neg h]
    by_cases h2 : a < u ∨ (a = u ∧ b < v)
    · rw [if_pos h2, if_pos (by omega)]
    · rw [if_neg h2, if_neg (by omega)]

set_option maxRecDepth 100000 in
set_option maxHeartbeats 4000000 in
theorem reference_calls {w : World} {L : IxLoc} {x : Ix} (h : IxMem w L x) (br off c : Nat) (f : Nat → Int) (hc : ∀ j, j < x.n → w.cell? ⟨br, off + j, none⟩ = some (.int .i64 (f j))) (hd : PermF x.n f) (g : Nat → Nat)
    (hg1 : ∀ i, i < x.n → g (f i).toNat = i) (hg2 : ∀ r, r < x.n → g r < x.n ∧ f (g r) = r) (hrk : x.rk = fun v => (f v).toNat) (hby : x.by_ = g) (hout : ∀ u v, ¬ (u < x.n ∧ v < x.n ∧ u ≠ v) → x.ent u v = En.none) :
    Calls Tryz.prog 23 #[.pointer (some ⟨L.b, 0, none⟩), .slice (some ⟨br, off, none⟩) x.n c] w fun e w' => ∃ R : RxLoc, e = .returned (.pointer (some ⟨R.b, 0, none⟩)) ∧ Fr No w w' ∧ RxMem w' R x := by
  have hn := h.ok.n2
  have hn1 := h.ok.n1
  have HOK := hid h.ok
  have H := hid h
  have HOUT := hid hout
  have HNEW := hid (rnew_calls br off x.n c f w hc hn1 hd g hg1 hg2)
  obtain ⟨x0, hx0⟩ : ∃ x0, Ix.new x.n f g = x0 := ⟨_, rfl⟩
  rw [hx0] at HNEW
  have e0 : ∀ u v, x0.ent u v = En.none := fun u v => by rw [← hx0]; rfl
  have hend : x0.mixd x x.n 0 = x := by
    refine Ix.ext4 (by rw [← hx0]; rfl) (by rw [hrk, ← hx0]; rfl) (by rw [hby, ← hx0]; rfl) fun u v => ?_
    show (if u < x.n ∨ (u = x.n ∧ v < 0) then x.ent u v else x0.ent u v) = x.ent u v
    split
    · rfl
    · rw [e0, HOUT.out u v (by omega)]
  have hbeg : x0.mixd x 0 0 = x0 := Ix.ext4 rfl rfl rfl fun u v => by
    show (if u < 0 ∨ (u = 0 ∧ v < 0) then x.ent u v else x0.ent u v) = x0.ent u v
    rw [if_neg (by omega)]
  have hrow : ∀ u, x0.mixd x u x.n = x0.mixd x (u + 1) 0 := fun u => Ix.ext4 rfl rfl rfl fun a b => by
    show (if a < u ∨ (a = u ∧ b < x.n) then x.ent a b else x0.ent a b) = if a < u + 1 ∨ (a = u + 1 ∧ b < 0) then x.ent a b else x0.ent a b
    by_cases h1 : a < u ∨ (a = u ∧ b < x.n)
    · rw [if_pos h1, if_pos (by omega)]
    · rw [if_neg h1]
      by_cases h2 : a < u + 1 ∨ (a = u + 1 ∧ b < 0)
      · rw [if_pos h2, e0, HOUT.out a b (by omega)]
      · rw [if_neg h2]
  have HEND := hid hend
  have HBEG := hid hbeg
  have HROW := hid hrow
  clear h hc hd hg1 hg2 hrk hby hout hend hbeg hrow e0 hx0
  go_enter Tryz.func23, Tryz.ntmps23
  go_wp2_with fail
  refine HNEW.out.mono ?_
  rintro e w1 ⟨R, rfl, hf1, hr1, hl1, hl2⟩
  have F1 := hid hf1
  have HR1 := hid (show RxMem w1 R (x0.mixd x 0 0) by rw [HBEG.out]; exact hr1)
  clear hf1 hr1 HNEW HBEG
  go_wp2
  go_loopg [6] (x.n + 1) (fun gk p wr => ∃ u : Nat, p = .int .i64 u ∧ u ≤ x.n ∧ gk = x.n + 1 - u ∧ Fr No w wr ∧ RxMem wr R (x0.mixd x u 0))
  case atStart => exact ⟨0, rfl, by omega, rfl, F1.out, HR1.out⟩
  case round =>
    clear F1 HR1
    obtain ⟨u, rfl, hu, hgk, hf, hr⟩ := hrel
    have HGK := hid hgk
    have HF := hid hf
    have HR := hid hr
    clear hgk hf hr
    by_cases hlu : u < x.n
    · have hlu2 : (u : Int) < x.n := by omega
      go_wp2
      go_loopg [7] (x.n + 1) (fun gk p wr => ∃ v : Nat, p = .int .i64 v ∧ v ≤ x.n ∧ gk = x.n + 1 - v ∧ Fr No w wr ∧ RxMem wr R (x0.mixd x u v))
      case atStart => exact ⟨0, rfl, by omega, rfl, HF.out, HR.out⟩
      case round =>
        clear HF HR
        obtain ⟨v, rfl, hv, hgk2, hf, hr⟩ := hrel
        have HGK2 := hid hgk2
        have HF := hid hf
        have HR := hid hr
        clear hgk2 hf hr
        by_cases hlv : v < x.n
        · have hlv2 : (v : Int) < x.n := by omega
          have hu24 : (u : Int) < 24 := by omega
          have hv24 : (v : Int) < 24 := by omega
          have hat : x.at_ (u : Nat) (v : Nat) = x.ent u v := by
            by_cases e : u = v
            · subst e
              rw [HOUT.out u u (by omega)]
              unfold Ix.at_
              rw [if_neg (by unfold Ix.two; simp)]
            · exact at_nat (two_nat hlu hlv e)
          have heo := HOK.out.ent u v
          have hset := Ix.mixd_set x0 x u v
          obtain ⟨⟨e0, e1, e2⟩, he⟩ : ∃ y, x.ent u v = y := ⟨_, rfl⟩
          rw [he] at hat heo hset
          have hcb : ∀ nn : Fam wr, Calls Tryz.prog 30 #[.pointer (some ⟨L.b, 0, none⟩), .int .i64 (u : Nat), .int .i64 (v : Nat)] nn.v fun e w' => e = .returned (.agg #[.int .i64 e0, .int .i64 e1, .int .i64 e2]) ∧ Fr No nn.v w' := fun nn => by
            have := at_calls ((H.out.no HF.out).no nn.h) (u : Nat) (v : Nat)
            rw [hat] at this
            exact this
          have HEO := hid heo
          have HSET := hid hset
          clear hat he heo hset
          go_wp2_with fail
          refine wp_region_fam_tail 11 (by kernel_rfl) (by kernel_rfl) ?_
          simp only [List.take_succ_cons, List.take_zero, List.drop_succ_cons, List.drop_zero]
          repeat (go_big_quiet_step (exact Calls.fam (hcb _)))
          refine wpQuiet_nil ?_
          rintro w5 ⟨⟨w5, hf5⟩, rfl⟩
          have HF5 := hid (HF.out.trans hf5)
          have HR5 := hid (HR.out.no hf5)
          have fz := fun i => HR5.out.blk.frozen i
          have p0 : w5.cell? ⟨R.b, 1 + u * 72 + v * 3, none⟩ = _ := HR5.out.at_pl (u := u) (v := v) (by omega) (by omega) 0 (by omega)
          have p1 := HR5.out.at_pl (u := u) (v := v) (by omega) (by omega) 1 (by omega)
          have p2 := HR5.out.at_pl (u := u) (v := v) (by omega) (by omega) 2 (by omega)
          clear hf5 hcb HF HR
          go_wp2
          clear p0 p1 p2 fz
          go_roundg (x.n + 1 - (v + 1))
          case measure => have := HGK2.out; omega
          case rel =>
            have hs := HR5.out.store (a := u) (b := v) (by omega) (by omega) HEO.out
            rw [HSET.out] at hs
            exact ⟨v + 1, by go_num, by omega, rfl, ((HF5.out.setCell (p := ⟨R.b, 1 + u * 72 + v * 3, none⟩) (.inr hl1) (.int .i64 e0)).setCell (p := ⟨R.b, 1 + u * 72 + v * 3 + 1, none⟩) (.inr hl1) (.int .i64 e1)).setCell (p := ⟨R.b, 1 + u * 72 + v * 3 + 2, none⟩) (.inr hl1) (.int .i64 e2), hs⟩
        · obtain rfl : v = x.n := by omega
          go_wp2
          go_roundg (x.n + 1 - (u + 1))
          case measure => have := HGK.out; omega
          case rel => exact ⟨u + 1, by go_num, by omega, rfl, HF.out, by rw [← HROW.out]; exact HR.out⟩
    · obtain rfl : u = x.n := by omega
      go_wp2
      go_ret
      exact ⟨R, rfl, HF.out, by have := HR.out; rw [HEND.out] at this; exact this⟩

theorem srow_fr (w : World) (g : Nat) (cs : Array Value) : Fr (One g) w (w.setRow g cs) := ⟨rfl, rfl, rfl, by simp, fun k hk hk2 => by
  have hk2 : ¬ k = g := hk2
  simp only [World.setRow, Array.getElem?_modify]
  rw [if_neg (fun e => hk2 e.symm)]⟩
theorem rdist_far {w : World} {R : RxLoc} {x : Ix} {G : Gr} (h : RxMem w R x) (hw : Whole G x) (ho : G.Ok) (hwt : G.Wt) (hn : G.n = x.n) (s t : Nat) (hs : s < x.n) (ht : t < x.n) :
    Calls Tryz.prog 25 #[.pointer (some ⟨R.b, 0, none⟩), .int .i64 (s : Nat), .int .i64 (t : Nat)] w fun e w' => e = .returned (.int .i64 (G.far s t)) ∧ Fr No w w' := by
  refine (rdist16_calls h s t hs ht).mono ?_
  rintro e w' ⟨U, W, rfl, hf, hu, hd⟩
  have hm := Clm.meet hw h.ok ho hwt hn hs ht (hu.clm_up hw h.ok hwt hn hs) (hd.clm_down hw h.ok hwt hn ht)
  rw [lst2_meet hm.1 hm.2 (Gr.far_b hwt s t (by omega) (by omega)).2]
  exact ⟨rfl, hf⟩

set_option maxRecDepth 100000 in
set_option maxHeartbeats 4000000 in
theorem bups_law (n : Nat) (A1 : Option Addr) (ln1 cp1 : Nat) (ch : Nat → Chg) (num : Nat) (W : World) (hn : n ≤ 255) (hc : ChgsF W A1 ln1 ch) (b1 : ln1 ≤ 140737488351232) (hnum : (num : Int) ≤ 18446744073709551615) (hN : NoneVar W) :
    Calls Tryz.prog 4 #[.int .u8 (n : Nat), .slice A1 ln1 cp1, .int .u64 (num : Nat)] W fun e w' => e = .returned (.bool true) ∧ Fr No W w' := by
  have HC := hid hc
  have HN := hid hN
  have hmod : n % 24 < 24 := Nat.mod_lt _ (by omega)
  have hd := rank_perm (1 + n % 24) num (by omega) (by omega)
  have HD := hid hd
  have HI := hid (Classical.choose_spec hd.inv)
  obtain ⟨g, hg⟩ : ∃ g, Classical.choose hd.inv = g := ⟨_, rfl⟩
  rw [hg] at HI
  clear hc hN hg hd
  go_enter Tryz.func4, Tryz.ntmps4
  go_wp2_with fail
  refine (awake16_calls W HN.out).mono ?_
  rintro e w1 ⟨rfl, hf⟩
  have G1 := hid hf
  clear hf
  go_wp2_with fail
  refine (made8_calls n A1 ln1 cp1 ch w1 hn (HC.out.fr G1.out) b1).mono ?_
  rintro e w2 ⟨Lg, b, rfl, hf, hm, hr, _, _⟩
  have hgn := ((Gr.zero (1 + n % 24) 64).steps_n ch (min ln1 150)).1
  have hgw := Gr.steps_wt (1 + n % 24) 64 ch (min ln1 150)
  obtain ⟨G, hG⟩ : ∃ G, (Gr.zero (1 + n % 24) 64).steps ch (min ln1 150) = G := ⟨_, rfl⟩
  rw [hG] at hm hr hgn hgw
  have hgn' : 1 + n % 24 = G.n := hgn.symm
  rw [hgn'] at HD HI
  have HG := hid hm
  have HRG := hid hr
  have HGW := hid hgw
  have HOKG := hid hm.ok
  have G2 := hid (G1.out.trans hf)
  clear hf hm hr hG hgw hgn
  go_wp2_with fail
  refine (rank_law_calls n num w2 hn hnum).mono ?_
  rintro e w3 ⟨br, rfl, hf, _, hblk⟩
  rw [hgn'] at hblk ⊢
  have HB := hid hblk
  have HG3 := hid (HG.out.no hf)
  have HRG3 := hid (HRG.out.no hf)
  have G3 := hid (G2.out.trans hf)
  clear hf hblk HG HRG
  go_wp2_with fail
  refine (build_calls HG3.out (some ⟨br, 0, none⟩) G.n (fun i => ((rankOf G.n num i : Nat) : Int)) (fun _ => ⟨br, 0, rfl, fun j hj => by rw [Nat.zero_add]; exact HB.out.cell hj⟩) HD.out g HI.out.1 HI.out.2 (HN.out.fr G3.out (fun h => h))).mono ?_
  rintro e w4 ⟨L, rfl, hf, hx, _, _, _, _⟩
  have hx0 := Ix.new_ok (show 0 < G.n by omega) HD.out HI.out.1 HI.out.2
  have hw := hx0.build_whole HGW.out
  have hxn : ((Ix.new G.n (fun i => ((rankOf G.n num i : Nat) : Int)) g).build G).n = G.n := Ix.build_n _ _
  have hxr : ((Ix.new G.n (fun i => ((rankOf G.n num i : Nat) : Int)) g).build G).rk = fun v => ((rankOf G.n num v : Nat) : Int).toNat := Ix.build_rk _ _
  have hxb : ((Ix.new G.n (fun i => ((rankOf G.n num i : Nat) : Int)) g).build G).by_ = g := Ix.build_by _ _
  have hxo : ∀ u v, ¬ (u < G.n ∧ v < G.n ∧ u ≠ v) → ((Ix.new G.n (fun i => ((rankOf G.n num i : Nat) : Int)) g).build G).ent u v = En.none := fun u v h => (Ix.Ok.bld_out HGW.out _ _ hx0 rfl u v h).trans rfl
  obtain ⟨x, hX⟩ : ∃ x, (Ix.new G.n (fun i => ((rankOf G.n num i : Nat) : Int)) g).build G = x := ⟨_, rfl⟩
  rw [hX] at hx hw hxn hxr hxb hxo
  have HX := hid hx
  have HW := hid hw.2
  have HOKX := hid hw.1
  have HRG4 := hid (HRG3.out.no hf)
  have HB4 := hid (HB.out.fr hf (fun h => h))
  have HXN := hid hxn
  have G4 := hid (G3.out.trans hf)
  rw [← hxn] at HB4 HD HI hxo
  have HXR := hid hxr
  have HXB := hid hxb
  have HXO := hid hxo
  clear hf hx hw hX HRG3 HB HG3 hxr hxb hxo hx0
  go_wp2_with fail
  rw [← hxn]
  refine (reference_calls HX.out br 0 x.n _ (fun j hj => by rw [Nat.zero_add]; exact HB4.out.cell hj) HD.out g HI.out.1 HI.out.2 (by rw [HXR.out, HXN.out]) HXB.out HXO.out).mono ?_
  rintro e w5 ⟨R, rfl, hf, hr⟩
  have HR5 := hid hr
  have HRG5 := hid (HRG4.out.no hf)
  have G5 := hid (G4.out.trans hf)
  clear hf hr HRG4 HB4 HX
  go_wp2_with fail
  refine (all10_calls HRG5.out HOKG.out HGW.out).mono ?_
  rintro e w6 ⟨rfl, hf⟩
  have HR6 := hid (HR5.out.no hf)
  have HRG6 := hid (HRG5.out.no hf)
  have G6 := hid (G5.out.trans hf)
  clear hf HR5 HRG5
  have hinf : (Tryz.prog.info? 44).map (·.size) = some 576 := by kernel_rfl
  go_wp2_with (refine wpList_store_row rfl 44 (.tmp 13) (.tmp 41) rfl w6.heap.size (sqV G.far) rfl rfl 44 Tryz.zeroCells44 (heap_alloc_new w6 _) (by rw [hinf, sqV_size]) (by rw [sqV_size, sq_size]) (sqV_one _) ?_)
  have hfs := srow_fr (w6.alloc (.cells Tryz.zeroCells44 44)) w6.heap.size (sqV G.far)
  have hsq : Sq ((w6.alloc (.cells Tryz.zeroCells44 44)).setRow w6.heap.size (sqV G.far)) w6.heap.size 24 G.far := Sq.of_heap rfl (setRow_heap _ w6.heap.size _ _ _ _ (heap_alloc_new w6 _))
  have f7 : Fr No w6 ((w6.alloc (.cells Tryz.zeroCells44 44)).setRow w6.heap.size (sqV G.far)) := ((Fr.refl No w6).alloc _).trans' hfs (fun k hk (e : k = w6.heap.size) => by omega)
  generalize (w6.alloc (.cells Tryz.zeroCells44 44)).setRow w6.heap.size (sqV G.far) = W7 at hsq f7 ⊢
  obtain ⟨B, hB⟩ : ∃ B, w6.heap.size = B := ⟨_, rfl⟩
  rw [hB] at hsq ⊢
  have HSQ := hid hsq
  have HR7 := hid (HR6.out.no f7)
  have HRG7 := hid (HRG6.out.no f7)
  have G7 := hid (G6.out.trans f7)
  have hn24 := HOKG.out.n2
  clear hfs hsq f7 HR6 HRG6 hinf hB
  go_wp2
  go_loopg [14] (G.n + 1) (fun gk p wr => ∃ u : Nat, p = .int .i64 u ∧ u ≤ G.n ∧ gk = G.n + 1 - u ∧ Fr No W7 wr)
  case atStart => exact ⟨0, rfl, by omega, rfl, Fr.refl _ _⟩
  case round =>
    obtain ⟨u, rfl, hu, hgk, hf⟩ := hrel
    have HGK := hid hgk
    have HF := hid hf
    have c0 := (HRG7.out.no hf).c0
    clear hgk hf
    by_cases hlu : u < G.n
    · have hlu2 : (u : Int) < G.n := by omega
      go_wp2
      clear c0
      go_loopg [15] (G.n + 1) (fun gk p wr => ∃ v : Nat, p = .int .i64 v ∧ v ≤ G.n ∧ gk = G.n + 1 - v ∧ Fr No W7 wr)
      case atStart => exact ⟨0, rfl, by omega, rfl, HF.out⟩
      case round =>
        clear HF
        obtain ⟨v, rfl, hv, hgk2, hf⟩ := hrel
        have HGK2 := hid hgk2
        have HF := hid hf
        have c0 := (HRG7.out.no hf).c0
        clear hgk2 hf
        by_cases hlv : v < G.n
        · have hlv2 : (v : Int) < G.n := by omega
          have hu24 : (u : Int) < 24 := by omega
          have hv24 : (v : Int) < 24 := by omega
          obtain ⟨d, hd⟩ : ∃ d, G.far u v = d := ⟨_, rfl⟩
          have hcb : ∀ nn : Fam wr, Calls Tryz.prog 25 #[.pointer (some ⟨R.b, 0, none⟩), .int .i64 (u : Nat), .int .i64 (v : Nat)] nn.v fun e w' => e = .returned (.int .i64 d) ∧ Fr No nn.v w' := fun nn => by
            have := rdist_far ((HR7.out.no HF.out).no nn.h) HW.out HOKG.out HGW.out HXN.out.symm u v (by rw [HXN.out]; exact hlu) (by rw [HXN.out]; exact hlv)
            rw [hd] at this
            exact this
          have s1 := (HSQ.out.fr HF.out (fun h => h)).cell (by omega) (show u < 24 by omega) (show v < 24 by omega)
          rw [hd] at s1
          have kk1 : ∀ nn : Fam wr, nn.v.cell? ⟨B, u * 24 + v, none⟩ = some (.int .i64 d) := Fam.cell s1
          have g1 : (d != d) = false := by simp
          clear s1 hd
          go_wp2_with fail
          clear c0
          refine wp_region_fam (by kernel_rfl) (by kernel_rfl) ?_
          repeat (go_big_quiet_step (exact Calls.fam (hcb _)))
          refine wpQuiet_nil ?_
          rintro w8 ⟨⟨w8, hf8⟩, rfl⟩
          have HF8 := hid (HF.out.trans hf8)
          clear hf8 hcb kk1
          go_wp2
          go_roundg (G.n + 1 - (v + 1))
          case measure => have := HGK2.out; omega
          case rel => exact ⟨v + 1, by go_num, by omega, rfl, HF8.out⟩
        · obtain rfl : v = G.n := by omega
          go_wp2
          go_roundg (G.n + 1 - (u + 1))
          case measure => have := HGK.out; omega
          case rel => exact ⟨u + 1, by go_num, by omega, rfl, HF.out⟩
    · obtain rfl : u = G.n := by omega
      go_wp2
      go_ret
      exact ⟨rfl, G7.out.trans HF.out⟩

end Go.Proofs.YtpkocidcfnlbiaaGreatDoor
