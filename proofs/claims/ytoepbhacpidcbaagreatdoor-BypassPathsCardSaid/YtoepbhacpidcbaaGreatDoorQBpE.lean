/- The bypass law's check that its parts are awake; walked. -/

import Derived.Test.YtoepbhacpidcbaaGreatDoorQBase
import Derived.Test.YtoepbhacpidcbaaGreatDoorQIdx
import Derived.Test.YtoepbhacpidcbaaGreatDoorQIdxB
import Derived.Test.YtoepbhacpidcbaaGreatDoorQPerm
import Derived.Test.YtoepbhacpidcbaaGreatDoorQRef
import Derived.Test.YtoepbhacpidcbaaGreatDoorQBig
import Derived.Test.YtoepbhacpidcbaaGreatDoorQUnref
import Derived.Test.YtoepbhacpidcbaaGreatDoorQUnE
import Derived.Test.YtoepbhacpidcbaaGreatDoorQItr
import Derived.Test.YtoepbhacpidcbaaGreatDoorQDst
import Derived.Test.YtoepbhacpidcbaaGreatDoorQLnk
import Derived.Test.YtoepbhacpidcbaaGreatDoorQRow2
import Derived.Test.YtoepbhacpidcbaaGreatDoorQGr
import Derived.Test.YtoepbhacpidcbaaGreatDoorQGOps
import Derived.Test.YtoepbhacpidcbaaGreatDoorQBld
import Derived.Test.YtoepbhacpidcbaaGreatDoorQBW
import Derived.Test.YtoepbhacpidcbaaGreatDoorQHpK
import Derived.Test.YtoepbhacpidcbaaGreatDoorQG8
import Derived.Test.YtoepbhacpidcbaaGreatDoorQSqO
import Derived.Test.YtoepbhacpidcbaaGreatDoorQGoes
import Derived.Test.YtoepbhacpidcbaaGreatDoorQUp
import Derived.Test.YtoepbhacpidcbaaGreatDoorQSetP
import Derived.Test.YtoepbhacpidcbaaGreatDoorQWay
import Derived.Test.YtoepbhacpidcbaaGreatDoorQIn1
import Derived.Test.YtoepbhacpidcbaaGreatDoorQAll
import Derived.Test.YtoepbhacpidcbaaGreatDoorQAw6
import Derived.Test.YtoepbhacpidcbaaGreatDoorQMe
import Derived.Test.YtoepbhacpidcbaaGreatDoorQDv1
import Derived.Test.YtoepbhacpidcbaaGreatDoorQSt
import Derived.Test.YtoepbhacpidcbaaGreatDoorQOu1
import Derived.Test.YtoepbhacpidcbaaGreatDoorQSp
import Derived.Test.YtoepbhacpidcbaaGreatDoorQPa

set_option linter.unusedVariables false
set_option linter.unusedSimpArgs false
namespace Go.Proofs.YtoepbhacpidcbaaGreatDoor
open Go.RowKit Go.Deep

theorem a22_n : ak2.n = 3 := by decide +kernel
theorem a22_fit : ak2.Fit := ((Ix.Fit.new 3 awf awg).setI 0 1 ⟨2, 7, -1⟩).setI 1 2 ⟨3, 8, -1⟩
theorem a22_hd : a6g.Hd 3 := ⟨by decide +kernel, by decide +kernel⟩
theorem a22_blw : Blw ak2 a6x (flr 3 1) := by
  refine ⟨by decide +kernel, rfl, rfl, ?_⟩
  rw [a22_n]
  have h : ∀ u, u < 3 → ∀ v, v < 3 → u ≠ v → min (ak2.rk u) (ak2.rk v) < flr 3 1 → ak2.ent u v = a6x.ent u v := by decide +kernel
  intro u v hu hv
  exact h u hu v hv
theorem a22_arcs : ∀ k, k < 64 → a6g.tk k = true → (k = 7 ∧ (a6g.arc k).t = 0 ∧ (a6g.arc k).h = 1) ∨ (k = 8 ∧ (a6g.arc k).t = 1 ∧ (a6g.arc k).h = 2) := by decide +kernel
theorem a22_path {l : List Nat} (h : Wk a6g 0 l 2) : l = [7, 8] := by
  match l, h with
  | [], h => exact absurd (show (0 : Nat) = 2 from h) (by decide)
  | k :: l, h =>
    obtain ⟨k1, k2, k3, k4, k5⟩ := h
    rcases a22_arcs k k1 k2 with ⟨rfl, e1, e2⟩ | ⟨rfl, e1, e2⟩
    · rw [e2] at k5
      have k5 : Wk a6g 1 l 2 := k5
      match l, k5 with
      | [], h => exact absurd (show (1 : Nat) = 2 from h) (by decide)
      | j :: l, h =>
        obtain ⟨j1, j2, j3, j4, j5⟩ := h
        rcases a22_arcs j j1 j2 with ⟨rfl, f1, f2⟩ | ⟨rfl, f1, f2⟩
        · rw [f1] at j4; exact absurd j4 (by decide)
        · rw [f2] at j5
          have j5 : Wk a6g 2 l 2 := j5
          match l, j5 with
          | [], _ => rfl
          | i :: l, h =>
            obtain ⟨i1, i2, i3, i4, i5⟩ := h
            rcases a22_arcs i i1 i2 with ⟨rfl, g1, g2⟩ | ⟨rfl, g1, g2⟩
            · rw [g1] at i4; exact absurd i4 (by decide)
            · rw [g1] at i4; exact absurd i4 (by decide)
    · rw [e1] at k4; exact absurd k4 (by decide)
/-- The index stays while the graph changes. -/
theorem ix_keep {w w' : World} {L : IxLoc} {x : Ix} {Lg : GLoc} {n : Nat} (h : IxMem w L x) (hf : Fr (Lg.own n) w w') (hd : ∀ j, Lg.own n j → j ≠ L.b ∧ j ≠ L.br ∧ j ≠ L.bb ∧ j ≠ 0) : IxMem w' L x :=
  h.fr hf (fun e => (hd _ e).1 rfl) (fun e => (hd _ e).2.1 rfl) (fun e => (hd _ e).2.2.1 rfl) (fun e => (hd _ e).2.2.2 rfl)
theorem own_keep {w : World} {L : IxLoc} {x : Ix} {Lg Lg' : GLoc} {n : Nat} (h : IxMem w L x) (hd : ∀ j, Lg.own n j → j ≠ L.b ∧ j ≠ L.br ∧ j ≠ L.bb ∧ j ≠ 0) (ho : ∀ j, Lg'.own n j → Lg.own n j ∨ w.heap.size ≤ j) : ∀ j, Lg'.own n j → j ≠ L.b ∧ j ≠ L.br ∧ j ≠ L.bb ∧ j ≠ 0 := fun j hj => by
  rcases ho j hj with e | e
  · exact hd j e
  · have q1 := h.lt
    have q2 := h.hr.1
    have q3 := h.hb.1
    have q4 := h.gn.lt
    omega
set_option maxRecDepth 100000 in
set_option maxHeartbeats 4000000 in
theorem awake22_calls (w : World) (hN : NoneVar w) : Calls Tryz.prog 14 #[] w fun e w' => e = .returned (.bool true) ∧ Fr No w w' := by
  have HN := hid hN
  clear hN
  go_enter Tryz.func14, Tryz.ntmps14
  go_wp2_with fail
  refine (gnew2_calls 3 4 (by omega) (by omega) (by omega) (by omega) _).mono ?_
  rintro e w1 ⟨L0, rfl, hg, hf, hown⟩
  have HG := hid hg
  have F1 := hid hf
  have HO := hid hown
  clear hg hf hown
  go_wp2_with fail
  have fa := (Fr.refl No w1).alloc (.cells #[.int .i64 1, .int .i64 0, .int .i64 2] 3)
  refine (new_yes (some ⟨w1.heap.size, 0, none⟩) 3 3 awf _ (lit_ints 3 awf (by intro j hj; (have : j = 0 ∨ j = 1 ∨ j = 2 := by omega); rcases this with rfl | rfl | rfl <;> rfl)) (by decide) aw_perm awg aw_g1 aw_g2 (HN.out.fr (F1.out.trans fa) (fun h => h))).mono ?_
  rintro e w2 ⟨L, rfl, hf, hm, hb, hbr, hbb, hcb⟩
  have hds : ∀ j, L0.own 3 j → j ≠ L.b ∧ j ≠ L.br ∧ j ≠ L.bb ∧ j ≠ 0 := fun j hj => by
    have h1 : j < w1.heap.size := HG.out.own_lt hj
    have h2 := HO.out j hj
    have h3 := HN.out.lt
    simp only [World.alloc, Array.size_push] at hb hbr hbb
    omega
  have hlb : w.heap.size ≤ L.b := by
    have := F1.out.size
    simp only [World.alloc, Array.size_push] at hb
    omega
  have HG1 := hid (HG.out.no (fa.trans hf))
  have M1 := hid hm
  have F2 := hid (F1.out.trans (fa.trans hf))
  have HDS := hid hds
  clear hf hm hb hbr hbb hcb fa hds F1 HG
  go_wp2_with fail
  refine (gins_yes HG1.out 7 (by omega) 0 1 2 false (by decide) (by decide) (by omega) (by omega) rfl a6_c0).mono ?_
  rintro e w3 ⟨rfl, L1, hg, hb1, _, hf, hown⟩
  have F3 := hid (F2.out.trans' hf (fun i hi hj => by have := HO.out i hj; omega))
  have HO1 : Hid (∀ j, L1.own 3 j → w.heap.size ≤ j) := hid fun j hj => by
    rcases hown j hj with h | h
    · exact HO.out j h
    · have := F2.out.size; omega
  have M2 := hid (ix_keep M1.out hf HDS.out)
  have HDS1 := hid (own_keep M1.out HDS.out hown)
  have HG2 := hid hg
  rw [← hb1]
  clear hg hf hown hb1 HG1 HO F2 M1 HDS
  go_wp2_with fail
  refine (gins_yes HG2.out 8 (by omega) 1 2 3 false (by decide) (by decide) (by omega) (by omega) rfl a6_c1).mono ?_
  rintro e w4 ⟨rfl, L2, hg, hb2, _, hf, hown⟩
  have F4 := hid (F3.out.trans' hf (fun i hi hj => by have := HO1.out i hj; omega))
  have M3 := hid (ix_keep M2.out hf HDS1.out)
  have HDS2 := hid (own_keep M2.out HDS1.out hown)
  have HG3 : Hid (GMem w4 L2 a6g) := hid hg
  rw [← hb2]
  clear hg hf hown hb2 HG2 HO1 F3 M2 HDS1
  go_wp2_with fail
  refine (set_calls M3.out 0 1 ⟨2, 7, -1⟩).mono ?_
  rintro e w5 ⟨rfl, hm, hf⟩
  have M4 := hid (show IxMem w5 L ak1 from hm)
  have F5 := hid (fr_sub F4.out hf hlb)
  have HG4 := hid (HG3.out.fr hf (fun j hj (e : j = L.b) => (HDS2.out j hj).1 e))
  clear hm hf F4 HG3 M3
  go_wp2_with fail
  refine (set_calls M4.out 1 2 ⟨3, 8, -1⟩).mono ?_
  rintro e w6 ⟨rfl, hm, hf⟩
  have M5 := hid (show IxMem w6 L ak2 from hm)
  have F6 := hid (fr_sub F5.out hf hlb)
  have HG5 := hid (HG4.out.fr hf (fun j hj (e : j = L.b) => (HDS2.out j hj).1 e))
  clear hm hf F5 HG4 M4
  go_wp2_with fail
  refine (bdist_yes M5.out HG5.out a6_wt (by rw [a22_n]; exact a22_hd) 1 0 2 (by rw [a22_n]; omega) (by rw [a22_n]; omega)).mono ?_
  rintro e w7 ⟨U, W, rfl, hf, hU, hW⟩
  have hmeet : lst2 U W ak2.n = 5 := by
    have := Blw.meet (Y := a6x) (by rw [a22_n]; exact a22_blw) a20_ok.2 a20_ok.1 M5.out.ok a20_gok a6_wt (by rw [a22_n]; rfl) (by rw [a22_n]; omega) (by rw [a22_n]; omega) hU hW
    rw [this]; exact a20_far
  rw [hmeet]
  have M6 := hid (M5.out.no hf)
  have HG6 := hid (HG5.out.no hf)
  have F7 := hid (F6.out.trans hf)
  clear hf hU hW hmeet M5 HG5 F6
  go_wp2_with fail
  refine (bpath_yes a22_fit M6.out HG6.out a6_wt (by rw [a22_n]; exact a22_hd) 1 (Y := a6x) (by rw [a22_n]; exact a22_blw) a20_ok.2 a20_ok.1 0 2 (by rw [a22_n]; omega) (by rw [a22_n]; omega)).mono ?_
  rintro e w8 ⟨hf, hp⟩
  rw [a20_far] at hp
  rcases hp with ⟨h, _⟩ | ⟨h, _⟩ | ⟨l, sv, _, rfl, hsl, hwk, _⟩
  · exact absurd h (by decide)
  · exact absurd h (by decide)
  obtain rfl := a22_path hwk
  have M7 := hid (M6.out.no hf)
  have F8 := hid (F7.out.trans hf)
  have HSL := hid hsl
  clear hf hsl hwk M6 F7 HG6
  go_wp2_with fail
  refine (bdist_no _ M7.out 1 0 3 (.inr (by unfold Ix.vertex; rw [a22_n]; rfl))).mono ?_
  rintro e w9 ⟨rfl, hf⟩
  have F9 := hid (F8.out.trans hf)
  have HSL9 := hid (HSL.out.fr hf)
  clear hf HSL M7 F8
  go_wp2_with fail
  have fa := (Fr.refl No w9).alloc (.cells #[.int .i64 7, .int .i64 8] 3)
  refine (ints_same (l := [7, 8]) (HSL9.out.fr fa) (lit_sl [7, 8] 2 2 rfl (by decide) (by intro j hj; (have : j = 0 ∨ j = 1 := by simp at hj; omega); rcases this with rfl | rfl <;> rfl)) (by decide)).mono ?_
  rintro e w10 ⟨rfl, hf⟩
  have F10 := hid (F9.out.trans (fa.trans hf))
  clear hf fa HSL9 F9
  go_wp2
  go_ret
  exact ⟨rfl, F10.out⟩

end Go.Proofs.YtoepbhacpidcbaaGreatDoor
/- The law 'BypassFloors' returns true, by the contracts; walked. -/
set_option linter.unusedVariables false
set_option linter.unusedSimpArgs false
namespace Go.Proofs.YtoepbhacpidcbaaGreatDoor
open Go.RowKit Go.Deep

theorem vxf_no {x : Ix} {s : Int} (h : ¬ (0 ≤ s ∧ s < x.n)) : x.vertex s = false := by unfold Ix.vertex; simpa using h

set_option maxRecDepth 100000 in
set_option maxHeartbeats 8000000 in
theorem byfloors_law (n : Nat) (A1 : Option Addr) (ln1 cp1 : Nat) (ch : Nat → Chg) (num : Nat) (fa fb s t : Int) (W : World) (hn : n ≤ 255) (hc : ChgsF W A1 ln1 ch) (b1 : ln1 ≤ 140737488351232) (hnum : (num : Int) ≤ 18446744073709551615) (hN : NoneVar W) :
    Calls Tryz.prog 13 #[.int .u8 (n : Nat), .slice A1 ln1 cp1, .int .u64 (num : Nat), .int .i64 fa, .int .i64 fb, .int .i64 s, .int .i64 t] W fun e w' => e = .returned (.bool true) ∧ Fr No W w' := by
  have HC := hid hc
  have HN := hid hN
  have hmod : n % 24 < 24 := Nat.mod_lt _ (by omega)
  have hd0 := rank_perm (1 + n % 24) num (by omega) (by omega)
  have HD0 := hid hd0
  have HI0 := hid (Classical.choose_spec hd0.inv)
  obtain ⟨g0, hg0⟩ : ∃ g, Classical.choose hd0.inv = g := ⟨_, rfl⟩
  rw [hg0] at HI0
  clear hg0 hd0
  clear hc hN
  go_enter Tryz.func13, Tryz.ntmps13
  go_wp2_with fail
  refine (awake22_calls W HN.out).mono ?_
  rintro e w1 ⟨rfl, hf⟩
  have G1 := hid hf
  clear hf
  go_wp2_with fail
  refine (made8_calls n A1 ln1 cp1 ch w1 hn (HC.out.fr G1.out) b1).mono ?_
  rintro e w2 ⟨Lg, b, rfl, hf, hm, hr, _, _⟩
  have hgn := ((Gr.zero (1 + n % 24) 64).steps_n ch (min ln1 150)).1
  have hgw := Gr.steps_wt (1 + n % 24) 64 ch (min ln1 150)
  obtain ⟨G, hG⟩ : ∃ G, (Gr.zero (1 + n % 24) 64).steps ch (min ln1 150) = G := ⟨_, rfl⟩
  rw [hG] at hm hr hgn hgw
  have hgn' : 1 + n % 24 = G.n := hgn.symm
  rw [hgn'] at HD0 HI0
  have HG0 := hid hm
  have HRG0 := hid hr
  have HGW := hid hgw
  have hhd0 := Gr.steps_hd (1 + n % 24) 64 (by omega) ch (min ln1 150)
  rw [hG] at hhd0
  have HHD0 : Hid (G.Hd G.n) := hid ⟨rfl, by have := hhd0.2; rw [← hgn'] ; exact this⟩
  clear hhd0
  have HOKG := hid hm.ok
  have hn24 := hm.ok.n2
  have Z0 := hid (G1.out.trans hf)
  clear hf hm hr hG hgw hgn
  go_wp2_with fail
  refine (rank_law_calls n num w2 hn hnum).mono ?_
  rintro e r0 ⟨br0, rfl, hf, _, hblk⟩
  rw [hgn'] at hblk ⊢
  have HB0a := hid hblk
  have HGa := hid (HG0.out.no hf)
  have HRGa := hid (HRG0.out.no hf)
  have Z1 := hid (Z0.out.trans hf)
  clear hf hblk HG0 HRG0 Z0
  go_wp2_with fail
  refine (build_calls HGa.out (some ⟨br0, 0, none⟩) G.n (fun i => ((rankOf G.n num i : Nat) : Int)) (fun _ => ⟨br0, 0, rfl, fun j hj => by rw [Nat.zero_add]; exact HB0a.out.cell hj⟩) HD0.out g0 HI0.out.1 HI0.out.2 (HN.out.fr Z1.out (fun h => h))).mono ?_
  rintro e t0 ⟨L0, rfl, hf, hx, _, _, _, _⟩
  have hw := (Ix.new_ok (show 0 < G.n by omega) HD0.out HI0.out.1 HI0.out.2).build_whole HGW.out
  have hxn : ((Ix.new G.n (fun i => ((rankOf G.n num i : Nat) : Int)) g0).build G).n = G.n := Ix.build_n _ _
  have hxr : ∀ v, ((Ix.new G.n (fun i => ((rankOf G.n num i : Nat) : Int)) g0).build G).rk v = rankOf G.n num v := fun v => by rw [Ix.build_rk]; exact Int.toNat_natCast _
  obtain ⟨x0, hX⟩ : ∃ x, (Ix.new G.n (fun i => ((rankOf G.n num i : Nat) : Int)) g0).build G = x := ⟨_, rfl⟩
  have HXE0 := hid hX
  rw [hX] at hx hw hxn hxr
  have HX0 := hid hx
  have HW0 := hid hw.2
  have HOKX0 := hid hw.1
  have HXN0 := hid hxn
  have HXR0 := hid hxr
  have HG0 := hid (HGa.out.no hf)
  have HRG0 := hid (HRGa.out.no hf)
  have HB0 := hid (HB0a.out.fr hf (fun h => h))
  have Z0 := hid (Z1.out.trans hf)
  clear hf hx hw hX hxr hxn HGa HRGa Z1 HB0a
  have hfit : x0.Fit := by rw [← HXE0.out]; exact Ix.Fit.build (Ix.Fit.new _ _ _) G
  have HFIT := hid hfit
  have HHD : Hid (G.Hd x0.n) := hid (by rw [HXN0.out]; exact HHD0.out)
  have hxg := HXN0.out
  clear hfit
  by_cases hst : (0 ≤ s ∧ s < G.n) ∧ (0 ≤ t ∧ t < G.n)
  · obtain ⟨s', rfl⟩ := Int.eq_ofNat_of_zero_le hst.1.1
    obtain ⟨t', rfl⟩ := Int.eq_ofNat_of_zero_le hst.2.1
    have hs1 : s' < x0.n := by omega
    have ht1 : t' < x0.n := by omega
    have hvs : decide (0 ≤ ((s' : Nat) : Int) ∧ ((s' : Nat) : Int) < G.n) = true := by simp; omega
    have hvt : decide (0 ≤ ((t' : Nat) : Int) ∧ ((t' : Nat) : Int) < G.n) = true := by simp; omega
    have HVS := hid hvs
    have HVT := hid hvt
    have hmeet : ∀ (fl : Int) (U V : Nat → Int), Lst x0.n (oM G x0 (flr x0.n fl)) s' U → Lst x0.n (iM x0 (flr x0.n fl)) t' V → lst2 U V x0.n = G.far s' t' := fun fl U V hU hV => Blw.meet (Blw.refl x0 _) HW0.out HOKX0.out HOKX0.out HOKG.out HGW.out HXN0.out.symm hs1 ht1 hU hV
    have HMEET := hid hmeet
    have hbd := Gr.far_b HGW.out s' t' (by omega) (by omega)
    clear hvs hvt hst hmeet
    obtain ⟨f, hf0⟩ : ∃ f, G.far s' t' = f := ⟨_, rfl⟩
    rw [hf0] at HMEET hbd
    have HF0 := hid hf0
    clear hf0
    have hxg2 : x0.n ≤ 24 := by omega
    clear hxg
    go_wp2_with fail
    refine (bdist_yes HX0.out HG0.out HGW.out HHD.out fa s' t' hs1 ht1).mono ?_
    rintro e u1 ⟨U, V, rfl, hf, hU, hV⟩
    rw [HMEET.out _ U V hU hV]
    have F1 := hid (hf)
    clear hf hU hV U V
    go_wp2_with fail
    refine (bdist_yes (HX0.out.no F1.out) (HG0.out.no F1.out) HGW.out HHD.out fb s' t' hs1 ht1).mono ?_
    rintro e u2 ⟨U, V, rfl, hf, hU, hV⟩
    rw [HMEET.out _ U V hU hV]
    have F2 := hid (F1.out.trans hf)
    clear hf hU hV U V
    go_wp2_with fail
    refine (bpath_yes (Y := x0) HFIT.out (HX0.out.no F2.out) (HG0.out.no F2.out) HGW.out HHD.out fa (Blw.refl x0 _) HW0.out HOKX0.out s' t' hs1 ht1).mono ?_
    rintro e u3 ⟨hf, hp⟩
    rw [HF0.out] at hp
    have F3 := hid (F2.out.trans hf)
    clear hf
    have key : ∃ (sv : Value) (d c : Int), e = .returned (.tuple #[sv, .int .i64 d, .int .i64 c]) ∧ ((f = 4611686018427387906 ∧ d = 0 ∧ c = 3) ∨ (f = 4611686018427387905 ∧ d = 0 ∧ c = 9) ∨ (f ≤ 4611686018427387904 ∧ d = f ∧ c = 0)) := by
      rcases hp with ⟨h1, h2⟩ | ⟨h1, h2⟩ | ⟨l, sv, h1, h2, _⟩
      · exact ⟨_, _, _, h2, .inl ⟨h1, rfl, rfl⟩⟩
      · exact ⟨_, _, _, h2, .inr (.inl ⟨h1, rfl, rfl⟩)⟩
      · exact ⟨_, _, _, h2, .inr (.inr ⟨h1, rfl, rfl⟩)⟩
    obtain ⟨sv1, d1, c1, rfl, hk1⟩ := key
    have HK1 := hid hk1
    clear hp hk1
    go_wp2_with fail
    refine (bpath_yes (Y := x0) HFIT.out (HX0.out.no F3.out) (HG0.out.no F3.out) HGW.out HHD.out fb (Blw.refl x0 _) HW0.out HOKX0.out s' t' hs1 ht1).mono ?_
    rintro e u4 ⟨hf, hp⟩
    rw [HF0.out] at hp
    have F4 := hid (F3.out.trans hf)
    clear hf
    have key : ∃ (sv : Value) (d c : Int), e = .returned (.tuple #[sv, .int .i64 d, .int .i64 c]) ∧ ((f = 4611686018427387906 ∧ d = 0 ∧ c = 3) ∨ (f = 4611686018427387905 ∧ d = 0 ∧ c = 9) ∨ (f ≤ 4611686018427387904 ∧ d = f ∧ c = 0)) := by
      rcases hp with ⟨h1, h2⟩ | ⟨h1, h2⟩ | ⟨l, sv, h1, h2, _⟩
      · exact ⟨_, _, _, h2, .inl ⟨h1, rfl, rfl⟩⟩
      · exact ⟨_, _, _, h2, .inr (.inl ⟨h1, rfl, rfl⟩)⟩
      · exact ⟨_, _, _, h2, .inr (.inr ⟨h1, rfl, rfl⟩)⟩
    obtain ⟨sv2, d2, c2, rfl, hk2⟩ := key
    clear hp
    have e1 : d2 = d1 := by have := HK1.out; omega
    have e2 : c2 = c1 := by have := HK1.out; omega
    subst e1 e2
    clear hk2
    go_wp2_with fail
    refine (rgvertex_calls (HRG0.out.no F4.out) ((s' : Nat) : Int)).mono ?_
    rintro e w7 ⟨rfl, hw⟩
    subst hw
    rw [HVS.out]
    go_wp2_with fail
    refine (rgvertex_calls (HRG0.out.no F4.out) ((t' : Nat) : Int)).mono ?_
    rintro e w7 ⟨rfl, hw⟩
    subst hw
    rw [HVT.out]
    rcases HK1.out with ⟨h1, h2, h3⟩ | ⟨h1, h2, h3⟩ | ⟨h1, h2, h3⟩
    · subst h2 h3
      go_wp2
      go_ret
      exact ⟨rfl, Z0.out.trans F4.out⟩
    · subst h2 h3
      go_wp2
      go_ret
      exact ⟨rfl, Z0.out.trans F4.out⟩
    · subst h2 h3
      go_wp2
      go_ret
      exact ⟨rfl, Z0.out.trans F4.out⟩
  · have hno : x0.vertex s = false ∨ x0.vertex t = false := by
      by_cases h : 0 ≤ s ∧ s < G.n
      · exact .inr (vxf_no (by rw [hxg]; exact fun h2 => hst ⟨h, h2⟩))
      · exact .inl (vxf_no (by rw [hxg]; exact h))
    have HNO := hid hno
    clear hno
    go_wp2_with fail
    refine (bdist_no _ HX0.out fa s t HNO.out).mono ?_
    rintro e u1 ⟨rfl, hf⟩
    have F1 := hid (hf)
    clear hf
    go_wp2_with fail
    refine (bdist_no _ (HX0.out.no F1.out) fb s t HNO.out).mono ?_
    rintro e u2 ⟨rfl, hf⟩
    have F2 := hid (F1.out.trans hf)
    clear hf
    go_wp2_with fail
    refine (bpath_no _ (HX0.out.no F2.out) fa s t HNO.out).mono ?_
    rintro e u3 ⟨rfl, hf⟩
    have F3 := hid (F2.out.trans hf)
    clear hf
    go_wp2_with fail
    refine (bpath_no _ (HX0.out.no F3.out) fb s t HNO.out).mono ?_
    rintro e u4 ⟨rfl, hf⟩
    have F4 := hid (F3.out.trans hf)
    clear hf
    by_cases hs : 0 ≤ s ∧ s < G.n
    · have hvs : decide (0 ≤ s ∧ s < G.n) = true := by simp; exact hs
      have hvt : decide (0 ≤ t ∧ t < G.n) = false := by
        rw [decide_eq_false_iff_not]
        exact fun h => hst ⟨hs, h⟩
      have HVS := hid hvs
      have HVT := hid hvt
      clear hvs hvt hst hs
      go_wp2_with fail
      refine (rgvertex_calls (HRG0.out.no F4.out) s).mono ?_
      rintro e w7 ⟨rfl, hw⟩
      subst hw
      rw [HVS.out]
      go_wp2_with fail
      refine (rgvertex_calls (HRG0.out.no F4.out) t).mono ?_
      rintro e w7 ⟨rfl, hw⟩
      subst hw
      rw [HVT.out]
      go_wp2
      go_ret
      exact ⟨rfl, Z0.out.trans F4.out⟩
    · have hvs : decide (0 ≤ s ∧ s < G.n) = false := by rw [decide_eq_false_iff_not]; exact hs
      have HVS := hid hvs
      clear hvs hst hs
      go_wp2_with fail
      refine (rgvertex_calls (HRG0.out.no F4.out) s).mono ?_
      rintro e w7 ⟨rfl, hw⟩
      subst hw
      rw [HVS.out]
      go_wp2
      go_ret
      exact ⟨rfl, Z0.out.trans F4.out⟩

end Go.Proofs.YtoepbhacpidcbaaGreatDoor
/- An index whose entries from a floor on are set anew: plain, and walked. -/
set_option linter.unusedVariables false
set_option linter.unusedSimpArgs false
namespace Go.Proofs.YtoepbhacpidcbaaGreatDoor
open Go.RowKit Go.Deep

def Ix.spl (x : Ix) (floor : Int) (lk : Nat → Lk) : Nat → Ix
  | 0 => x
  | k + 1 => if 0 ≤ (Ix.spl x floor lk k).low (lk k).t (lk k).h ∧ floor ≤ (Ix.spl x floor lk k).rank ((Ix.spl x floor lk k).low (lk k).t (lk k).h) then (Ix.spl x floor lk k).setI (lk k).t (lk k).h (lk k).e else Ix.spl x floor lk k
theorem Ix.spl_shape (x : Ix) (floor : Int) (lk : Nat → Lk) : ∀ k, (x.spl floor lk k).n = x.n ∧ (x.spl floor lk k).rk = x.rk ∧ (x.spl floor lk k).by_ = x.by_
  | 0 => ⟨rfl, rfl, rfl⟩
  | k + 1 => by
    have ih := Ix.spl_shape x floor lk k
    unfold Ix.spl
    split
    · rw [Ix.setI_n, Ix.setI_rk, Ix.setI_by]; exact ih
    · exact ih
theorem Ix.Fit.spl {x : Ix} (h : x.Fit) (floor : Int) (lk : Nat → Lk) : ∀ k, (x.spl floor lk k).Fit
  | 0 => h
  | k + 1 => by
    have ih := Ix.Fit.spl h floor lk k
    unfold Ix.spl
    split
    · exact ih.setI _ _ _
    · exact ih
theorem Ix.setI_ent (x : Ix) (t h : Int) (e : En) {u v : Nat} (hu : u < x.n) (hv : v < x.n) (hne : u ≠ v) (hn : ¬ (t = u ∧ h = v)) : (x.setI t h e).ent u v = x.ent u v := by
  have h1 := Ix.setI_keep x t h e u v hn
  rwa [at_nat (two_nat (by rw [Ix.setI_n]; exact hu) (by rw [Ix.setI_n]; exact hv) hne), at_nat (two_nat hu hv hne)] at h1
theorem Blw.spl {x : Ix} (floor : Int) (lk : Nat → Lk) : ∀ k, Blw (x.spl floor lk k) x (flr x.n floor)
  | 0 => Blw.refl x _
  | k + 1 => by
    have ih := Blw.spl (x := x) floor lk k
    obtain ⟨s1, s2, s3⟩ := Ix.spl_shape x floor lk k
    unfold Ix.spl
    split
    · rename_i hc
      refine ⟨by rw [Ix.setI_n]; exact ih.n, by rw [Ix.setI_rk]; exact ih.rk, by rw [Ix.setI_by]; exact ih.by_, fun u v hu hv hne hlt => ?_⟩
      rw [Ix.setI_n] at hu hv
      rw [Ix.setI_rk] at hlt
      by_cases hn : (lk k).t = u ∧ (lk k).h = v
      · rw [hn.1, hn.2, Ix.low_eq hu hv hne] at hc
        have hr : ∀ z : Nat, z < (x.spl floor lk k).n → (x.spl floor lk k).rank (z : Nat) = (x.spl floor lk k).rk z := fun z hz => by unfold Ix.rank; rw [if_pos ⟨by omega, by omega⟩]; simp
        have hc2 := hc.2
        have hf : ((flr x.n floor : Nat) : Int) ≤ floor ∨ flr x.n floor = 0 := by unfold flr; split; exact .inr rfl; split <;> (left; omega)
        split at hc2
        · rw [hr u hu] at hc2; omega
        · rw [hr v hv] at hc2; omega
      · rw [Ix.setI_ent _ _ _ _ hu hv hne hn]
        exact ih.e u v hu hv hne hlt
    · exact ih

attribute [local go_sem high] run_eql_en run_neq_en

set_option maxRecDepth 100000 in
set_option maxHeartbeats 8000000 in
theorem spoilt_calls {w : World} {Lg : GLoc} {G : Gr} (hg : GMem w Lg G) (A : Option Addr) (f : Nat → Int) (ha : IntsF w A G.n f) (hd : PermF G.n f) (g0 : Nat → Nat) (i1 : ∀ i, i < G.n → g0 (f i).toNat = i) (i2 : ∀ r, r < G.n → g0 r < G.n ∧ f (g0 r) = r) (hN : NoneVar w) (floor : Int) (A2 : Option Addr) (ln cp : Nat) (lk : Nat → Lk) (hl : LinksF w A2 ln lk) (b2 : ln ≤ 140737488351232) :
    Calls Tryz.prog 49 #[.pointer (some ⟨Lg.b, 0, none⟩), .slice A G.n G.n, .int .i64 floor, .slice A2 ln cp] w fun e w' => ∃ L : IxLoc, e = .returned (.pointer (some ⟨L.b, 0, none⟩)) ∧ IxMem w' L (((Ix.new G.n f g0).build G).spl floor lk (min ln 300)) ∧ Fr No w w' := by
  have HG := hid hg
  have HA := hid ha
  have HN := hid hN
  have HL := hid hl
  clear hg ha hN hl
  go_enter Tryz.func49, Tryz.ntmps49
  go_wp2_with fail
  refine (build_calls HG.out A G.n f HA.out hd g0 i1 i2 HN.out).mono ?_
  rintro e t0 ⟨L, rfl, hf, hx, hb1, hb2, hb3, hcb⟩
  have F1 := hid hf
  have hlb : w.heap.size ≤ L.b := hb1
  obtain ⟨X, hX⟩ : ∃ X, (Ix.new G.n f g0).build G = X := ⟨_, rfl⟩
  rw [hX] at hx
  have HX := hid hx
  have HXE := hid hX
  clear hf hx hb1 hb2 hb3 hcb hX
  go_wp2
  go_loopg [11] (ln + 1) (fun gk p wr => ∃ k : Nat, p = .int .i64 k ∧ k ≤ ln ∧ k ≤ 300 ∧ gk = ln + 1 - k ∧ IxMem wr L (X.spl floor lk k) ∧ Fr (One L.b) t0 wr)
  case atStart => exact ⟨0, rfl, by omega, by omega, rfl, HX.out, Fr.refl _ _⟩
  case round =>
    obtain ⟨k, rfl, hk, hk3, hgk, hx, hf⟩ := hrel
    have HGK := hid hgk
    have HY := hid hx
    have HF := hid hf
    have GW := hid (F1.out.trans' hf (fun i hi (h : i = L.b) => by omega))
    clear hgk hx hf
    by_cases hlt : k < ln ∧ k < 300
    · obtain ⟨hlt, hlt3⟩ := hlt
      have hlt2 : (k : Int) < ln := by omega
      have hlt4 : (k : Int) < 300 := by omega
      obtain ⟨bl, ol, rfl, hcl⟩ := HL.out (by omega)
      obtain ⟨c0, c1, c2, c3, c4⟩ := (hcl k hlt).fr GW.out (fun h => h)
      have hst : X.spl floor lk (k + 1) = if 0 ≤ (X.spl floor lk k).low (lk k).t (lk k).h ∧ floor ≤ (X.spl floor lk k).rank ((X.spl floor lk k).low (lk k).t (lk k).h) then (X.spl floor lk k).setI (lk k).t (lk k).h (lk k).e else X.spl floor lk k := rfl
      obtain ⟨Y, hYY⟩ : ∃ Y, X.spl floor lk k = Y := ⟨_, rfl⟩
      obtain ⟨⟨t, h, ⟨e0, e1, e2⟩⟩, hlk⟩ : ∃ q, lk k = q := ⟨_, rfl⟩
      rw [hYY, hlk] at hst
      rw [hYY] at HY
      rw [hlk] at c0 c1 c2 c3 c4
      simp only at c0 c1 c2 c3 c4 hst
      obtain ⟨z, hz⟩ : ∃ z, Y.low t h = z := ⟨_, rfl⟩
      obtain ⟨rz, hrz⟩ : ∃ r, Y.rank z = r := ⟨_, rfl⟩
      rw [hz, hrz] at hst
      have HST := hid hst
      have HRZ := hid hrz
      have hlow : ∀ nn : Fam wr, Calls Tryz.prog 99 #[.pointer (some ⟨L.b, 0, none⟩), .int .i64 t, .int .i64 h] nn.v fun e w' => e = .returned (.int .i64 z) ∧ Fr No nn.v w' := fun nn => (low_calls (HY.out.no nn.h) t h).mono fun e w' ⟨q1, k', q2⟩ => ⟨by rw [q1, hz], by rw [q2]; exact Fr.of_drewN k'⟩
      have kk0 : ∀ nn : Fam wr, nn.v.cell? ⟨bl, ol + k * 5, none⟩ = some (.int .i64 t) := Fam.cell c0
      have kk1 : ∀ nn : Fam wr, nn.v.cell? ⟨bl, ol + k * 5 + 1, none⟩ = some (.int .i64 h) := Fam.cell c1
      clear hcl hst hYY hlk hrz
      go_wp2_with fail
      refine wp_region_fam (by kernel_rfl) (by kernel_rfl) ?_
      repeat (go_big_quiet_step (exact Calls.fam (hlow _)))
      refine wpQuiet_nil ?_
      rintro w8 ⟨⟨w8, hf8⟩, rfl⟩
      have HF8 := hid hf8
      have q0 := hf8.cell_some c0 (fun h => h)
      have q1 := hf8.cell_some c1 (fun h => h)
      have q2 := hf8.cell_some c2 (fun h => h)
      have q3 := hf8.cell_some c3 (fun h => h)
      have q4 := hf8.cell_some c4 (fun h => h)
      clear hf8 kk0 kk1 c0 c1 c2 c3 c4 hlow
      by_cases hz0 : 0 ≤ z
      · go_wp2_with fail
        refine (rank_calls (HY.out.no HF8.out) z).mono ?_
        rintro e w9 ⟨rfl, hw⟩
        subst hw
        rw [HRZ.out]
        by_cases hfl : floor ≤ rz
        · have hs := HST.out
          rw [if_pos ⟨hz0, hfl⟩] at hs
          have HSS := hid hs
          have rr0 : ∀ nn : Fam w8, nn.v.cell? ⟨bl, ol + k * 5, none⟩ = some (.int .i64 t) := Fam.cell q0
          have rr1 : ∀ nn : Fam w8, nn.v.cell? ⟨bl, ol + k * 5 + 1, none⟩ = some (.int .i64 h) := Fam.cell q1
          have rr2 : ∀ nn : Fam w8, nn.v.cell? ⟨bl, ol + k * 5 + 2, none⟩ = some (.int .i64 e0) := Fam.cell q2
          have rr3 : ∀ nn : Fam w8, nn.v.cell? ⟨bl, ol + k * 5 + 2 + 1, none⟩ = some (.int .i64 e1) := Fam.cell q3
          have rr4 : ∀ nn : Fam w8, nn.v.cell? ⟨bl, ol + k * 5 + 2 + 2, none⟩ = some (.int .i64 e2) := Fam.cell q4
          clear hs HST q0 q1 q2 q3 q4
          go_wp2_with fail
          refine wp_region_fam_tail 16 (by kernel_rfl) (by kernel_rfl) ?_
          simp only [List.take_succ_cons, List.take_zero, List.drop_succ_cons, List.drop_zero]
          repeat (go_big_quiet_step (fail))
          refine wpQuiet_nil ?_
          rintro w9 ⟨⟨w9, hf9⟩, rfl⟩
          have HF9 := hid (HF8.out.trans hf9)
          clear hf9 rr0 rr1 rr2 rr3 rr4
          go_wp2_with fail
          refine (set_calls (HY.out.no HF9.out) t h ⟨e0, e1, e2⟩).mono ?_
          rintro e w10 ⟨rfl, hm10, hf10⟩
          have HM10 := hid hm10
          have HF10 := hid hf10
          clear hm10 hf10
          go_wp2
          go_roundg (ln + 1 - (k + 1))
          case measure => have := HGK.out; omega
          case rel => exact ⟨k + 1, by go_num, by omega, by omega, rfl, by rw [HSS.out]; exact HM10.out, HF.out.trans ((HF9.out.no (F := One L.b)).trans HF10.out)⟩
        · have hs := HST.out
          rw [if_neg (fun h => hfl h.2)] at hs
          have HSS := hid hs
          clear hs HST
          go_wp2
          go_roundg (ln + 1 - (k + 1))
          case measure => have := HGK.out; omega
          case rel => exact ⟨k + 1, by go_num, by omega, by omega, rfl, by rw [HSS.out]; exact HY.out.no HF8.out, HF.out.trans (HF8.out.no (F := One L.b))⟩
      · have hs := HST.out
        rw [if_neg (fun h => hz0 h.1)] at hs
        have HSS := hid hs
        clear hs HST
        go_wp2
        go_roundg (ln + 1 - (k + 1))
        case measure => have := HGK.out; omega
        case rel => exact ⟨k + 1, by go_num, by omega, by omega, rfl, by rw [HSS.out]; exact HY.out.no HF8.out, HF.out.trans (HF8.out.no (F := One L.b))⟩
    · have hfin : k = min ln 300 := by omega
      by_cases hlt : k < ln
      · have h3 : ¬ k < 300 := by omega
        have h4 : (300 : Int) ≤ k := by omega
        go_wp2
        go_ret
        exact ⟨L, rfl, by rw [HXE.out, ← hfin]; exact HY.out, GW.out⟩
      · go_wp2
        go_ret
        exact ⟨L, rfl, by rw [HXE.out, ← hfin]; exact HY.out, GW.out⟩

end Go.Proofs.YtoepbhacpidcbaaGreatDoor
/- The law 'BypassExact' returns true, by the contracts; walked. -/
set_option linter.unusedVariables false
set_option linter.unusedSimpArgs false
namespace Go.Proofs.YtoepbhacpidcbaaGreatDoor
open Go.RowKit Go.Deep

theorem LinksF.frT {w w' : World} {A : Option Addr} {n : Nat} {f : Nat → Lk} (h : LinksF w A n f) (hf : Fr No w w') : LinksF w' A n f := fun h0 => by
  obtain ⟨b, off, e, hc⟩ := h h0
  exact ⟨b, off, e, fun j hj => (hc j hj).fr hf (fun h => h)⟩

set_option maxRecDepth 100000 in
set_option maxHeartbeats 4000000 in
theorem byexact_law (n : Nat) (A1 : Option Addr) (ln1 cp1 : Nat) (ch : Nat → Chg) (num : Nat) (floor : Int) (A4 : Option Addr) (ln4 cp4 : Nat) (lk4 : Nat → Lk) (W : World) (hn : n ≤ 255) (hc : ChgsF W A1 ln1 ch) (b1 : ln1 ≤ 140737488351232) (hnum : (num : Int) ≤ 18446744073709551615) (hl : LinksF W A4 ln4 lk4) (b4 : ln4 ≤ 140737488351232) (hN : NoneVar W) :
    Calls Tryz.prog 11 #[.int .u8 (n : Nat), .slice A1 ln1 cp1, .int .u64 (num : Nat), .int .i64 floor, .slice A4 ln4 cp4] W fun e w' => e = .returned (.bool true) ∧ Fr No W w' := by
  have HC := hid hc
  have HL := hid hl
  have HN := hid hN
  have hmod : n % 24 < 24 := Nat.mod_lt _ (by omega)
  have hd0 := rank_perm (1 + n % 24) num (by omega) (by omega)
  have HD0 := hid hd0
  have HI0 := hid (Classical.choose_spec hd0.inv)
  obtain ⟨g0, hg0⟩ : ∃ g, Classical.choose hd0.inv = g := ⟨_, rfl⟩
  rw [hg0] at HI0
  clear hg0 hd0
  clear hc hN hl
  go_enter Tryz.func11, Tryz.ntmps11
  go_wp2_with fail
  refine (awake22_calls W HN.out).mono ?_
  rintro e w1 ⟨rfl, hf⟩
  have G1 := hid hf
  clear hf
  go_wp2_with fail
  refine (made8_calls n A1 ln1 cp1 ch w1 hn (HC.out.fr G1.out) b1).mono ?_
  rintro e w2 ⟨Lg, b, rfl, hf, hm, hr, _, _⟩
  have hgn := ((Gr.zero (1 + n % 24) 64).steps_n ch (min ln1 150)).1
  have hgw := Gr.steps_wt (1 + n % 24) 64 ch (min ln1 150)
  obtain ⟨G, hG⟩ : ∃ G, (Gr.zero (1 + n % 24) 64).steps ch (min ln1 150) = G := ⟨_, rfl⟩
  rw [hG] at hm hr hgn hgw
  have hgn' : 1 + n % 24 = G.n := hgn.symm
  rw [hgn'] at HD0 HI0
  have HG0 := hid hm
  have HRG0 := hid hr
  have HGW := hid hgw
  have hhd0 := Gr.steps_hd (1 + n % 24) 64 (by omega) ch (min ln1 150)
  rw [hG] at hhd0
  have HHD0 : Hid (G.Hd G.n) := hid ⟨rfl, by have := hhd0.2; rw [← hgn'] ; exact this⟩
  clear hhd0
  have HOKG := hid hm.ok
  have hn24 := hm.ok.n2
  have Z0 := hid (G1.out.trans hf)
  clear hf hm hr hG hgw hgn
  go_wp2_with fail
  refine (rank_law_calls n num w2 hn hnum).mono ?_
  rintro e r0 ⟨br0, rfl, hf, _, hblk⟩
  rw [hgn'] at hblk ⊢
  have HB0a := hid hblk
  have HGa := hid (HG0.out.no hf)
  have HRGa := hid (HRG0.out.no hf)
  have Z1 := hid (Z0.out.trans hf)
  clear hf hblk HG0 HRG0 Z0
  go_wp2_with fail
  refine (spoilt_calls HGa.out (some ⟨br0, 0, none⟩) (fun i => ((rankOf G.n num i : Nat) : Int)) (fun _ => ⟨br0, 0, rfl, fun j hj => by rw [Nat.zero_add]; exact HB0a.out.cell hj⟩) HD0.out g0 HI0.out.1 HI0.out.2 (HN.out.fr Z1.out (fun h => h)) floor A4 ln4 cp4 lk4 (HL.out.frT Z1.out) b4).mono ?_
  rintro e t0 ⟨L0, rfl, hx, hf⟩
  have hw := (Ix.new_ok (show 0 < G.n by omega) HD0.out HI0.out.1 HI0.out.2).build_whole HGW.out
  have hxn : ((Ix.new G.n (fun i => ((rankOf G.n num i : Nat) : Int)) g0).build G).n = G.n := Ix.build_n _ _
  obtain ⟨y0, hY⟩ : ∃ x, (Ix.new G.n (fun i => ((rankOf G.n num i : Nat) : Int)) g0).build G = x := ⟨_, rfl⟩
  rw [hY] at hx hw hxn
  have hbl := Blw.spl (x := y0) floor lk4 (min ln4 300)
  have hsh := (Ix.spl_shape y0 floor lk4 (min ln4 300)).1
  obtain ⟨x0, hX⟩ : ∃ x, y0.spl floor lk4 (min ln4 300) = x := ⟨_, rfl⟩
  rw [hX] at hx hbl hsh
  rw [← hsh] at hbl
  have HX0 := hid hx
  have HBL := hid hbl
  have HW0 := hid hw.2
  have HOKX0 := hid hw.1
  have HXN0 : Hid (x0.n = G.n) := hid (hsh.trans hxn)
  have HG0 := hid (HGa.out.no hf)
  have HRG0 := hid (HRGa.out.no hf)
  have Z0 := hid (Z1.out.trans hf)
  have HHD : Hid (G.Hd x0.n) := hid (by rw [HXN0.out]; exact HHD0.out)
  clear hf hx hw hX hY hxn hbl hsh HGa HRGa Z1 HB0a
  go_wp2_with fail
  refine (all10_calls HRG0.out HOKG.out HGW.out).mono ?_
  rintro e w6 ⟨rfl, hf⟩
  have HX6 := hid (HX0.out.no hf)
  have HG6 := hid (HG0.out.no hf)
  have HRG6 := hid (HRG0.out.no hf)
  have Z6 := hid (Z0.out.trans hf)
  clear hf HX0 HRG0 HG0 Z0
  have hinf : (Tryz.prog.info? 103).map (·.size) = some 576 := by kernel_rfl
  go_wp2_with (refine wpList_store_row rfl 103 (.tmp 14) (.tmp 39) rfl w6.heap.size (sqV G.far) rfl rfl 103 Tryz.zeroCells103 (heap_alloc_new w6 _) (by rw [hinf, sqV_size]) (by rw [sqV_size, sq_size]) (sqV_one _) ?_)
  have hfs := srow_fr (w6.alloc (.cells Tryz.zeroCells103 103)) w6.heap.size (sqV G.far)
  have hsq : Sq ((w6.alloc (.cells Tryz.zeroCells103 103)).setRow w6.heap.size (sqV G.far)) w6.heap.size 24 G.far := Sq.of_heap rfl (setRow_heap _ w6.heap.size _ _ _ _ (heap_alloc_new w6 _))
  have f7 : Fr No w6 ((w6.alloc (.cells Tryz.zeroCells103 103)).setRow w6.heap.size (sqV G.far)) := ((Fr.refl No w6).alloc _).trans' hfs (fun k hk (e : k = w6.heap.size) => by omega)
  generalize (w6.alloc (.cells Tryz.zeroCells103 103)).setRow w6.heap.size (sqV G.far) = W7 at hsq f7 ⊢
  obtain ⟨B, hB⟩ : ∃ B, w6.heap.size = B := ⟨_, rfl⟩
  rw [hB] at hsq ⊢
  have HSQ := hid hsq
  have HX7 := hid (HX6.out.no f7)
  have HG7 := hid (HG6.out.no f7)
  have HRG7 := hid (HRG6.out.no f7)
  have Z7 := hid (Z6.out.trans f7)
  clear hfs hsq f7 HX6 HRG6 hinf hB
  go_wp2
  go_loopg [15] (G.n + 1) (fun gk p wr => ∃ u : Nat, p = .int .i64 u ∧ u ≤ G.n ∧ gk = G.n + 1 - u ∧ Fr No W7 wr)
  case atStart => exact ⟨0, rfl, by omega, rfl, Fr.refl _ _⟩
  case round =>
    obtain ⟨u, rfl, hu, hgk, hf⟩ := hrel
    have HGK := hid hgk
    have HF := hid hf
    have c0 := (HRG7.out.no hf).c0
    clear hgk hf
    by_cases hlu : u < G.n
    · have hlu2 : (u : Int) < G.n := by omega
      go_wp2
      clear c0
      go_loopg [16] (G.n + 1) (fun gk p wr => ∃ v : Nat, p = .int .i64 v ∧ v ≤ G.n ∧ gk = G.n + 1 - v ∧ Fr No W7 wr)
      case atStart => exact ⟨0, rfl, by omega, rfl, HF.out⟩
      case round =>
        clear HF
        obtain ⟨v, rfl, hv, hgk2, hf⟩ := hrel
        have HGK2 := hid hgk2
        have HF := hid hf
        have c0 := (HRG7.out.no hf).c0
        clear hgk2 hf
        by_cases hlv : v < G.n
        · have hlv2 : (v : Int) < G.n := by omega
          have hu24 : (u : Int) < 24 := by omega
          have hv24 : (v : Int) < 24 := by omega
          obtain ⟨d, hd⟩ : ∃ d, G.far u v = d := ⟨_, rfl⟩
          have s1 := (HSQ.out.fr HF.out (fun h => h)).cell (by omega) (show u < 24 by omega) (show v < 24 by omega)
          rw [hd] at s1
          have HDD := hid hd
          have S1 := hid s1
          have g1 : (d != d) = false := by simp
          clear hd s1
          go_wp2_with fail
          clear c0
          refine (bdist_yes (HX7.out.no HF.out) (HG7.out.no HF.out) HGW.out HHD.out floor u v (by rw [HXN0.out]; exact hlu) (by rw [HXN0.out]; exact hlv)).mono ?_
          rintro e w8 ⟨U, V, rfl, hf8, hU, hV⟩
          rw [HBL.out.meet HW0.out HOKX0.out HX7.out.ok HOKG.out HGW.out HXN0.out.symm (by rw [HXN0.out]; exact hlu) (by rw [HXN0.out]; exact hlv) hU hV, HDD.out]
          clear hU hV U V
          have s2 := hf8.cell_some S1.out (fun h => h)
          have HF8 := hid (HF.out.trans hf8)
          have lB := cell_lt s2
          clear hf8
          go_wp2
          go_roundg (G.n + 1 - (v + 1))
          case measure => have := HGK2.out; omega
          case rel => exact ⟨v + 1, by go_num, by omega, rfl, HF8.out⟩
        · obtain rfl : v = G.n := by omega
          go_wp2
          go_roundg (G.n + 1 - (u + 1))
          case measure => have := HGK.out; omega
          case rel => exact ⟨u + 1, by go_num, by omega, rfl, HF.out⟩
    · obtain rfl : u = G.n := by omega
      go_wp2
      go_ret
      exact ⟨rfl, Z7.out.trans HF.out⟩

end Go.Proofs.YtoepbhacpidcbaaGreatDoor
