/- What a path may be told as, by the document; walked. -/

import Derived.Test.YtoepbhacpidcbaaGreatDoorQBase
import Derived.Test.YtoepbhacpidcbaaGreatDoorQIdx
import Derived.Test.YtoepbhacpidcbaaGreatDoorQIdxB
import Derived.Test.YtoepbhacpidcbaaGreatDoorQPerm
import Derived.Test.YtoepbhacpidcbaaGreatDoorQRef
import Derived.Test.YtoepbhacpidcbaaGreatDoorQBig
import Derived.Test.YtoepbhacpidcbaaGreatDoorQUnref
import Derived.Test.YtoepbhacpidcbaaGreatDoorQUnE
import Derived.Test.YtoepbhacpidcbaaGreatDoorQItr
import Derived.Test.YtoepbhacpidcbaaGreatDoorQDst
import Derived.Test.YtoepbhacpidcbaaGreatDoorQLnk
import Derived.Test.YtoepbhacpidcbaaGreatDoorQRow2
import Derived.Test.YtoepbhacpidcbaaGreatDoorQGr
import Derived.Test.YtoepbhacpidcbaaGreatDoorQGOps
import Derived.Test.YtoepbhacpidcbaaGreatDoorQBld
import Derived.Test.YtoepbhacpidcbaaGreatDoorQBW
import Derived.Test.YtoepbhacpidcbaaGreatDoorQHpK
import Derived.Test.YtoepbhacpidcbaaGreatDoorQG8
import Derived.Test.YtoepbhacpidcbaaGreatDoorQSqO
import Derived.Test.YtoepbhacpidcbaaGreatDoorQGoes
import Derived.Test.YtoepbhacpidcbaaGreatDoorQUp
import Derived.Test.YtoepbhacpidcbaaGreatDoorQSetP
import Derived.Test.YtoepbhacpidcbaaGreatDoorQWay
import Derived.Test.YtoepbhacpidcbaaGreatDoorQIn1
import Derived.Test.YtoepbhacpidcbaaGreatDoorQAll
import Derived.Test.YtoepbhacpidcbaaGreatDoorQAw6
import Derived.Test.YtoepbhacpidcbaaGreatDoorQMe
import Derived.Test.YtoepbhacpidcbaaGreatDoorQDv1
import Derived.Test.YtoepbhacpidcbaaGreatDoorQSt
import Derived.Test.YtoepbhacpidcbaaGreatDoorQOu1
import Derived.Test.YtoepbhacpidcbaaGreatDoorQSp
import Derived.Test.YtoepbhacpidcbaaGreatDoorQPa
import Derived.Test.YtoepbhacpidcbaaGreatDoorQBpE
import Derived.Test.YtoepbhacpidcbaaGreatDoorQR9
import Derived.Test.YtoepbhacpidcbaaGreatDoorQRf

set_option linter.unusedVariables false
set_option linter.unusedSimpArgs false
namespace Go.Proofs.YtoepbhacpidcbaaGreatDoor
open Go.RowKit Go.Deep

set_option maxRecDepth 100000 in
set_option maxHeartbeats 4000000 in
theorem p11_no {w : World} {b : Nat} {G : Gr} (h : RGM w b G) (s t : Int) (hno : ¬ ((0 ≤ s ∧ s < G.n) ∧ (0 ≤ t ∧ t < G.n))) :
    Calls Tryz.prog 107 #[.pointer (some ⟨b, 0, none⟩), .int .i64 s, .int .i64 t, .slice none 0 0, .int .i64 0, .int .i64 1] w fun e w' => e = .returned (.bool true) ∧ Fr No w w' := by
  have H := hid h
  clear h
  by_cases hs : 0 ≤ s ∧ s < G.n
  · have hvs : decide (0 ≤ s ∧ s < G.n) = true := by simp; exact hs
    have hvt : decide (0 ≤ t ∧ t < G.n) = false := by rw [decide_eq_false_iff_not]; exact fun h => hno ⟨hs, h⟩
    have HVS := hid hvs
    have HVT := hid hvt
    clear hvs hvt hno hs
    go_enter Tryz.func107, Tryz.ntmps107
    go_wp2_with fail
    refine (rgvertex_calls H.out s).mono ?_
    rintro e w7 ⟨rfl, hw⟩
    subst hw
    rw [HVS.out]
    go_wp2_with fail
    refine (rgvertex_calls H.out t).mono ?_
    rintro e w7 ⟨rfl, hw⟩
    subst hw
    rw [HVT.out]
    go_wp2
    go_ret
    exact ⟨rfl, Fr.refl _ _⟩
  · have hvs : decide (0 ≤ s ∧ s < G.n) = false := by rw [decide_eq_false_iff_not]; exact hs
    have HVS := hid hvs
    clear hvs hno hs
    go_enter Tryz.func107, Tryz.ntmps107
    go_wp2_with fail
    refine (rgvertex_calls H.out s).mono ?_
    rintro e w7 ⟨rfl, hw⟩
    subst hw
    rw [HVS.out]
    go_wp2
    go_ret
    exact ⟨rfl, Fr.refl _ _⟩

set_option maxRecDepth 100000 in
set_option maxHeartbeats 4000000 in
theorem p11_yes {w : World} {b : Nat} {G : Gr} (h : RGM w b G) (ho : G.Ok) (hw : G.Wt) (s t : Nat) (hs : s < G.n) (ht : t < G.n) (sv : Value) (d c : Int)
    (hp : (G.far s t = 4611686018427387906 ∧ sv = .slice none 0 0 ∧ d = 0 ∧ c = 3) ∨ (G.far s t = 4611686018427387905 ∧ sv = .slice none 0 0 ∧ d = 0 ∧ c = 9) ∨
      ∃ l : List Nat, G.far s t ≤ 4611686018427387904 ∧ d = G.far s t ∧ c = 0 ∧ SlL w sv (l.map (fun k : Nat => (k : Int))) ∧ Wk G s l t ∧ G.len l = G.far s t) :
    Calls Tryz.prog 107 #[.pointer (some ⟨b, 0, none⟩), .int .i64 (s : Nat), .int .i64 (t : Nat), sv, .int .i64 d, .int .i64 c] w fun e w' => e = .returned (.bool true) ∧ Fr No w w' := by
  have H := hid h
  have HO := hid ho
  have HW := hid hw
  have hvs : decide (0 ≤ ((s : Nat) : Int) ∧ ((s : Nat) : Int) < G.n) = true := by simp; omega
  have hvt : decide (0 ≤ ((t : Nat) : Int) ∧ ((t : Nat) : Int) < G.n) = true := by simp; omega
  have HVS := hid hvs
  have HVT := hid hvt
  have ht2 : (t : Int) < G.n := by omega
  have hn2 := ho.n2
  have hbd := Gr.far_b hw s t hs ht
  obtain ⟨f, hf⟩ : ∃ f, G.far s t = f := ⟨_, rfl⟩
  rw [hf] at hp hbd
  have HF := hid hf
  have HP := hid hp
  clear h ho hw hvs hvt hf hp
  rcases HP.out with ⟨h1, h2, h3, h4⟩ | ⟨h1, h2, h3, h4⟩ | ⟨l, h1, h2, h3, h4, h5, h6⟩
  · subst h1 h2 h3 h4
    clear HP
    go_enter Tryz.func107, Tryz.ntmps107
    go_wp2_with fail
    refine (rgvertex_calls H.out _).mono ?_
    rintro e w7 ⟨rfl, hw⟩
    subst hw
    rw [HVS.out]
    go_wp2_with fail
    refine (rgvertex_calls H.out _).mono ?_
    rintro e w7 ⟨rfl, hw⟩
    subst hw
    rw [HVT.out]
    go_wp2_with fail
    refine (rfrom_calls H.out HO.out HW.out s hs).mono ?_
    rintro e w8 ⟨g, cc, rfl, hf8, hr⟩
    have q0 := hr.cell ht
    rw [HF.out] at q0
    have HF8 := hid hf8
    clear hf8 hr
    go_wp2
    go_ret
    exact ⟨rfl, HF8.out⟩
  · subst h1 h2 h3 h4
    clear HP
    go_enter Tryz.func107, Tryz.ntmps107
    go_wp2_with fail
    refine (rgvertex_calls H.out _).mono ?_
    rintro e w7 ⟨rfl, hw⟩
    subst hw
    rw [HVS.out]
    go_wp2_with fail
    refine (rgvertex_calls H.out _).mono ?_
    rintro e w7 ⟨rfl, hw⟩
    subst hw
    rw [HVT.out]
    go_wp2_with fail
    refine (rfrom_calls H.out HO.out HW.out s hs).mono ?_
    rintro e w8 ⟨g, cc, rfl, hf8, hr⟩
    have q0 := hr.cell ht
    rw [HF.out] at q0
    have HF8 := hid hf8
    clear hf8 hr
    go_wp2
    go_ret
    exact ⟨rfl, HF8.out⟩
  · clear HP
    subst h2 h3
    have hsh := Wk.sh HO.out HW.out hs h5 (by rw [h6, HF.out]) (by omega)
    obtain ⟨hnd, hlen⟩ := hsh.nodup HO.out HW.out hs
    obtain ⟨A, cc, rfl, hint⟩ := h4.intsF
    have hint2 : IntsF w A l.length (fun j => ((l.getD j 0 : Nat) : Int)) := fun h0 => by
      obtain ⟨bb, oo, e1, e2⟩ := hint (by rw [List.length_map]; exact h0)
      refine ⟨bb, oo, e1, fun j hj => ?_⟩
      have h5 : w.cell? ⟨bb, oo + j, none⟩ = some (.int .i64 ((l.map (fun k : Nat => (k : Int))).getD j 0)) := e2 j (by rw [List.length_map]; exact hj)
      have e3 : (l.map (fun k : Nat => (k : Int))).getD j 0 = ((l.getD j 0 : Nat) : Int) := by rw [List.getD, List.getElem?_map, List.getElem?_eq_getElem hj, List.getD, List.getElem?_eq_getElem hj]; rfl
      rw [e3] at h5
      exact h5
    rw [List.length_map]
    have HIN := hid hint2
    have HK := hid h5
    have HL := hid h6
    have HND := hid hnd
    have hl100 : l.length ≤ 100 := by omega
    have g1 : (d == 4611686018427387906) = false := by simp; omega
    have g2 : (d == 4611686018427387905) = false := by simp; omega
    clear hint hint2 h4 h5 h6 hsh hnd hbd
    go_enter Tryz.func107, Tryz.ntmps107
    go_wp2_with fail
    refine (rgvertex_calls H.out _).mono ?_
    rintro e w7 ⟨rfl, hw⟩
    subst hw
    rw [HVS.out]
    go_wp2_with fail
    refine (rgvertex_calls H.out _).mono ?_
    rintro e w7 ⟨rfl, hw⟩
    subst hw
    rw [HVT.out]
    go_wp2_with fail
    refine (rfrom_calls H.out HO.out HW.out s hs).mono ?_
    rintro e w8 ⟨g, c8, rfl, hf8, hr⟩
    have q0 := hr.cell ht
    rw [HF.out] at q0
    have HF8 := hid hf8
    have HIN8 := hid (HIN.out.fr hf8)
    clear hf8 hr
    go_wp2_with fail
    refine (rcheck_calls (H.out.no HF8.out) HO.out hs ht HK.out hl100 HIN8.out).mono ?_
    rintro e w9 ⟨rfl, hf9⟩
    have HF9 := hid (HF8.out.trans hf9)
    have HIN9 := hid (HIN8.out.fr hf9)
    clear hf9
    go_wp2_with fail
    refine (rsum9_calls (H.out.no HF9.out) HW.out HK.out hl100 (by rw [HL.out]; exact h1) HIN9.out).mono ?_
    rintro e w10 ⟨rfl, hf10⟩
    rw [HL.out]
    have HF10 := hid (HF9.out.trans hf10)
    have HIN10 := hid (HIN9.out.fr hf10)
    clear hf10
    go_wp2_with fail
    refine (rsimple_calls (H.out.no HF10.out) HO.out hs HK.out hl100 HND.out HIN10.out).mono ?_
    rintro e w11 ⟨rfl, hf11⟩
    have HF11 := hid (HF10.out.trans hf11)
    clear hf11
    go_wp2
    go_ret
    exact ⟨rfl, HF11.out⟩

end Go.Proofs.YtoepbhacpidcbaaGreatDoor
/- The law 'BypassPaths' returns true, by the contracts; walked. -/
set_option linter.unusedVariables false
set_option linter.unusedSimpArgs false
namespace Go.Proofs.YtoepbhacpidcbaaGreatDoor
open Go.RowKit Go.Deep

theorem LinksF.frP {w w' : World} {A : Option Addr} {n : Nat} {f : Nat → Lk} (h : LinksF w A n f) (hf : Fr No w w') : LinksF w' A n f := fun h0 => by
  obtain ⟨b, off, e, hc⟩ := h h0
  exact ⟨b, off, e, fun j hj => (hc j hj).fr hf (fun h => h)⟩

theorem vxp_no {x : Ix} {s : Int} (h : ¬ (0 ≤ s ∧ s < x.n)) : x.vertex s = false := by unfold Ix.vertex; simpa using h

set_option maxRecDepth 100000 in
set_option maxHeartbeats 4000000 in
theorem path22_calls {w : World} {L : IxLoc} {x Y : Ix} {Lg : GLoc} {b : Nat} {G : Gr} (hfit : x.Fit) (h : IxMem w L x) (hg : GMem w Lg G) (hr : RGM w b G) (hw : G.Wt) (hd : G.Hd x.n) (floor : Int) (hB : Blw x Y (flr x.n floor)) (hY : Whole G Y) (hYok : Y.Ok) (s t : Int) :
    Calls Tryz.prog 51 #[.pointer (some ⟨Lg.b, 0, none⟩), .pointer (some ⟨b, 0, none⟩), .pointer (some ⟨L.b, 0, none⟩), .int .i64 floor, .int .i64 s, .int .i64 t] w fun e w' => e = .returned (.bool true) ∧ Fr No w w' := by
  have H := hid h
  have HG := hid hg
  have HR := hid hr
  have HW := hid hw
  have HD := hid hd
  have HB := hid hB
  have HY := hid hY
  have HYO := hid hYok
  have HFIT := hid hfit
  have HO := hid hg.ok
  have hgn : G.n = x.n := hd.1
  clear h hg hr hw hd hB hY hYok hfit
  by_cases hst : (0 ≤ s ∧ s < G.n) ∧ (0 ≤ t ∧ t < G.n)
  · obtain ⟨s', rfl⟩ := Int.eq_ofNat_of_zero_le hst.1.1
    obtain ⟨t', rfl⟩ := Int.eq_ofNat_of_zero_le hst.2.1
    have hs1 : s' < x.n := by omega
    have ht1 : t' < x.n := by omega
    have hs2 : s' < G.n := by omega
    have ht2 : t' < G.n := by omega
    clear hst hgn
    go_enter Tryz.func51, Tryz.ntmps51
    go_wp2_with fail
    refine (bpath_yes HFIT.out H.out HG.out HW.out HD.out floor HB.out HY.out HYO.out s' t' hs1 ht1).mono ?_
    rintro e w1 ⟨hf, hp⟩
    have F1 := hid hf
    clear hf
    have key : ∃ (sv : Value) (d c : Int), e = .returned (.tuple #[sv, .int .i64 d, .int .i64 c]) ∧ ((G.far s' t' = 4611686018427387906 ∧ sv = .slice none 0 0 ∧ d = 0 ∧ c = 3) ∨ (G.far s' t' = 4611686018427387905 ∧ sv = .slice none 0 0 ∧ d = 0 ∧ c = 9) ∨
      ∃ l : List Nat, G.far s' t' ≤ 4611686018427387904 ∧ d = G.far s' t' ∧ c = 0 ∧ SlL w1 sv (l.map (fun k : Nat => (k : Int))) ∧ Wk G s' l t' ∧ G.len l = G.far s' t') := by
      rcases hp with ⟨h1, h2⟩ | ⟨h1, h2⟩ | ⟨l, sv, h1, h2, h3, h4, h5⟩
      · exact ⟨_, _, _, h2, .inl ⟨h1, rfl, rfl, rfl⟩⟩
      · exact ⟨_, _, _, h2, .inr (.inl ⟨h1, rfl, rfl, rfl⟩)⟩
      · exact ⟨_, _, _, h2, .inr (.inr ⟨l, h1, rfl, rfl, h3, h4, h5⟩)⟩
    obtain ⟨sv, d, c, rfl, hk⟩ := key
    have HK := hid hk
    clear hp hk
    go_wp2_with fail
    refine (p11_yes (HR.out.no F1.out) HO.out HW.out s' t' hs2 ht2 sv d c HK.out).mono ?_
    rintro e w2 ⟨rfl, hf⟩
    have F2 := hid (F1.out.trans hf)
    clear hf
    go_wp2
    go_ret
    exact ⟨rfl, F2.out⟩
  · have hno : x.vertex s = false ∨ x.vertex t = false := by
      by_cases h : 0 ≤ s ∧ s < G.n
      · exact .inr (vxp_no (by rw [← hgn]; exact fun h2 => hst ⟨h, h2⟩))
      · exact .inl (vxp_no (by rw [← hgn]; exact h))
    have HNO := hid hno
    have HST := hid hst
    clear hno hst hgn
    go_enter Tryz.func51, Tryz.ntmps51
    go_wp2_with fail
    refine (bpath_no _ H.out floor s t HNO.out).mono ?_
    rintro e w1 ⟨rfl, hf⟩
    have F1 := hid hf
    clear hf
    go_wp2_with fail
    refine (p11_no (HR.out.no F1.out) s t HST.out).mono ?_
    rintro e w2 ⟨rfl, hf⟩
    have F2 := hid (F1.out.trans hf)
    clear hf
    go_wp2
    go_ret
    exact ⟨rfl, F2.out⟩

set_option maxRecDepth 100000 in
set_option maxHeartbeats 4000000 in
theorem bypaths_law (n : Nat) (A1 : Option Addr) (ln1 cp1 : Nat) (ch : Nat → Chg) (num : Nat) (floor : Int) (A4 : Option Addr) (ln4 cp4 : Nat) (lk4 : Nat → Lk) (s t : Int) (W : World) (hn : n ≤ 255) (hc : ChgsF W A1 ln1 ch) (b1 : ln1 ≤ 140737488351232) (hnum : (num : Int) ≤ 18446744073709551615) (hl : LinksF W A4 ln4 lk4) (b4 : ln4 ≤ 140737488351232) (hN : NoneVar W) :
    Calls Tryz.prog 12 #[.int .u8 (n : Nat), .slice A1 ln1 cp1, .int .u64 (num : Nat), .int .i64 floor, .slice A4 ln4 cp4, .int .i64 s, .int .i64 t] W fun e w' => e = .returned (.bool true) ∧ Fr No W w' := by
  have HC := hid hc
  have HL := hid hl
  have HN := hid hN
  have hmod : n % 24 < 24 := Nat.mod_lt _ (by omega)
  have hd0 := rank_perm (1 + n % 24) num (by omega) (by omega)
  have HD0 := hid hd0
  have HI0 := hid (Classical.choose_spec hd0.inv)
  obtain ⟨g0, hg0⟩ : ∃ g, Classical.choose hd0.inv = g := ⟨_, rfl⟩
  rw [hg0] at HI0
  clear hg0 hd0
  clear hc hN hl
  go_enter Tryz.func12, Tryz.ntmps12
  go_wp2_with fail
  refine (awake22_calls W HN.out).mono ?_
  rintro e w1 ⟨rfl, hf⟩
  have G1 := hid hf
  clear hf
  go_wp2_with fail
  refine (made8_calls n A1 ln1 cp1 ch w1 hn (HC.out.fr G1.out) b1).mono ?_
  rintro e w2 ⟨Lg, b, rfl, hf, hm, hr, _, _⟩
  have hgn := ((Gr.zero (1 + n % 24) 64).steps_n ch (min ln1 150)).1
  have hgw := Gr.steps_wt (1 + n % 24) 64 ch (min ln1 150)
  obtain ⟨G, hG⟩ : ∃ G, (Gr.zero (1 + n % 24) 64).steps ch (min ln1 150) = G := ⟨_, rfl⟩
  rw [hG] at hm hr hgn hgw
  have hgn' : 1 + n % 24 = G.n := hgn.symm
  rw [hgn'] at HD0 HI0
  have HG0 := hid hm
  have HRG0 := hid hr
  have HGW := hid hgw
  have hhd0 := Gr.steps_hd (1 + n % 24) 64 (by omega) ch (min ln1 150)
  rw [hG] at hhd0
  have HHD0 : Hid (G.Hd G.n) := hid ⟨rfl, by have := hhd0.2; rw [← hgn'] ; exact this⟩
  clear hhd0
  have HOKG := hid hm.ok
  have hn24 := hm.ok.n2
  have Z0 := hid (G1.out.trans hf)
  clear hf hm hr hG hgw hgn
  go_wp2_with fail
  refine (rank_law_calls n num w2 hn hnum).mono ?_
  rintro e r0 ⟨br0, rfl, hf, _, hblk⟩
  rw [hgn'] at hblk ⊢
  have HB0a := hid hblk
  have HGa := hid (HG0.out.no hf)
  have HRGa := hid (HRG0.out.no hf)
  have Z1 := hid (Z0.out.trans hf)
  clear hf hblk HG0 HRG0 Z0
  go_wp2_with fail
  refine (spoilt_calls HGa.out (some ⟨br0, 0, none⟩) (fun i => ((rankOf G.n num i : Nat) : Int)) (fun _ => ⟨br0, 0, rfl, fun j hj => by rw [Nat.zero_add]; exact HB0a.out.cell hj⟩) HD0.out g0 HI0.out.1 HI0.out.2 (HN.out.fr Z1.out (fun h => h)) floor A4 ln4 cp4 lk4 (HL.out.frP Z1.out) b4).mono ?_
  rintro e t0 ⟨L0, rfl, hx, hf⟩
  have hw := (Ix.new_ok (show 0 < G.n by omega) HD0.out HI0.out.1 HI0.out.2).build_whole HGW.out
  have hxn : ((Ix.new G.n (fun i => ((rankOf G.n num i : Nat) : Int)) g0).build G).n = G.n := Ix.build_n _ _
  obtain ⟨y0, hY⟩ : ∃ x, (Ix.new G.n (fun i => ((rankOf G.n num i : Nat) : Int)) g0).build G = x := ⟨_, rfl⟩
  rw [hY] at hx hw hxn
  have hbl := Blw.spl (x := y0) floor lk4 (min ln4 300)
  have hsh := (Ix.spl_shape y0 floor lk4 (min ln4 300)).1
  obtain ⟨x0, hX⟩ : ∃ x, y0.spl floor lk4 (min ln4 300) = x := ⟨_, rfl⟩
  rw [hX] at hx hbl hsh
  rw [← hsh] at hbl
  have HX0 := hid hx
  have HBL := hid hbl
  have HW0 := hid hw.2
  have HOKX0 := hid hw.1
  have hfit : x0.Fit := by rw [← hX, ← hY]; exact (Ix.Fit.build (Ix.Fit.new _ _ _) G).spl _ _ _
  have HFIT := hid hfit
  clear hfit
  have HXN0 : Hid (x0.n = G.n) := hid (hsh.trans hxn)
  have HG0 := hid (HGa.out.no hf)
  have HRG0 := hid (HRGa.out.no hf)
  have Z0 := hid (Z1.out.trans hf)
  have HHD : Hid (G.Hd x0.n) := hid (by rw [HXN0.out]; exact HHD0.out)
  clear hf hx hw hX hY hxn hbl hsh HGa HRGa Z1 HB0a
  go_wp2_with fail
  refine (path22_calls HFIT.out HX0.out HG0.out HRG0.out HGW.out HHD.out floor HBL.out HW0.out HOKX0.out s t).mono ?_
  rintro e w6 ⟨rfl, hf⟩
  have Z6 := hid (Z0.out.trans hf)
  clear hf
  go_wp2
  go_ret
  exact ⟨rfl, Z6.out⟩

end Go.Proofs.YtoepbhacpidcbaaGreatDoor
/- The law 'BypassGround' returns true, by the contracts; walked. -/
set_option linter.unusedVariables false
set_option linter.unusedSimpArgs false
namespace Go.Proofs.YtoepbhacpidcbaaGreatDoor
open Go.RowKit Go.Deep

theorem LinksF.frG {w w' : World} {A : Option Addr} {n : Nat} {f : Nat → Lk} (h : LinksF w A n f) (hf : Fr No w w') : LinksF w' A n f := fun h0 => by
  obtain ⟨b, off, e, hc⟩ := h h0
  exact ⟨b, off, e, fun j hj => (hc j hj).fr hf (fun h => h)⟩
theorem blk_intsG {w : World} {b n : Nat} {U : Nat → Int} (h : Blk w b n 3 (fun i => .int .i64 (U i))) : IntsF w (some ⟨b, 0, none⟩) n U := fun _ => ⟨b, 0, rfl, fun j hj => by rw [Nat.zero_add]; exact h.cell hj⟩
theorem flr_min (n : Nat) (floor : Int) : flr n (min floor 0) = 0 := by
  unfold flr
  split
  · rfl
  · split <;> omega

set_option maxRecDepth 100000 in
set_option maxHeartbeats 8000000 in
theorem byground_law (n num : Nat) (A2 : Option Addr) (ln2 cp2 : Nat) (lk2 : Nat → Lk) (A3 : Option Addr) (ln3 cp3 : Nat) (ch : Nat → Chg) (floor : Int) (s8 : Nat) (W : World) (hn : n ≤ 255) (hnum : (num : Int) ≤ 18446744073709551615) (hl : LinksF W A2 ln2 lk2) (b2 : ln2 ≤ 140737488351232) (hc : ChgsF W A3 ln3 ch) (b3 : ln3 ≤ 140737488351232) (hs8 : s8 ≤ 255) (hN : NoneVar W) :
    Calls Tryz.prog 4 #[.int .u8 (n : Nat), .int .u64 (num : Nat), .slice A2 ln2 cp2, .slice A3 ln3 cp3, .int .i64 floor, .int .u8 (s8 : Nat)] W fun e w' => e = .returned (.bool true) ∧ Fr No W w' := by
  have HL := hid hl
  have HC := hid hc
  have HN := hid hN
  clear hl hc hN
  go_enter Tryz.func4, Tryz.ntmps4
  go_wp2_with fail
  refine (awake22_calls W HN.out).mono ?_
  rintro e w1 ⟨rfl, hf⟩
  have G1 := hid hf
  clear hf
  go_wp2_with fail
  refine (made_calls n num A2 ln2 cp2 lk2 w1 hn hnum (HL.out.frG G1.out) b2 (HN.out.fr G1.out (fun h => h))).mono ?_
  rintro e w2 ⟨L, R, rfl, hf, hx, hr, _, _, _, _, _, _, _, _, _, hcb⟩
  have G2 := hid (G1.out.trans hf)
  have hxn : ((Ix.start (1 + n % 24) num).sets lk2 (min ln2 300)).n = 1 + n % 24 := by rw [Ix.sets_n]; rfl
  obtain ⟨x, hX⟩ : ∃ x, (Ix.start (1 + n % 24) num).sets lk2 (min ln2 300) = x := ⟨_, rfl⟩
  rw [hX] at hx hr hxn
  have HX2 := hid hx
  have HR2 := hid hr
  have HXN := hid hxn
  clear hf hx hr hxn hX hcb
  go_wp2_with fail
  refine (made8_calls n A3 ln3 cp3 ch w2 hn (HC.out.fr G2.out) b3).mono ?_
  rintro e w3 ⟨Lg, b, rfl, hf, hm, hr, _, _⟩
  have hwt := Gr.steps_wt (1 + n % 24) 64 ch (min ln3 150)
  have hhd := Gr.steps_hd (1 + n % 24) 64 (by omega) ch (min ln3 150)
  rw [← HXN.out] at hhd
  obtain ⟨G, hG⟩ : ∃ G, (Gr.zero (1 + n % 24) 64).steps ch (min ln3 150) = G := ⟨_, rfl⟩
  rw [HXN.out] at hhd
  rw [hG] at hm hr hwt hhd
  rw [← HXN.out] at hhd
  have hgn : G.n = x.n := hhd.1
  have HX := hid (HX2.out.no hf)
  have HR := hid (HR2.out.no hf)
  have HG := hid hm
  have HRG := hid hr
  have HWT := hid hwt
  have HHD := hid hhd
  have G3 := hid (G2.out.trans hf)
  have HGN := hid hgn
  have hn2 := hm.ok.n2
  clear hf hm hr hG HX2 HR2 hwt hhd G1 G2 HL HC HN
  obtain ⟨k, hk⟩ : ∃ k, s8 % G.n = k := ⟨_, rfl⟩
  have hgn1 := HG.out.ok.n1
  have hkn : k < G.n := by rw [← hk]; exact Nat.mod_lt _ hgn1
  have hkk : (s8 : Int) % (G.n : Int) = (k : Nat) := by rw [← hk]; exact (Int.natCast_emod s8 G.n).symm
  have hkt : Int.tmod (s8 : Int) (G.n : Int) = (k : Nat) := by rw [Int.tmod_eq_emod_of_nonneg (by omega)]; exact hkk
  have hk1 : k < x.n := by omega
  have hgz : ((G.n : Int) == 0) = false := by simp; omega
  have hgz2 : (G.n : Int) ≠ 0 := by omega
  have c0 := HRG.out.c0
  have lb := cell_lt c0
  have HFL := hid (flr_min x.n floor)
  have HOKG := hid HG.out.ok
  have HOKX := hid HX.out.ok
  have hW := (HOKX.out).build_whole HWT.out
  have hB0 : Blw x (x.build G) 0 := Blw.zero (Ix.build_n _ _) (Ix.build_rk _ _) (Ix.build_by _ _)
  have HB0 := hid hB0
  have HW0 := hid hW
  have hx24 : x.n ≤ 24 := by omega
  have hkx : (k : Int) < x.n := by omega
  clear hk hgn hW hB0
  go_wp2_with fail
  refine (bout_yes HX.out HG.out HWT.out HHD.out (min floor 0) k hk1).mono ?_
  rintro e w4 ⟨B1, U, rfl, hb1, hf, hU⟩
  rw [HFL.out] at hU
  have hfar : ∀ v, v < G.n → U v = G.far k v := fun v hv => HB0.out.up_far HW0.out.2 HW0.out.1 HOKX.out HOKG.out HWT.out HGN.out hk1 (by rw [← HGN.out]; exact hv) hU (Nat.zero_le _)
  have HFAR := hid hfar
  have HB1 := hid hb1
  have F4 := hid hf
  clear hb1 hU hf hfar
  go_wp2_with fail
  refine (bin_yes (HX.out.no F4.out) (min floor 0) k hk1).mono ?_
  rintro e w5 ⟨B2, V, rfl, hb2, hf, hV⟩
  rw [HFL.out] at hV
  have hin : ∀ v, v < G.n → V v = if v = k then 0 else 4611686018427387906 := fun v hv => hV.in_zero hk1 (by rw [← HGN.out]; exact hv)
  have HIN := hid hin
  have HB2 := hid hb2
  have HB15 := hid (HB1.out.fr hf (fun h => h))
  have F5 := hid (F4.out.trans hf)
  clear hb2 hV hf hin
  go_wp2_with fail
  refine (rfrom_calls (HRG.out.no F5.out) HOKG.out HWT.out k hkn).mono ?_
  rintro e w6 ⟨g, c, rfl, hf, hr⟩
  have F6 := hid (F5.out.trans hf)
  have I1 := hid (blk_intsG (HB15.out.fr hf (fun h => h)))
  have J1 := hid (hr.congr (fun v hv => (HFAR.out v hv).symm)).ints
  have HB26 := hid (HB2.out.fr hf (fun h => h))
  clear hf hr
  go_wp2_with fail
  have hnn : x.n = G.n := HGN.out.symm
  rw [hnn] at I1
  rw [hnn]
  refine (ints_calls (some ⟨B1, 0, none⟩) (some ⟨g, 0, none⟩) G.n G.n G.n c U U _ I1.out J1.out (by omega) (by omega) true ⟨fun _ => ⟨rfl, fun _ _ => rfl⟩, fun _ => rfl⟩).mono ?_
  rintro e w8 ⟨rfl, hf⟩
  have F8 := hid (F6.out.trans hf)
  have HB28 := hid (HB26.out.fr hf (fun h => h))
  clear hf I1 J1 HB26 HB2 c0
  have c0 := (HRG.out.no F8.out).c0
  have hne : ((G.n : Int) != (G.n : Int)) = false := by simp
  rw [hnn] at HB28
  clear hnn
  go_wp2
  clear c0
  go_loopg [22] (G.n + 1) (fun gk p wr => ∃ v : Nat, p = .int .i64 v ∧ v ≤ G.n ∧ gk = G.n + 1 - v ∧ Fr No w8 wr)
  case atStart => exact ⟨0, rfl, by omega, rfl, Fr.refl _ _⟩
  case round =>
    obtain ⟨v, rfl, hv, hgk, hf⟩ := hrel
    have HGK := hid hgk
    have HF := hid hf
    have c0 := (HRG.out.no (F8.out.trans hf)).c0
    clear hgk hf
    by_cases hlv : v < G.n
    · have hlv2 : (v : Int) < G.n := by omega
      have q0 := (HB28.out.fr HF.out (fun h => h)).cell hlv
      have lq := cell_lt q0
      rw [HIN.out v hlv] at q0
      by_cases hvk : v = k
      · subst hvk
        rw [if_pos rfl] at q0
        have g1 : ((v : Int) == (v : Int)) = true := by simp
        have g2 : ((v : Int) != (v : Int)) = false := by simp
        go_wp2
        go_roundg (G.n + 1 - (v + 1))
        case measure => have := HGK.out; omega
        case rel => exact ⟨v + 1, by go_num, by omega, rfl, HF.out⟩
      · rw [if_neg hvk] at q0
        have g1 : ((v : Int) == (k : Int)) = false := by simp; omega
        have g2 : ((v : Int) != (k : Int)) = true := by simp; omega
        go_wp2
        go_roundg (G.n + 1 - (v + 1))
        case measure => have := HGK.out; omega
        case rel => exact ⟨v + 1, by go_num, by omega, rfl, HF.out⟩
    · obtain rfl : v = G.n := by omega
      go_wp2
      go_ret
      exact ⟨rfl, G3.out.trans (F8.out.trans HF.out)⟩

end Go.Proofs.YtoepbhacpidcbaaGreatDoor
