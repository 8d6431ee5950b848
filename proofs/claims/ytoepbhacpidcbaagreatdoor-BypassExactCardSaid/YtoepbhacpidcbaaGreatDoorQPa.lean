/- bypass.Out, bypass.In and bypass.Dist; walked. -/
import Derived.BigRegion
import Derived.StillTailTactics
import Derived.Test.YtoepbhacpidcbaaGreatDoorQBase
import Derived.Test.YtoepbhacpidcbaaGreatDoorQIdx
import Derived.Test.YtoepbhacpidcbaaGreatDoorQIdxB
import Derived.Test.YtoepbhacpidcbaaGreatDoorQPerm
import Derived.Test.YtoepbhacpidcbaaGreatDoorQRef
import Derived.Test.YtoepbhacpidcbaaGreatDoorQBig
import Derived.Test.YtoepbhacpidcbaaGreatDoorQUnref
import Derived.Test.YtoepbhacpidcbaaGreatDoorQUnE
import Derived.Test.YtoepbhacpidcbaaGreatDoorQItr
import Derived.Test.YtoepbhacpidcbaaGreatDoorQDst
import Derived.Test.YtoepbhacpidcbaaGreatDoorQLnk
import Derived.Test.YtoepbhacpidcbaaGreatDoorQRow2
import Derived.Test.YtoepbhacpidcbaaGreatDoorQGr
import Derived.Test.YtoepbhacpidcbaaGreatDoorQGOps
import Derived.Test.YtoepbhacpidcbaaGreatDoorQBld
import Derived.Test.YtoepbhacpidcbaaGreatDoorQBW
import Derived.Test.YtoepbhacpidcbaaGreatDoorQHpK
import Derived.Test.YtoepbhacpidcbaaGreatDoorQG8
import Derived.Test.YtoepbhacpidcbaaGreatDoorQSqO
import Derived.Test.YtoepbhacpidcbaaGreatDoorQGoes
import Derived.Test.YtoepbhacpidcbaaGreatDoorQUp
import Derived.Test.YtoepbhacpidcbaaGreatDoorQSetP
import Derived.Test.YtoepbhacpidcbaaGreatDoorQWay
import Derived.Test.YtoepbhacpidcbaaGreatDoorQIn1
import Derived.Test.YtoepbhacpidcbaaGreatDoorQAll
import Derived.Test.YtoepbhacpidcbaaGreatDoorQAw6
import Derived.Test.YtoepbhacpidcbaaGreatDoorQMe
import Derived.Test.YtoepbhacpidcbaaGreatDoorQDv1
import Derived.Test.YtoepbhacpidcbaaGreatDoorQSt
import Derived.Test.YtoepbhacpidcbaaGreatDoorQOu1
import Derived.Test.YtoepbhacpidcbaaGreatDoorQSp

set_option linter.unusedVariables false
set_option linter.unusedSimpArgs false
namespace Go.Proofs.YtoepbhacpidcbaaGreatDoor
open Go.RowKit Go.Shelf Go.Deep

attribute [local go_sem] Oper.semAt_some

theorem run_field_reach (a b : Value) (w : World) : (Instr.field 129 (.agg #[a, b]) 0).run Tryz.prog w = .ok a w := by kernel_rfl
attribute [local go_sem high] run_field_reach

theorem outs_ok {w : World} {L : IxLoc} {x : Ix} {Lg : GLoc} {G : Gr} (h : IxMem w L x) (hg : GMem w Lg G) (hd : G.Hd x.n) {rb fl : Nat} (hrd : RdM w rb (some ⟨Lg.b, 0, none⟩) L fl) (hfl : fl ≤ x.n) :
    StepsOk w x.n false (oS G h.ok hd fl) (fun v => if x.rk v < fl then (x.rowTo v false 24).length else (selI (G.outs (v : Nat))).length + (x.dvTo v fl).length) (fun v => if x.rk v < fl then 4 else 11) 65 134 rb := by
  refine ⟨enters_of Tryz.func65 (by kernel_rfl) rfl, enters_of Tryz.func134 (by kernel_rfl) rfl, fun v W => routs_calls rb v W, fun v hv Br Bv F hF f5 f6 W hW cr cv N0 hN => ?_⟩
  have q1 := h.lt
  have q2 := h.hr.1
  have q3 := h.hb.1
  have q4 := h.gn.lt
  have q5 : rb < w.heap.size := cell_lt hrd.x
  have g : ∀ k, k < w.heap.size → ¬ F k := fun k hk hf => by have := hF k hf; omega
  by_cases hgr : x.rk v < fl
  · simp only [if_pos hgr] at hN ⊢
    have e1 : oS G h.ok hd fl v = (x.rowTo v false 24).map (stL h.ok v) := by unfold oS; rw [if_pos hgr]
    rw [e1]
    exact SeqO.map (stL h.ok v) (stL_enc h.ok v) (Nat.le_refl _) (out1_low Br Bv rb v fl _ hv hgr F (g _ q1) (g _ q2) (g _ q3) (g _ q4) f5 f6 (g _ q5) W (h.no hW) (hrd.no hW) cr cv N0 hN)
  · simp only [if_neg hgr] at hN ⊢
    exact SeqO.deep (out1_up h.ok hd Br Bv rb v fl w.heap.size hv hgr hfl F (g _ q1) (g _ q2) (g _ q3) (g _ q4) f5 f6 (g _ q5) hF W (h.no hW) (fun W' hb => hg.no (Fr.of_below (hW.below.trans hb))) hW.size ((hg.out (v : Nat)).below hW.below) (hrd.no hW) cr cv N0 hN)
theorem ins_ok {w : World} {L : IxLoc} {x : Ix} (h : IxMem w L x) {rb fl : Nat} {gp : Option Addr} (hrd : RdM w rb gp L fl) :
    StepsOk w x.n true (iS h.ok fl) (fun v => (inL x v fl).length) (fun v => inC x v fl) 66 139 rb := by
  refine ⟨enters_of Tryz.func66 (by kernel_rfl) rfl, enters_of Tryz.func139 (by kernel_rfl) rfl, fun v W => rins_calls rb v W, fun v hv Br Bv F hF f5 f6 W hW cr cv N0 hN => ?_⟩
  have q1 := h.lt
  have q2 := h.hr.1
  have q3 := h.hb.1
  have q4 := h.gn.lt
  have q5 : rb < w.heap.size := cell_lt hrd.x
  have g : ∀ k, k < w.heap.size → ¬ F k := fun k hk hf => by have := hF k hf; omega
  exact SeqO.map (stI h.ok v) (stI_enc h.ok v) (Nat.le_refl _) (in1_seq Br Bv rb v fl gp hv F (g _ q1) (g _ q2) (g _ q3) (g _ q4) f5 f6 (g _ q5) W (h.no hW) (hrd.no hW) cr cv N0 hN)

/-- What spread says of ways out. -/
def OutR (w : World) (G : Gr) (x : Ix) (hok : x.Ok) (hd : G.Hd x.n) (fl s : Nat) (e : Ending) (w' : World) : Prop :=
  ∃ (Bf Bb : Nat) (U : Nat → Int) (b : By), e = .returned (.agg #[.slice (some ⟨Bf, 0, none⟩) x.n x.n, .slice (some ⟨Bb, 0, none⟩) x.n x.n]) ∧ Blk w' Bf x.n 3 (fun i => .int .i64 (U i)) ∧ Blk w' Bb x.n 188 (fun i => byV (b i)) ∧ Fr No w w' ∧ Lst x.n (oM G x fl) s U ∧ ByR (oS G hok hd fl) s U b
def InR (w : World) (x : Ix) (hok : x.Ok) (fl s : Nat) (e : Ending) (w' : World) : Prop :=
  ∃ (Bf Bb : Nat) (U : Nat → Int) (b : By), e = .returned (.agg #[.slice (some ⟨Bf, 0, none⟩) x.n x.n, .slice (some ⟨Bb, 0, none⟩) x.n x.n]) ∧ Blk w' Bf x.n 3 (fun i => .int .i64 (U i)) ∧ Blk w' Bb x.n 188 (fun i => byV (b i)) ∧ Fr No w w' ∧ Lst x.n (iM x fl) s U ∧ ByR (iS hok fl) s U b
theorem sout_calls {w : World} {L : IxLoc} {x : Ix} {Lg : GLoc} {G : Gr} (h : IxMem w L x) (hg : GMem w Lg G) (hw : G.Wt) (hd : G.Hd x.n) {rb fl : Nat} (hrd : RdM w rb (some ⟨Lg.b, 0, none⟩) L fl) (hfl : fl ≤ x.n) (s : Nat) (hs : s < x.n) :
    Calls Tryz.prog 63 #[.int .i64 (x.n : Nat), .int .i64 (s : Nat), .func (.func 65) #[.pointer (some ⟨rb, 0, none⟩)] #[], .bool false] w (OutR w G x h.ok hd fl s) := by
  have hO : ∀ v, v < x.n → EOk x.n (oE G x fl v) := fun v hv e he => by
    have he' := he
    rw [oS_edge h.ok hd] at he'
    obtain ⟨el, hel, rfl⟩ := List.mem_map.1 he'
    have h1 := oS_ok x h.ok hd hw hv el hel
    have h2 := ((oE_M h.ok hw hd hfl).1 v hv _ he)
    exact ⟨h2.1, h1.w, h2.2.1.2⟩
  refine (spread22_calls x.n h.ok.n1 h.ok.n2 false (oS G h.ok hd fl) (oE G x fl) (fun v _ => oS_edge h.ok hd fl v) hO _ _ _ _ rb (outs_ok h hg hd hrd hfl) (cell_lt hrd.x) s hs).mono ?_
  rintro e w' ⟨Bf, Bb, far, b, rfl, h1, h2, h3, h4, h5, h6, h7⟩
  exact ⟨Bf, Bb, far, b, rfl, h1, h2, h3, h6.lst (fun i j => oM_b h.ok hw fl i j) (oE_M h.ok hw hd hfl) hs, h7⟩

theorem sin_calls {w : World} {L : IxLoc} {x : Ix} (h : IxMem w L x) {rb fl : Nat} {gp : Option Addr} (hrd : RdM w rb gp L fl) (s : Nat) (hs : s < x.n) :
    Calls Tryz.prog 63 #[.int .i64 (x.n : Nat), .int .i64 (s : Nat), .func (.func 66) #[.pointer (some ⟨rb, 0, none⟩)] #[], .bool true] w (InR w x h.ok fl s) := by
  have hO : ∀ v, v < x.n → EOk x.n (iE x fl v) := fun v hv e he => by
    have he' := he
    rw [iS_edge h.ok] at he'
    obtain ⟨el, hel, rfl⟩ := List.mem_map.1 he'
    have h1 := iS_ok (G := Gr.zero 1 1) x h.ok hv el hel
    have h2 := ((iE_M h.ok fl).1 v hv _ he)
    exact ⟨h2.1, h1.w, h2.2.1.2⟩
  refine (spread22_calls x.n h.ok.n1 h.ok.n2 true (iS h.ok fl) (iE x fl) (fun v _ => iS_edge h.ok fl v) hO _ _ _ _ rb (ins_ok h hrd) (cell_lt hrd.x) s hs).mono ?_
  rintro e w' ⟨Bf, Bb, far, b, rfl, h1, h2, h3, h4, h5, h6, h7⟩
  exact ⟨Bf, Bb, far, b, rfl, h1, h2, h3, h6.lst (fun i j => iM_b h.ok fl i j) (iE_M h.ok fl) hs, h7⟩

theorem rank_yes {x : Ix} (hok : x.Ok) {v : Int} (hv : x.vertex v = true) : 0 ≤ x.rank v := by
  unfold Ix.rank
  unfold Ix.vertex at hv
  simp at hv
  rw [if_pos hv]; omega
theorem rank_no {x : Ix} {v : Int} (hv : x.vertex v = false) : x.rank v < 0 := by
  unfold Ix.rank
  unfold Ix.vertex at hv
  rw [if_neg (by simpa using hv)]; omega
theorem one_ints {w : World} (v : Int) : IntsF (w.alloc (.cells #[.int .i64 v] 3)) (some ⟨w.heap.size, 0, none⟩) 1 (fun _ => v) := fun _ => ⟨_, 0, rfl, fun j hj => by
  obtain rfl : j = 0 := by omega
  simp [go_sem]⟩
theorem two_ints {w : World} (u v : Int) : IntsF (w.alloc (.cells #[.int .i64 u, .int .i64 v] 3)) (some ⟨w.heap.size, 0, none⟩) 2 (pfM u v) := fun _ => ⟨_, 0, rfl, fun j hj => by
  (have : j = 0 ∨ j = 1 := by omega)
  rcases this with rfl | rfl <;> simp [go_sem, pfM]⟩
theorem flr_le (n : Nat) (f : Int) : flr n f ≤ n := by unfold flr; split; omega; split <;> omega

set_option maxRecDepth 100000 in
set_option maxHeartbeats 4000000 in
theorem bout_yes {w : World} {L : IxLoc} {x : Ix} {Lg : GLoc} {G : Gr} (h : IxMem w L x) (hg : GMem w Lg G) (hw : G.Wt) (hd : G.Hd x.n) (floor : Int) (s : Nat) (hs : s < x.n) :
    Calls Tryz.prog 17 #[.pointer (some ⟨Lg.b, 0, none⟩), .pointer (some ⟨L.b, 0, none⟩), .int .i64 floor, .int .i64 (s : Nat)] w fun e w' => ∃ (B : Nat) (U : Nat → Int), e = .returned (.tuple #[.slice (some ⟨B, 0, none⟩) x.n x.n, .int .i64 0]) ∧ Blk w' B x.n 3 (fun i => .int .i64 (U i)) ∧ Fr No w w' ∧ Lst x.n (oM G x (flr x.n floor)) s U := by
  have H := hid h
  have HG := hid hg
  have HW := hid hw
  have HD := hid hd
  have hv : ∀ j, j < 1 → 0 ≤ x.rank ((fun _ => ((s : Nat) : Int)) j) := fun j _ => rank_yes h.ok (by unfold Ix.vertex; simp; omega)
  have HV := hid hv
  clear h hg hw hd hv
  go_enter Tryz.func17, Tryz.ntmps17
  go_wp2_with fail
  refine (made22_yes (H.out.no ((Fr.refl No w).alloc _)) (some ⟨Lg.b, 0, none⟩) floor _ 1 1 (fun _ => ((s : Nat) : Int)) (one_ints _) (by omega) HV.out).mono ?_
  rintro e w1 ⟨rb, rfl, hf1, hrb, hrd⟩
  have F1 := hid (((Fr.refl No w).alloc (.cells #[.int .i64 (s : Nat)] 3)).trans hf1)
  have HRD := hid hrd
  clear hf1 hrb hrd
  go_wp2_with fail
  refine (vertices_calls (H.out.no F1.out)).mono ?_
  rintro e w2 ⟨rfl, hf2⟩
  have F2 := hid (F1.out.trans hf2)
  have HRD2 := hid (HRD.out.no hf2)
  clear hf2 F1 HRD
  go_wp2_with fail
  refine (sout_calls (H.out.no F2.out) (HG.out.no F2.out) HW.out HD.out HRD2.out (flr_le _ _) s hs).mono ?_
  rintro e w3 ⟨Bf, Bb, U, b, rfl, h1, h2, h3, h4, h5⟩
  have F3 := hid (F2.out.trans h3)
  have H1 := hid h1
  have H4 := hid h4
  clear h1 h2 h3 h4 h5
  go_wp2
  go_ret2
  exact ⟨Bf, U, rfl, H1.out, F3.out, H4.out⟩

set_option maxRecDepth 100000 in
set_option maxHeartbeats 4000000 in
theorem bin_yes {w : World} {L : IxLoc} {x : Ix} (h : IxMem w L x) (floor : Int) (s : Nat) (hs : s < x.n) :
    Calls Tryz.prog 18 #[.pointer (some ⟨L.b, 0, none⟩), .int .i64 floor, .int .i64 (s : Nat)] w fun e w' => ∃ (B : Nat) (U : Nat → Int), e = .returned (.tuple #[.slice (some ⟨B, 0, none⟩) x.n x.n, .int .i64 0]) ∧ Blk w' B x.n 3 (fun i => .int .i64 (U i)) ∧ Fr No w w' ∧ Lst x.n (iM x (flr x.n floor)) s U := by
  have H := hid h
  have hv : ∀ j, j < 1 → 0 ≤ x.rank ((fun _ => ((s : Nat) : Int)) j) := fun j _ => rank_yes h.ok (by unfold Ix.vertex; simp; omega)
  have HV := hid hv
  clear h hv
  go_enter Tryz.func18, Tryz.ntmps18
  go_wp2_with fail
  refine (made22_yes (H.out.no ((Fr.refl No w).alloc _)) none floor _ 1 1 (fun _ => ((s : Nat) : Int)) (one_ints _) (by omega) HV.out).mono ?_
  rintro e w1 ⟨rb, rfl, hf1, hrb, hrd⟩
  have F1 := hid (((Fr.refl No w).alloc (.cells #[.int .i64 (s : Nat)] 3)).trans hf1)
  have HRD := hid hrd
  clear hf1 hrb hrd
  go_wp2_with fail
  refine (vertices_calls (H.out.no F1.out)).mono ?_
  rintro e w2 ⟨rfl, hf2⟩
  have F2 := hid (F1.out.trans hf2)
  have HRD2 := hid (HRD.out.no hf2)
  clear hf2 F1 HRD
  go_wp2_with fail
  refine (sin_calls (H.out.no F2.out) HRD2.out s hs).mono ?_
  rintro e w3 ⟨Bf, Bb, U, b, rfl, h1, h2, h3, h4, h5⟩
  have F3 := hid (F2.out.trans h3)
  have H1 := hid h1
  have H4 := hid h4
  clear h1 h2 h3 h4 h5
  go_wp2
  go_ret2
  exact ⟨Bf, U, rfl, H1.out, F3.out, H4.out⟩

set_option maxRecDepth 100000 in
set_option maxHeartbeats 4000000 in
theorem bdist_yes {w : World} {L : IxLoc} {x : Ix} {Lg : GLoc} {G : Gr} (h : IxMem w L x) (hg : GMem w Lg G) (hw : G.Wt) (hd : G.Hd x.n) (floor : Int) (s t : Nat) (hs : s < x.n) (ht : t < x.n) :
    Calls Tryz.prog 19 #[.pointer (some ⟨Lg.b, 0, none⟩), .pointer (some ⟨L.b, 0, none⟩), .int .i64 floor, .int .i64 (s : Nat), .int .i64 (t : Nat)] w fun e w' => ∃ U W : Nat → Int, e = .returned (.tuple #[.int .i64 (lst2 U W x.n), .int .i64 0]) ∧ Fr No w w' ∧ Lst x.n (oM G x (flr x.n floor)) s U ∧ Lst x.n (iM x (flr x.n floor)) t W := by
  have H := hid h
  have HG := hid hg
  have HW := hid hw
  have HD := hid hd
  have hn2 := h.ok.n2
  have hv : ∀ j, j < 2 → 0 ≤ x.rank (pfM ((s : Nat) : Int) ((t : Nat) : Int) j) := fun j _ => rank_yes h.ok (by unfold Ix.vertex pfM; split <;> simp <;> omega)
  have HV := hid hv
  clear h hg hw hd hv
  go_enter Tryz.func19, Tryz.ntmps19
  go_wp2_with fail
  refine (made22_yes (H.out.no ((Fr.refl No w).alloc _)) (some ⟨Lg.b, 0, none⟩) floor _ 2 2 (pfM ((s : Nat) : Int) ((t : Nat) : Int)) (two_ints _ _) (by omega) HV.out).mono ?_
  rintro e w1 ⟨rb, rfl, hf1, hrb, hrd⟩
  have F1 := hid (((Fr.refl No w).alloc (.cells #[.int .i64 (s : Nat), .int .i64 (t : Nat)] 3)).trans hf1)
  have HRD := hid hrd
  clear hf1 hrb hrd
  go_wp2_with fail
  refine (vertices_calls (H.out.no F1.out)).mono ?_
  rintro e w2 ⟨rfl, hf2⟩
  have F2 := hid (F1.out.trans hf2)
  have HRD2 := hid (HRD.out.no hf2)
  clear hf2 F1 HRD
  go_wp2_with fail
  refine (sout_calls (H.out.no F2.out) (HG.out.no F2.out) HW.out HD.out HRD2.out (flr_le _ _) s hs).mono ?_
  rintro e w3 ⟨Bf, Bb, U, b, rfl, h1, h2, h3, h4, h5⟩
  have F3 := hid (F2.out.trans h3)
  have HRD3 := hid (HRD2.out.no h3)
  have H1 := hid h1
  have H4 := hid h4
  clear h1 h2 h3 h4 h5 HRD2 F2
  go_wp2_with fail
  refine (vertices_calls (H.out.no F3.out)).mono ?_
  rintro e w4 ⟨rfl, hf4⟩
  have F4 := hid (F3.out.trans hf4)
  have HRD4 := hid (HRD3.out.no hf4)
  have H41 := hid (H1.out.fr hf4 (fun h => h))
  clear hf4 F3 HRD3 H1
  go_wp2_with fail
  refine (sin_calls (H.out.no F4.out) HRD4.out t ht).mono ?_
  rintro e w5 ⟨Bf', Bb', W, b', rfl, k1, k2, k3, k4, k5⟩
  have F5 := hid (F4.out.trans k3)
  have H51 := hid (H41.out.fr k3 (fun h => h))
  have K1 := hid k1
  have K4 := hid k4
  clear k1 k2 k3 k4 k5 H41 F4 HRD4
  go_wp2_with fail
  refine (meet22_calls hn2 U W _ _ H51.out K1.out H4.out.b K4.out.b ⟨_, _, _, rfl⟩ ⟨_, _, _, rfl⟩).mono ?_
  rintro e w6 ⟨a, rfl, hf6, hm⟩
  have F6 := hid (F5.out.trans hf6)
  clear hf6 hm F5
  go_wp2
  go_ret2
  exact ⟨U, W, rfl, F6.out, H4.out, K4.out⟩

set_option maxRecDepth 100000 in
set_option maxHeartbeats 4000000 in
theorem bdist_no {w : World} {L : IxLoc} {x : Ix} (gp : Option Addr) (h : IxMem w L x) (floor s t : Int) (hs : x.vertex s = false ∨ x.vertex t = false) :
    Calls Tryz.prog 19 #[.pointer gp, .pointer (some ⟨L.b, 0, none⟩), .int .i64 floor, .int .i64 s, .int .i64 t] w fun e w' => e = .returned (.tuple #[.int .i64 0, .int .i64 1]) ∧ Fr No w w' := by
  have H := hid h
  have HV := hid (show ∃ j, j < 2 ∧ x.rank (pfM s t j) < 0 by
    rcases hs with h | h
    · exact ⟨0, by omega, rank_no h⟩
    · exact ⟨1, by omega, rank_no h⟩)
  clear h hs
  go_enter Tryz.func19, Tryz.ntmps19
  go_wp2_with fail
  refine (made22_no (H.out.no ((Fr.refl No w).alloc _)) gp floor _ 2 2 (pfM s t) (two_ints _ _) (by omega) HV.out).mono ?_
  rintro e w1 ⟨rfl, hf1⟩
  have F1 := hid (((Fr.refl No w).alloc (.cells #[.int .i64 s, .int .i64 t] 3)).trans hf1)
  clear hf1
  go_wp2
  go_ret2
  exact ⟨rfl, F1.out⟩

end Go.Proofs.YtoepbhacpidcbaaGreatDoor
/- slices.Reverse of steps; walked. -/
set_option linter.unusedVariables false
set_option linter.unusedSimpArgs false
namespace Go.Proofs.YtoepbhacpidcbaaGreatDoor
open Go.RowKit Go.Shelf Go.Deep

/-- xs, of which the k first and the k last are the other way round. -/
structure RevK (xs ys : List Value) (k : Nat) : Prop where
  len : ys.length = xs.length
  at_ : ∀ j, j < xs.length → ys[j]? = if j < k ∨ xs.length - 1 - j < k then xs[xs.length - 1 - j]? else xs[j]?
theorem RevK.zero (xs : List Value) : RevK xs xs 0 := ⟨rfl, fun j hj => by rw [if_neg (by omega)]⟩
theorem RevK.step {xs ys : List Value} {k : Nat} (h : RevK xs ys k) (hk : 2 * k + 1 < xs.length) {a b : Value} (ha : ys[xs.length - 1 - k]? = some a) (hb : ys[k]? = some b) : RevK xs ((ys.set k a).set (xs.length - 1 - k) b) (k + 1) := by
  have h1 := h.at_ k (by omega)
  have h2 := h.at_ (xs.length - 1 - k) (by omega)
  rw [if_neg (by omega)] at h1 h2
  refine ⟨by simp [h.len], fun j hj => ?_⟩
  rw [List.getElem?_set, List.getElem?_set]
  have hlen := h.len
  by_cases e1 : xs.length - 1 - k = j
  · subst e1
    rw [if_pos rfl, if_pos (by simp; omega), if_pos (by omega), show xs.length - 1 - (xs.length - 1 - k) = k by omega, ← h1, hb]
  · rw [if_neg e1]
    by_cases e2 : k = j
    · subst e2
      rw [if_pos rfl, if_pos (by omega), if_pos (by omega), ← h2, ha]
    · rw [if_neg e2, h.at_ j hj]
      by_cases c : j < k ∨ xs.length - 1 - j < k
      · rw [if_pos c, if_pos (by omega)]
      · rw [if_neg c, if_neg (by omega)]
theorem RevK.mem {xs ys : List Value} {k : Nat} (h : RevK xs ys k) {j : Nat} (hj : j < xs.length) {a : Value} (ha : ys[j]? = some a) : a ∈ xs := by
  rw [h.at_ j hj] at ha
  split at ha
  · exact List.mem_of_getElem? ha
  · exact List.mem_of_getElem? ha
theorem RevK.last {xs ys : List Value} {k : Nat} (h : RevK xs ys k) (hk : xs.length ≤ 2 * k + 1) : ys = xs.reverse := by
  refine List.ext_getElem? fun j => ?_
  rcases Nat.lt_or_ge j xs.length with hj | hj
  · rw [h.at_ j hj, List.getElem?_reverse hj]
    by_cases c : j < k ∨ xs.length - 1 - j < k
    · rw [if_pos c]
    · rw [if_neg c]; congr 1; omega
  · rw [List.getElem?_eq_none (by rw [h.len]; exact hj), List.getElem?_eq_none (by simpa using hj)]

set_option maxRecDepth 100000 in
set_option maxHeartbeats 4000000 in
theorem brev_calls {w : World} {base g n cap : Nat} {xs : List Value} (hl : xs.length = n) (hn : n ≤ 1000) (hx : ∀ v ∈ xs, ∃ Ty inn, v = Value.iface Ty inn) (h : w.ownsRow base 188 1 (.slice (some ⟨g, 0, none⟩) n cap) n xs) :
    Calls Tryz.prog 108 #[.slice (some ⟨g, 0, none⟩) n cap] w fun e w' => (∃ v, e = .returned v) ∧ Fr (One g) w w' ∧ w'.ownsRow base 188 1 (.slice (some ⟨g, 0, none⟩) n cap) n xs.reverse := by
  have H := hid h
  clear h
  go_enter Tryz.func108, Tryz.ntmps108
  go_wp2
  go_loopg [2, 3] n (fun m p q wr => ∃ (k : Nat) (ys : List Value), p = .int .i64 (k : Nat) ∧ q = .int .i64 ((n : Int) - 1 - k) ∧ k ≤ n ∧ m = n - k ∧ RevK xs ys k ∧ wr.ownsRow base 188 1 (.slice (some ⟨g, 0, none⟩) n cap) n ys ∧ Fr (One g) w wr)
  case atStart => exact ⟨0, xs, rfl, by go_num, by omega, rfl, RevK.zero xs, H.out, Fr.refl _ _⟩
  case round =>
    obtain ⟨k, ys, rfl, rfl, hk, hm, hr, ho, hf⟩ := hrel
    have HM := hid hm
    have HR := hid hr
    have HO := hid ho
    have HF := hid hf
    clear hm hr ho hf
    by_cases hlt : 2 * k + 1 < n
    · have hlt2 : (k : Int) < (n : Int) - 1 - k := by omega
      have e1 : (n : Int) - 1 - k = ((n - 1 - k : Nat) : Int) := by omega
      have hlen := HR.out.len
      obtain ⟨a, ha⟩ : ∃ a, ys[n - 1 - k]? = some a := ⟨_, List.getElem?_eq_getElem (by omega)⟩
      obtain ⟨b, hb⟩ : ∃ b, ys[k]? = some b := ⟨_, List.getElem?_eq_getElem (by omega)⟩
      have ca : wr.cell? ⟨g, n - 1 - k, none⟩ = some a := (HO.out.cellAt (n - 1 - k) (by omega)).trans ha
      have cb : wr.cell? ⟨g, k, none⟩ = some b := (HO.out.cellAt k (by omega)).trans hb
      have za := HO.out.frozenAt (n - 1 - k)
      have zb := HO.out.frozenAt k
      obtain ⟨Ta, ia, rfl⟩ := hx a (HR.out.mem (by omega) ha)
      obtain ⟨Tb, ib, rfl⟩ := hx b (HR.out.mem (by omega) hb)
      have HA := hid ha
      have HB := hid hb
      have HL := hid hlen
      rw [e1]
      have kn : k < n := by omega
      have kn2 : (k : Int) < n := by omega
      have jn : n - 1 - k < n := by omega
      have jn2 : ((n - 1 - k : Nat) : Int) < n := by omega
      obtain ⟨j, hj⟩ : ∃ j, n - 1 - k = j := ⟨_, rfl⟩
      rw [e1] at hlt2
      rw [hj] at ca za jn jn2 hlt2 ⊢
      have HJ := hid hj
      have HE := hid e1
      clear ha hb hlen hj e1
      go_wp2_with fail
      have lg := cell_lt cb
      simp only at lg
      have nkj : k ≠ j := by omega
      go_region
      go_wp2
      go_roundg (n - (k + 1))
      case measure => have := HM.out; omega
      case rel =>
        have hst := HR.out.step (by omega) (by rw [hl]; exact HA.out) HB.out
        rw [hl, HJ.out] at hst
        refine ⟨k + 1, _, by go_num, by have hj' := HJ.out; go_num; try omega, by omega, rfl, hst, ownsRow_set (ownsRow_set (own_frH HO.out ((Fr.refl No wr).drew) (fun _ _ h => h)) k _) j _, HF.out.trans ((((Fr.refl (One g) wr).drew).set1 k _).set1 j _)⟩
    · have hle : (n : Int) - 1 - k ≤ k := by omega
      have hlast := HR.out.last (by rw [hl]; omega)
      have HLA := hid hlast
      clear hlast
      go_wp2
      go_end0
      exact ⟨⟨_, rfl⟩, HF.out, by rw [← HLA.out]; exact HO.out⟩

end Go.Proofs.YtoepbhacpidcbaaGreatDoor
/- bypass.arcs: the arcs of steps; walked. -/
set_option linter.unusedVariables false
set_option linter.unusedSimpArgs false
namespace Go.Proofs.YtoepbhacpidcbaaGreatDoor
open Go.RowKit Go.Shelf Go.Deep

def Stp.exI (x : Ix) : Stp → List Int
  | .arc i _ _ _ _ => [i]
  | .ent a b _ => (x.arcs a b).1
/-- A list of steps in memory. -/
def StF (w : World) (A : Option Addr) (ws : List Stp) : Prop := 0 < ws.length → ∃ g, A = some ⟨g, 0, none⟩ ∧ ∀ j e, ws[j]? = some e → w.cell? ⟨g, j, none⟩ = some e.val
theorem StF.no {w w' : World} {A : Option Addr} {ws : List Stp} (h : StF w A ws) (hf : Fr No w w') : StF w' A ws := fun h0 => by
  obtain ⟨g, e, hc⟩ := h h0
  exact ⟨g, e, fun j s hj => hf.cell_some (hc j s hj) (fun h => h)⟩

theorem run_ta_arc (i tl hh g : Int) (c : Bool) (w : World) : (Instr.typeAssert (.iface 252 (.agg #[.int .i64 i, .int .i64 tl, .int .i64 hh, .int .i64 g, .bool c])) 188 252 true).run Tryz.prog w = .ok (.tuple #[.agg #[.int .i64 i, .int .i64 tl, .int .i64 hh, .int .i64 g, .bool c], .bool true]) w := by kernel_rfl
theorem run_ta_no (a b : Int) (w : World) : (Instr.typeAssert (.iface 224 (.agg #[.int .i64 a, .int .i64 b])) 188 252 true).run Tryz.prog w = .ok (.tuple #[.agg #[.int .i64 0, .int .i64 0, .int .i64 0, .int .i64 0, .bool false], .bool false]) w := by kernel_rfl
theorem run_ta_entry (a b : Int) (w : World) : (Instr.typeAssert (.iface 224 (.agg #[.int .i64 a, .int .i64 b])) 188 224 true).run Tryz.prog w = .ok (.tuple #[.agg #[.int .i64 a, .int .i64 b], .bool true]) w := by kernel_rfl
attribute [local go_sem high] run_ta_arc run_ta_no run_ta_entry

set_option maxRecDepth 100000 in
set_option maxHeartbeats 4000000 in
theorem barcs_calls {w : World} {L : IxLoc} {x : Ix} (hfit : x.Fit) (h : IxMem w L x) {rb fl : Nat} {gp : Option Addr} (hrd : RdM w rb gp L fl) (ws : List Stp) (A0 : Option Addr) (c0 : Nat) (hs : StF w A0 ws) (hn : ws.length ≤ 100) (hz : ∀ a b g, Stp.ent a b g ∈ ws → (x.arcs a b).2 = 0) :
    Calls Tryz.prog 109 #[.pointer (some ⟨rb, 0, none⟩), .slice A0 ws.length c0] w fun e w' => ∃ sv', e = .returned (.tuple #[sv', .int .i64 0]) ∧ Fr No w w' ∧ SlL w' sv' (ws.flatMap (Stp.exI x)) := by
  have H := hid h
  have HRD := hid hrd
  have HS := hid hs
  have HZ := hid hz
  clear h hrd hs hz
  go_enter Tryz.func109, Tryz.ntmps109
  go_wp2
  go_loopg [6, 15] ws.length (fun m p q wr => ∃ (i : Nat) (l : List Int) (A : Option Addr) (c : Nat), q = .int .i64 (i : Nat) ∧ i ≤ ws.length ∧ p = .slice A l.length c ∧ wr.ownsRow w.heap.size 3 1 (.slice A l.length c) l.length (l.map (Value.int .i64)) ∧ (l = [] → A = none ∧ c = 0) ∧
      (ws.take i).flatMap (Stp.exI x) = l ∧ l.length ≤ 23 * i ∧ m = ws.length - i ∧ Fr No w wr)
  case atStart => exact ⟨0, [], none, 0, rfl, Nat.zero_le _, rfl, World.ownsRow_nil _ _ _ _, fun _ => ⟨rfl, rfl⟩, rfl, by simp, rfl, Fr.refl _ _⟩
  case round =>
    obtain ⟨i, l, A, c, rfl, hi, rfl, hown, hnil, hl, hlen, hm, hf⟩ := hrel
    have HO := hid hown
    have HNIL := hid hnil
    have HL := hid hl
    have HM := hid hm
    have HF := hid hf
    clear hown hnil hl hm hf
    by_cases hlt : i < ws.length
    · have hlt2 : (i : Int) < ws.length := by omega
      obtain ⟨g, rfl, hc⟩ := HS.out (by omega)
      obtain ⟨e, he⟩ : ∃ e, ws[i]? = some e := ⟨_, List.getElem?_eq_getElem hlt⟩
      have ce := HF.out.cell_some (hc i e he) (fun h => h)
      have hnext : (ws.take (i + 1)).flatMap (Stp.exI x) = l ++ Stp.exI x e := by
        rw [List.take_add_one, he, List.flatMap_append, HL.out]; simp
      have hmem : e ∈ ws := List.mem_of_getElem? he
      have HNX := hid hnext
      have HMEM := hid hmem
      clear hnext he hc hmem
      cases e with
      | arc id tl hh wt cl =>
        simp only [Stp.val] at ce
        go_wp2_with (at_builtin; refine wpList_push (.tmp 23) (.tmp 26) (.slice A l.length c) l (wr.heap.size + 1) 1 id ?_ ?_ ?_ ?_ w.heap.size ?_ ?_ ?_ ?_ ?_; rfl; rfl; rfl; rfl; exact own_fr HO.out (((Fr.refl No _).alloc _).alloc _) (fun _ _ h => h); (have := HF.out.size; simp; omega); exact cell_of (heap_alloc2_new wr _ _) 0; omega; intro g' cap' w6 hown4 hgrow4 hat4 hlt4; have HO6 := hid hown4; have HG6 := hid hgrow4; clear hown4 hgrow4 hat4)
        go_roundg (ws.length - (i + 1))
        case measure => have := HM.out; omega
        case rel =>
          refine ⟨i + 1, l ++ [id], some ⟨g', 0, none⟩, cap', by go_num, by omega, by simp, HO6.out, ?_, HNX.out, ?_, rfl, ((HF.out.alloc _).alloc _).grown HG6.out (fun k e => .inr (own_block HO.out k e).1)⟩
          · intro e
            have := congrArg List.length e
            simp at this
          · simp; omega
      | ent a b wt =>
        simp only [Stp.val] at ce
        go_wp2_with fail
        have hV : Fr No wr (wr.alloc (.cells #[.int .i64 a, .int .i64 b] 224)) := (Fr.refl No wr).alloc _
        have o1 := heap_new wr (.cells #[.int .i64 a, .int .i64 b] 224)
        generalize wr.alloc (.cells #[.int .i64 a, .int .i64 b] 224) = V at hV o1 ⊢
        have FV := hid (HF.out.trans hV)
        have HOV := hid (own_fr HO.out hV (fun _ _ h => h))
        have c0' : V.cell? ⟨wr.heap.size, 0, none⟩ = some (.int .i64 a) := cell_of o1 0
        have c1' : V.cell? ⟨wr.heap.size, 1, none⟩ = some (.int .i64 b) := cell_of o1 1
        have cx := FV.out.cell_some HRD.out.x (fun h => h)
        have lx := cell_lt cx
        have lV := heap_lt o1
        have hal := x.arcs_len a b
        have hz2 := HZ.out a b wt HMEM.out
        obtain ⟨⟨l2, cd⟩, he2⟩ : ∃ al, x.arcs a b = al := ⟨_, rfl⟩
        have hnx := HNX.out
        unfold Stp.exI at hnx
        simp only at hnx
        rw [he2] at hal hz2 hnx
        simp only at hal hz2 hnx
        subst hz2
        have hl0 : 0 < l2.length := hal.2 rfl
        have hl1 : l2.length ≤ 23 := hal.1
        have HNX2 := hid hnx
        have HE2 := hid he2
        clear hV hal he2 o1 hnx
        have kk0 : ∀ nn : Fam V, nn.v.cell? ⟨wr.heap.size, 0, none⟩ = some (.int .i64 a) := Fam.cell c0'
        have kk1 : ∀ nn : Fam V, nn.v.cell? ⟨wr.heap.size, 1, none⟩ = some (.int .i64 b) := Fam.cell c1'
        have kk2 : ∀ nn : Fam V, nn.v.cell? ⟨rb, 1, none⟩ = some (.pointer (some ⟨L.b, 0, none⟩)) := Fam.cell cx
        refine wp_region_fam_mid 8 0 (by kernel_rfl) (by kernel_rfl) ?_
        simp only [List.take_succ_cons, List.take_zero, List.drop_succ_cons, List.drop_zero]
        repeat (go_big_quiet_step (fail))
        refine wpQuiet_nil ?_
        rintro w6 ⟨⟨w6, hf6⟩, rfl⟩
        have HF6 := hid (FV.out.trans hf6)
        have HO6 := hid (own_fr HOV.out hf6 (fun _ _ h => h))
        clear hf6 kk0 kk1 kk2 c0' c1' cx HOV
        go_wp2_with fail
        refine (parcs_calls hfit (H.out.no HF6.out) a b).mono ?_
        rintro e w7 ⟨sv, rfl, hf7, hs7⟩
        rw [HE2.out] at hs7 ⊢
        simp only at hs7 ⊢
        have HF7 := hid (HF6.out.trans hf7)
        have HO7 := hid (own_fr HO6.out hf7 (fun _ _ h => h))
        have HS7 := hid hs7
        clear hf7 hs7 HF6 HO6
        go_wp2_with fail
        refine sureQ_rest ?_
        repeat (go_big_quiet_step (fail))
        refine wpQuiet_nil ?_
        rintro w8 ⟨⟨w8, hf8⟩, rfl⟩
        rcases HS7.out with ⟨e, _⟩ | ⟨b2, o2, c2, _, rfl, hc2⟩
        · subst e; simp at hl0
        have HC2 := hid (fun j hj => hf8.cell_some (hc2 j hj) (fun h => h))
        have HF8 := hid (HF7.out.trans hf8)
        have HO8 := hid (own_fr HO7.out hf8 (fun _ _ h => h))
        have hsz := HF8.out.size
        clear hf8 hc2 HF7 HO7 HS7
        go_wp2_with (at_builtin; refine wpList_cat (.tmp 46) (.tmp 47) (.slice A l.length c) l b2 o2 c2 l2 ?_ ?_ ?_ ?_ w.heap.size ?_ ?_ ?_ ?_ ?_ ?_; rfl; rfl; rfl; rfl; exact HO8.out; exact hsz; exact HC2.out; exact hl0; omega; intro g' cap' w2 hown2 hgrow2 hat2 hlt2'; have HO2 := hid hown2; have HG2 := hid hgrow2; clear hown2 hgrow2 hat2)
        go_roundg (ws.length - (i + 1))
        case measure => have := HM.out; omega
        case rel =>
          refine ⟨i + 1, l ++ l2, some ⟨g', 0, none⟩, cap', by go_num, by omega, by simp, HO2.out, ?_, HNX2.out, ?_, rfl, HF8.out.grown HG2.out (fun k e => .inr (own_block HO8.out k e).1)⟩
          · intro e
            have := congrArg List.length e
            simp only [List.length_append, List.length_nil] at this; omega
          · rw [List.length_append]; omega
    · have hfin : ws.flatMap (Stp.exI x) = l := by
        rw [← HL.out, List.take_of_length_le (by omega)]
      have HFIN := hid hfin
      clear hfin
      go_wp2
      go_ret2
      refine ⟨_, rfl, HF.out, ?_⟩
      rw [HFIN.out]
      exact own_slL HO.out HNIL.out

end Go.Proofs.YtoepbhacpidcbaaGreatDoor
/- bypass.Path; walked. -/
set_option linter.unusedVariables false
set_option linter.unusedSimpArgs false
namespace Go.Proofs.YtoepbhacpidcbaaGreatDoor
open Go.RowKit Go.Shelf Go.Deep

theorem i_step : ∃ i0, Tryz.prog.info? 188 = some i0 ∧ i0.zero = some .nilIface ∧ i0.size = 1 ∧ i0.bytes = 16 := by
  obtain ⟨i, hi, hzz⟩ := Option.map_eq_some_iff.1 info_step
  simp only [Prod.mk.injEq] at hzz
  exact ⟨i, hi, hzz.1, hzz.2.1, hzz.2.2⟩
theorem Stp.val_is (e : Stp) : ∃ Ty inn, e.val = .iface Ty inn := by cases e <;> exact ⟨_, _, rfl⟩

/-- One step appended to a row of one's own that may be nil. -/
theorem wpList_pushS {w : World} {ops : Array Oper} {rest : List Oper} {o : Oper} {a : Act} {Q : Exit → Act → World → Prop} (s x : Operand)
    (v : Value) (l : List Stp) (b c : Nat) (y : Stp) (hgd : o.guard = none) (ho : o.op = .call { callee := .builtin .append, args := #[s, x], argTypes := #[127, 127] })
    (hs : a.eval s = v) (hx : a.eval x = .slice (some ⟨b, 0, none⟩) 1 c)
    (base : Nat) (hown : w.ownsRow base 188 1 v l.length (l.map Stp.val)) (hbase : base ≤ w.heap.size)
    (hnew : w.cell? ⟨b, 0, none⟩ = some y.val) (hb : l.length ≤ 1000)
    (h : ∀ g cap w', w'.ownsRow base 188 1 (.slice (some ⟨g, 0, none⟩) (l ++ [y]).length cap) (l ++ [y]).length ((l ++ [y]).map Stp.val) → w.grownBy w' v.ownBlock → (v.ownBlock = some g ∨ g = w.heap.size) → g < w'.heap.size → wpList Tryz.prog ops Q rest (a.put o.dst (.slice (some ⟨g, 0, none⟩) (l ++ [y]).length cap)) w') :
    wpList Tryz.prog ops Q (o :: rest) a w := by
  obtain ⟨i0, hi, hz0, hz1, hz2⟩ := i_step
  refine wpList_append_lies w hgd s x 127 ho base 188 i0 .nilIface 1 16 Tryz.underlying127 hi hz0 hz1 hz2 rfl (by decide) v l.length _ hs hown ⟨b, 0, none⟩ 1 c [y.val] hx rfl ?_ ?_ (by decide) (by unfold maxLen; omega) (by omega) hbase w.heap.size rfl ?_
  · intro j u hu
    match j, hu with
    | 0, hu => simp at hu; subst hu; rw [Addr.add_mid]; exact hnew
  · intro u hu
    simp at hu
    obtain ⟨Ty, inn, e⟩ := y.val_is
    rw [hu, e]; rfl
  · intro g cap w' h1 h2 h3 h4
    have hl : (l ++ [y]).length = l.length + 1 := by simp
    have := h g cap w' (by rw [hl]; simpa using h1) h2 h3 h4
    rwa [hl] at this

set_option maxRecDepth 100000 in
set_option maxHeartbeats 1000000 in
theorem brev_nil (w : World) : Calls Tryz.prog 108 #[.slice none 0 0] w fun e w' => (∃ v, e = .returned v) ∧ Fr No w w' := by
  go_enter Tryz.func108, Tryz.ntmps108
  go_wp2
  go_loopg [2, 3] 1 (fun m p q wr => p = .int .i64 0 ∧ q = .int .i64 (-1) ∧ wr = w)
  case atStart => exact ⟨rfl, by go_num, rfl⟩
  case round =>
    obtain ⟨rfl, rfl, rfl⟩ := hrel
    go_wp2
    go_end0
    exact ⟨⟨_, rfl⟩, Fr.refl _ _⟩

theorem own_st {w : World} {base : Nat} {A : Option Addr} {c : Nat} {l : List Stp} (h : w.ownsRow base 188 1 (.slice A l.length c) l.length (l.map Stp.val)) : StF w A l := fun h0 => by
  obtain ⟨g, cap, e, _⟩ := h.form h0
  injection e with e1 _ e3
  subst e1; subst e3
  refine ⟨g, rfl, fun j s hj => ?_⟩
  have hlt : j < l.length := (List.getElem?_eq_some_iff.1 hj).1
  rw [h.cellAt j (by omega), List.getElem?_map, hj]; rfl
theorem brev_any {w W : World} {base : Nat} {A : Option Addr} {c : Nat} {l : List Stp} (hn : l.length ≤ 1000) (hnil : l = [] → A = none ∧ c = 0) (h : w.ownsRow base 188 1 (.slice A l.length c) l.length (l.map Stp.val)) (hf : Fr No W w) (hb : W.heap.size ≤ base) :
    Calls Tryz.prog 108 #[.slice A l.length c] w fun e w' => (∃ v, e = .returned v) ∧ Fr No W w' ∧ w'.ownsRow base 188 1 (.slice A l.reverse.length c) l.reverse.length (l.reverse.map Stp.val) := by
  rcases Nat.eq_zero_or_pos l.length with h0 | h0
  · have e := List.eq_nil_of_length_eq_zero h0
    obtain ⟨rfl, rfl⟩ := hnil e
    subst e
    refine (brev_nil w).mono ?_
    rintro e w' ⟨hv, hf'⟩
    exact ⟨hv, hf.trans hf', World.ownsRow_nil _ _ _ _⟩
  · obtain ⟨g, cap, e, _⟩ := h.form h0
    injection e with e1 _ e3
    subst e1; subst e3
    have hg := (h.lt g rfl).1
    refine (brev_calls (by simp) hn (fun v hv => by
      obtain ⟨s, _, rfl⟩ := List.mem_map.1 hv
      exact s.val_is) h).mono ?_
    rintro e w' ⟨hv, hf', ho⟩
    exact ⟨hv, hf.trans' hf' (fun k hk (e : k = g) => by omega), by rw [List.length_reverse, List.map_reverse]; exact ho⟩
/-- The steps of a way out, and then of a way in, stand for a walk. -/
theorem path_plain {G : Gr} {x Y : Ix} {fl : Nat} (hB : Blw x Y fl) (h : Whole G Y) (hok : Y.Ok) (hx : x.Ok) (ho : G.Ok) (hw : G.Wt) (hd : G.Hd x.n) {U W : Nat → Int} {a s t : Nat} {l1 l2 : List Stp} (h0 : U s = 0) (h0' : W t = 0) (h1 : Trc (oS G hx hd fl) U a s l1) (h2 : Trc (iS hx fl) W a t l2)
    (hm : U a + W a ≤ 4611686018427387904) :
    ∃ l : List Nat, Wk G s l t ∧ G.len l = U a + W a ∧ (l1.reverse ++ l2).flatMap (Stp.exI x) = l.map (fun k : Nat => (k : Int)) ∧ (∀ p q g, Stp.ent p q g ∈ l1.reverse ++ l2 → (x.arcs p q).2 = 0) ∧ (l1.reverse ++ l2).length ≤ 100 := by
  have hn : G.n = x.n := hd.1
  have hall : ∀ e ∈ l1.reverse ++ l2, StOk G x Y fl e := fun e he => by
    rcases List.mem_append.1 he with he | he
    · obtain ⟨u, hu, el, hel, rfl⟩ := h1.mem e (List.mem_reverse.1 he)
      exact oS_ok Y hx hd hw hu el hel
    · obtain ⟨u, hu, el, hel, rfl⟩ := h2.mem e he
      exact iS_ok Y hx hu el hel
  have hfc : FC (s : Nat) (l1.reverse ++ l2) (t : Nat) := FC.app h1.fc h2.fc
  have e1 := h1.len
  have e2 := h2.len
  have hlen : lenS (l1.reverse ++ l2) = U a + W a := by rw [lenS_app, lenS_rev]; omega
  obtain ⟨w1, w2, w3, _⟩ := FC.wk hB h hok hx ho hw hn hfc hall (by omega)
  have hex : ∀ e ∈ l1.reverse ++ l2, Stp.exI x e = (Stp.ex Y e).map (fun k : Nat => (k : Int)) ∧ ∀ p q g, e = Stp.ent p q g → (x.arcs p q).2 = 0 := fun e he => by
    have hok' := hall e he
    have hle := w3 e he
    match e, hok', hle with
    | .arc i tl hh g c, hok', hle =>
      have := hok'.arc i tl hh g c rfl
      refine ⟨?_, fun p q g e => by cases e⟩
      show [i] = [((i.toNat : Nat) : Int)]
      rw [Int.toNat_of_nonneg this.1]
    | .ent p q g, hok', hle =>
      obtain ⟨hne, hlf, hwt⟩ := hok'.ent p q g rfl
      have hp : 0 ≤ p ∧ p < x.n := hok'.fr
      have hq : 0 ≤ q ∧ q < x.n := hok'.tt
      have hne' : p.toNat ≠ q.toNat := fun e => hne (by omega)
      have hle : g ≤ 4611686018427387904 := hle
      have := hB.arcs h hok hx ho hw hn (u := p.toNat) (v := q.toNat) (by omega) (by omega) hne' hlf (by rw [← hB.e _ _ (by omega) (by omega) hne' hlf, hwt]; exact hle)
      rw [Int.toNat_of_nonneg hp.1, Int.toNat_of_nonneg hq.1] at this
      refine ⟨?_, fun p' q' g' e => ?_⟩
      · show (x.arcs p q).1 = (Y.pth 25 p.toNat q.toNat).map (fun k : Nat => (k : Int))
        rw [this.1]
      · injection e with e1 e2 _
        rw [← e1, ← e2, this.1]
  have hsh1 := h1.short
  have hsh2 := h2.short
  have hn2 := hx.n2
  refine ⟨(l1.reverse ++ l2).flatMap (Stp.ex Y), w1, by rw [w2, hlen], ?_, fun p q g he => (hex _ he).2 p q g rfl, by simp; omega⟩
  have : ∀ L : List Stp, (∀ e ∈ L, Stp.exI x e = (Stp.ex Y e).map (fun k : Nat => (k : Int))) → L.flatMap (Stp.exI x) = (L.flatMap (Stp.ex Y)).map (fun k : Nat => (k : Int)) := fun L => by
    induction L with
    | nil => intro _; rfl
    | cons e L ih =>
      intro hL
      rw [List.flatMap_cons, List.flatMap_cons, List.map_append, hL e (by simp), ih (fun e' he' => hL e' (by simp [he']))]
  exact this _ (fun e he => (hex e he).1)

def PathR (w : World) (G : Gr) (s t : Nat) (e : Ending) (w' : World) : Prop :=
  Fr No w w' ∧ ((G.far s t = 4611686018427387906 ∧ e = .returned (.tuple #[.slice none 0 0, .int .i64 0, .int .i64 3])) ∨ (G.far s t = 4611686018427387905 ∧ e = .returned (.tuple #[.slice none 0 0, .int .i64 0, .int .i64 9])) ∨
    ∃ (l : List Nat) (sv : Value), G.far s t ≤ 4611686018427387904 ∧ e = .returned (.tuple #[sv, .int .i64 (G.far s t), .int .i64 0]) ∧ SlL w' sv (l.map (fun k : Nat => (k : Int))) ∧ Wk G s l t ∧ G.len l = G.far s t)

set_option maxRecDepth 100000 in
set_option maxHeartbeats 4000000 in
theorem bpath_yes {w : World} {L : IxLoc} {x Y : Ix} {Lg : GLoc} {G : Gr} (hfit : x.Fit) (h : IxMem w L x) (hg : GMem w Lg G) (hw : G.Wt) (hd : G.Hd x.n) (floor : Int) (hB : Blw x Y (flr x.n floor)) (hY : Whole G Y) (hYok : Y.Ok) (s t : Nat) (hs : s < x.n) (ht : t < x.n) :
    Calls Tryz.prog 52 #[.pointer (some ⟨Lg.b, 0, none⟩), .pointer (some ⟨L.b, 0, none⟩), .int .i64 floor, .int .i64 (s : Nat), .int .i64 (t : Nat)] w (PathR w G s t) := by
  have H := hid h
  have HG := hid hg
  have HW := hid hw
  have HD := hid hd
  have HB := hid hB
  have HY := hid hY
  have HYO := hid hYok
  have HOK := hid h.ok
  have hn2 := h.ok.n2
  have hv : ∀ j, j < 2 → 0 ≤ x.rank (pfM ((s : Nat) : Int) ((t : Nat) : Int) j) := fun j _ => rank_yes h.ok (by unfold Ix.vertex pfM; split <;> simp <;> omega)
  have HV := hid hv
  clear h hg hw hd hv hB hY hYok
  go_enter Tryz.func52, Tryz.ntmps52
  go_wp2_with fail
  refine (made22_yes (H.out.no ((Fr.refl No w).alloc _)) (some ⟨Lg.b, 0, none⟩) floor _ 2 2 (pfM ((s : Nat) : Int) ((t : Nat) : Int)) (two_ints _ _) (by omega) HV.out).mono ?_
  rintro e w1 ⟨rb, rfl, hf1, hrb, hrd⟩
  have F1 := hid (((Fr.refl No w).alloc (.cells #[.int .i64 (s : Nat), .int .i64 (t : Nat)] 3)).trans hf1)
  have HRD := hid hrd
  clear hf1 hrb hrd
  go_wp2_with fail
  refine (vertices_calls (H.out.no F1.out)).mono ?_
  rintro e w2 ⟨rfl, hf2⟩
  have F2 := hid (F1.out.trans hf2)
  have HRD2 := hid (HRD.out.no hf2)
  clear hf2 F1 HRD
  go_wp2_with fail
  refine (sout_calls (H.out.no F2.out) (HG.out.no F2.out) HW.out HD.out HRD2.out (flr_le _ _) s hs).mono ?_
  rintro e w3 ⟨Bf, Bb, U, b, rfl, h1, h2, h3, h4, h5⟩
  have F3 := hid (F2.out.trans h3)
  have HRD3 := hid (HRD2.out.no h3)
  have H1 := hid h1
  have H2 := hid h2
  have H4 := hid h4
  have H5 : Hid (ByR (oS G HOK.out HD.out (flr x.n floor)) s U b) := hid h5
  clear h1 h2 h3 h4 h5 HRD2 F2
  go_wp2_with fail
  refine (vertices_calls (H.out.no F3.out)).mono ?_
  rintro e w4 ⟨rfl, hf4⟩
  have F4 := hid (F3.out.trans hf4)
  have HRD4 := hid (HRD3.out.no hf4)
  have H41 := hid (H1.out.fr hf4 (fun h => h))
  have H42 := hid (H2.out.fr hf4 (fun h => h))
  clear hf4 F3 HRD3 H1 H2
  go_wp2_with fail
  refine (sin_calls (H.out.no F4.out) HRD4.out t ht).mono ?_
  rintro e w5 ⟨Bf', Bb', W, b', rfl, k1, k2, k3, k4, k5⟩
  have F5 := hid (F4.out.trans k3)
  have H51 := hid (H41.out.fr k3 (fun h => h))
  have H52 := hid (H42.out.fr k3 (fun h => h))
  have HRD5 := hid (HRD4.out.no k3)
  have K1 := hid k1
  have K2 := hid k2
  have K4 := hid k4
  have K5 : Hid (ByR (iS HOK.out (flr x.n floor)) t W b') := hid k5
  clear k1 k2 k3 k4 k5 H41 H42 F4 HRD4
  go_wp2_with fail
  have hA : Fr No w5 ((w5.alloc (.cells #[.slice (some ⟨Bf, 0, none⟩) x.n x.n, .slice (some ⟨Bb, 0, none⟩) x.n x.n] 129)).alloc (.cells #[.slice (some ⟨Bf', 0, none⟩) x.n x.n, .slice (some ⟨Bb', 0, none⟩) x.n x.n] 129)) := ((Fr.refl No w5).alloc _).alloc _
  have o1 := heap_alloc2_old w5 (.cells #[.slice (some ⟨Bf, 0, none⟩) x.n x.n, .slice (some ⟨Bb, 0, none⟩) x.n x.n] 129) (.cells #[.slice (some ⟨Bf', 0, none⟩) x.n x.n, .slice (some ⟨Bb', 0, none⟩) x.n x.n] 129)
  have o2 := heap_alloc2_new w5 (.cells #[.slice (some ⟨Bf, 0, none⟩) x.n x.n, .slice (some ⟨Bb, 0, none⟩) x.n x.n] 129) (.cells #[.slice (some ⟨Bf', 0, none⟩) x.n x.n, .slice (some ⟨Bb', 0, none⟩) x.n x.n] 129)
  generalize ((w5.alloc (.cells #[.slice (some ⟨Bf, 0, none⟩) x.n x.n, .slice (some ⟨Bb, 0, none⟩) x.n x.n] 129)).alloc (.cells #[.slice (some ⟨Bf', 0, none⟩) x.n x.n, .slice (some ⟨Bb', 0, none⟩) x.n x.n] 129)) = V at hA o1 o2 ⊢
  have hgok := HG.out.ok
  have hfar := HB.out.meet HY.out HYO.out HOK.out hgok HW.out HD.out.1 hs ht H4.out K4.out
  have hbd := Gr.far_b HW.out s t (by have := HD.out.1; omega) (by have := HD.out.1; omega)
  have HFAR := hid hfar
  have HGOK := hid hgok
  have H61 := hid (H51.out.fr hA (fun h => h))
  have H62 := hid (H52.out.fr hA (fun h => h))
  have K61 := hid (K1.out.fr hA (fun h => h))
  have K62 := hid (K2.out.fr hA (fun h => h))
  have HRD6 := hid (HRD5.out.no hA)
  have FV := hid (F5.out.trans hA)
  have O1 := hid o1
  have O2 := hid o2
  obtain ⟨B15, hB15⟩ : ∃ B, w5.heap.size = B := ⟨_, rfl⟩
  rw [hB15] at O1 O2 ⊢
  clear hfar hgok hA o1 o2 H51 H52 K1 K2 HRD5 F5 hB15
  refine (meet22_calls hn2 U W _ _ H61.out K61.out H4.out.b K4.out.b ⟨_, _, _, rfl⟩ ⟨_, _, _, rfl⟩).mono ?_
  rintro e w6 ⟨a, rfl, hf6, hm⟩
  have d1 : w6.cell? ⟨B15, 1, none⟩ = some (.slice (some ⟨Bb, 0, none⟩) x.n x.n) := hf6.cell_some (cell_of O1.out 1) (fun h => h)
  have d2 : w6.cell? ⟨B15 + 1, 1, none⟩ = some (.slice (some ⟨Bb', 0, none⟩) x.n x.n) := hf6.cell_some (cell_of O2.out 1) (fun h => h)
  have H72 := hid (H62.out.fr hf6 (fun h => h))
  have K72 := hid (K62.out.fr hf6 (fun h => h))
  have HRD7 := hid (HRD6.out.no hf6)
  have F6 := hid (FV.out.trans hf6)
  have D1 := hid d1
  have D2 := hid d2
  unfold MeetAt at hm
  rw [HFAR.out] at hm ⊢
  have HM := hid hm
  obtain ⟨fr, hfr⟩ : ∃ f, G.far s t = f := ⟨_, rfl⟩
  rw [hfr] at HM hbd ⊢
  have HFR := hid hfr
  clear hm hf6 d1 d2 H61 H62 K61 K62 HRD6 FV O1 O2 hfr
  by_cases e1 : fr = 4611686018427387906
  · subst e1
    go_wp2
    go_ret3
    exact ⟨F6.out, .inl ⟨HFR.out, rfl⟩⟩
  by_cases e2 : fr = 4611686018427387905
  · subst e2
    go_wp2
    go_ret3
    exact ⟨F6.out, .inr (.inl ⟨HFR.out, rfl⟩)⟩
  have hle : fr ≤ 4611686018427387904 := by unfold Bd at hbd; omega
  obtain ⟨u, rfl, hu, htw⟩ : ∃ u : Nat, a = u ∧ u < x.n ∧ tw (U u) (W u) = fr := by
    rcases HM.out with ⟨_, h⟩ | ⟨u, h1, h2, h3, _⟩
    · exact absurd h e1
    · exact ⟨u, h1, h2, h3⟩
  have hUu := H4.out.b u hu
  have hWu := K4.out.b u hu
  have hsum : U u + W u = fr := by
    unfold tw at htw
    split at htw
    · omega
    · split at htw <;> omega
  have g1 : (fr == 4611686018427387906) = false := by simp; exact e1
  have g2 : (fr == 4611686018427387905) = false := by simp; exact e2
  have hUb : U u ≤ 4611686018427387904 := by unfold Bd at hUu hWu; omega
  have hWb : W u ≤ 4611686018427387904 := by unfold Bd at hUu hWu; omega
  have HSUM := hid hsum
  have HUB := hid hUb
  have HWB := hid hWb
  have HLE := hid hle
  clear HM htw hUu hWu hsum hUb hWb hle
  go_wp2_with fail
  go_loopg [19, 20] (U u).toNat (fun m p q wr => ∃ (v : Nat) (l : List Stp) (A : Option Addr) (c : Nat), p = .slice A l.length c ∧ q = .int .i64 (v : Nat) ∧ wr.ownsRow w6.heap.size 188 1 (.slice A l.length c) l.length (l.map Stp.val) ∧ (l = [] → A = none ∧ c = 0) ∧ Trc (oS G HOK.out HD.out (flr x.n floor)) U u v l ∧ m = (U v).toNat ∧ Fr No w6 wr)
  case atStart => exact ⟨u, [], none, 0, rfl, rfl, World.ownsRow_nil _ _ _ _, fun _ => ⟨rfl, rfl⟩, Trc.first hu, rfl, Fr.refl _ _⟩
  case round =>
    obtain ⟨v, l, A, c, rfl, rfl, hown, hnil, htr, hm, hf⟩ := hrel
    have HO := hid hown
    have HNIL := hid hnil
    have HTR := hid htr
    have HMM := hid hm
    have HF := hid hf
    have hvn := htr.hv
    have hvn2 : (v : Int) < x.n := by omega
    have hll := htr.short
    have k1 := hf.cell_some D1.out (fun h => h)
    have kv := (H72.out.fr hf (fun h => h)).cell hvn
    clear hown hnil htr hm hf
    cases hbv : b v with
    | some es =>
      rw [hbv] at kv
      obtain ⟨Ty, inn, fE, hval, hmeth, hent, hends⟩ := es.ends_is
      replace kv : wr.cell? ⟨Bb, v, none⟩ = some (.iface Ty inn) := by rw [← hval]; exact kv
      obtain ⟨u', hsrc, htr', hlt⟩ := HTR.out.step H5.out H4.out.b (fun z hz el hel => oS_src HOK.out HD.out _ z el hel) (fun z hz el hel => by
        have h1 := oS_ok x HOK.out HD.out HW.out hz el hel
        have h2 := ((oE_M HOK.out HW.out HD.out (flr_le x.n floor)).1 z hz (stEdge el) (by rw [oS_edge HOK.out HD.out]; exact List.mem_map.2 ⟨el, hel, rfl⟩))
        exact ⟨h1.w, h2.2.1.2⟩) HUB.out hbv
      have hb0 := H4.out.b u' htr'.hv
      have hsrc : es.fr = (u' : Nat) := hsrc
      obtain ⟨eb, heb⟩ : ∃ a, es.to = a := ⟨_, rfl⟩
      have HBV : Hid (byV (b v) = .iface Ty inn) := hid (by rw [hbv]; exact hval)
      have HVAL := hid hval
      have HENDS := hid hends
      have HENT := hid hent
      have HTR' := hid htr'
      have HLT := hid hlt
      rw [hsrc, heb] at HENDS
      have lk1 := cell_lt k1
      have lkv := cell_lt kv
      clear hval hends hent htr' hlt hbv hsrc heb
      go_wp2_with (at_builtin; refine wpList_pushS (.tmp 66) (.tmp 72) (.slice A l.length c) l wr.heap.size 1 es ?_ ?_ ?_ ?_ w6.heap.size ?_ ?_ ?_ ?_ ?_; rfl; rfl; rfl; rfl; exact own_fr HO.out ((Fr.refl No _).alloc _) (fun _ _ h => h); (have := HF.out.size; simp; omega); (rw [HVAL.out]; exact cell_of (heap_new wr _) 0); omega; intro g' cap' w7 hown4 hgrow4 hat4 hlt4; have HO6 := hid hown4; have HF6 := hid ((HF.out.alloc _).grown hgrow4 (fun k e => .inr (own_block HO.out k e).1)); have k17 := (HF6.out).cell_some D1.out (fun h => h); have kv7 : w7.cell? ⟨Bb, v, none⟩ = some (.iface Ty inn) := (by have := (H72.out.fr HF6.out (fun h => h)).cell hvn; rw [HBV.out] at this; exact this); clear hown4 hgrow4 hat4)
      rw [HENT.out]
      go_wp2_with fail
      refine (HENDS.out w7).mono ?_
      rintro e w8 ⟨rfl, hf8⟩
      have HF8 := hid (HF6.out.trans hf8)
      have HO8 := hid (own_fr HO6.out hf8 (fun _ _ h => h))
      clear hf8 HO6 HF6 hmeth k17 kv7
      go_wp2
      go_roundg (U u').toNat
      case measure => have h1 := HMM.out; have h2 := HLT.out; unfold Bd at hb0; omega
      case rel =>
        refine ⟨u', l ++ [es], some ⟨g', 0, none⟩, cap', by simp, rfl, HO8.out, ?_, HTR'.out, rfl, HF8.out⟩
        intro e
        have := congrArg List.length e
        simp at this
    | none =>
      rw [hbv] at kv
      replace kv : wr.cell? ⟨Bb, v, none⟩ = some .nilIface := kv
      obtain rfl := HTR.out.last H5.out HUB.out hbv
      clear hbv
      go_wp2_with fail
      refine (brev_any (W := w6) (by omega) HNIL.out HO.out HF.out (Nat.le_refl _)).mono ?_
      rintro e w7 ⟨⟨rv, rfl⟩, hf7, ho7⟩
      have HF7 := hid hf7
      have HO7 := hid ho7
      have hrn : l.reverse = [] → A = none ∧ c = 0 := fun h => HNIL.out (by simpa using h)
      have HRN := hid hrn
      have hll' : l.reverse.length < x.n := by simpa using hll
      have elr : l.length = l.reverse.length := by simp
      rw [elr]
      obtain ⟨lr, hlr⟩ : ∃ lr, l.reverse = lr := ⟨_, rfl⟩
      rw [hlr] at HO7 HRN hll' ⊢
      have HLR := hid hlr
      clear hf7 ho7 hrn HNIL HO HF k1 kv elr hlr
      go_wp2_with fail
      go_loopg [19, 21] (W u).toNat (fun m p q wr => ∃ (v : Nat) (l2 : List Stp) (A : Option Addr) (c : Nat), p = .slice A (lr ++ l2).length c ∧ q = .int .i64 (v : Nat) ∧ wr.ownsRow w6.heap.size 188 1 (.slice A (lr ++ l2).length c) (lr ++ l2).length ((lr ++ l2).map Stp.val) ∧ (lr ++ l2 = [] → A = none ∧ c = 0) ∧ Trc (iS HOK.out (flr x.n floor)) W u v l2 ∧ m = (W v).toNat ∧ Fr No w6 wr)
      case atStart => exact ⟨u, [], A, c, by simp, rfl, by simpa using HO7.out, by simpa using HRN.out, Trc.first hu, rfl, HF7.out⟩
      case round =>
        obtain ⟨v2, l2, A2, c2, rfl, rfl, hown, hnil, htr, hm, hf⟩ := hrel
        have HO := hid hown
        have HNIL := hid hnil
        have HTR2 := hid htr
        have HMM := hid hm
        have HF := hid hf
        have hvn := htr.hv
        have hvn2 : (v2 : Int) < x.n := by omega
        have hll2 := htr.short
        have k1 := hf.cell_some D2.out (fun h => h)
        have kv := (K72.out.fr hf (fun h => h)).cell hvn
        have hlen : (lr ++ l2).length = lr.length + l2.length := List.length_append
        obtain ⟨L2, hL2⟩ : ∃ L, lr ++ l2 = L := ⟨_, rfl⟩
        rw [hL2] at HO HNIL hlen ⊢
        have HL2 := hid hL2
        have hlen2 : L2.length ≤ 60 := by omega
        clear hown hnil htr hm hf hL2 hlen
        cases hbv : b' v2 with
        | some es =>
          rw [hbv] at kv
          obtain ⟨Ty, inn, fE, hval, hmeth, hent, hends⟩ := es.ends_is
          replace kv : wr.cell? ⟨Bb', v2, none⟩ = some (.iface Ty inn) := by rw [← hval]; exact kv
          obtain ⟨u', hsrc, htr', hlt⟩ := HTR2.out.step K5.out K4.out.b (fun z hz el hel => iS_src HOK.out _ z el hel) (fun z hz el hel => by
            have h1 := iS_ok (G := G) x HOK.out hz el hel
            have h2 := ((iE_M HOK.out (flr x.n floor)).1 z hz (stEdge el) (by rw [iS_edge HOK.out]; exact List.mem_map.2 ⟨el, hel, rfl⟩))
            exact ⟨h1.w, h2.2.1.2⟩) HWB.out hbv
          have hb0 := K4.out.b u' htr'.hv
          have hsrc : es.to = (u' : Nat) := hsrc
          obtain ⟨eb, heb⟩ : ∃ a, es.fr = a := ⟨_, rfl⟩
          have HBV : Hid (byV (b' v2) = .iface Ty inn) := hid (by rw [hbv]; exact hval)
          have HVAL := hid hval
          have HENDS := hid hends
          have HENT := hid hent
          have HTR' := hid htr'
          have HLT := hid hlt
          rw [hsrc, heb] at HENDS
          have lk1 := cell_lt k1
          have lkv := cell_lt kv
          clear hval hends hent htr' hlt hbv hsrc heb
          go_wp2_with (at_builtin; refine wpList_pushS (.tmp 92) (.tmp 98) (.slice A2 L2.length c2) L2 wr.heap.size 1 es ?_ ?_ ?_ ?_ w6.heap.size ?_ ?_ ?_ ?_ ?_; rfl; rfl; rfl; rfl; exact own_fr HO.out ((Fr.refl No _).alloc _) (fun _ _ h => h); (have := HF.out.size; simp; omega); (rw [HVAL.out]; exact cell_of (heap_new wr _) 0); omega; intro g' cap' w7 hown4 hgrow4 hat4 hlt4; have HO6 := hid hown4; have HF6 := hid ((HF.out.alloc _).grown hgrow4 (fun k e => .inr (own_block HO.out k e).1)); have k17 := (HF6.out).cell_some D2.out (fun h => h); have kv7 : w7.cell? ⟨Bb', v2, none⟩ = some (.iface Ty inn) := (by have := (K72.out.fr HF6.out (fun h => h)).cell hvn; rw [HBV.out] at this; exact this); clear hown4 hgrow4 hat4)
          rw [HENT.out]
          go_wp2_with fail
          refine (HENDS.out w7).mono ?_
          rintro e w8 ⟨rfl, hf8⟩
          have HF8 := hid (HF6.out.trans hf8)
          have HO8 := hid (own_fr HO6.out hf8 (fun _ _ h => h))
          clear hf8 HO6 HF6 hmeth k17 kv7
          go_wp2
          go_roundg (W u').toNat
          case measure => have h1 := HMM.out; have h2 := HLT.out; unfold Bd at hb0; omega
          case rel =>
            refine ⟨u', l2 ++ [es], some ⟨g', 0, none⟩, cap', ?_, rfl, ?_, ?_, HTR'.out, rfl, HF8.out⟩
            · rw [← List.append_assoc, HL2.out]; simp; try omega
            · rw [← List.append_assoc, HL2.out]; exact HO8.out
            · intro e
              have := congrArg List.length e
              simp at this
        | none =>
          obtain rfl := HTR2.out.last K5.out HWB.out hbv
          rw [hbv] at kv
          replace kv : wr.cell? ⟨Bb', v2, none⟩ = some .nilIface := kv
          have hpl := path_plain HB.out HY.out HYO.out HOK.out HGOK.out HW.out HD.out H4.out.s0 K4.out.s0 HTR.out HTR2.out (by rw [HSUM.out]; exact HLE.out)
          rw [HLR.out, HSUM.out, HL2.out] at hpl
          obtain ⟨pl, hp1, hp2, hp3, hp4, hp5⟩ := hpl
          have HP1 := hid hp1
          have HP2 := hid hp2
          have HP3 := hid hp3
          have HP4 := hid hp4
          clear hbv hp1 hp2 hp3 hp4
          have hbar := barcs_calls hfit ((H.out.no F6.out).no HF.out) (HRD7.out.no HF.out) L2 A2 c2 (own_st HO.out) hp5 HP4.out
          have HBAR := hid hbar
          clear hbar
          go_wp2_with fail
          refine HBAR.out.mono ?_
          rintro e w9 ⟨sv, rfl, hf9, hs9⟩
          rw [HP3.out] at hs9
          have HS9 := hid hs9
          have F9 := hid ((F6.out.trans HF.out).trans hf9)
          clear hs9 hf9
          go_wp2
          go_ret3
          exact ⟨F9.out, .inr (.inr ⟨pl, sv, by rw [HFR.out]; exact HLE.out, by rw [HFR.out]; rfl, HS9.out, HP1.out, by rw [HFR.out]; exact HP2.out⟩)⟩

set_option maxRecDepth 100000 in
set_option maxHeartbeats 4000000 in
theorem bpath_no {w : World} {L : IxLoc} {x : Ix} (gp : Option Addr) (h : IxMem w L x) (floor s t : Int) (hs : x.vertex s = false ∨ x.vertex t = false) :
    Calls Tryz.prog 52 #[.pointer gp, .pointer (some ⟨L.b, 0, none⟩), .int .i64 floor, .int .i64 s, .int .i64 t] w fun e w' => e = .returned (.tuple #[.slice none 0 0, .int .i64 0, .int .i64 1]) ∧ Fr No w w' := by
  have H := hid h
  have HV := hid (show ∃ j, j < 2 ∧ x.rank (pfM s t j) < 0 by
    rcases hs with h | h
    · exact ⟨0, by omega, rank_no h⟩
    · exact ⟨1, by omega, rank_no h⟩)
  clear h hs
  go_enter Tryz.func52, Tryz.ntmps52
  go_wp2_with fail
  refine (made22_no (H.out.no ((Fr.refl No w).alloc _)) gp floor _ 2 2 (pfM s t) (two_ints _ _) (by omega) HV.out).mono ?_
  rintro e w1 ⟨rfl, hf1⟩
  have F1 := hid (((Fr.refl No w).alloc (.cells #[.int .i64 s, .int .i64 t] 3)).trans hf1)
  clear hf1
  go_wp2
  go_ret3
  exact ⟨rfl, F1.out⟩

end Go.Proofs.YtoepbhacpidcbaaGreatDoor
