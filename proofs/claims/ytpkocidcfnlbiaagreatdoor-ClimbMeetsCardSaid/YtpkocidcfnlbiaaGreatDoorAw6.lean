/- The build law's check that its parts are awake; walked. -/
import Derived.Test.YtpkocidcfnlbiaaGreatDoorWhl
import Derived.Test.YtpkocidcfnlbiaaGreatDoorBts
import Derived.Test.YtpkocidcfnlbiaaGreatDoorLks
import Derived.Test.YtpkocidcfnlbiaaGreatDoorAwk
set_option linter.unusedVariables false
set_option linter.unusedSimpArgs false
namespace Go.Proofs.YtpkocidcfnlbiaaGreatDoor
open Go.RowKit Go.Shelf Go.Deep
attribute [local go_sem high] run_eql_en run_neq_en

def a6g : Gr := ((Gr.zero 3 4).ins 7 ⟨((0 : Nat) : Int), ((1 : Nat) : Int), 2, false⟩).ins 8 ⟨((1 : Nat) : Int), ((2 : Nat) : Int), 3, false⟩
def a6f (j : Nat) : Int := [0, 2, 1].getD j 0
def a6h (j : Nat) : Nat := [0, 2, 1].getD j 0
theorem a6_perm : PermF 3 a6f := ⟨by omega, by decide, by
  intro i j h1 h2
  (have : (i = 0 ∧ j = 1) ∨ (i = 0 ∧ j = 2) ∨ (i = 1 ∧ j = 2) := by omega)
  rcases this with ⟨rfl, rfl⟩ | ⟨rfl, rfl⟩ | ⟨rfl, rfl⟩ <;> decide⟩
theorem a6_g1 : ∀ i, i < 3 → a6h (a6f i).toNat = i := by decide
theorem a6_g2 : ∀ r, r < 3 → a6h r < 3 ∧ a6f (a6h r) = r := by decide
def a6x : Ix := (Ix.new 3 awf awg).build a6g
def a6y : Ix := (Ix.new 3 a6f a6h).build a6g
theorem a6_wt : a6g.Wt := by
  intro i hi h
  have : i = 7 ∨ i = 8 := by
    by_cases h8 : i = 8
    · exact .inr h8
    · by_cases h7 : i = 7
      · exact .inl h7
      · have : a6g.tk i = false := by
          show (if i = 8 then true else if i = 7 then true else false) = false
          rw [if_neg h8, if_neg h7]
        rw [this] at h; cases h
  rcases this with rfl | rfl <;> decide
theorem a6_hd : a6g.Hd a6g.n := ⟨rfl, by decide⟩
theorem a6_x : a6x.shorts.map (fun l => (l.t, l.h, l.e.w, l.e.a, l.e.m)) = [(0, 2, 5, -1, 1)] := by decide +kernel
theorem a6_x1 : a6x.shorts.length = 1 := by have := congrArg List.length a6_x; simpa using this
theorem a6_x2 : a6x.shorts.getD 0 Lk.zero = ⟨0, 2, ⟨5, -1, 1⟩⟩ := by
  have h1 := a6_x1
  have h2 := a6_x
  obtain ⟨y, hy⟩ : ∃ y, a6x.shorts = [y] := by
    match hs : a6x.shorts with
    | [] => rw [hs] at h1; cases h1
    | [y] => exact ⟨y, rfl⟩
    | _ :: _ :: _ => rw [hs] at h1; simp at h1
  rw [hy] at h2 ⊢
  obtain ⟨a, b, ⟨c, d, e⟩⟩ := y
  simp at h2
  obtain ⟨rfl, rfl, rfl, rfl, rfl⟩ := h2
  rfl
theorem a6_y : a6y.shorts.length = 0 := by decide +kernel
theorem a6_d : a6g.btw ((Ix.new 3 awf awg).below 0 2) 0 2 = 5 := by decide +kernel
theorem a6_c0 : (Gr.zero 3 4).cnt < (Gr.zero 3 4).most := by decide +kernel
theorem a6_c1 : ((Gr.zero 3 4).ins 7 ⟨((0 : Nat) : Int), ((1 : Nat) : Int), 2, false⟩).cnt < ((Gr.zero 3 4).ins 7 ⟨((0 : Nat) : Int), ((1 : Nat) : Int), 2, false⟩).most := by decide +kernel

def a6k (j : Nat) : Int := [0, 1].getD j 0

set_option maxRecDepth 100000 in
set_option maxHeartbeats 4000000 in
theorem awake16_calls (w : World) (hN : NoneVar w) : Calls Tryz.prog 14 #[] w fun e w' => e = .returned (.bool true) ∧ Fr No w w' := by
  have HN := hid hN
  clear hN
  go_enter Tryz.func14, Tryz.ntmps14
  go_wp2_with fail
  refine (gnew2_calls 3 4 (by omega) (by omega) (by omega) (by omega) _).mono ?_
  rintro e w1 ⟨L0, rfl, hg, hf, hown⟩
  have HG := hid hg
  have F1 := hid hf
  have HO := hid hown
  clear hg hf hown
  go_wp2_with fail
  refine (gins_yes HG.out 7 (by omega) 0 1 2 false (by decide) (by decide) (by omega) (by omega) rfl a6_c0).mono ?_
  rintro e w2 ⟨rfl, L1, hg, hb1, _, hf, hown⟩
  have F2 := hid (F1.out.trans' hf (fun i hi hj => by have := HO.out i hj; omega))
  have HO1 : Hid (∀ j, L1.own 3 j → w.heap.size ≤ j) := hid fun j hj => by
    rcases hown j hj with h | h
    · exact HO.out j h
    · have := F1.out.size; omega
  have HG1 := hid hg
  rw [← hb1]
  clear hg hf hown hb1 HG HO F1
  go_wp2_with fail
  refine (gins_yes HG1.out 8 (by omega) 1 2 3 false (by decide) (by decide) (by omega) (by omega) rfl a6_c1).mono ?_
  rintro e w3 ⟨rfl, L2, hg, hb2, _, hf, hown⟩
  have F3 := hid (F2.out.trans' hf (fun i hi hj => by have := HO1.out i hj; omega))
  have HG2 : Hid (GMem w3 L2 a6g) := hid hg
  rw [← hb2]
  clear hg hf hown hb2 HG1 HO1 F2
  go_wp2_with fail
  have fa := (Fr.refl No w3).alloc (.cells #[.int .i64 1, .int .i64 0, .int .i64 2] 3)
  refine (build_calls (HG2.out.no fa) (some ⟨w3.heap.size, 0, none⟩) 3 awf (lit_ints 3 awf (by intro j hj; (have : j = 0 ∨ j = 1 ∨ j = 2 := by omega); rcases this with rfl | rfl | rfl <;> rfl)) aw_perm awg aw_g1 aw_g2 (HN.out.fr (F3.out.trans fa) (fun h => h))).mono ?_
  rintro e w4 ⟨Lx, rfl, hf, hx, _, _, _, hcx⟩
  have HX : Hid (IxMem w4 Lx a6x) := hid hx
  have F4 := hid (F3.out.trans (fa.trans hf))
  have HG4 := hid (HG2.out.no (fa.trans hf))
  have HCX := hid hcx
  clear hf hx hcx fa HG2 F3
  go_wp2_with fail
  have fa := (Fr.refl No w4).alloc (.cells #[.int .i64 0, .int .i64 2, .int .i64 1] 3)
  refine (build_calls (HG4.out.no fa) (some ⟨w4.heap.size, 0, none⟩) 3 a6f (lit_ints 3 a6f (by intro j hj; (have : j = 0 ∨ j = 1 ∨ j = 2 := by omega); rcases this with rfl | rfl | rfl <;> rfl)) a6_perm a6h a6_g1 a6_g2 (HN.out.fr (F4.out.trans fa) (fun h => h))).mono ?_
  rintro e w5 ⟨Ly, rfl, hf, hy, _, _, _, hcy⟩
  have HX5 := hid (HX.out.no (fa.trans hf))
  have HY : Hid (IxMem w5 Ly a6y) := hid hy
  have F5 := hid (F4.out.trans (fa.trans hf))
  have HG5 := hid (HG4.out.no (fa.trans hf))
  clear hf hy hcy fa HG4 F4 HX
  go_wp2_with fail
  have fa := (Fr.refl No w5).alloc (.cells #[.int .i64 0, .int .i64 1] 3)
  refine (build_no (HG5.out.no fa) (some ⟨w5.heap.size, 0, none⟩) 2 2 a6k (lit_ints 2 a6k (by intro j hj; (have : j = 0 ∨ j = 1 := by omega); rcases this with rfl | rfl <;> rfl)) (by omega) (HN.out.fr (F5.out.trans fa) (fun h => h)) (fun h => absurd h.1 (by decide))).mono ?_
  rintro e w6 ⟨rfl, hf⟩
  have HX6 := hid (HX5.out.no (fa.trans hf))
  have HY6 := hid (HY.out.no (fa.trans hf))
  have F6 := hid (F5.out.trans (fa.trans hf))
  have HG6 := hid (HG5.out.no (fa.trans hf))
  clear hf fa HG5 F5 HX5 HY
  go_wp2_with fail
  have fa := (Fr.refl No w6).alloc (.cells #[.int .i64 1, .int .i64 0, .int .i64 2] 3)
  refine (between_calls (HG6.out.no fa) a6_wt a6_hd (some ⟨w6.heap.size, 0, none⟩) 3 awf (lit_ints 3 awf (by intro j hj; (have : j = 0 ∨ j = 1 ∨ j = 2 := by omega); rcases this with rfl | rfl | rfl <;> rfl)) aw_perm awg aw_g1 aw_g2 (HN.out.fr (F6.out.trans fa) (fun h => h)) 0 2 (by decide) (by decide) (by decide)).mono ?_
  rintro e w7 ⟨rfl, hf⟩
  have hd : a6g.btw ((Ix.new a6g.n awf awg).below 0 2) 0 2 = 5 := a6_d
  rw [hd]
  have HX7 := hid (HX6.out.no (fa.trans hf))
  have HY7 := hid (HY6.out.no (fa.trans hf))
  have F7 := hid (F6.out.trans (fa.trans hf))
  have HG7 := hid (HG6.out.no (fa.trans hf))
  clear hf fa HG6 F6 HX6 HY6 hd
  go_wp2_with fail
  refine (shortcuts_calls HX7.out).mono ?_
  rw [a6_x1]
  rintro e w8 ⟨A8, c8, rfl, hf, hs⟩
  have hs := hs (by omega)
  have HX8 := hid (HX7.out.no hf)
  have HY8 := hid (HY7.out.no hf)
  have F8 := hid (F7.out.trans hf)
  have HG8 := hid (HG7.out.no hf)
  obtain ⟨b8, o8, rfl, hl0, hl1, hl2, hl3, hl4⟩ : ∃ b off, A8 = some ⟨b, off, none⟩ ∧ w8.cell? ⟨b, off, none⟩ = some (.int .i64 0) ∧ w8.cell? ⟨b, off + 1, none⟩ = some (.int .i64 2) ∧ w8.cell? ⟨b, off + 2, none⟩ = some (.int .i64 5) ∧ w8.cell? ⟨b, off + 3, none⟩ = some (.int .i64 (-1)) ∧ w8.cell? ⟨b, off + 4, none⟩ = some (.int .i64 1) := by
    rcases hs with ⟨h, _⟩ | ⟨b, off, c, _, he, hc⟩
    · have := a6_x1; rw [h] at this; cases this
    · have h0 := hc 0 (by rw [a6_x1]; omega)
      rw [a6_x2] at h0
      injection he with he1 he2 he3
      obtain ⟨p0, p1, p2, p3, p4⟩ := h0
      exact ⟨b, off, he1, p0, p1, p2, p3, p4⟩
  clear hf hs HX7 HY7 HG7 F7
  go_wp2_with fail
  refine (shortcuts_calls HY8.out).mono ?_
  rw [a6_y]
  rintro e w9 ⟨A9, c9, rfl, hf, _⟩
  have HX9 := hid (HX8.out.no hf)
  have F9 := hid (F8.out.trans hf)
  have HG9 := hid (HG8.out.no hf)
  clear hf HX8 HY8 HG8 F8 hl0 hl1 hl2 hl3 hl4
  go_wp2_with fail
  refine (whole_calls HG9.out HX9.out (by rw [HCX.out]; exact Nat.le_refl 3)).mono ?_
  rintro e w10 ⟨b, rfl, hf, hb⟩
  have hwh : Whole a6g a6x := ((Ix.new_ok (by omega) aw_perm aw_g1 aw_g2).build_whole a6_wt).2
  obtain rfl : b = true := hb.2 ⟨rfl, hwh⟩
  have F10 := hid (F9.out.trans hf)
  clear hf hb hwh
  go_wp2
  go_ret
  exact ⟨rfl, F10.out⟩

end Go.Proofs.YtpkocidcfnlbiaaGreatDoor
