/- The law 'BuildWhole' returns true, by the contracts; walked. -/
import Derived.Test.YthnmomiglgomfaaGreatDoorAw6
import Derived.Test.YthnmomiglgomfaaGreatDoorWh
import Derived.Test.YthnmomiglgomfaaGreatDoorG8
set_option linter.unusedVariables false
set_option linter.unusedSimpArgs false
namespace Go.Proofs.YthnmomiglgomfaaGreatDoor
open Go.RowKit Go.Deep
attribute [local go_sem high] run_eql_en run_neq_en

set_option maxRecDepth 100000 in
set_option maxHeartbeats 4000000 in
theorem bwhole_law (n : Nat) (A1 : Option Addr) (ln1 cp1 : Nat) (ch : Nat → Chg) (num : Nat) (u v e0 e1 e2 : Int) (W : World) (hn : n ≤ 255) (hc : ChgsF W A1 ln1 ch) (b1 : ln1 ≤ 140737488351232) (hnum : (num : Int) ≤ 18446744073709551615) (hN : NoneVar W) :
    Calls Tryz.prog 10 #[.int .u8 (n : Nat), .slice A1 ln1 cp1, .int .u64 (num : Nat), .int .i64 u, .int .i64 v, .agg #[.int .i64 e0, .int .i64 e1, .int .i64 e2]] W fun e w' => e = .returned (.bool true) ∧ Fr No W w' := by
  have HC := hid hc
  have HN := hid hN
  have hmod : n % 24 < 24 := Nat.mod_lt _ (by omega)
  have hd := rank_perm (1 + n % 24) num (by omega) (by omega)
  have HD := hid hd
  have HI := hid (Classical.choose_spec hd.inv)
  obtain ⟨g, hg⟩ : ∃ g, Classical.choose hd.inv = g := ⟨_, rfl⟩
  rw [hg] at HI
  clear hc hN hg hd
  have F0 := hid ((Fr.refl No W).alloc (.cells #[.int .i64 e0, .int .i64 e1, .int .i64 e2] 51))
  go_enter Tryz.func10, Tryz.ntmps10
  go_wp2_with fail
  refine (awake16_calls _ (HN.out.fr F0.out (fun h => h))).mono ?_
  rintro e w1 ⟨rfl, hf⟩
  have c0 := hf.cell_some (p := ⟨W.heap.size, 0, none⟩) (v := .int .i64 e0) (by simp [go_sem]) (fun h => h)
  have c1 := hf.cell_some (p := ⟨W.heap.size, 1, none⟩) (v := .int .i64 e1) (by simp [go_sem]) (fun h => h)
  have c2 := hf.cell_some (p := ⟨W.heap.size, 2, none⟩) (v := .int .i64 e2) (by simp [go_sem]) (fun h => h)
  have G1 := hid (F0.out.trans hf)
  clear hf F0
  go_wp2_with fail
  refine (made8_calls n A1 ln1 cp1 ch w1 hn (HC.out.fr G1.out) b1).mono ?_
  rintro e w2 ⟨Lg, b, rfl, hf, hm, hr, _, hgo⟩
  have hgn := ((Gr.zero (1 + n % 24) 64).steps_n ch (min ln1 150)).1
  have hgw := Gr.steps_wt (1 + n % 24) 64 ch (min ln1 150)
  obtain ⟨G, hG⟩ : ∃ G, (Gr.zero (1 + n % 24) 64).steps ch (min ln1 150) = G := ⟨_, rfl⟩
  rw [hG] at hm hr hgn hgw
  have hgn' : 1 + n % 24 = G.n := hgn.symm
  rw [hgn'] at HD HI
  have d0 := hf.cell_some c0 (fun h => h)
  have d1 := hf.cell_some c1 (fun h => h)
  have d2 := hf.cell_some c2 (fun h => h)
  have HG := hid hm
  have HRG := hid hr
  have HGW := hid hgw
  have G2 := hid (G1.out.trans hf)
  clear hf hm hr hG hgw hgn c0 c1 c2 hgo
  go_wp2_with fail
  refine (rank_law_calls n num w2 hn hnum).mono ?_
  rintro e w3 ⟨br, rfl, hf, _, hblk⟩
  rw [hgn'] at hblk ⊢
  have HB := hid hblk
  have HG3 := hid (HG.out.no hf)
  have HRG3 := hid (HRG.out.no hf)
  have c0 := hf.cell_some d0 (fun h => h)
  have c1 := hf.cell_some d1 (fun h => h)
  have c2 := hf.cell_some d2 (fun h => h)
  have G3 := hid (G2.out.trans hf)
  clear hf hblk HG HRG d0 d1 d2
  go_wp2_with fail
  refine (build_calls HG3.out (some ⟨br, 0, none⟩) G.n (fun i => ((rankOf G.n num i : Nat) : Int)) (fun _ => ⟨br, 0, rfl, fun j hj => by rw [Nat.zero_add]; exact HB.out.cell hj⟩) HD.out g HI.out.1 HI.out.2 (HN.out.fr G3.out (fun h => h))).mono ?_
  rintro e w4 ⟨L, rfl, hf, hx, hlb, _, _, hcb⟩
  have hw := (Ix.new_ok (show 0 < G.n by omega) HD.out HI.out.1 HI.out.2).build_whole HGW.out
  have hxn : ((Ix.new G.n (fun i => ((rankOf G.n num i : Nat) : Int)) g).build G).n = G.n := Ix.build_n _ _
  obtain ⟨x, hX⟩ : ∃ x, (Ix.new G.n (fun i => ((rankOf G.n num i : Nat) : Int)) g).build G = x := ⟨_, rfl⟩
  rw [hX] at hx hw hxn
  have HX := hid hx
  have HOKX := hid hw.1
  have HW := hid hw.2
  have HG4 := hid (HG3.out.no hf)
  have HRG4 := hid (HRG3.out.no hf)
  have d0 := hf.cell_some c0 (fun h => h)
  have d1 := hf.cell_some c1 (fun h => h)
  have d2 := hf.cell_some c2 (fun h => h)
  have G4 := hid (G3.out.trans hf)
  have hlbW : Hid (W.heap.size + 1 ≤ L.b) := hid (by have := cell_lt c0; have : W.heap.size < w3.heap.size := this; omega)
  have HCB := hid hcb
  have hbL : Hid (b ≠ L.b) := hid (by have := Blk.lt HRG3.out; omega)
  have HOL : Hid (∀ j, Lg.own G.n j → j ≠ L.b) := hid (fun j hj => by have := HG3.out.own_lt hj; omega)
  clear hf hx hw hX HRG3 HB HG3 c0 c1 c2 hcb
  go_wp2_with fail
  refine (at_calls HX.out u v).mono ?_
  obtain ⟨⟨a0, a1, a2⟩, hat⟩ : ∃ y, x.at_ u v = y := ⟨_, rfl⟩
  rw [hat]
  simp only [En.val]
  rintro e w5 ⟨rfl, hf⟩
  have HAT := hid hat
  have HX5 := hid (HX.out.no hf)
  have HG5 := hid (HG4.out.no hf)
  have HRG5 := hid (HRG4.out.no hf)
  have c0 := hf.cell_some d0 (fun h => h)
  have c1 := hf.cell_some d1 (fun h => h)
  have c2 := hf.cell_some d2 (fun h => h)
  have l0 := cell_lt c0
  simp only at l0
  have G5 := hid (G4.out.trans hf)
  clear hf hat d0 d1 d2 HX HG4 HRG4
  go_wp2_with fail
  have fa := (Fr.refl No w5).alloc (.cells #[.int .i64 a0, .int .i64 a1, .int .i64 a2] 51)
  refine (set_calls (HX5.out.no fa) u v ⟨e0, e1, e2⟩).mono ?_
  rintro e w6 ⟨rfl, hm, hf⟩
  have hLw := HX5.out.lt
  have hfl := hlbW.out
  have b0 := hf.cell_some (p := ⟨w5.heap.size, 0, none⟩) (v := .int .i64 a0) (by simp [go_sem]) (fun (e : w5.heap.size = L.b) => by omega)
  have b1' := hf.cell_some (p := ⟨w5.heap.size, 1, none⟩) (v := .int .i64 a1) (by simp [go_sem]) (fun (e : w5.heap.size = L.b) => by omega)
  have b2' := hf.cell_some (p := ⟨w5.heap.size, 2, none⟩) (v := .int .i64 a2) (by simp [go_sem]) (fun (e : w5.heap.size = L.b) => by omega)
  have d0 := hf.cell_some (fa.cell_some c0 (fun h => h)) (fun (e : W.heap.size = L.b) => by omega)
  have d1 := hf.cell_some (fa.cell_some c1 (fun h => h)) (fun (e : W.heap.size = L.b) => by omega)
  have d2 := hf.cell_some (fa.cell_some c2 (fun h => h)) (fun (e : W.heap.size = L.b) => by omega)
  have G6 := hid ((G5.out.trans fa).trans' hf (fun i hi (e : i = L.b) => by omega))
  have HM6 := hid hm
  have HG6 := hid ((HG5.out.no fa).fr hf (fun j hj (e : j = L.b) => HOL.out j hj e))
  have HRG6 := hid ((HRG5.out.no fa).fr hf (fun (e : b = L.b) => hbL.out e))
  have q0 := HRG6.out.c0
  obtain ⟨cd, hcd⟩ : ∃ cd, x.codeI u v ⟨e0, e1, e2⟩ = cd := ⟨_, rfl⟩
  rw [hcd]
  have HCD := hid hcd
  clear hf hm fa c0 c1 c2 hcd HX5 HG5 HRG5 hLw hfl
  go_wp2_with fail
  rw [show ((G.n : Int) % 24 + 1) = ((G.n % 24 + 1 : Nat) : Int) by omega]
  have hm24 : G.n % 24 < 24 := Nat.mod_lt _ (by omega)
  refine (gnew2_calls (G.n % 24 + 1) 1 (by omega) (by omega) (by omega) (by omega) _).mono ?_
  rintro e w7 ⟨L2, rfl, hg2, hf, _⟩
  have HG7' := hid hg2
  have HM7 := hid (HM6.out.no hf)
  have HG7 := hid (HG6.out.no hf)
  have c0 := hf.cell_some d0 (fun h => h)
  have c1 := hf.cell_some d1 (fun h => h)
  have c2 := hf.cell_some d2 (fun h => h)
  have p0 := hf.cell_some b0 (fun h => h)
  have p1 := hf.cell_some b1' (fun h => h)
  have p2 := hf.cell_some b2' (fun h => h)
  have G7 := hid (G6.out.trans hf)
  clear hf hg2 HM6 HG6 HRG6 q0 d0 d1 d2 b0 b1' b2'
  go_wp2_with fail
  have hxs : (x.setI u v ⟨e0, e1, e2⟩).n = G.n := (Ix.setI_n _ _ _ _).trans hxn
  have HXS := hid hxs
  refine (whole_calls HG7'.out HM7.out (by rw [HXS.out, HCB.out]; exact Nat.le_refl _)).mono ?_
  rintro e w8 ⟨bb, rfl, hf, hb⟩
  obtain rfl : bb = false := by
    cases bb with
    | false => rfl
    | true =>
      have h1 := (hb.1 rfl).1
      rw [HXS.out] at h1
      have h1 : G.n % 24 + 1 = G.n := h1
      have := HG7.out.ok.n2
      have := HG7.out.ok.n1
      omega
  have HM8 := hid (HM7.out.no hf)
  have HG8 := hid (HG7.out.no hf)
  have d0 := hf.cell_some c0 (fun h => h)
  have d1 := hf.cell_some c1 (fun h => h)
  have d2 := hf.cell_some c2 (fun h => h)
  have q0 := hf.cell_some p0 (fun h => h)
  have q1 := hf.cell_some p1 (fun h => h)
  have q2 := hf.cell_some p2 (fun h => h)
  have G8 := hid (G7.out.trans hf)
  clear hf hb hxs HM7 HG7 HG7' c0 c1 c2 p0 p1 p2
  go_wp2_with fail
  refine (whole_calls HG8.out HM8.out (by rw [HXS.out, HCB.out]; exact Nat.le_refl _)).mono ?_
  rintro e w9 ⟨bb, rfl, hf, hb⟩
  have hb2 : bb = true ↔ (cd ≠ 0 ∨ (⟨e0, e1, e2⟩ : En) = ⟨a0, a1, a2⟩) := by
    rw [hb, HW.out.setI_iff HOKX.out HGW.out, HCD.out, HAT.out, HXS.out]
    exact ⟨fun h => h.2, fun h => ⟨rfl, h⟩⟩
  have hen := eq3_en ⟨e0, e1, e2⟩ ⟨a0, a1, a2⟩
  simp only at hen
  have c0 := hf.cell_some d0 (fun h => h)
  have c1 := hf.cell_some d1 (fun h => h)
  have c2 := hf.cell_some d2 (fun h => h)
  have p0 := hf.cell_some q0 (fun h => h)
  have p1 := hf.cell_some q1 (fun h => h)
  have p2 := hf.cell_some q2 (fun h => h)
  have G9 := hid (G8.out.trans hf)
  have HB2 := hid hb2
  have HEN := hid hen
  clear hf hb hb2 hen HM8 HG8 d0 d1 d2 q0 q1 q2
  by_cases hc0 : cd = 0
  · subst hc0
    obtain ⟨eb, heb⟩ : ∃ eb, eq3 e0 e1 e2 a0 a1 a2 = eb := ⟨_, rfl⟩
    have hbe : bb = eb := by
      have h1 := HB2.out
      have h2 := HEN.out
      rw [heb] at h2
      cases eb with
      | true => exact h1.2 (.inr (of_decide_eq_true h2.symm))
      | false =>
        cases bb with
        | false => rfl
        | true =>
          rcases h1.1 rfl with h | h
          · exact absurd rfl h
          · rw [h] at h2; simp at h2
    subst hbe
    cases bb
    all_goals
      go_wp2
      go_ret
      exact ⟨rfl, G9.out⟩
  · have g1 : (cd != 0) = true := by simp [hc0]
    have g2 : decide (cd = 0) = false := by simp [hc0]
    obtain rfl : bb = true := HB2.out.2 (.inl hc0)
    go_wp2
    go_ret
    exact ⟨rfl, G9.out⟩

end Go.Proofs.YthnmomiglgomfaaGreatDoor
