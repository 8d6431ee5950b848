/- The law 'BuildCloses' returns true, by the contracts; walked. -/
import Derived.Test.YthnmomiglgomfaaGreatDoorAw6
import Derived.Test.YthnmomiglgomfaaGreatDoorBcP
import Derived.Test.YthnmomiglgomfaaGreatDoorIns
import Derived.Test.YthnmomiglgomfaaGreatDoorG8
set_option linter.unusedVariables false
set_option linter.unusedSimpArgs false
namespace Go.Proofs.YthnmomiglgomfaaGreatDoor
open Go.RowKit Go.Deep

def Gr.rarc (G : Gr) (k : Nat) : Arc4 := if G.tk k then G.arc k else ⟨0, 0, 0, false⟩
set_option maxRecDepth 100000 in
set_option maxHeartbeats 1000000 in
theorem rgarc_calls {w : World} {b : Nat} {G : Gr} (h : RGM w b G) (k : Nat) (hk : k < 64) :
    Calls Tryz.prog 42 #[.pointer (some ⟨b, 0, none⟩), .int .i64 (k : Nat)] w fun e w' =>
      e = .returned (.tuple #[.agg #[.int .i64 (G.rarc k).t, .int .i64 (G.rarc k).h, .int .i64 (G.rarc k).w, .bool (G.rarc k).c], .bool (G.tk k)]) ∧ Fr No w w' := by
  have H := hid h
  have lb : b < w.heap.size := Blk.lt h
  have a0 : w.cell? ⟨b, 66 + k * 4, none⟩ = some (.int .i64 (G.arc k).t) := h.arc hk 0 (by omega)
  have a1 : w.cell? ⟨b, 66 + k * 4 + 1, none⟩ = some (.int .i64 (G.arc k).h) := h.arc hk 1 (by omega)
  have a2 : w.cell? ⟨b, 66 + k * 4 + 2, none⟩ = some (.int .i64 (G.arc k).w) := h.arc hk 2 (by omega)
  have a3 : w.cell? ⟨b, 66 + k * 4 + 3, none⟩ = some (.bool (G.arc k).c) := h.arc hk 3 (by omega)
  have hk2 : (k : Int) < 64 := by omega
  have hcode : G.code (k : Nat) = if G.tk k then 0 else 3 := by unfold Gr.code; rw [if_pos (by omega), Int.toNat_natCast]
  have f0 := (Fr.refl No w).alloc (.cells #[.int .i64 0, .int .i64 0, .int .i64 0, .bool false] 40)
  have HC := hid hcode
  have F0 := hid f0
  clear h hcode
  cases htk : G.tk k with
  | false =>
    have er : G.rarc k = ⟨0, 0, 0, false⟩ := by unfold Gr.rarc; rw [htk]; rfl
    rw [er]
    have HT := hid htk
    clear er htk a0 a1 a2 a3
    go_enter Tryz.func42, Tryz.ntmps42
    go_wp2_with fail
    refine (rgcode_calls (H.out.no F0.out) (k : Nat)).mono ?_
    rw [HC.out, HT.out]
    rintro e w1 ⟨rfl, rfl⟩
    go_wp2
    refine bodyPost_ret (v := .tuple #[.agg #[.int .i64 0, .int .i64 0, .int .i64 0, .bool false], .bool false]) (by simp [results, Tryz.results42, go_sem]) rfl ⟨rfl, ?_⟩
    (repeat (first | exact Fr.refl _ _ | apply Fr.drewN | apply Fr.drew | apply Fr.alloc | (refine Fr.setCell ?_ (.inr (Nat.le_refl _)) _)))
  | true =>
    have er : G.rarc k = G.arc k := by unfold Gr.rarc; rw [htk]; rfl
    rw [er]
    obtain ⟨⟨t, hd, wt, cl⟩, har⟩ : ∃ y, G.arc k = y := ⟨_, rfl⟩
    rw [har] at a0 a1 a2 a3 ⊢
    have HT := hid htk
    clear er htk har
    go_enter Tryz.func42, Tryz.ntmps42
    go_wp2_with fail
    refine (rgcode_calls (H.out.no F0.out) (k : Nat)).mono ?_
    rw [HC.out, HT.out]
    rintro e w1 ⟨rfl, rfl⟩
    go_wp2
    refine bodyPost_ret (v := .tuple #[.agg #[.int .i64 t, .int .i64 hd, .int .i64 wt, .bool cl], .bool true]) (by simp [results, Tryz.results42, go_sem]) rfl ⟨rfl, ?_⟩
    (repeat (first | exact Fr.refl _ _ | apply Fr.drewN | apply Fr.drew | apply Fr.alloc | (refine Fr.setCell ?_ (.inr (Nat.le_refl _)) _)))

theorem Gr.tn_most (G : Gr) (k : Nat) (c : Bool) : (G.tn (k : Nat) c).most = G.most := by unfold Gr.tn; split <;> rfl
theorem Gr.rm_most (G : Gr) (k : Nat) : (G.rm (k : Nat)).most = G.most := by unfold Gr.rm; split <;> rfl
theorem best_win {G : Gr} {u v : Int} {k : Nat} (h : (G.best u v).2 = (k : Int)) : (G.best u v).1 = (G.arc k).w := by
  rcases G.best_char u v with ⟨e, _⟩ | ⟨k', _, _, e, _⟩
  · rw [e] at h
    have h : (-1 : Int) = k := h
    omega
  · rw [e] at h ⊢
    have h : ((k' : Nat) : Int) = k := h
    have : k' = k := by omega
    rw [this]

set_option maxRecDepth 100000 in
set_option maxHeartbeats 4000000 in
theorem closes_law (n : Nat) (A1 : Option Addr) (ln1 cp1 : Nat) (ch : Nat → Chg) (num id : Nat) (W : World) (hn : n ≤ 255) (hc : ChgsF W A1 ln1 ch) (b1 : ln1 ≤ 140737488351232) (hnum : (num : Int) ≤ 18446744073709551615) (hid8 : id ≤ 255) (hN : NoneVar W) :
    Calls Tryz.prog 13 #[.int .u8 (n : Nat), .slice A1 ln1 cp1, .int .u64 (num : Nat), .int .u8 (id : Nat)] W fun e w' => e = .returned (.bool true) ∧ Fr No W w' := by
  have HC := hid hc
  have HN := hid hN
  have hmod : n % 24 < 24 := Nat.mod_lt _ (by omega)
  have hd := rank_perm (1 + n % 24) num (by omega) (by omega)
  have HD := hid hd
  have HI := hid (Classical.choose_spec hd.inv)
  obtain ⟨g, hg⟩ : ∃ g, Classical.choose hd.inv = g := ⟨_, rfl⟩
  rw [hg] at HI
  clear hc hN hg hd
  go_enter Tryz.func13, Tryz.ntmps13
  go_wp2_with fail
  refine (awake16_calls W HN.out).mono ?_
  rintro e w1 ⟨rfl, hf⟩
  have G1 := hid hf
  clear hf
  go_wp2_with fail
  refine (made8_calls n A1 ln1 cp1 ch w1 hn (HC.out.fr G1.out) b1).mono ?_
  rintro e w2 ⟨Lg, b, rfl, hf, hm, hr, _, hgo⟩
  have hgn := ((Gr.zero (1 + n % 24) 64).steps_n ch (min ln1 150)).1
  have hgm := ((Gr.zero (1 + n % 24) 64).steps_n ch (min ln1 150)).2
  have hgw := Gr.steps_wt (1 + n % 24) 64 ch (min ln1 150)
  obtain ⟨G, hG⟩ : ∃ G, (Gr.zero (1 + n % 24) 64).steps ch (min ln1 150) = G := ⟨_, rfl⟩
  rw [hG] at hm hr hgn hgw hgm
  have hgn' : 1 + n % 24 = G.n := hgn.symm
  rw [hgn'] at HD HI hgo
  have HOWN : Hid (∀ j, Lg.own G.n j → W.heap.size ≤ j ∧ j < w2.heap.size ∧ j ≠ b) := hid fun j hj => ⟨by have := (hgo j hj).1; have := G1.out.size; omega, hm.own_lt hj, (hgo j hj).2⟩
  have HG := hid hm
  have HRG := hid hr
  have HGW := hid hgw
  have HGM : Hid (G.most = 64) := hid hgm
  have HOKG := hid hm.ok
  have G2 := hid (G1.out.trans hf)
  clear hf hm hr hG hgw hgn hgo hgm
  go_wp2_with fail
  refine (rank_law_calls n num w2 hn hnum).mono ?_
  rintro e w3 ⟨br, rfl, hf, hbr, hblk⟩
  rw [hgn'] at hblk ⊢
  have HB := hid hblk
  have HG3 := hid (HG.out.no hf)
  have HRG3 := hid (HRG.out.no hf)
  have G3 := hid (G2.out.trans hf)
  have hs3 := hf.size
  clear hf hblk HG HRG
  obtain ⟨k, hk⟩ : ∃ k, id % 64 = k := ⟨_, rfl⟩
  have hk64 : k < 64 := by omega
  have hkk : (id : Int) % 64 = (k : Nat) := by omega
  have hkt : Int.tmod (id : Int) 64 = (k : Nat) := by rw [Int.tmod_eq_emod_of_nonneg (by omega)]; exact hkk
  go_wp2_with fail
  refine (rgarc_calls HRG3.out k hk64).mono ?_
  obtain ⟨⟨rt, rh, rwt, rc⟩, hra⟩ : ∃ y, G.rarc k = y := ⟨_, rfl⟩
  obtain ⟨ok, hok⟩ : ∃ o, G.tk k = o := ⟨_, rfl⟩
  rw [hra, hok]
  rintro e w4 ⟨rfl, hf⟩
  have HRA := hid hra
  have HOKK := hid hok
  have HB4 := hid (HB.out.fr hf (fun h => h))
  have HG4 := hid (HG3.out.no hf)
  have HRG4 := hid (HRG3.out.no hf)
  have G4 := hid (G3.out.trans hf)
  have hs4 := hf.size
  clear hf hra hok HB HG3 HRG3
  go_wp2_with fail
  have fa := (Fr.refl No w4).alloc (.cells #[.int .i64 rt, .int .i64 rh, .int .i64 rwt, .bool rc] 40)
  have hx0 := Ix.new_ok (show 0 < G.n by omega) HD.out HI.out.1 HI.out.2
  have HX0 := hid hx0
  clear hx0
  refine (build_calls (HG4.out.no fa) (some ⟨br, 0, none⟩) G.n (fun i => ((rankOf G.n num i : Nat) : Int)) (fun _ => ⟨br, 0, rfl, fun j hj => by rw [Nat.zero_add]; exact (HB4.out.fr fa (fun h => h)).cell hj⟩) HD.out g HI.out.1 HI.out.2 (HN.out.fr (G4.out.trans fa) (fun h => h))).mono ?_
  rintro e w5 ⟨Lx, rfl, hf, hx, hx1, hx2, hx3, hcx⟩
  have HX5 := hid hx
  have HG5 := hid (HG4.out.no (fa.trans hf))
  have HRG5 := hid (HRG4.out.no (fa.trans hf))
  have HB5 := hid (HB4.out.fr (fa.trans hf) (fun h => h))
  have G5 := hid (G4.out.trans (fa.trans hf))
  have a0 := hf.cell_some (p := ⟨w4.heap.size, 0, none⟩) (v := .int .i64 rt) (by simp [go_sem]) (fun h => h)
  have a1 := hf.cell_some (p := ⟨w4.heap.size, 1, none⟩) (v := .int .i64 rh) (by simp [go_sem]) (fun h => h)
  have a2 := hf.cell_some (p := ⟨w4.heap.size, 2, none⟩) (v := .int .i64 rwt) (by simp [go_sem]) (fun h => h)
  have a3 := hf.cell_some (p := ⟨w4.heap.size, 3, none⟩) (v := .bool rc) (by simp [go_sem]) (fun h => h)
  simp only [World.size_alloc] at hx1 hx2 hx3
  have HLX : Hid (w2.heap.size ≤ Lx.b ∧ w2.heap.size ≤ Lx.br ∧ w2.heap.size ≤ Lx.bb) := hid (by omega)
  have HCX := hid hcx
  have hgn2 := HN.out.lt
  have hs2 := G2.out.size
  have hnone : Hid (∀ j, Lg.own G.n j → j ≠ 0) := hid fun j hj => by have := (HOWN.out j hj).1; omega
  have hA13 : Hid (∀ j, Lg.own G.n j → j ≠ w4.heap.size) := hid fun j hj => by have := (HOWN.out j hj).2.1; omega
  clear hf hx fa hx1 hx2 hx3 hcx HG4 HRG4 HB4
  go_wp2_with fail
  refine (gclose_calls HG5.out (k : Nat)).mono ?_
  rintro e w6 ⟨rfl, hg1, hf⟩
  obtain ⟨c6, hc6⟩ : ∃ c, G.tcode (k : Nat) true = c := ⟨_, rfl⟩
  rw [hc6]
  clear hc6
  have HX6 := hid (HX5.out.fr hf (fun h => by have := (HOWN.out _ h).2.1; have := HLX.out; omega) (fun h => by have := (HOWN.out _ h).2.1; have := HLX.out; omega) (fun h => by have := (HOWN.out _ h).2.1; have := HLX.out; omega) (fun h => hnone.out _ h rfl))
  have HG6 := hid hg1
  have HRG6 := hid (HRG5.out.fr hf (fun h => (HOWN.out _ h).2.2 rfl))
  have HB6 := hid (HB5.out.fr hf (fun h => by have := (HOWN.out _ h).2.1; omega))
  have G6 := hid (G5.out.trans' hf (fun i hi h => by have := (HOWN.out _ h).1; omega))
  have d0 := hf.cell_some a0 (fun h => hA13.out _ h rfl)
  have d1 := hf.cell_some a1 (fun h => hA13.out _ h rfl)
  have d2 := hf.cell_some a2 (fun h => hA13.out _ h rfl)
  have d3 := hf.cell_some a3 (fun h => hA13.out _ h rfl)
  have HS26 : Hid (w2.heap.size ≤ w6.heap.size) := hid (by have := HX5.out.lt; have := HLX.out; have := hf.size; omega)
  clear hg1 hf a0 a1 a2 a3 HX5 HG5 HRG5 HB5
  have e1n := (G.tn_n (k : Nat) true).1
  have E1N := hid e1n
  have hb1 := build_calls HG6.out (some ⟨br, 0, none⟩) G.n (fun i => ((rankOf G.n num i : Nat) : Int)) (by rw [E1N.out]; exact fun _ => ⟨br, 0, rfl, fun j hj => by rw [Nat.zero_add]; exact HB6.out.cell hj⟩) (by rw [E1N.out]; exact HD.out) g (by rw [E1N.out]; exact HI.out.1) (by rw [E1N.out]; exact HI.out.2) (HN.out.fr G6.out (fun h => h))
  rw [e1n] at hb1
  have HB1 := hid hb1
  clear hb1 e1n
  go_wp2_with fail
  refine HB1.out.mono ?_
  rintro e w7 ⟨Ly, rfl, hf, hy, hy1, hy2, hy3, _⟩
  have HX7 := hid (HX6.out.no hf)
  have HY7 := hid hy
  have HG7 := hid (HG6.out.no hf)
  have HRG7 := hid (HRG6.out.no hf)
  have HB7 := hid (HB6.out.fr hf (fun h => h))
  have G7 := hid (G6.out.trans hf)
  have a0 := hf.cell_some d0 (fun h => h)
  have a1 := hf.cell_some d1 (fun h => h)
  have a2 := hf.cell_some d2 (fun h => h)
  have a3 := hf.cell_some d3 (fun h => h)
  have HLY : Hid (w2.heap.size ≤ Ly.b ∧ w2.heap.size ≤ Ly.br ∧ w2.heap.size ≤ Ly.bb) := hid (by have := HS26.out; omega)
  clear hf hy hy1 hy2 hy3 d0 d1 d2 d3 HX6 HG6 HRG6 HB6 HB1
  go_wp2_with fail
  refine (gdelete_calls HG7.out (k : Nat)).mono ?_
  rintro e w8 ⟨rfl, hg2, hf⟩
  rw [E1N.out] at hf
  obtain ⟨c8, hc8⟩ : ∃ c, (G.tn (k : Nat) true).code (k : Nat) = c := ⟨_, rfl⟩
  rw [hc8]
  clear hc8
  have HX8 := hid (HX7.out.fr hf (fun h => by have := (HOWN.out _ h).2.1; have := HLX.out; omega) (fun h => by have := (HOWN.out _ h).2.1; have := HLX.out; omega) (fun h => by have := (HOWN.out _ h).2.1; have := HLX.out; omega) (fun h => hnone.out _ h rfl))
  have HY8 := hid (HY7.out.fr hf (fun h => by have := (HOWN.out _ h).2.1; have := HLY.out; omega) (fun h => by have := (HOWN.out _ h).2.1; have := HLY.out; omega) (fun h => by have := (HOWN.out _ h).2.1; have := HLY.out; omega) (fun h => hnone.out _ h rfl))
  have HG8 := hid hg2
  have HRG8 := hid (HRG7.out.fr hf (fun h => (HOWN.out _ h).2.2 rfl))
  have HB8 := hid (HB7.out.fr hf (fun h => by have := (HOWN.out _ h).2.1; omega))
  have G8 := hid (G7.out.trans' hf (fun i hi h => by have := (HOWN.out _ h).1; omega))
  have d0 := hf.cell_some a0 (fun h => hA13.out _ h rfl)
  have d1 := hf.cell_some a1 (fun h => hA13.out _ h rfl)
  have d2 := hf.cell_some a2 (fun h => hA13.out _ h rfl)
  have d3 := hf.cell_some a3 (fun h => hA13.out _ h rfl)
  clear hg2 hf a0 a1 a2 a3 HX7 HY7 HG7 HRG7 HB7
  have e2n : ((G.tn (k : Nat) true).rm (k : Nat)).n = G.n := (Gr.rm_n _ (k : Nat)).1.trans E1N.out
  have E2N := hid e2n
  have hb2 := build_calls HG8.out (some ⟨br, 0, none⟩) G.n (fun i => ((rankOf G.n num i : Nat) : Int)) (by rw [E2N.out]; exact fun _ => ⟨br, 0, rfl, fun j hj => by rw [Nat.zero_add]; exact HB8.out.cell hj⟩) (by rw [E2N.out]; exact HD.out) g (by rw [E2N.out]; exact HI.out.1) (by rw [E2N.out]; exact HI.out.2) (HN.out.fr G8.out (fun h => h))
  rw [e2n] at hb2
  have HB2 := hid hb2
  clear hb2 e2n
  go_wp2_with fail
  refine HB2.out.mono ?_
  rintro e w9 ⟨Lz, rfl, hf, hz, _, _, _, _⟩
  have HX9 := hid (HX8.out.no hf)
  have HY9 := hid (HY8.out.no hf)
  have HZ9 := hid hz
  have HG9 := hid (HG8.out.no hf)
  have HRG9 := hid (HRG8.out.no hf)
  have G9 := hid (G8.out.trans hf)
  have a0 := hf.cell_some d0 (fun h => h)
  have a1 := hf.cell_some d1 (fun h => h)
  have a2 := hf.cell_some d2 (fun h => h)
  have a3 := hf.cell_some d3 (fun h => h)
  clear hf hz d0 d1 d2 d3 HX8 HY8 HG8 HRG8 HB8 HB2
  go_wp2_with fail
  have hyz : (Ix.new G.n (fun i => ((rankOf G.n num i : Nat) : Int)) g).build ((G.tn (k : Nat) true).rm (k : Nat)) = (Ix.new G.n (fun i => ((rankOf G.n num i : Nat) : Int)) g).build (G.tn (k : Nat) true) := HX0.out.build_congr (fun u v _ => delete_best hk64 u v)
  refine (isame_calls HY9.out HZ9.out (by rw [hyz]) (by rw [hyz])).mono ?_
  rintro e w10 ⟨r, rfl, hr, hf⟩
  obtain rfl : r = true := hr.2 (fun i _ => by rw [hyz])
  have HX10 := hid (HX9.out.no hf)
  have HY10 := hid (HY9.out.no hf)
  have HG10 := hid (HG9.out.no hf)
  have HRG10 := hid (HRG9.out.no hf)
  have G10 := hid (G9.out.trans hf)
  have d0 := hf.cell_some a0 (fun h => h)
  have d1 := hf.cell_some a1 (fun h => h)
  have d2 := hf.cell_some a2 (fun h => h)
  have d3 := hf.cell_some a3 (fun h => h)
  clear hf hr hyz a0 a1 a2 a3 HX9 HY9 HZ9 HG9 HRG9
  go_wp2_with fail
  refine (rgbest_calls HRG10.out rt rh).mono ?_
  obtain ⟨⟨bw, bi⟩, hbst⟩ : ∃ y, G.best rt rh = y := ⟨_, rfl⟩
  rw [hbst]
  rintro e w11 ⟨rfl, hf⟩
  have HBST := hid hbst
  have HX11 := hid (HX10.out.no hf)
  have HY11 := hid (HY10.out.no hf)
  have HG11 := hid (HG10.out.no hf)
  have G11 := hid (G10.out.trans hf)
  have a0 := hf.cell_some d0 (fun h => h)
  have a1 := hf.cell_some d1 (fun h => h)
  have a2 := hf.cell_some d2 (fun h => h)
  have a3 := hf.cell_some d3 (fun h => h)
  clear hf hbst d0 d1 d2 d3 HX10 HY10 HG10 HRG10
  have hsame : ¬ (G.tk k = true ∧ (G.arc k).c = false ∧ (G.arc k).t ≠ (G.arc k).h ∧ (G.best (G.arc k).t (G.arc k).h).2 = (k : Int)) → ∀ w, IxMem w Lx ((Ix.new G.n (fun i => ((rankOf G.n num i : Nat) : Int)) g).build G) → IxMem w Ly ((Ix.new G.n (fun i => ((rankOf G.n num i : Nat) : Int)) g).build (G.tn (k : Nat) true)) →
      Calls Tryz.prog 45 #[.pointer (some ⟨Lx.b, 0, none⟩), .pointer (some ⟨Ly.b, 0, none⟩)] w fun e w' => e = .returned (.bool true) ∧ Fr No w w' := fun hno w h1 h2 => by
    have hxy := HX0.out.build_congr (fun u v hne => close_best hk64 u v hne hno)
    refine (isame_calls h1 h2 (by rw [hxy]) (by rw [hxy])).mono ?_
    rintro e w' ⟨r, rfl, hr, hf⟩
    exact ⟨by rw [hr.2 (fun i _ => by rw [hxy])], hf⟩
  have HSAME := hid hsame
  clear hsame
  cases ok with
  | false =>
    go_wp2_with fail
    refine (HSAME.out (fun h => by rw [HOKK.out] at h; cases h.1) w11 HX11.out HY11.out).mono ?_
    rintro e w12 ⟨rfl, hf⟩
    have F := hid (G11.out.trans hf)
    clear hf
    go_wp2
    go_ret
    exact ⟨rfl, F.out⟩
  | true =>
    have har : G.arc k = ⟨rt, rh, rwt, rc⟩ := by
      have := HRA.out
      unfold Gr.rarc at this
      rw [HOKK.out, if_pos rfl] at this
      exact this
    have HAR := hid har
    clear har
    cases rc with
    | true =>
      go_wp2_with fail
      refine (HSAME.out (fun h => by have := h.2.1; rw [HAR.out] at this; cases this) w11 HX11.out HY11.out).mono ?_
      rintro e w12 ⟨rfl, hf⟩
      have F := hid (G11.out.trans hf)
      clear hf
      go_wp2
      go_ret
      exact ⟨rfl, F.out⟩
    | false =>
      by_cases hth : rt = rh
      · have g1 : decide (rt = rh) = true := by simp [hth]
        subst hth
        go_wp2_with fail
        refine (HSAME.out (fun h => by have := h.2.2.1; rw [HAR.out] at this; exact this rfl) w11 HX11.out HY11.out).mono ?_
        rintro e w12 ⟨rfl, hf⟩
        have F := hid (G11.out.trans hf)
        clear hf
        go_wp2
        go_ret
        exact ⟨rfl, F.out⟩
      · have g1 : decide (rt = rh) = false := by simp [hth]
        have g1' : (rt == rh) = false := by simp [hth]
        by_cases hbi : bi = (k : Int)
        · subst hbi
          have g2 : ((k : Int) != (k : Int)) = false := by simp
          have hwin : bw = rwt := by
            have h1 := best_win (G := G) (u := rt) (v := rh) (k := k) (by rw [HBST.out])
            rw [HBST.out, HAR.out] at h1
            exact h1
          subst hwin
          have hokA : G.okA (G.arc k) := by
            obtain ⟨p1, p2, p3, p4⟩ := HOKG.out.arc k hk64 HOKK.out
            exact ⟨⟨p1, p2⟩, ⟨p3, p4⟩, HGW.out k hk64 HOKK.out⟩
          have hpb := put_back hk64 hokA HOKK.out (by rw [HAR.out])
          rw [HAR.out] at hpb
          have HPB := hid hpb
          clear hokA hpb
          go_wp2_with fail
          refine (ginsert_calls HG11.out (by rw [Gr.rm_most, Gr.tn_most]; exact HGM.out) (k : Nat) ⟨rt, rh, bw, false⟩).mono ?_
          rw [HPB.out.1, HPB.out.2, E2N.out]
          rintro e w12 ⟨rfl, L', hg3, hb3, hf, _⟩
          have HX12 := hid (HX11.out.fr hf (fun h => by have := (HOWN.out _ h).2.1; have := HLX.out; omega) (fun h => by have := (HOWN.out _ h).2.1; have := HLX.out; omega) (fun h => by have := (HOWN.out _ h).2.1; have := HLX.out; omega) (fun h => hnone.out _ h rfl))
          have HG12 := hid hg3
          have G12 := hid (G11.out.trans' hf (fun i hi h => by have := (HOWN.out _ h).1; omega))
          clear hf hg3 HX11 HY11 HG11 a0 a1 a2 a3
          rw [← hb3]
          clear hb3
          go_wp2_with fail
          refine (whole_calls HG12.out HX12.out (by rw [HCX.out, Ix.build_n]; exact Nat.le_refl _)).mono ?_
          rintro e w13 ⟨bb, rfl, hf, hb⟩
          obtain rfl : bb = true := hb.2 ⟨by rw [Ix.build_n]; rfl, (HX0.out.build_whole HGW.out).2⟩
          have F := hid (G12.out.trans hf)
          clear hf hb
          go_wp2
          go_ret
          exact ⟨rfl, F.out⟩
        · have g2 : (bi != (k : Int)) = true := by simp [hbi]
          have g2' : decide (bi = (k : Int)) = false := by simp [hbi]
          go_wp2_with fail
          refine (HSAME.out (fun h => by have := h.2.2.2; rw [HAR.out, HBST.out] at this; exact hbi this) w11 HX11.out HY11.out).mono ?_
          rintro e w12 ⟨rfl, hf⟩
          have F := hid (G11.out.trans hf)
          clear hf
          go_wp2
          go_ret
          exact ⟨rfl, F.out⟩

end Go.Proofs.YthnmomiglgomfaaGreatDoor
