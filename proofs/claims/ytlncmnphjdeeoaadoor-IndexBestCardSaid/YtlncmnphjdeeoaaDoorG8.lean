/- A change of either graph; both graphs behind changes; walked. -/
import Derived.Test.YtlncmnphjdeeoaaDoorGDo
set_option linter.unusedVariables false
set_option linter.unusedSimpArgs false
namespace Go.Proofs.YtlncmnphjdeeoaaDoor
open Go.RowKit Go.Deep

theorem GStep.of {w W0 w' : World} {L : GLoc} {n : Nat} {G' : Gr} (f0 : Fr No w W0) (h : GStep W0 L n w' G') : GStep w L n w' G' := by
  obtain ⟨L', h1, h2, h3, h4⟩ := h
  exact ⟨L', h1, h2, (f0.no (F := L.own n)).trans' h3 (fun i _ hi => hi), fun j hj => (h4 j hj).imp id (fun h => by have := f0.size; omega)⟩
theorem Gr.put_n (G : Gr) (id : Int) (a : Arc4) : (G.put id a).n = G.n ∧ (G.put id a).most = G.most := by unfold Gr.put; split <;> exact ⟨rfl, rfl⟩
theorem Gr.rm_n (G : Gr) (id : Int) : (G.rm id).n = G.n ∧ (G.rm id).most = G.most := by unfold Gr.rm; split <;> exact ⟨rfl, rfl⟩
theorem Gr.tn_n (G : Gr) (id : Int) (c : Bool) : (G.tn id c).n = G.n ∧ (G.tn id c).most = G.most := by unfold Gr.tn; split <;> exact ⟨rfl, rfl⟩
theorem Gr.wt_n (G : Gr) (id x : Int) : (G.wt id x).n = G.n ∧ (G.wt id x).most = G.most := by unfold Gr.wt; split <;> exact ⟨rfl, rfl⟩
theorem Gr.step_n (G : Gr) (c : Chg) : (G.step c).n = G.n ∧ (G.step c).most = G.most := by
  unfold Gr.step
  split
  · exact G.put_n _ _
  · split
    · exact G.rm_n _
    · split
      · exact G.tn_n _ _
      · split
        · exact G.tn_n _ _
        · exact G.wt_n _ _
theorem Gr.steps_n (G : Gr) (f : Nat → Chg) : ∀ k, (G.steps f k).n = G.n ∧ (G.steps f k).most = G.most := by
  intro k
  induction k with
  | zero => exact ⟨rfl, rfl⟩
  | succ k ih =>
    have := (G.steps f k).step_n (f k)
    rw [ih.1, ih.2] at this
    exact this

set_option maxRecDepth 100000 in
set_option maxHeartbeats 2000000 in
theorem do_calls {w : World} {L : GLoc} {G : Gr} (h : GMem w L G) (hm : G.most = 64) (c : Chg) :
    Calls Tryd.prog 89 #[.pointer (some ⟨L.b, 0, none⟩), c.val] w fun e w' => e = .returned (.int .i64 (G.scode c)) ∧ GStep w L G.n w' (G.step c) := by
  obtain ⟨kd, id, ⟨t, hd, wt, cl⟩⟩ := c
  have f0 : Fr No w (w.alloc (.cells #[.int .i64 kd, .int .i64 id, .int .i64 t, .int .i64 hd, .int .i64 wt, .bool cl] 138)) := (Fr.refl No w).alloc _
  have hA := heap_new w (.cells #[.int .i64 kd, .int .i64 id, .int .i64 t, .int .i64 hd, .int .i64 wt, .bool cl] 138)
  have a0 := cell_of hA 0
  have a1 := cell_of hA 1
  have a2 := cell_of hA 2
  have a3 := cell_of hA 3
  have a4 := cell_of hA 4
  have a5 := cell_of hA 5
  have F0 := hid f0
  have H0 := hid (h.no f0)
  have hzA : w.heap.size < (w.alloc (.cells #[.int .i64 kd, .int .i64 id, .int .i64 t, .int .i64 hd, .int .i64 wt, .bool cl] 138)).heap.size := by simp
  clear h f0 hA
  simp at a0 a1 a2 a3 a4 a5
  simp only [Chg.val]
  by_cases h0 : kd = 0
  · subst h0
    rw [show G.scode ⟨0, id, ⟨t, hd, wt, cl⟩⟩ = G.icode id ⟨t, hd, wt, cl⟩ from rfl, show G.step ⟨0, id, ⟨t, hd, wt, cl⟩⟩ = G.put id ⟨t, hd, wt, cl⟩ from rfl]
    skip
    go_enter Tryd.func89, Tryd.ntmps89
    go_wp2_with fail
    refine (ginsert_calls H0.out hm id ⟨t, hd, wt, cl⟩).mono ?_
    rintro e w1 ⟨rfl, hR⟩
    have HR := hid (show GStep _ L G.n w1 _ from hR)
    clear hR
    go_wp2
    go_ret
    exact ⟨rfl, GStep.of F0.out HR.out⟩
  · have d0 : (kd == 0) = false := by simpa using h0
    by_cases h1 : kd = 1
    · subst h1
      rw [show G.scode ⟨1, id, ⟨t, hd, wt, cl⟩⟩ = G.code id from rfl, show G.step ⟨1, id, ⟨t, hd, wt, cl⟩⟩ = G.rm id from rfl]
      skip
      go_enter Tryd.func89, Tryd.ntmps89
      go_wp2_with fail
      refine (gdelete_calls H0.out id).mono ?_
      rintro e w1 ⟨rfl, hR, hf⟩
      have HR := hid (GStep.same hR hf)
      clear hf
      clear hR
      go_wp2
      go_ret
      exact ⟨rfl, GStep.of F0.out HR.out⟩
    · have d1 : (kd == 1) = false := by simpa using h1
      by_cases h2 : kd = 2
      · subst h2
        rw [show G.scode ⟨2, id, ⟨t, hd, wt, cl⟩⟩ = G.tcode id true from rfl, show G.step ⟨2, id, ⟨t, hd, wt, cl⟩⟩ = G.tn id true from rfl]
        skip
        go_enter Tryd.func89, Tryd.ntmps89
        go_wp2_with fail
        refine (gclose_calls H0.out id).mono ?_
        rintro e w1 ⟨rfl, hR, hf⟩
        have HR := hid (GStep.same hR hf)
        clear hf
        clear hR
        go_wp2
        go_ret
        exact ⟨rfl, GStep.of F0.out HR.out⟩
      · have d2 : (kd == 2) = false := by simpa using h2
        by_cases h3 : kd = 3
        · subst h3
          rw [show G.scode ⟨3, id, ⟨t, hd, wt, cl⟩⟩ = G.tcode id false from rfl, show G.step ⟨3, id, ⟨t, hd, wt, cl⟩⟩ = G.tn id false from rfl]
          skip
          go_enter Tryd.func89, Tryd.ntmps89
          go_wp2_with fail
          refine (greopen_calls H0.out id).mono ?_
          rintro e w1 ⟨rfl, hR, hf⟩
          have HR := hid (GStep.same hR hf)
          clear hf
          clear hR
          go_wp2
          go_ret
          exact ⟨rfl, GStep.of F0.out HR.out⟩
        · have d3 : (kd == 3) = false := by simpa using h3
          rw [show G.scode ⟨kd, id, ⟨t, hd, wt, cl⟩⟩ = G.wcode id wt from by unfold Gr.scode; rw [if_neg h0, if_neg h1, if_neg h2, if_neg h3], show G.step ⟨kd, id, ⟨t, hd, wt, cl⟩⟩ = G.wt id wt from by unfold Gr.step; rw [if_neg h0, if_neg h1, if_neg h2, if_neg h3]]
          clear h0 h1 h2 h3
          go_enter Tryd.func89, Tryd.ntmps89
          go_wp2_with fail
          refine (gweigh_calls H0.out id wt).mono ?_
          rintro e w1 ⟨rfl, hR, hf⟩
          have HR := hid (GStep.same hR hf)
          clear hf
          clear hR
          go_wp2
          go_ret
          exact ⟨rfl, GStep.of F0.out HR.out⟩

set_option maxRecDepth 100000 in
set_option maxHeartbeats 2000000 in
theorem doref_calls {w : World} {b : Nat} {G : Gr} (h : RGM w b G) (hm : G.most = 64) (c : Chg) :
    Calls Tryd.prog 90 #[.pointer (some ⟨b, 0, none⟩), c.val] w fun e w' => e = .returned (.int .i64 (G.scode c)) ∧ RGM w' b (G.step c) ∧ Fr (One b) w w' := by
  obtain ⟨kd, id, ⟨t, hd, wt, cl⟩⟩ := c
  have f0 : Fr No w (w.alloc (.cells #[.int .i64 kd, .int .i64 id, .int .i64 t, .int .i64 hd, .int .i64 wt, .bool cl] 138)) := (Fr.refl No w).alloc _
  have hA := heap_new w (.cells #[.int .i64 kd, .int .i64 id, .int .i64 t, .int .i64 hd, .int .i64 wt, .bool cl] 138)
  have a0 := cell_of hA 0
  have a1 := cell_of hA 1
  have a2 := cell_of hA 2
  have a3 := cell_of hA 3
  have a4 := cell_of hA 4
  have a5 := cell_of hA 5
  have F0 := hid f0
  have H0 := hid (h.no f0)
  have hzA : w.heap.size < (w.alloc (.cells #[.int .i64 kd, .int .i64 id, .int .i64 t, .int .i64 hd, .int .i64 wt, .bool cl] 138)).heap.size := by simp
  clear h f0 hA
  simp at a0 a1 a2 a3 a4 a5
  simp only [Chg.val]
  by_cases h0 : kd = 0
  · subst h0
    rw [show G.scode ⟨0, id, ⟨t, hd, wt, cl⟩⟩ = G.icode id ⟨t, hd, wt, cl⟩ from rfl, show G.step ⟨0, id, ⟨t, hd, wt, cl⟩⟩ = G.put id ⟨t, hd, wt, cl⟩ from rfl]
    skip
    go_enter Tryd.func90, Tryd.ntmps90
    go_wp2_with fail
    refine (rginsert_calls H0.out hm id ⟨t, hd, wt, cl⟩).mono ?_
    rintro e w1 ⟨rfl, hR, hf⟩
    have HR := hid hR
    have HF := hid hf
    clear hR hf
    go_wp2
    go_ret
    exact ⟨rfl, HR.out, (F0.out.no (F := One b)).trans' HF.out (fun i _ hi => hi)⟩
  · have d0 : (kd == 0) = false := by simpa using h0
    by_cases h1 : kd = 1
    · subst h1
      rw [show G.scode ⟨1, id, ⟨t, hd, wt, cl⟩⟩ = G.code id from rfl, show G.step ⟨1, id, ⟨t, hd, wt, cl⟩⟩ = G.rm id from rfl]
      skip
      go_enter Tryd.func90, Tryd.ntmps90
      go_wp2_with fail
      refine (rgdelete_calls H0.out id).mono ?_
      rintro e w1 ⟨rfl, hR, hf⟩
      have HR := hid hR
      have HF := hid hf
      clear hR hf
      go_wp2
      go_ret
      exact ⟨rfl, HR.out, (F0.out.no (F := One b)).trans' HF.out (fun i _ hi => hi)⟩
    · have d1 : (kd == 1) = false := by simpa using h1
      by_cases h2 : kd = 2
      · subst h2
        rw [show G.scode ⟨2, id, ⟨t, hd, wt, cl⟩⟩ = G.tcode id true from rfl, show G.step ⟨2, id, ⟨t, hd, wt, cl⟩⟩ = G.tn id true from rfl]
        skip
        go_enter Tryd.func90, Tryd.ntmps90
        go_wp2_with fail
        refine (rgturn_calls H0.out id true).mono ?_
        rintro e w1 ⟨rfl, hR, hf⟩
        have HR := hid hR
        have HF := hid hf
        clear hR hf
        go_wp2
        go_ret
        exact ⟨rfl, HR.out, (F0.out.no (F := One b)).trans' HF.out (fun i _ hi => hi)⟩
      · have d2 : (kd == 2) = false := by simpa using h2
        by_cases h3 : kd = 3
        · subst h3
          rw [show G.scode ⟨3, id, ⟨t, hd, wt, cl⟩⟩ = G.tcode id false from rfl, show G.step ⟨3, id, ⟨t, hd, wt, cl⟩⟩ = G.tn id false from rfl]
          skip
          go_enter Tryd.func90, Tryd.ntmps90
          go_wp2_with fail
          refine (rgturn_calls H0.out id false).mono ?_
          rintro e w1 ⟨rfl, hR, hf⟩
          have HR := hid hR
          have HF := hid hf
          clear hR hf
          go_wp2
          go_ret
          exact ⟨rfl, HR.out, (F0.out.no (F := One b)).trans' HF.out (fun i _ hi => hi)⟩
        · have d3 : (kd == 3) = false := by simpa using h3
          rw [show G.scode ⟨kd, id, ⟨t, hd, wt, cl⟩⟩ = G.wcode id wt from by unfold Gr.scode; rw [if_neg h0, if_neg h1, if_neg h2, if_neg h3], show G.step ⟨kd, id, ⟨t, hd, wt, cl⟩⟩ = G.wt id wt from by unfold Gr.step; rw [if_neg h0, if_neg h1, if_neg h2, if_neg h3]]
          clear h0 h1 h2 h3
          go_enter Tryd.func90, Tryd.ntmps90
          go_wp2_with fail
          refine (rgweigh_calls H0.out id wt).mono ?_
          rintro e w1 ⟨rfl, hR, hf⟩
          have HR := hid hR
          have HF := hid hf
          clear hR hf
          go_wp2
          go_ret
          exact ⟨rfl, HR.out, (F0.out.no (F := One b)).trans' HF.out (fun i _ hi => hi)⟩

set_option maxRecDepth 100000 in
set_option maxHeartbeats 4000000 in
theorem made8_calls (n : Nat) (A : Option Addr) (ln cp : Nat) (f : Nat → Chg) (w : World) (hn : n ≤ 255) (hc : ChgsF w A ln f) (hln : ln ≤ 140737488351232) :
    Calls Tryd.prog 55 #[.int .u8 (n : Nat), .slice A ln cp] w fun e w' => ∃ (L : GLoc) (b : Nat), e = .returned (.tuple #[.pointer (some ⟨L.b, 0, none⟩), .pointer (some ⟨b, 0, none⟩)]) ∧ Fr No w w' ∧
      GMem w' L ((Gr.zero (1 + n % 24) 64).steps f (min ln 150)) ∧ RGM w' b ((Gr.zero (1 + n % 24) 64).steps f (min ln 150)) ∧ w.heap.size ≤ b ∧ ∀ j, L.own (1 + n % 24) j → w.heap.size ≤ j ∧ j ≠ b := by
  have hmod : n % 24 < 24 := Nat.mod_lt _ (by omega)
  have hC := hid hc
  obtain ⟨N, hN⟩ : ∃ N, 1 + n % 24 = N := ⟨_, rfl⟩
  rw [hN]
  have hN1 : 1 ≤ N := by omega
  have hN2 : N ≤ 24 := by omega
  have hNI : ((1 : Int) + (n : Int) % 24) = ((N : Nat) : Int) := by omega
  obtain ⟨G0, hG0⟩ : ∃ G0, Gr.zero N 64 = G0 := ⟨_, rfl⟩
  have hst := G0.steps_n f
  have hg0 : G0.n = N ∧ G0.most = 64 := by rw [← hG0]; exact ⟨rfl, rfl⟩
  rw [hg0.1, hg0.2] at hst
  have HST := hid hst
  have HG0 := hid hG0
  have HG0N := hid hg0.1
  have HNI := hid hNI
  rw [hG0]
  clear hc hmod hN hst hg0 hNI hG0
  go_enter Tryd.func55, Tryd.ntmps55
  go_wp2_with fail
  rw [HNI.out]
  refine (gnew2_calls N 64 hN1 hN2 (by omega) (by omega) w).mono ?_
  rintro e w1 ⟨L0, rfl, hm, hf, hown⟩
  rw [HG0.out] at hm
  have HM1 := hid hm
  have HF1 := hid hf
  have HO1 := hid hown
  clear hm hf hown
  go_wp2_with fail
  refine (rgnew_calls N 64 w1).mono ?_
  rintro e w2 ⟨b, rfl, hr, hf, hb⟩
  rw [HG0.out] at hr
  have HM2 := hid (HM1.out.no hf)
  have HR2 := hid hr
  have HF2 := hid (HF1.out.trans hf)
  have hs1 := HF1.out.size
  have HO2 := hid (show ∀ j, L0.own N j → w.heap.size ≤ j ∧ j ≠ b from fun j hj => ⟨HO1.out j hj, fun e => by have := HM1.out.own_lt (by rw [HG0N.out]; exact hj); omega⟩)
  have hbw : w.heap.size ≤ b := by omega
  clear hr hf HM1 HF1 HO1 hb hs1
  go_wp2
  go_loopg [10] (ln + 1) (fun g p wr => ∃ (k : Nat) (L : GLoc), p = .int .i64 k ∧ k ≤ ln ∧ k ≤ 150 ∧ g = ln + 1 - k ∧ L.b = L0.b ∧ Fr No w wr ∧ GMem wr L (G0.steps f k) ∧ RGM wr b (G0.steps f k) ∧ ∀ j, L.own N j → w.heap.size ≤ j ∧ j ≠ b)
  case atStart => exact ⟨0, L0, rfl, by omega, by omega, rfl, rfl, HF2.out, HM2.out, HR2.out, HO2.out⟩
  case round =>
    obtain ⟨k, L, rfl, hk, hk3, hg, hLb, hf, hm, hr, hown⟩ := hrel
    have HG := hid hg
    have HF := hid hf
    have HM := hid hm
    have HR := hid hr
    have HO := hid hown
    have HL := hid hLb
    clear hg hf hm hr hown hLb HM2 HR2 HO2 HF2
    by_cases hlt : k < ln
    · by_cases hlt3 : k < 150
      · obtain ⟨bl, ol, rfl, hc⟩ := hC.out (by omega)
        have HC := hid (hc k hlt)
        obtain ⟨c0, c1, c2, c3, c4, c5⟩ := HC.out.fr HF.out (fun h => h)
        have hst := HST.out k
        have HST2 := hid hst
        obtain ⟨X, hX⟩ : ∃ X, G0.steps f k = X := ⟨_, rfl⟩
        have hnext : G0.steps f (k + 1) = X.step (f k) := by rw [← hX]; rfl
        rw [hX] at HM HR HST2
        have hXn := HST2.out.1
        have hXm := HST2.out.2
        have HN := hid hnext
        have hlt2 : (k : Int) < ln := by omega
        have hlt4 : (k : Int) < 150 := by omega
        obtain ⟨⟨kd, id, ⟨t, hd, wt, cl⟩⟩, hfk⟩ : ∃ y, f k = y := ⟨_, rfl⟩
        rw [hfk] at c0 c1 c2 c3 c4 c5 HN HC
        simp only at c0 c1 c2 c3 c4 c5
        clear hc hst hX hnext hfk
        go_wp2_with fail
        have hdo := do_calls HM.out hXm ⟨kd, id, ⟨t, hd, wt, cl⟩⟩
        rw [HL.out] at hdo
        refine hdo.mono ?_
        clear hdo
        rintro e w3 ⟨rfl, L', hm', hb', hf', ho'⟩
        rw [hXn] at hf' ho'
        have hbl := Blk.lt HR.out
        have HF3 := hid (HF.out.trans' hf' (fun i hi h => by have := (HO.out i h).1; omega))
        have HR3 := hid (HR.out.fr hf' (fun h => (HO.out b h).2 rfl))
        have hsz := HF.out.size
        have HO3 := hid (show ∀ j, L'.own N j → w.heap.size ≤ j ∧ j ≠ b from fun j hj => by
          rcases ho' j hj with h | h
          · exact HO.out j h
          · exact ⟨by omega, by omega⟩)
        have HM3 := hid hm'
        have HL3 := hid (hb'.trans HL.out)
        clear hm' hb' hf' ho' HM HR HF HO HL c0 c1 c2 c3 c4 c5
        obtain ⟨c0, c1, c2, c3, c4, c5⟩ := HC.out.fr HF3.out (fun h => h)
        simp only at c0 c1 c2 c3 c4 c5
        go_wp2_with fail
        refine (doref_calls HR3.out hXm ⟨kd, id, ⟨t, hd, wt, cl⟩⟩).mono ?_
        rintro e w4 ⟨rfl, hr4, hf4⟩
        have hXn2 := ((X.step_n ⟨kd, id, ⟨t, hd, wt, cl⟩⟩).1).trans hXn
        have HM4 := hid (HM3.out.fr hf4 (fun j hj (h : j = b) => (HO3.out j (by rw [hXn2] at hj; exact hj)).2 h))
        have HR4 := hid hr4
        have HF4 := hid (HF3.out.trans' hf4 (fun i hi (h : i = b) => by omega))
        clear hr4 hf4 HM3 HR3 HF3 c0 c1 c2 c3 c4 c5
        go_wp2
        go_roundg (ln + 1 - (k + 1))
        case measure => have := HG.out; omega
        case rel => exact ⟨k + 1, L', by go_num, by omega, by omega, rfl, HL3.out, HF4.out, by rw [HN.out]; exact HM4.out, by rw [HN.out]; exact HR4.out, HO3.out⟩
      · have e : k = min ln 150 := by omega
        have HE := hid e
        have hlt2 : (k : Int) < ln := by omega
        have hlt4 : ¬ (k : Int) < 150 := by omega
        clear e
        go_wp2
        go_ret2
        exact ⟨L, b, by rw [HL.out]; rfl, HF.out, HE.out ▸ HM.out, HE.out ▸ HR.out, hbw, HO.out⟩
    · have e : k = min ln 150 := by omega
      have HE := hid e
      have hlt2 : ¬ (k : Int) < ln := by omega
      clear e
      go_wp2
      go_ret2
      exact ⟨L, b, by rw [HL.out]; rfl, HF.out, HE.out ▸ HM.out, HE.out ▸ HR.out, hbw, HO.out⟩

end Go.Proofs.YtlncmnphjdeeoaaDoor
