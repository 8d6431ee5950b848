/- The document's right entry; walked. -/

import Derived.Test.YtoepbhacpidcbaaGreatDoorQBase
import Derived.Test.YtoepbhacpidcbaaGreatDoorQIdx
import Derived.Test.YtoepbhacpidcbaaGreatDoorQPerm
import Derived.Test.YtoepbhacpidcbaaGreatDoorQIdxB
import Derived.Test.YtoepbhacpidcbaaGreatDoorQRef
import Derived.Test.YtoepbhacpidcbaaGreatDoorQUnref
import Derived.Test.YtoepbhacpidcbaaGreatDoorQItr
import Derived.Test.YtoepbhacpidcbaaGreatDoorQUnE
import Derived.Test.YtoepbhacpidcbaaGreatDoorQDst
import Derived.Test.YtoepbhacpidcbaaGreatDoorQLnk
import Derived.Test.YtoepbhacpidcbaaGreatDoorQLks
import Derived.Test.YtoepbhacpidcbaaGreatDoorQMid
import Derived.Test.YtoepbhacpidcbaaGreatDoorQBig
import Derived.Test.YtoepbhacpidcbaaGreatDoorQCp2
import Derived.Test.YtoepbhacpidcbaaGreatDoorQGOps
import Derived.Test.YtoepbhacpidcbaaGreatDoorQGB

set_option linter.unusedVariables false
set_option linter.unusedSimpArgs false
namespace Go.Proofs.YtoepbhacpidcbaaGreatDoor
open Go.RowKit Go.Deep

set_option maxRecDepth 100000 in
set_option maxHeartbeats 4000000 in
theorem rxbest_no {x : Ix} {w : World} {R : RxLoc} (h : RxMem w R x) (gb : Nat) (u v : Int) (ht : x.two u v = false) :
    Calls Tryz.prog 105 #[.pointer (some ⟨R.b, 0, none⟩), .pointer (some ⟨gb, 0, none⟩), .int .i64 u, .int .i64 v] w fun e w' => e = .returned En.none.val ∧ Fr No w w' := by
  have HT := hid ht
  clear ht
  go_enter Tryz.func105, Tryz.ntmps105
  go_wp2_with fail
  refine (rtwo_calls (h.alloc _) u v).mono ?_
  rintro e w1 ⟨rfl, rfl⟩
  rw [HT.out]
  go_wp2_with fail
  refine (rnone_agg _).mono ?_
  rintro e wq ⟨rfl, hfq⟩
  have HF := hid (((Fr.refl No w).alloc _).trans hfq)
  have O8 := hid (own_no hfq w.heap.size (heap_new w _)).2.2.2
  have q8 := cell_of O8.out
  have z8 := (own_no (Fr.refl No wq) w.heap.size O8.out).2.1
  have x0 := q8 0
  have x1 := q8 1
  have x2 := q8 2
  have hbz : w.heap.size < wq.heap.size := some_lt O8.out
  clear q8 hfq
  go_wp2
  have q := cell_of (set3 O8.out (.int .i64 4611686018427387906) (.int .i64 (-1)) (.int .i64 (-1)))
  exact bodyPost_ret (v := (⟨4611686018427387906, (-1), (-1)⟩ : En).val) (by simp [results, Tryz.results105, go_sem, q 0, q 1, q 2, En.val]) rfl ⟨rfl, ((HF.out.setCell (p := ⟨w.heap.size, 0, none⟩) (.inr (Nat.le_refl _)) _).setCell (p := ⟨w.heap.size, 1, none⟩) (.inr (Nat.le_refl _)) _).setCell (p := ⟨w.heap.size, 2, none⟩) (.inr (Nat.le_refl _)) _⟩

set_option maxRecDepth 100000 in
set_option maxHeartbeats 8000000 in
theorem rxbest_yes {x : Ix} {w : World} {R : RxLoc} (h : RxMem w R x) {b : Nat} {G : Gr} (hg : RGM w b G) (u v : Nat) (ht : x.two (u : Nat) (v : Nat) = true) :
    Calls Tryz.prog 105 #[.pointer (some ⟨R.b, 0, none⟩), .pointer (some ⟨b, 0, none⟩), .int .i64 (u : Nat), .int .i64 (v : Nat)] w fun e w' => e = .returned (x.rbest u v (G.best u v)).val ∧ Fr No w w' := by
  have hn := h.ok.n2
  obtain ⟨hne, hu0, hu1, hv0, hv1⟩ := two_iff ht
  have hu : u < x.n := by omega
  have hv : v < x.n := by omega
  have hru := (h.ok.rk u hu).1
  have hrv := (h.ok.rk v hv).1
  have hrb : x.rbest u v (G.best u v) = (if 0 ≤ (G.best u v).2 ∧ (G.best u v).1 ≤ (x.rl u v (min (x.rk u) (x.rk v))).1 then ⟨(G.best u v).1, (G.best u v).2, -1⟩
     else if 0 ≤ (x.rl u v (min (x.rk u) (x.rk v))).2 then ⟨(x.rl u v (min (x.rk u) (x.rk v))).1, -1, (x.rl u v (min (x.rk u) (x.rk v))).2⟩ else En.none) := by unfold Ix.rbest; rw [if_pos ht]; rfl
  obtain ⟨N, hN⟩ : ∃ N, min (x.rk u) (x.rk v) = N := ⟨_, rfl⟩
  have hst : ∀ r, x.rl u v (r + 1) = if x.sum2 u v r < (x.rl u v r).1 then (x.sum2 u v r, ((x.by_ r : Nat) : Int)) else x.rl u v r := fun r => rfl
  have hrr := x.rl_is u v N
  have hd1 := G.best_le u v
  rw [hN] at hrb
  obtain ⟨E, hE⟩ : ∃ E, x.rbest u v (G.best u v) = E := ⟨_, rfl⟩
  rw [hE] at hrb ⊢
  obtain ⟨⟨d1, d2⟩, hd⟩ : ∃ d, G.best u v = d := ⟨_, rfl⟩
  obtain ⟨⟨r1, r2⟩, hr⟩ : ∃ r, x.rl u v N = r := ⟨_, rfl⟩
  rw [hd] at hrb hd1
  rw [hr] at hrb hrr
  simp only [Prod.mk.injEq] at hrb hrr hd1
  have HE := hid hrb
  have HRR := hid hrr
  have HD1 := hid hd1
  have HD := hid hd
  have HR := hid hr
  have HST := hid hst
  have HT := hid ht
  have H := hid h
  have HG := hid hg
  have HN := hid hN
  have hu24 : (u : Int) < 24 := by omega
  have hv24 : (v : Int) < 24 := by omega
  clear hrb hrr hd1 hd hr hst h hg ht hN hne hu0 hv0 hE
  go_enter Tryz.func105, Tryz.ntmps105
  go_wp2_with fail
  refine (rtwo_calls (H.out.alloc _) _ _).mono ?_
  rintro e w1 ⟨rfl, rfl⟩
  rw [HT.out]
  go_wp2_with fail
  refine (rgbest_calls (HG.out.no ((Fr.refl No w).alloc _)) _ _).mono ?_
  rintro e w1 ⟨rfl, hf1⟩
  rw [HD.out]
  have HF1 := hid (((Fr.refl No w).alloc _).trans hf1)
  have O81 := hid (own_no hf1 w.heap.size (heap_new w _)).2.2.2
  clear hf1
  go_wp2
  go_loopg [11, 12, 13] (N + 1) (fun g p q s wr => ∃ (r : Nat), p = .int .i64 (x.rl u v r).1 ∧ q = .int .i64 (x.rl u v r).2 ∧ s = .int .i64 r ∧ r ≤ N ∧ g = N + 1 - r ∧ Fr No w wr ∧ wr.heap[w.heap.size]? = some (.cells #[.int .i64 0, .int .i64 0, .int .i64 0] 117))
  case atStart => exact ⟨0, rfl, rfl, rfl, by omega, rfl, HF1.out, O81.out⟩
  case round =>
    obtain ⟨r, rfl, rfl, rfl, hr, hg, hf, ho⟩ := hrel
    have HG2 := hid hg
    have HF0 := hid hf
    have O80 := hid ho
    have hN := HN.out
    have hrn : (r : Int) < x.n := by omega
    have HB := hid (H.out.ok.byr_nat (show r < x.n by omega))
    have hst := HST.out r
    have hby := H.out.ok.by_ r (by omega)
    obtain ⟨z, hz⟩ : ∃ z, x.by_ r = z := ⟨_, rfl⟩
    have hs2 : x.sum2 u v r = add1 (add1 0 (x.at_ (u : Nat) (z : Nat)).w) (x.at_ (z : Nat) (v : Nat)).w := by rw [Ix.sum2, hz]
    rw [hz] at HB hst hby
    have HSS := hid hst
    have HS2 := hid hs2
    have HBY := hid hby
    have hz24 : (z : Int) < 24 := by omega
    have c0 := (H.out.no hf).c0
    clear hst hs2 hz hby hg hf ho hN
    go_wp2_with fail
    clear c0
    refine (rby_calls (H.out.no HF0.out) (r : Nat)).mono ?_
    rintro e w2 ⟨rfl, hf2⟩
    rw [HB.out]
    have HF := hid (HF0.out.trans hf2)
    have O8 := hid (own_no hf2 w.heap.size O80.out).2.2.2
    have c0 := (H.out.no HF.out).c0
    have rr1 := (H.out.no HF.out).rk u (by omega)
    have rr2 := (H.out.no HF.out).rk v (by omega)
    clear hf2 HF0 O80
    by_cases hend : N ≤ r
    · have e : r = N := by omega
      subst e
      rw [HR.out]
      have hN := HN.out
      by_cases h1 : x.rk u ≤ r
      · have h1' : (x.rk u : Int) ≤ (r : Nat) := by omega
        clear hN
        have q8 := cell_of O8.out
        have z8 := (own_no (Fr.refl No w2) w.heap.size O8.out).2.1
        have x0 := q8 0
        have x1 := q8 1
        have x2 := q8 2
        have hbz : w.heap.size < w2.heap.size := some_lt O8.out
        clear q8
        by_cases g0 : 0 ≤ d2
        · by_cases g1 : d1 ≤ r1
          · go_wp2
            have q := cell_of (set3 O8.out (.int .i64 d1) (.int .i64 d2) (.int .i64 (-1)))
            refine bodyPost_ret (v := (⟨d1, d2, (-1)⟩ : En).val) (by simp [results, Tryz.results105, go_sem, q 0, q 1, q 2, En.val]) rfl ⟨by rw [HE.out, if_pos ⟨by omega, by omega⟩], ((HF.out.setCell (p := ⟨w.heap.size, 0, none⟩) (.inr (Nat.le_refl _)) _).setCell (p := ⟨w.heap.size, 1, none⟩) (.inr (Nat.le_refl _)) _).setCell (p := ⟨w.heap.size, 2, none⟩) (.inr (Nat.le_refl _)) _⟩
          · have g2 : 0 ≤ r2 := by rcases HRR.out with ⟨e1, e2⟩ | e1; (have := HD1.out; omega); exact e1.1
            have g1' : decide (d1 ≤ r1) = false := by simp; omega
            go_wp2
            have q := cell_of (set3 O8.out (.int .i64 r1) (.int .i64 (-1)) (.int .i64 r2))
            refine bodyPost_ret (v := (⟨r1, (-1), r2⟩ : En).val) (by simp [results, Tryz.results105, go_sem, q 0, q 1, q 2, En.val]) rfl ⟨by rw [HE.out, if_neg (fun h => by have h := h.2; omega), if_pos (by omega)], ((HF.out.setCell (p := ⟨w.heap.size, 0, none⟩) (.inr (Nat.le_refl _)) _).setCell (p := ⟨w.heap.size, 1, none⟩) (.inr (Nat.le_refl _)) _).setCell (p := ⟨w.heap.size, 2, none⟩) (.inr (Nat.le_refl _)) _⟩
        · have g0' : decide (0 ≤ d2) = false := by simp; omega
          by_cases g2 : 0 ≤ r2
          · go_wp2
            have q := cell_of (set3 O8.out (.int .i64 r1) (.int .i64 (-1)) (.int .i64 r2))
            refine bodyPost_ret (v := (⟨r1, (-1), r2⟩ : En).val) (by simp [results, Tryz.results105, go_sem, q 0, q 1, q 2, En.val]) rfl ⟨by rw [HE.out, if_neg (fun h => by have h := h.1; omega), if_pos (by omega)], ((HF.out.setCell (p := ⟨w.heap.size, 0, none⟩) (.inr (Nat.le_refl _)) _).setCell (p := ⟨w.heap.size, 1, none⟩) (.inr (Nat.le_refl _)) _).setCell (p := ⟨w.heap.size, 2, none⟩) (.inr (Nat.le_refl _)) _⟩
          · have g2' : decide (0 ≤ r2) = false := by simp; omega
            have O9 := O8
            have HF9 := HF
            clear x0 x1 x2 z8
            go_wp2_with fail
            refine (rnone_agg _).mono ?_
            rintro e wq ⟨rfl, hfq⟩
            have HF := hid (HF9.out.trans hfq)
            have O8 := hid (own_no hfq w.heap.size O9.out).2.2.2
            have q8 := cell_of O8.out
            have z8 := (own_no (Fr.refl No wq) w.heap.size O8.out).2.1
            have x0 := q8 0
            have x1 := q8 1
            have x2 := q8 2
            have hbz : w.heap.size < wq.heap.size := some_lt O8.out
            clear q8 hfq
            go_wp2
            have q := cell_of (set3 O8.out (.int .i64 4611686018427387906) (.int .i64 (-1)) (.int .i64 (-1)))
            refine bodyPost_ret (v := (⟨4611686018427387906, (-1), (-1)⟩ : En).val) (by simp [results, Tryz.results105, go_sem, q 0, q 1, q 2, En.val]) rfl ⟨by rw [HE.out, if_neg (fun h => by have h := h.1; omega), if_neg (by omega)]; rfl, ((HF.out.setCell (p := ⟨w.heap.size, 0, none⟩) (.inr (Nat.le_refl _)) _).setCell (p := ⟨w.heap.size, 1, none⟩) (.inr (Nat.le_refl _)) _).setCell (p := ⟨w.heap.size, 2, none⟩) (.inr (Nat.le_refl _)) _⟩
      · have h1' : ¬ (x.rk u : Int) ≤ (r : Nat) := by omega
        have h1'' : decide ((x.rk u : Int) ≤ (r : Nat)) = false := by simp; omega
        have h2' : (x.rk v : Int) ≤ (r : Nat) := by omega
        clear hN
        have q8 := cell_of O8.out
        have z8 := (own_no (Fr.refl No w2) w.heap.size O8.out).2.1
        have x0 := q8 0
        have x1 := q8 1
        have x2 := q8 2
        have hbz : w.heap.size < w2.heap.size := some_lt O8.out
        clear q8
        by_cases g0 : 0 ≤ d2
        · by_cases g1 : d1 ≤ r1
          · go_wp2
            have q := cell_of (set3 O8.out (.int .i64 d1) (.int .i64 d2) (.int .i64 (-1)))
            refine bodyPost_ret (v := (⟨d1, d2, (-1)⟩ : En).val) (by simp [results, Tryz.results105, go_sem, q 0, q 1, q 2, En.val]) rfl ⟨by rw [HE.out, if_pos ⟨by omega, by omega⟩], ((HF.out.setCell (p := ⟨w.heap.size, 0, none⟩) (.inr (Nat.le_refl _)) _).setCell (p := ⟨w.heap.size, 1, none⟩) (.inr (Nat.le_refl _)) _).setCell (p := ⟨w.heap.size, 2, none⟩) (.inr (Nat.le_refl _)) _⟩
          · have g2 : 0 ≤ r2 := by rcases HRR.out with ⟨e1, e2⟩ | e1; (have := HD1.out; omega); exact e1.1
            have g1' : decide (d1 ≤ r1) = false := by simp; omega
            go_wp2
            have q := cell_of (set3 O8.out (.int .i64 r1) (.int .i64 (-1)) (.int .i64 r2))
            refine bodyPost_ret (v := (⟨r1, (-1), r2⟩ : En).val) (by simp [results, Tryz.results105, go_sem, q 0, q 1, q 2, En.val]) rfl ⟨by rw [HE.out, if_neg (fun h => by have h := h.2; omega), if_pos (by omega)], ((HF.out.setCell (p := ⟨w.heap.size, 0, none⟩) (.inr (Nat.le_refl _)) _).setCell (p := ⟨w.heap.size, 1, none⟩) (.inr (Nat.le_refl _)) _).setCell (p := ⟨w.heap.size, 2, none⟩) (.inr (Nat.le_refl _)) _⟩
        · have g0' : decide (0 ≤ d2) = false := by simp; omega
          by_cases g2 : 0 ≤ r2
          · go_wp2
            have q := cell_of (set3 O8.out (.int .i64 r1) (.int .i64 (-1)) (.int .i64 r2))
            refine bodyPost_ret (v := (⟨r1, (-1), r2⟩ : En).val) (by simp [results, Tryz.results105, go_sem, q 0, q 1, q 2, En.val]) rfl ⟨by rw [HE.out, if_neg (fun h => by have h := h.1; omega), if_pos (by omega)], ((HF.out.setCell (p := ⟨w.heap.size, 0, none⟩) (.inr (Nat.le_refl _)) _).setCell (p := ⟨w.heap.size, 1, none⟩) (.inr (Nat.le_refl _)) _).setCell (p := ⟨w.heap.size, 2, none⟩) (.inr (Nat.le_refl _)) _⟩
          · have g2' : decide (0 ≤ r2) = false := by simp; omega
            have O9 := O8
            have HF9 := HF
            clear x0 x1 x2 z8
            go_wp2_with fail
            refine (rnone_agg _).mono ?_
            rintro e wq ⟨rfl, hfq⟩
            have HF := hid (HF9.out.trans hfq)
            have O8 := hid (own_no hfq w.heap.size O9.out).2.2.2
            have q8 := cell_of O8.out
            have z8 := (own_no (Fr.refl No wq) w.heap.size O8.out).2.1
            have x0 := q8 0
            have x1 := q8 1
            have x2 := q8 2
            have hbz : w.heap.size < wq.heap.size := some_lt O8.out
            clear q8 hfq
            go_wp2
            have q := cell_of (set3 O8.out (.int .i64 4611686018427387906) (.int .i64 (-1)) (.int .i64 (-1)))
            refine bodyPost_ret (v := (⟨4611686018427387906, (-1), (-1)⟩ : En).val) (by simp [results, Tryz.results105, go_sem, q 0, q 1, q 2, En.val]) rfl ⟨by rw [HE.out, if_neg (fun h => by have h := h.1; omega), if_neg (by omega)]; rfl, ((HF.out.setCell (p := ⟨w.heap.size, 0, none⟩) (.inr (Nat.le_refl _)) _).setCell (p := ⟨w.heap.size, 1, none⟩) (.inr (Nat.le_refl _)) _).setCell (p := ⟨w.heap.size, 2, none⟩) (.inr (Nat.le_refl _)) _⟩
    · have hN := HN.out
      have h1' : ¬ (x.rk u : Int) ≤ (r : Nat) := by omega
      have h1'' : decide ((x.rk u : Int) ≤ (r : Nat)) = false := by simp; omega
      have h2' : ¬ (x.rk v : Int) ≤ (r : Nat) := by omega
      have h2'' : decide ((x.rk v : Int) ≤ (r : Nat)) = false := by simp; omega
      have hlt : r < N := by omega
      have hzu : x.two (u : Nat) (z : Nat) = true := by
        have := HBY.out
        unfold Ix.two; simp only [decide_eq_true_eq]
        refine ⟨fun e => ?_, by omega, by omega, by omega, by omega⟩
        have e' : u = z := by omega
        rw [e'] at h1'; omega
      have hzv : x.two (z : Nat) (v : Nat) = true := by
        have := HBY.out
        unfold Ix.two; simp only [decide_eq_true_eq]
        refine ⟨fun e => ?_, by omega, by omega, by omega, by omega⟩
        have e' : z = v := by omega
        rw [← e'] at h2'; omega
      clear hN
      have k0 := (H.out.no HF.out).at_pl (u := u) (v := z) (by omega) (by omega) 0 (by omega)
      have k1 := (H.out.no HF.out).at_pl (u := z) (v := v) (by omega) (by omega) 0 (by omega)
      have hs2 := HS2.out
      rw [at_nat hzu, at_nat hzv] at hs2
      rw [Nat.add_zero] at k0 k1
      obtain ⟨⟨a0, a1, a2⟩, hp0⟩ : ∃ y, x.ent u z = y := ⟨_, rfl⟩
      obtain ⟨⟨b0, b1, b2⟩, hp1⟩ : ∃ y, x.ent z v = y := ⟨_, rfl⟩
      have heo := (H.out.ok.ent u z)
      rw [hp0] at k0 hs2 heo
      rw [hp1] at k1 hs2
      simp only [En.cell, if_true] at k0 k1 hs2
      have hadd : add1 (normI a0) b0 = x.sum2 u v r := by rw [hs2, add1_zero]
      have hss := HSS.out
      obtain ⟨s, hsm⟩ : ∃ y, x.sum2 u v r = y := ⟨_, rfl⟩
      rw [hsm] at hss hadd
      have HSM := hid hss
      have hadds : ∀ n : Fam w2, Calls Tryz.prog 69 #[.int .i64 a0, .int .i64 b0] n.v fun e w' => e = .returned (.int .i64 s) ∧ Fr No n.v w' := fun n => by rw [← hadd]; exact rsum_calls a0 b0 n.v
      have kk0 : ∀ n : Fam w2, n.v.cell? ⟨R.b, 1 + u * 72 + z * 3, none⟩ = some (.int .i64 a0) := Fam.cell k0
      have kk1 : ∀ n : Fam w2, n.v.cell? ⟨R.b, 1 + z * 72 + v * 3, none⟩ = some (.int .i64 b0) := Fam.cell k1
      obtain ⟨⟨l1, l2⟩, hl⟩ : ∃ l, x.rl u v r = l := ⟨_, rfl⟩
      rw [hl] at HSM ⊢
      simp only at HSM ⊢
      clear hs2 hp0 hp1 hss hsm hadd heo hzu hzv HSS HS2 k0 k1 hl
      go_wp2_with fail
      refine wp_region_fam (by kernel_rfl) (by kernel_rfl) ?_
      repeat (go_big_quiet_step (exact Calls.fam (hadds _)))
      refine wpQuiet_nil ?_
      rintro w3 ⟨⟨w3, hf3⟩, rfl⟩
      have HF3 := hid (HF.out.trans hf3)
      have O83 := hid (own_no hf3 w.heap.size O8.out).2.2.2
      clear hf3 kk0 kk1 hadds c0 rr1 rr2 h1' h1'' h2' h2'' HF O8
      by_cases c1 : s < l1
      · have hs := HSM.out
        rw [if_pos c1] at hs
        have HS := hid hs
        clear hs
        go_wp2
        all_goals go_roundg (N + 1 - (r + 1))
        all_goals first
          | (have := HG2.out; omega)
          | exact ⟨r + 1, by rw [HS.out], by rw [HS.out], by go_num, by omega, rfl, HF3.out, O83.out⟩
      · have hs := HSM.out
        rw [if_neg c1] at hs
        have HS := hid hs
        clear hs
        go_wp2
        all_goals go_roundg (N + 1 - (r + 1))
        all_goals first
          | (have := HG2.out; omega)
          | exact ⟨r + 1, by rw [HS.out], by rw [HS.out], by go_num, by omega, rfl, HF3.out, O83.out⟩

theorem rxbest_calls {x : Ix} {w : World} {R : RxLoc} (h : RxMem w R x) {b : Nat} {G : Gr} (hg : RGM w b G) (u v : Int) :
    Calls Tryz.prog 105 #[.pointer (some ⟨R.b, 0, none⟩), .pointer (some ⟨b, 0, none⟩), .int .i64 u, .int .i64 v] w fun e w' => e = .returned (x.best u v (G.best u v)).val ∧ Fr No w w' := by
  rw [x.rbest_eq u v _ (G.best_le u v)]
  cases ht : x.two u v with
  | true =>
    obtain ⟨_, hu0, _, hv0, _⟩ := two_iff ht
    obtain ⟨a, rfl⟩ := Int.eq_ofNat_of_zero_le hu0
    obtain ⟨c, rfl⟩ := Int.eq_ofNat_of_zero_le hv0
    exact rxbest_yes h hg a c ht
  | false =>
    have e : x.rbest u v (G.best u v) = En.none := by unfold Ix.rbest; rw [ht]; rfl
    rw [e]
    exact rxbest_no h b u v ht

end Go.Proofs.YtoepbhacpidcbaaGreatDoor
