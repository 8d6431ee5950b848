/- A step of a keeper; walked. -/

import Derived.Test.YtoepbhacpidcbaaGreatDoorQBase
import Derived.Test.YtoepbhacpidcbaaGreatDoorQIdx
import Derived.Test.YtoepbhacpidcbaaGreatDoorQPerm
import Derived.Test.YtoepbhacpidcbaaGreatDoorQIdxB
import Derived.Test.YtoepbhacpidcbaaGreatDoorQRef
import Derived.Test.YtoepbhacpidcbaaGreatDoorQUnref
import Derived.Test.YtoepbhacpidcbaaGreatDoorQItr
import Derived.Test.YtoepbhacpidcbaaGreatDoorQUnE
import Derived.Test.YtoepbhacpidcbaaGreatDoorQDst
import Derived.Test.YtoepbhacpidcbaaGreatDoorQLnk
import Derived.Test.YtoepbhacpidcbaaGreatDoorQLks
import Derived.Test.YtoepbhacpidcbaaGreatDoorQMid
import Derived.Test.YtoepbhacpidcbaaGreatDoorQBig
import Derived.Test.YtoepbhacpidcbaaGreatDoorQCp2
import Derived.Test.YtoepbhacpidcbaaGreatDoorQGoes
import Derived.Test.YtoepbhacpidcbaaGreatDoorQGOps
import Derived.Test.YtoepbhacpidcbaaGreatDoorQGB
import Derived.Test.YtoepbhacpidcbaaGreatDoorQG8
import Derived.Test.YtoepbhacpidcbaaGreatDoorQWh
import Derived.Test.YtoepbhacpidcbaaGreatDoorQDMov
import Derived.Test.YtoepbhacpidcbaaGreatDoorQWk
import Derived.Test.YtoepbhacpidcbaaGreatDoorQBt1
import Derived.Test.YtoepbhacpidcbaaGreatDoorQHpK
import Derived.Test.YtoepbhacpidcbaaGreatDoorQOc
import Derived.Test.YtoepbhacpidcbaaGreatDoorQSqO
import Derived.Test.YtoepbhacpidcbaaGreatDoorQAps
import Derived.Test.YtoepbhacpidcbaaGreatDoorQKq
import Derived.Test.YtoepbhacpidcbaaGreatDoorQRBt
import Derived.Test.YtoepbhacpidcbaaGreatDoorQAll
import Derived.Test.YtoepbhacpidcbaaGreatDoorQWhl
import Derived.Test.YtoepbhacpidcbaaGreatDoorQKl
import Derived.Test.YtoepbhacpidcbaaGreatDoorQRB
import Derived.Test.YtoepbhacpidcbaaGreatDoorQRbd
import Derived.Test.YtoepbhacpidcbaaGreatDoorQBuL
import Derived.Test.YtoepbhacpidcbaaGreatDoorQClb

set_option linter.unusedVariables false
set_option linter.unusedSimpArgs false
namespace Go.Proofs.YtoepbhacpidcbaaGreatDoor
open Go.RowKit Go.Shelf Go.Deep

attribute [local go_sem] Oper.semAt_some

theorem held7_8 {P : Program} {md : Region.Mode} {Q : Exit → Act → World → Prop} {S : World → Prop} {fuel : Nat} {listed : Array Bool} {a : Act} {w : World} {x0 x1 x2 x3 x4 x5 x6 o7 o8 : Oper} {l : List Oper} (hr : Region.ready md (x0 :: x1 :: x2 :: x3 :: x4 :: x5 :: x6 :: o7 :: o8 :: l).toArray listed = [7, 8]) (h7 : ∀ K' : Act → World → Prop, Shut (∀ a w, S w → (S w → wpAnyH P md (x0 :: x1 :: x2 :: x3 :: x4 :: x5 :: x6 :: o7 :: o8 :: l).toArray Q S fuel (listed.setIfInBounds 7 true) a w) → K' a w) → if Region.wanted o7 (yielded (x0 :: x1 :: x2 :: x3 :: x4 :: x5 :: x6 :: o7 :: o8 :: l).toArray a.tmps) = true then Oper.wp P o7 a w K' Q else K' (a.put o7.dst undef) w) (h8 : ∀ K' : Act → World → Prop, Shut (∀ a w, S w → (S w → wpAnyH P md (x0 :: x1 :: x2 :: x3 :: x4 :: x5 :: x6 :: o7 :: o8 :: l).toArray Q S fuel (listed.setIfInBounds 8 true) a w) → K' a w) → if Region.wanted o8 (yielded (x0 :: x1 :: x2 :: x3 :: x4 :: x5 :: x6 :: o7 :: o8 :: l).toArray a.tmps) = true then Oper.wp P o8 a w K' Q else K' (a.put o8.dst undef) w) : wpAnyH P md (x0 :: x1 :: x2 :: x3 :: x4 :: x5 :: x6 :: o7 :: o8 :: l).toArray Q S (fuel + 1) listed a w :=
  wpAnyH_ready (rs := [7, 8]) hr (by simp) (AllReadyH.cons (o := o7) rfl h7 (AllReadyH.cons (o := o8) rfl h8 AllReadyH.nil))

def wkAgg (v c w t m : Nat) : Value := .agg #[.int .i64 (v : Nat), .int .i64 (c : Nat), .int .i64 (w : Nat), .int .i64 (t : Nat), .int .u64 (m : Nat)]

set_option maxRecDepth 100000 in
set_option maxHeartbeats 8000000 in
theorem kstep_yes {w : World} {k : KLoc} {K : Kp} (h : KMem w k K) {Lg : GLoc} {G : Gr} (hg : GMem w Lg G) (hwt : G.Wt) (hsep : ∀ j, Lg.own G.n j → ¬ k.own j) (hf : K.fl < K.x.n) :
    Calls Tryz.prog 80 #[.pointer (some ⟨k.b, 0, none⟩), .pointer (some ⟨Lg.b, 0, none⟩)] w fun e w' => ∃ m : Nat, e = .returned (.tuple #[wkAgg (K.work G).v (K.work G).c (K.work G).w (K.work G).t m, .bool true]) ∧ SetOf m (fun z => (K.work G).m z = true) ∧ Fr k.own w w' ∧ KMem w' k (K.step G) := by
  have c0 := h.cq
  have H := hid h
  have HF := hid (show flo (fun r => K.d (K.x.by_ r)) K.x.n < K.x.n from hf)
  have f3 : Fr No w (((w.alloc (.cells #[.pointer (some ⟨k.b, 0, none⟩)] 57)).alloc (.cells #[.pointer (some ⟨Lg.b, 0, none⟩)] 30)).alloc (.cells #[.int .i64 0, .int .i64 0, .int .i64 0, .int .i64 0, .int .u64 0] 81)) := (((Fr.refl No w).alloc _).alloc _).alloc _
  have c03 := f3.cell_some c0 (fun h => h)
  have hz3 : (((w.alloc (.cells #[.pointer (some ⟨k.b, 0, none⟩)] 57)).alloc (.cells #[.pointer (some ⟨Lg.b, 0, none⟩)] 30)).alloc (.cells #[.int .i64 0, .int .i64 0, .int .i64 0, .int .i64 0, .int .u64 0] 81)).heap[w.heap.size + 1 + 1]? = some (.cells #[.int .i64 0, .int .i64 0, .int .i64 0, .int .i64 0, .int .u64 0] 81) := by
    have := heap_new ((w.alloc (.cells #[.pointer (some ⟨k.b, 0, none⟩)] 57)).alloc (.cells #[.pointer (some ⟨Lg.b, 0, none⟩)] 30)) (.cells #[.int .i64 0, .int .i64 0, .int .i64 0, .int .i64 0, .int .u64 0] 81)
    simpa using this
  have b23 : (((w.alloc (.cells #[.pointer (some ⟨k.b, 0, none⟩)] 57)).alloc (.cells #[.pointer (some ⟨Lg.b, 0, none⟩)] 30)).alloc (.cells #[.int .i64 0, .int .i64 0, .int .i64 0, .int .i64 0, .int .u64 0] 81)).cell? ⟨w.heap.size, 0, none⟩ = some (.pointer (some ⟨k.b, 0, none⟩)) := by
    have := cell_of (heap_new w (.cells #[.pointer (some ⟨k.b, 0, none⟩)] 57)) 0
    exact ((Fr.refl No _).alloc _).cell_some (((Fr.refl No _).alloc _).cell_some this (fun h => h)) (fun h => h)
  have b33 : (((w.alloc (.cells #[.pointer (some ⟨k.b, 0, none⟩)] 57)).alloc (.cells #[.pointer (some ⟨Lg.b, 0, none⟩)] 30)).alloc (.cells #[.int .i64 0, .int .i64 0, .int .i64 0, .int .i64 0, .int .u64 0] 81)).cell? ⟨w.heap.size + 1, 0, none⟩ = some (.pointer (some ⟨Lg.b, 0, none⟩)) := by
    have := cell_of (heap_new (w.alloc (.cells #[.pointer (some ⟨k.b, 0, none⟩)] 57)) (.cells #[.pointer (some ⟨Lg.b, 0, none⟩)] 30)) 0
    rw [World.size_alloc] at this
    exact ((Fr.refl No _).alloc _).cell_some this (fun h => h)
  have H3 := hid (H.out.no f3)
  have HG3 := hid (hg.no f3)
  have HZ3 := hid hz3
  have F3 := hid f3
  have hs3 : (((w.alloc (.cells #[.pointer (some ⟨k.b, 0, none⟩)] 57)).alloc (.cells #[.pointer (some ⟨Lg.b, 0, none⟩)] 30)).alloc (.cells #[.int .i64 0, .int .i64 0, .int .i64 0, .int .i64 0, .int .u64 0] 81)).heap.size = w.heap.size + 1 + 1 + 1 := by simp
  have lk : k.b < w.heap.size := cell_lt c0
  have HSEP := hid hsep
  have HWT := hid hwt
  have hown : ∀ j, Lg.own G.n j → j < w.heap.size := fun j hj => hg.own_lt hj
  have HOWN := hid hown
  have hlq := h.q.lt
  have hll := h.x.lt
  clear h hf hz3 f3 hg hwt hsep hown
  refine (callsIn_wide (n := 7)).1 ?_
  refine callsIn_of_wp_marks Tryz.func80 rfl trivial ?_ rfl
  refine wpIn_wide.2 ?_
  simp only [Tryz.ntmps80, List.size_toArray, List.length_cons, List.length_nil, Nat.reduceAdd, Nat.reduceSub, Array.replicate_succ, Array.replicate_zero, List.push_toArray, List.append_toArray, List.nil_append, List.cons_append]
  go_wp2_with fail
  generalize (((w.alloc (.cells #[.pointer (some ⟨k.b, 0, none⟩)] 57)).alloc (.cells #[.pointer (some ⟨Lg.b, 0, none⟩)] 30)).alloc (.cells #[.int .i64 0, .int .i64 0, .int .i64 0, .int .i64 0, .int .u64 0] 81)) = W3 at H3 HZ3 F3 c03 b23 b33 hs3 HG3 ⊢
  refine (qtake_yes H3.out.ok.ok.od H3.out.q HF.out).mono ?_
  rintro e w4 ⟨rfl, hf4, hq4⟩
  have hvv : K.x.by_ (flo (fun r => K.d (K.x.by_ r)) K.x.n) = K.v := rfl
  rw [hvv] at hq4 ⊢
  have H4 := hid (H3.out.dirty (d' := K.d1) hf4 hq4 (fun z hz => by
    unfold Kp.d1 at hz
    rw [Bool.and_eq_true] at hz
    exact H3.out.ok.d z hz.1))
  have F4 := hid hf4
  obtain ⟨o1, o2, o3, o4⟩ := own_after hf4 (w.heap.size + 1 + 1) HZ3.out (fun (e : w.heap.size + 1 + 1 = k.Q.b) => by omega)
  have b24 := hf4.cell_some b23 (fun (e : w.heap.size = k.Q.b) => by omega)
  have b34 := hf4.cell_some b33 (fun (e : w.heap.size + 1 = k.Q.b) => by omega)
  have HG4 := hid (HG3.out.fr hf4 (fun j hj (e : j = k.Q.b) => HSEP.out j hj (.inl e)))
  have HO4 := hid o4
  obtain ⟨v, hv⟩ : ∃ v, K.v = v := ⟨_, rfl⟩
  have HV := hid hv
  rw [hv]
  have f5 := (Fr.refl No w4).alloc (.cells #[.int .i64 (v : Nat), .int .i64 0, .int .i64 0, .int .i64 0, .int .u64 0] 81)
  have hs5 : w4.heap.size < (w4.alloc (.cells #[.int .i64 (v : Nat), .int .i64 0, .int .i64 0, .int .i64 0, .int .u64 0] 81)).heap.size := by simp
  have H5 := hid (H4.out.no f5)
  have HG5 := hid (HG4.out.no f5)
  have b25 := f5.cell_some b24 (fun h => h)
  have b35 := f5.cell_some b34 (fun h => h)
  have HO5 := hid ((f5.block _ o3 (fun h => h)).trans o4)
  have hwk := hid (wkAt_new w4 v)
  have cx5 := H5.out.cx
  have F5 := hid (F4.out.trans (f5.no (F := One k.Q.b)))
  clear hf4 hq4 o4 o1 o2 hvv c03 b23 b33 b24 b34 hv f5 HO4 H4 HG4 F4
  go_wp2_with fail
  generalize (w4.alloc (.cells #[.int .i64 (v : Nat), .int .i64 0, .int .i64 0, .int .i64 0, .int .u64 0] 81)) = w5 at hs5 H5 HG5 b25 b35 HO5 hwk cx5 F5 ⊢
  refine (star_calls H5.out.x (v : Nat)).mono ?_
  rintro e w6 ⟨rfl, hf6⟩
  have H6 := hid (H5.out.no hf6)
  have HG6 := hid (HG5.out.no hf6)
  have b26 := hf6.cell_some b25 (fun h => h)
  have b36 := hf6.cell_some b35 (fun h => h)
  have HO6 := hid ((hf6.block _ (heap_lt HO5.out) (fun h => h)).trans HO5.out)
  have HWK6 := hid (hwk.out.fr hf6 (fun h => h))
  have F6 := hid (F5.out.trans (hf6.no (F := One k.Q.b)))
  have hs6 : w4.heap.size < w6.heap.size := Nat.lt_of_lt_of_le hs5 hf6.size
  clear hf6 b25 b35 cx5 hwk F5 HG5 H5 HO5 hs5
  have wfC : Wf (starC (K.x.star (v : Nat) false) (K.x.star (v : Nat) true)) := H6.out.x.ok.starWf (v : Nat)
  have WFC := hid wfC
  obtain ⟨C, hC⟩ : ∃ C, starC (K.x.star (v : Nat) false) (K.x.star (v : Nat) true) = C := ⟨_, rfl⟩
  rw [show (({ x := K.x, d := K.d1 } : Kp).x) = K.x from rfl, hC]
  rw [hC] at WFC
  have HCC := hid hC
  have hd1 : Tryz.prog.underlying 229 = some _ := Tryz.underlying229
  have hi1 : (Tryz.prog.info? 229).map (·.size) = some 144 := by kernel_rfl
  have hs1 := (StarAt.new1 w6).set C
  have ht1 := (StarAt.new1 w6).there
  have ho1 := cellsR_one 144 C
  have hl1 := cellsR_len 144 C
  have f7 : Fr No w6 ((w6.alloc (.cells Tryz.zeroCells229 229)).setCells w6.heap.size 0 (cellsR 144 C)) := Fr.setCellsL (.inr (Nat.le_refl _)) _ _ _ ((Fr.refl _ _).alloc _)
  unfold starV
  obtain ⟨Z, hZ⟩ : ∃ Z, cellsR 144 C = Z := ⟨_, rfl⟩
  rw [hZ] at hs1 ho1 hl1 f7 ⊢
  have HZ := hid hZ
  have HS1 := hid hs1
  have H7 := hid (H6.out.no f7)
  have HG7 := hid (HG6.out.no f7)
  have b27 := f7.cell_some b26 (fun h => h)
  have b37 := f7.cell_some b36 (fun h => h)
  have HO7 := hid ((f7.block _ (heap_lt HO6.out) (fun h => h)).trans HO6.out)
  have HWK7 := hid (HWK6.out.fr f7 (fun h => h))
  have F7 := hid (F6.out.trans (f7.no (F := One k.Q.b)))
  clear hZ hs1 f7 hC wfC b26 b36 HWK6 F6 HG6 H6 HO6
  go_wp2_with (refine wpList_store_mid rfl 229 (.tmp 9) (.tmp 33) rfl w6.heap.size 0 Z.toArray rfl rfl (by simpa [hl1] using ht1) (by rw [hi1]; simp [hl1]) ho1 ?_; simp only [List.toList_toArray])
  generalize ((w6.alloc (.cells Tryz.zeroCells229 229)).setCells w6.heap.size 0 Z) = W7 at HS1 H7 HG7 b27 b37 HO7 HWK7 F7 ⊢
  obtain ⟨B9, hB9⟩ : ∃ B, w6.heap.size = B := ⟨_, rfl⟩
  obtain ⟨B8, hB8⟩ : ∃ B, w4.heap.size = B := ⟨_, rfl⟩
  obtain ⟨B2, hB2⟩ : ∃ B, w.heap.size = B := ⟨_, rfl⟩
  have hlt9 : B8 < B9 := by omega
  have hlt8 : B2 + 1 + 1 < B8 := by omega
  have hk2 : k.b < B2 ∧ k.Q.b < B2 ∧ k.L.b < B2 := by omega
  rw [hB9] at HS1 ⊢
  rw [hB8] at HWK7 ⊢
  rw [hB2] at b27 b37 HO7 ⊢
  have cx7 := H7.out.cx
  clear ht1 ho1 hl1 hs6 o3 hs3
  go_wp2_with fail
  refine (kpairs_calls k.b v W7).mono ?_
  rintro e W0 ⟨rfl, hf0, hsz0, hc1, hc2⟩
  have H0 := hid (H7.out.no hf0)
  have HG0 := hid (HG7.out.no hf0)
  have b20 := hf0.cell_some b27 (fun h => h)
  have b30 := hf0.cell_some b37 (fun h => h)
  have HO0 := hid ((hf0.block _ (heap_lt HO7.out) (fun h => h)).trans HO7.out)
  have HWK0 := hid (HWK7.out.fr hf0 (fun h => h))
  have HS0 := hid (HS1.out.fr hf0 (fun h => h))
  have F0 := hid (F7.out.trans (hf0.no (F := One k.Q.b)))
  have cx0 := H0.out.cx
  have hlv : K.fl < K.x.n := HF.out
  have hvb : K.x.by_ K.fl = v := HV.out
  have l9 : B9 < W7.heap.size := HS1.out.lt
  clear hf0 b27 b37 cx7 HWK7 F7 HG7 H7 HO7 HS1
  have hxn24 : K.x.n ≤ 24 := H0.out.x.ok.n2
  have HOK := hid H0.out.x.ok
  have HFIT := hid H0.out.ok.fit
  have hcap : K.x.n ≤ k.L.cb := H0.out.cap
  have q1 := H0.out.x.lt
  have q2 := H0.out.x.hr.1
  have q3 := H0.out.x.hb.1
  have q4 := H0.out.x.gn.lt
  have q5 : B2 + 1 < W0.heap.size := cell_lt b30
  have q6 : k.L.br ≠ k.L.b ∧ k.L.bb ≠ k.L.b := ⟨H0.out.x.hr.2, H0.out.x.hb.2⟩
  have q7 := H0.out.x.nz
  have q8 : k.L.br < B8 ∧ k.L.bb < B8 ∧ 0 < B8 := by
    have h1 := H.out.x.hr.1
    have h2 := H.out.x.hb.1
    have h3 := H.out.x.gn.lt
    omega
  have hx0 : IxMem W0 k.L (K.x.part G v (doneL K.x.by_ ([] : List (LoEl K.x.n K.fl)))) := by
    rw [doneL_nil, Ix.part_none]; exact H0.out.x
  have HX0 := hid hx0
  clear hx0
  go_wp2
  refine (wpIn_wide (n := 7)).1 ?_
  refine wpIn_rangeFunc_ownS rfl (by omega) (gf := 202) (lb := #[.pointer (some ⟨W7.heap.size, 0, none⟩), .pointer (some ⟨W7.heap.size + 1, 0, none⟩)]) rfl trivial (enters_of Tryz.func202 (by kernel_rfl) rfl)
    (kpairs1_any hxn24 (bf := K.x.by_) 6 (by omega) W7.heap.size (W7.heap.size + 1) k.b K.fl hlv (fun j => j = k.L.b ∨ j = B8 ∨ W0.heap.size ≤ j) (by omega) (by omega) (by have h9 : k.b ≠ k.L.b := H0.out.s3.2; show ¬ (k.b = k.L.b ∨ k.b = B8 ∨ W0.heap.size ≤ k.b); omega) W0 ⟨K.x, H0.out.x, rfl, rfl⟩ hc1 (by rw [hvb]; exact hc2) cx0)
    (fun h k => PK.trans h k) (fun W l' o o' hl _ _ _ => ⟨fr_putObj W l' o' (.inr (.inr hl)), fun s => s.putObj (N := W0.heap.size) l' o' hl (by omega) (by omega) (by omega) (by omega)⟩) (fun W => PK.no (Fr.refl _ _)) (Below.refl _ _) (fun _ => rfl)
    (fun pre W => IxMem W k.L (K.x.part G v (doneL K.x.by_ pre)) ∧ WkAt W B8 v (K.x.cntL G qCame pre) (K.x.cntL G qWent pre) (K.x.cntL G qTurn pre) 0 ∧ Fr (fun j => j = k.L.b ∨ j = B8 ∨ W0.heap.size ≤ j) W0 W)
    (fun c xs W => False)
    (fun s A B' row hs hg hr => by
      obtain ⟨r1, r2, r3⟩ := hs
      have h2 : Fr (fun j => W0.heap.size ≤ j) A B' := ⟨hg.os, hg.tape, hg.output, hg.size, fun j hj hnk => hg.block j hj (fun e => hnk (hr j e.symm).1)⟩
      exact ⟨r1.fr h2 (by omega) (by omega) (by omega) (by omega), r2.fr h2 (by omega), ownFrom_fr _ W0 s A B' row r3 hg hr⟩)
    (fun c s A B' row hs hg hr => hs)
    ⟨HX0.out, HWK0.out, Fr.refl _ _⟩
    (fun el T => (T.setIfInBounds 10 (.int .i64 (K.x.by_ el.1.1 : Nat))).setIfInBounds 11 (.int .i64 (K.x.by_ el.1.2 : Nat)))
    ?assign ?body ?done ?stop
  case stop => rintro D' c xs W hD hpre hix hK; exact hix.elim
  case assign =>
    intro l el W K' hK
    simp only [loEnc]
    gi_wp2
    simpa [loEnc] using hK
  case body =>
    rintro l' pre el W hlp hloop ⟨hix, hwk, hfr⟩ hlen
    have hok := HOK.out
    have hfit := HFIT.out
    have hvn := hok.by_ K.fl hlv
    rw [hvb] at hvn
    obtain ⟨hl, ha, hb, hne⟩ := hok.lo_low hlv el
    rw [hvb] at hl
    have ht := Ix.low_two hl
    have hstep := hok.part_step HWT.out (doneL K.x.by_ pre) hl
    rw [← doneL_snoc] at hstep
    have hbest := hok.part_best G hvn.1 (doneL K.x.by_ pre) ha hb (by have := (Ix.low_is hl).2.2.2.1; omega)
    have hdl := hok.doneL_iff pre el
    have hent : (K.x.part G v (doneL K.x.by_ pre)).ent (K.x.by_ el.1.1) (K.x.by_ el.1.2) = if el ∈ pre then K.x.best (K.x.by_ el.1.1 : Nat) (K.x.by_ el.1.2 : Nat) (G.best (K.x.by_ el.1.1 : Nat) (K.x.by_ el.1.2 : Nat)) else K.x.ent (K.x.by_ el.1.1) (K.x.by_ el.1.2) := by
      by_cases hm : el ∈ pre
      · rw [if_pos hm]; exact if_pos ⟨hl, hdl.2 hm⟩
      · rw [if_neg hm]; exact if_neg (fun hh => hm (hdl.1 hh.2))
    have hyat : (K.x.part G v (doneL K.x.by_ pre)).at_ (K.x.by_ el.1.1 : Nat) (K.x.by_ el.1.2 : Nat) = (K.x.part G v (doneL K.x.by_ pre)).ent (K.x.by_ el.1.1) (K.x.by_ el.1.2) := at_nat ht
    have hnow := hok.best_none HWT.out ht
    have hwas := (hfit.part hok HWT.out v (doneL K.x.by_ pre)).ent_none (a := K.x.by_ el.1.1) (b := K.x.by_ el.1.2) ht
    have hlc := prL_len K.x.n K.fl K.x.n
    have hc1' := K.x.cntL_le G qCame qCame_le pre
    have hc2' := K.x.cntL_le G qWent qWent_le pre
    have hc3' := K.x.cntL_le G qTurn qTurn_le pre
    have hcC : K.x.cntL G qCame pre ≤ 1000 := by omega
    have hcW : K.x.cntL G qWent pre ≤ 1000 := by omega
    have hcT : K.x.cntL G qTurn pre ≤ 1000 := by omega
    have hq : ∀ q : En → En → Nat, (∀ a, q a a = 0) → K.x.cntL G q (pre ++ [el]) = K.x.cntL G q pre + q ((K.x.part G v (doneL K.x.by_ pre)).ent (K.x.by_ el.1.1) (K.x.by_ el.1.2)) (K.x.best (K.x.by_ el.1.1 : Nat) (K.x.by_ el.1.2 : Nat) (G.best (K.x.by_ el.1.1 : Nat) (K.x.by_ el.1.2 : Nat))) := fun q h0 => by
      rw [Ix.cntL_snoc, hent]
      split
      · rw [h0]
      · rfl
    have hqC := hq qCame (fun a => if_neg (fun h => h.1 rfl))
    have hqW := hq qWent (fun a => if_neg (fun h => h.1 rfl))
    have hqT := hq qTurn (fun a => if_neg (fun h => h.1 rfl))
    obtain ⟨y, hy⟩ : ∃ y, K.x.part G v (doneL K.x.by_ pre) = y := ⟨_, rfl⟩
    have hycap : y.n ≤ k.L.cb := by rw [← hy]; exact hcap
    have hyn : y.n = K.x.n := by rw [← hy]; rfl
    have hyb : y.by_ = K.x.by_ := by rw [← hy]; rfl
    rw [hy] at hix hstep hbest hyat hwas hqC hqW hqT
    obtain ⟨a1, ha1⟩ : ∃ a, K.x.by_ el.1.1 = a := ⟨_, rfl⟩
    obtain ⟨a2, ha2⟩ : ∃ a, K.x.by_ el.1.2 = a := ⟨_, rfl⟩
    rw [ha1, ha2] at hstep hbest hyat hwas hqC hqW hqT hnow
    obtain ⟨⟨n0, n1, n2⟩, hnE⟩ : ∃ e, K.x.best (a1 : Nat) (a2 : Nat) (G.best (a1 : Nat) (a2 : Nat)) = e := ⟨_, rfl⟩
    obtain ⟨⟨m0, m1, m2⟩, hmE⟩ : ∃ e, y.ent a1 a2 = e := ⟨_, rfl⟩
    rw [hnE] at hstep hbest hnow hqC hqW hqT
    rw [hmE] at hyat hwas hqC hqW hqT
    have HSTEP := hid hstep
    have HQC := hid hqC
    have HQW := hid hqW
    have HQT := hid hqT
    have HNOW := hid hnow
    have HWAS := hid hwas
    have HYB := hid (show y.n = K.x.n ∧ y.by_ = K.x.by_ from ⟨hyn, hyb⟩)
    have HIX := hid hix
    have HWK := hid hwk
    have HFR := hid hfr
    have HGW := hid (HG0.out.fr hfr (fun j hj (h : j = k.L.b ∨ j = B8 ∨ W0.heap.size ≤ j) => by
      have h1 := HOWN.out j hj
      have h2 := HSEP.out j hj
      rcases h with h | h | h
      · exact h2 (.inr h)
      · omega
      · omega))
    have d2 := hfr.cell_some b20 (show ¬ (B2 = k.L.b ∨ B2 = B8 ∨ W0.heap.size ≤ B2) by omega)
    have d3 := hfr.cell_some b30 (show ¬ (B2 + 1 = k.L.b ∨ B2 + 1 = B8 ∨ W0.heap.size ≤ B2 + 1) by omega)
    have dx := hfr.cell_some cx0 (show ¬ (k.b = k.L.b ∨ k.b = B8 ∨ W0.heap.size ≤ k.b) by have h9 : k.b ≠ k.L.b := H0.out.s3.2; omega)
    have hbestc : ∀ nn : Fam W, Calls Tryz.prog 92 #[.pointer (some ⟨k.L.b, 0, none⟩), .pointer (some ⟨Lg.b, 0, none⟩), .int .i64 (a1 : Nat), .int .i64 (a2 : Nat)] nn.v fun e w' => e = .returned (.agg #[.int .i64 n0, .int .i64 n1, .int .i64 n2]) ∧ Fr No nn.v w' := fun nn => by
      have := xbest_calls (HIX.out.no nn.h) hycap (HGW.out.no nn.h) (a1 : Nat) (a2 : Nat)
      rw [hbest] at this
      exact this
    have kk2 : ∀ nn : Fam W, nn.v.cell? ⟨B2, 0, none⟩ = some (.pointer (some ⟨k.b, 0, none⟩)) := Fam.cell d2
    have kk3 : ∀ nn : Fam W, nn.v.cell? ⟨B2 + 1, 0, none⟩ = some (.pointer (some ⟨Lg.b, 0, none⟩)) := Fam.cell d3
    have kkx : ∀ nn : Fam W, nn.v.cell? ⟨k.b, 1, none⟩ = some (.pointer (some ⟨k.L.b, 0, none⟩)) := Fam.cell dx
    have lW := hfr.size
    clear hstep hbest hdl hent hnow hwas hq hqC hqW hqT hix hwk hfr hloop hl ht hne hlc hy
    simp only [loEnc, ha1, ha2, List.zip_toArray, List.foldl_toArray, List.zip_cons_cons, List.zip_nil_right, List.zip_nil_left, List.foldl_cons, List.foldl_nil, List.setIfInBounds_toArray, List.set_cons_zero, List.set_cons_succ]
    gi_wp2_with fail
    refine wpIn_region_held (S := fun w' => Fr No W w' ∧ w'.cell? ⟨B2, 0, none⟩ = some (.pointer (some ⟨k.b, 0, none⟩)) ∧ w'.cell? ⟨B2 + 1, 0, none⟩ = some (.pointer (some ⟨Lg.b, 0, none⟩)) ∧ w'.cell? ⟨k.b, 1, none⟩ = some (.pointer (some ⟨k.L.b, 0, none⟩))) (by kernel_rfl) (by kernel_rfl) ⟨(Fr.refl No W).drew, d2, d3, dx⟩ ?_
    intro hS
    refine heldTake0 (v := .pointer (some ⟨k.b, 0, none⟩)) (by kernel_rfl) (by kernel_rfl) (by kernel_rfl) (fun _ _ _ h => h) ⟨by rfl, fun w' hw => ?_⟩ hS ?_
    · obtain ⟨_, v1, v2, v3⟩ := hw
      go_simp
    try simp only [Act.put, List.setIfInBounds_toArray, List.set_cons_zero, List.set_cons_succ]
    refine heldTake1 (v := .pointer (some ⟨k.b, 0, none⟩)) (by kernel_rfl) (by kernel_rfl) (by kernel_rfl) (fun _ _ _ h => h) ⟨by rfl, fun w' hw => ?_⟩ hS ?_
    · obtain ⟨_, v1, v2, v3⟩ := hw
      go_simp
    try simp only [Act.put, List.setIfInBounds_toArray, List.set_cons_zero, List.set_cons_succ]
    refine heldTake2 (v := .pointer (some ⟨k.b, 1, none⟩)) (by kernel_rfl) (by kernel_rfl) (by kernel_rfl) (fun _ _ _ h => h) ⟨by rfl, fun w' hw => ?_⟩ hS ?_
    · obtain ⟨_, v1, v2, v3⟩ := hw
      go_simp
    try simp only [Act.put, List.setIfInBounds_toArray, List.set_cons_zero, List.set_cons_succ]
    refine heldTake3 (v := .pointer (some ⟨k.L.b, 0, none⟩)) (by kernel_rfl) (by kernel_rfl) (by kernel_rfl) (fun _ _ _ h => h) ⟨by rfl, fun w' hw => ?_⟩ hS ?_
    · obtain ⟨_, v1, v2, v3⟩ := hw
      go_simp
    try simp only [Act.put, List.setIfInBounds_toArray, List.set_cons_zero, List.set_cons_succ]
    refine heldTake4 (v := .pointer (some ⟨Lg.b, 0, none⟩)) (by kernel_rfl) (by kernel_rfl) (by kernel_rfl) (fun _ _ _ h => h) ⟨by rfl, fun w' hw => ?_⟩ hS ?_
    · obtain ⟨_, v1, v2, v3⟩ := hw
      go_simp
    try simp only [Act.put, List.setIfInBounds_toArray, List.set_cons_zero, List.set_cons_succ]
    refine heldTake5 (v := .int .i64 (a1 : Nat)) (by kernel_rfl) (by kernel_rfl) (by kernel_rfl) (fun _ _ _ h => h) ⟨by rfl, fun w' hw => ?_⟩ hS ?_
    · obtain ⟨_, v1, v2, v3⟩ := hw
      go_simp
    try simp only [Act.put, List.setIfInBounds_toArray, List.set_cons_zero, List.set_cons_succ]
    refine heldTake6 (v := .int .i64 (a2 : Nat)) (by kernel_rfl) (by kernel_rfl) (by kernel_rfl) (fun _ _ _ h => h) ⟨by rfl, fun w' hw => ?_⟩ hS ?_
    · obtain ⟨_, v1, v2, v3⟩ := hw
      go_simp
    try simp only [Act.put, List.setIfInBounds_toArray, List.set_cons_zero, List.set_cons_succ]
    refine held7_8 (by kernel_rfl) (fun K' hK => ?ba) (fun K' hK => ?bb)
    case' ba =>
      go_simp
      refine (hbestc ⟨W.drew, (Fr.refl No W).drew⟩).mono ?_
      rintro e w11 ⟨rfl, hf11⟩
      have F11 := hid ((Fr.refl No W).drew.trans hf11)
      clear hf11 hS hbestc
      go_simp
      refine hK.out _ _ ⟨F11.out, F11.out.cell_some d2 (fun h => h), F11.out.cell_some d3 (fun h => h), F11.out.cell_some dx (fun h => h)⟩ (fun hS => ?_)
      clear hK K'
      try simp only [Act.put, List.setIfInBounds_toArray, List.set_cons_zero, List.set_cons_succ]
      refine heldOp8 (by kernel_rfl) (fun K' hK => ?_)
      go_simp
      have ov := heap_new w11 (.cells #[.int .i64 0, .int .i64 0, .int .i64 0] 117)
      have fv := F11.out.alloc (.cells #[.int .i64 0, .int .i64 0, .int .i64 0] 117)
      have hb12 : W.heap.size ≤ w11.heap.size := F11.out.size
      generalize (w11.alloc (.cells #[.int .i64 0, .int .i64 0, .int .i64 0] 117)) = V at ov fv ⊢
      obtain ⟨B12, hB12⟩ : ∃ B, w11.heap.size = B := ⟨_, rfl⟩
      rw [hB12] at ov hb12 ⊢
      obtain ⟨o1, o2, o3, o4⟩ := own_no (Fr.refl No V) B12 ov
      have FV := hid fv
      have O4 := hid o4
      clear hB12 ov fv o4 hS
      refine hK.out _ _ ⟨FV.out, FV.out.cell_some d2 (fun h => h), FV.out.cell_some d3 (fun h => h), FV.out.cell_some dx (fun h => h)⟩ (fun hS => ?_)
      clear hK K'
      try simp only [Act.put, List.setIfInBounds_toArray, List.set_cons_zero, List.set_cons_succ]
      refine heldOp9 (by kernel_rfl) (fun K' hK => ?_)
      go_simp
      have o12 := set3 O4.out (.int .i64 n0) (.int .i64 n1) (.int .i64 n2)
      have f12 : Fr No W (((V.setCell ⟨B12, 0, none⟩ (.int .i64 n0)).setCell ⟨B12, 1, none⟩ (.int .i64 n1)).setCell ⟨B12, 2, none⟩ (.int .i64 n2)) := ((FV.out.setCell (p := ⟨B12, 0, none⟩) (.inr hb12) _).setCell (p := ⟨B12, 1, none⟩) (.inr hb12) _).setCell (p := ⟨B12, 2, none⟩) (.inr hb12) _
      generalize (((V.setCell ⟨B12, 0, none⟩ (.int .i64 n0)).setCell ⟨B12, 1, none⟩ (.int .i64 n1)).setCell ⟨B12, 2, none⟩ (.int .i64 n2)) = W12 at o12 f12 ⊢
      refine hK.out _ _ ⟨f12, f12.cell_some d2 (fun h => h), f12.cell_some d3 (fun h => h), f12.cell_some dx (fun h => h)⟩ (fun hS => ?_)
      clear hK K' hS o1 o2 o3
      try simp only [Act.put, List.setIfInBounds_toArray, List.set_cons_zero, List.set_cons_succ]
      refine wpAnyH_done (by kernel_rfl) ?_ _
      simp only [sureQ, Exit.then]
    case' bb =>
      go_simp
      have ov : (W.alloc (.cells #[.int .i64 0, .int .i64 0, .int .i64 0] 117)).drew.heap[W.heap.size]? = some (.cells #[.int .i64 0, .int .i64 0, .int .i64 0] 117) := heap_new W (.cells #[.int .i64 0, .int .i64 0, .int .i64 0] 117)
      have fv : Fr No W ((W.alloc (.cells #[.int .i64 0, .int .i64 0, .int .i64 0] 117)).drew) := ((Fr.refl No W).alloc _).drew
      generalize ((W.alloc (.cells #[.int .i64 0, .int .i64 0, .int .i64 0] 117)).drew) = V1 at ov fv ⊢
      obtain ⟨B12, hB12⟩ : ∃ B, W.heap.size = B := ⟨_, rfl⟩
      rw [hB12] at ov
      have hb12 : W.heap.size ≤ B12 := by omega
      have HB12 := hid hB12
      clear hB12
      try rw [HB12.out]
      have FV1 := hid fv
      clear fv hS
      refine hK.out _ _ ⟨FV1.out, FV1.out.cell_some d2 (fun h => h), FV1.out.cell_some d3 (fun h => h), FV1.out.cell_some dx (fun h => h)⟩ (fun hS => ?_)
      clear hK K'
      try simp only [Act.put, List.setIfInBounds_toArray, List.set_cons_zero, List.set_cons_succ]
      refine heldOp7 (by kernel_rfl) (fun K' hK => ?_)
      go_simp
      refine (hbestc ⟨V1, FV1.out⟩).mono ?_
      rintro e V ⟨rfl, hf11⟩
      have fv := FV1.out.trans hf11
      obtain ⟨o1, o2, o3, o4⟩ := own_no hf11 B12 ov
      have FV := hid fv
      have O4 := hid o4
      clear ov fv o4 hS hf11 hbestc
      go_simp
      refine hK.out _ _ ⟨FV.out, FV.out.cell_some d2 (fun h => h), FV.out.cell_some d3 (fun h => h), FV.out.cell_some dx (fun h => h)⟩ (fun hS => ?_)
      clear hK K'
      try simp only [Act.put, List.setIfInBounds_toArray, List.set_cons_zero, List.set_cons_succ]
      refine heldOp9 (by kernel_rfl) (fun K' hK => ?_)
      go_simp
      have o12 := set3 O4.out (.int .i64 n0) (.int .i64 n1) (.int .i64 n2)
      have f12 : Fr No W (((V.setCell ⟨B12, 0, none⟩ (.int .i64 n0)).setCell ⟨B12, 1, none⟩ (.int .i64 n1)).setCell ⟨B12, 2, none⟩ (.int .i64 n2)) := ((FV.out.setCell (p := ⟨B12, 0, none⟩) (.inr hb12) _).setCell (p := ⟨B12, 1, none⟩) (.inr hb12) _).setCell (p := ⟨B12, 2, none⟩) (.inr hb12) _
      generalize (((V.setCell ⟨B12, 0, none⟩ (.int .i64 n0)).setCell ⟨B12, 1, none⟩ (.int .i64 n1)).setCell ⟨B12, 2, none⟩ (.int .i64 n2)) = W12 at o12 f12 ⊢
      refine hK.out _ _ ⟨f12, f12.cell_some d2 (fun h => h), f12.cell_some d3 (fun h => h), f12.cell_some dx (fun h => h)⟩ (fun hS => ?_)
      clear hK K' hS o1 o2 o3
      try simp only [Act.put, List.setIfInBounds_toArray, List.set_cons_zero, List.set_cons_succ]
      refine wpAnyH_done (by kernel_rfl) ?_ _
      simp only [sureQ, Exit.then]
    all_goals
      have F12 := hid f12
      have HO12 := hid o12
      have HIX12 := hid (HIX.out.no F12.out)
      have HWK12 := hid (HWK.out.fr F12.out (fun h => h))
      have d2 := F12.out.cell_some d2 (fun h => h)
      have dx := F12.out.cell_some dx (fun h => h)
      have hatc : ∀ nn : Fam W12, Calls Tryz.prog 84 #[.pointer (some ⟨k.L.b, 0, none⟩), .int .i64 (a1 : Nat), .int .i64 (a2 : Nat)] nn.v fun e w' => e = .returned (.agg #[.int .i64 m0, .int .i64 m1, .int .i64 m2]) ∧ Fr No nn.v w' := fun nn => by
        have := at_calls (HIX12.out.no nn.h) (a1 : Nat) (a2 : Nat)
        rw [hyat] at this
        exact this
      have kk2 : ∀ nn : Fam W12, nn.v.cell? ⟨B2, 0, none⟩ = some (.pointer (some ⟨k.b, 0, none⟩)) := Fam.cell d2
      have kkx : ∀ nn : Fam W12, nn.v.cell? ⟨k.b, 1, none⟩ = some (.pointer (some ⟨k.L.b, 0, none⟩)) := Fam.cell dx
      have ke0 : ∀ nn : Fam W12, nn.v.cell? ⟨B12, 0, none⟩ = some (.int .i64 n0) := Fam.cell (cell_of o12 0)
      have ke1 : ∀ nn : Fam W12, nn.v.cell? ⟨B12, 1, none⟩ = some (.int .i64 n1) := Fam.cell (cell_of o12 1)
      have ke2 : ∀ nn : Fam W12, nn.v.cell? ⟨B12, 2, none⟩ = some (.int .i64 n2) := Fam.cell (cell_of o12 2)
      clear f12 o12
      gi_wp2_with fail
      refine wpIn_region_fam_tail 8 (by kernel_rfl) (by kernel_rfl) (by kernel_rfl) ?_
      simp only [List.take_succ_cons, List.take_zero, List.drop_succ_cons, List.drop_zero]
      repeat (go_big_quiet_step (exact Calls.fam (hatc _)))
      refine wpQuiet_nil ?_
      rintro w13 ⟨⟨w13, hf13⟩, rfl⟩
      have HF13 := hid hf13
      have d2 := hf13.cell_some d2 (fun h => h)
      have dx := hf13.cell_some dx (fun h => h)
      have HO13 := hid ((hf13.block _ (heap_lt HO12.out) (fun h => h)).trans HO12.out)
      have HIX13 := hid (HIX12.out.no hf13)
      have HWK13 := hid (HWK12.out.fr hf13 (fun h => h))
      clear hf13 kk2 kkx ke0 ke1 ke2 hatc
      gi_wp2_with fail
      refine ⟨trivial, CallsIn.inRound l' (callsIn_wide.2 ((wcount_calls HWK13.out hcC hcW hcT ⟨m0, m1, m2⟩ ⟨n0, n1, n2⟩ HWAS.out HNOW.out).mono ?_))⟩
      rintro e w14 ⟨⟨v14, rfl⟩, hf14, hwk14⟩
      have n8 : B8 ≠ k.L.b := by omega
      have d2 := hf14.cell_some d2 (fun (e : B2 = B8) => by omega)
      have dx := hf14.cell_some dx (fun (e : k.b = B8) => by omega)
      have o14 := (hf14.block _ (heap_lt HO13.out) (fun (e : B12 = B8) => by omega)).trans HO13.out
      have HIX14 := hid (HIX13.out.fr hf14 (fun (e : k.L.b = B8) => by omega) (fun (e : k.L.br = B8) => by omega) (fun (e : k.L.bb = B8) => by omega) (fun (e : _ = B8) => by omega))
      have HWK14 := hid hwk14
      have HF14 := hid hf14
      have kk2 : ∀ nn : Fam w14, nn.v.cell? ⟨B2, 0, none⟩ = some (.pointer (some ⟨k.b, 0, none⟩)) := Fam.cell d2
      have kkx : ∀ nn : Fam w14, nn.v.cell? ⟨k.b, 1, none⟩ = some (.pointer (some ⟨k.L.b, 0, none⟩)) := Fam.cell dx
      have ke0 : ∀ nn : Fam w14, nn.v.cell? ⟨B12, 0, none⟩ = some (.int .i64 n0) := Fam.cell (cell_of o14 0)
      have ke1 : ∀ nn : Fam w14, nn.v.cell? ⟨B12, 1, none⟩ = some (.int .i64 n1) := Fam.cell (cell_of o14 1)
      have ke2 : ∀ nn : Fam w14, nn.v.cell? ⟨B12, 2, none⟩ = some (.int .i64 n2) := Fam.cell (cell_of o14 2)
      clear hf14 hwk14 d2 dx o14 HWK13 HIX13 HO13 HWK12 HIX12 HO12
      gi_wp2_with fail
      refine wpIn_region_fam_tail 7 (by kernel_rfl) (by kernel_rfl) (by kernel_rfl) ?_
      simp only [List.take_succ_cons, List.take_zero, List.drop_succ_cons, List.drop_zero]
      repeat (go_big_quiet_step (fail))
      refine wpQuiet_nil ?_
      rintro w15 ⟨⟨w15, hf15⟩, rfl⟩
      have HF15 := hid hf15
      have HIX15 := hid (HIX14.out.no hf15)
      have HWK15 := hid (HWK14.out.fr hf15 (fun h => h))
      clear hf15 kk2 kkx ke0 ke1 ke2
      gi_wp2_with fail
      refine ⟨trivial, CallsIn.inRound l' (callsIn_wide.2 ((set_calls HIX15.out (a1 : Nat) (a2 : Nat) ⟨n0, n1, n2⟩).mono ?_))⟩
      rintro e w16 ⟨rfl, hm16, hf16⟩
      rw [HSTEP.out] at hm16
      have HM16 := hid hm16
      have HF16 := hid hf16
      clear hm16 hf16
      gi_wp2
      all_goals
        have g1 : Fr (fun j => j = B8) W w14 := ((F12.out.trans HF13.out).no (F := fun j => j = B8)).trans HF14.out
        have g2 : Fr (fun j => j = k.L.b ∨ j = B8) W w16 := (g1.mono (fun j _ h => .inr h)).trans (((HF15.out.no (F := One k.L.b)).trans HF16.out).mono (fun j _ h => .inl h))
        have g3 : Fr (fun j => j = k.L.b ∨ j = B8 ∨ W0.heap.size ≤ j) W w16 := g2.mono (fun j _ h => h.elim .inl (fun h => .inr (.inl h)))
        refine ⟨keepsFrom_fr (B := W0.heap.size) g2 (fun j h => by rcases h with h | h <;> omega), ⟨g3, fun _ => ⟨_, HM16.out, rfl, rfl⟩⟩, HM16.out, ?_, HFR.out.trans g3⟩
        rw [HQC.out, HQW.out, HQT.out]
        exact HWK15.out.fr HF16.out (fun (e : B8 = k.L.b) => by omega)
  case done =>
    rintro D1 xs W hD1 rfl ⟨hix, hwk, hfr⟩ hKD1
    have hpa := HOK.out.part_all G hlv
    have hcC := HOK.out.cntL_all G qCame hlv
    have hcW := HOK.out.cntL_all G qWent hlv
    have hcT := HOK.out.cntL_all G qTurn hlv
    rw [hvb] at hpa hcC hcW hcT
    rw [hpa] at hix
    rw [hcC, hcW, hcT] at hwk
    obtain ⟨tc, htc⟩ : ∃ c, sumN (K.x.tal G v qCame) K.x.n = c := ⟨_, rfl⟩
    obtain ⟨tw, htw⟩ : ∃ c, sumN (K.x.tal G v qWent) K.x.n = c := ⟨_, rfl⟩
    obtain ⟨tt, htt⟩ : ∃ c, sumN (K.x.tal G v qTurn) K.x.n = c := ⟨_, rfl⟩
    rw [htc, htw, htt] at hwk
    have HTC := hid (show (K.work G).v = v ∧ (K.work G).c = tc ∧ (K.work G).w = tw ∧ (K.work G).t = tt from by
      have e := HV.out
      refine ⟨e, ?_, ?_, ?_⟩
      · show sumN (K.x.tal G K.v qCame) K.x.n = tc; rw [e]; exact htc
      · show sumN (K.x.tal G K.v qWent) K.x.n = tw; rw [e]; exact htw
      · show sumN (K.x.tal G K.v qTurn) K.x.n = tt; rw [e]; exact htt)
    obtain ⟨y, hy⟩ : ∃ y, K.x.redo G v = y := ⟨_, rfl⟩
    rw [hy] at hix
    have hyG : K.y G = y := by unfold Kp.y; rw [HV.out, hy]
    have hyn : y.n = K.x.n ∧ y.rk = K.x.rk ∧ y.by_ = K.x.by_ := by rw [← hy]; exact ⟨rfl, rfl, rfl⟩
    have hmvE : ∀ z, K.mv G z ↔ y.Mv (v : Nat) C (y.starB v) z := fun z => by
      show (K.y G).Mv (K.v : Nat) (K.x.starB K.v) ((K.y G).starB K.v) z ↔ _
      rw [hyG, HV.out, show K.x.starB v = C from HCC.out]
    have hmv24 : ∀ z, K.mv G z → z < K.x.n := fun z hz => (H.out.ok.mv_up HWT.out hz).1
    obtain ⟨s, hs⟩ := exists_setOf (K.mv G) (fun z hz => Nat.lt_of_lt_of_le (hmv24 z hz) hxn24)
    have hsD := hs.congr hmvE
    have wfD : Wf (y.starB v) := hix.ok.starWf (v : Nat)
    have HS := hid hs
    have HM24 := hid hmv24
    have HYG := hid hyG
    have HYN := hid hyn
    have HIX := hid hix
    have HWK := hid hwk
    have HFR := hid hfr
    obtain ⟨Y, hY⟩ : ∃ Y, (cellsR 144 (y.starB v)).toArray = Y := ⟨_, rfl⟩
    have hst : ∀ n : Fam W, Calls Tryz.prog 147 #[.pointer (some ⟨k.L.b, 0, none⟩), .int .i64 (v : Nat)] n.v fun e w' => e = .returned (.agg Y) ∧ Fr No n.v w' := fun n => by
      rw [← hY]; exact star_calls (HIX.out.no n.h) (v : Nat)
    have hmvc : ∀ n : Fam W, Calls Tryz.prog 150 #[.pointer (some ⟨k.L.b, 0, none⟩), .int .i64 (v : Nat), .agg Z.toArray, .agg Y] n.v fun e w' => e = .returned (.int .u64 (s : Nat)) ∧ Fr No n.v w' := fun n => by
      rw [← hY, ← HZ.out]
      exact moves_canon (HIX.out.no n.h) (v : Nat) C (y.starB v) WFC.out wfD hsD
    have d2 := hfr.cell_some b20 (show ¬ (B2 = k.L.b ∨ B2 = B8 ∨ W0.heap.size ≤ B2) by omega)
    have dx := hfr.cell_some cx0 (show ¬ (k.b = k.L.b ∨ k.b = B8 ∨ W0.heap.size ≤ k.b) by have h9 : k.b ≠ k.L.b := H0.out.s3.2; omega)
    have hs9 := HS0.out.fr hfr (show ¬ (B9 = k.L.b ∨ B9 = B8 ∨ W0.heap.size ≤ B9) by omega)
    have HS9 := hid hs9
    have hld : ∀ n : Fam W, (Instr.loadAt 229 (.pointer (some ⟨B9, 0, none⟩))).run Tryz.prog n.v = .ok (.agg Z.toArray) n.v := fun n => by
      rw [← HZ.out]; exact run_loadAt_mid n.v B9 0 229 _ _ (HS9.out.fr n.h (fun h => h)).range hd1 rfl (by rw [hi1, cellsR_len])
    have kk2 : ∀ nn : Fam W, nn.v.cell? ⟨B2, 0, none⟩ = some (.pointer (some ⟨k.b, 0, none⟩)) := Fam.cell d2
    have kkx : ∀ nn : Fam W, nn.v.cell? ⟨k.b, 1, none⟩ = some (.pointer (some ⟨k.L.b, 0, none⟩)) := Fam.cell dx
    have lW := hfr.size
    have HK1 := hid hKD1
    clear hpa hcC hcW hcT htc htw htt hy hyG hyn hmvE hmv24 hs hsD wfD hix hwk hfr hY hd1 hi1 hs9 hKD1 cx0 b30
    go_wp2_with fail
    refine wp_region_fam_tail 13 (by kernel_rfl) (by kernel_rfl) ?_
    simp only [List.take_succ_cons, List.take_zero, List.drop_succ_cons, List.drop_zero]
    iterate 5 (go_big_quiet_step (fail))
    go_big_quiet_want
    refine quiet_load 229 (.tmp 9) rfl (.pointer (some ⟨B9, 0, none⟩)) (.agg Z.toArray) rfl (by rintro w' ⟨n, rfl⟩; exact hld n) ?_
    simp only [Act.put, List.setIfInBounds_toArray, List.set_cons_zero, List.set_cons_succ]
    go_big_quiet_on
    repeat (go_big_quiet_step (first | exact Calls.fam (hst _) | exact Calls.fam (hmvc _)))
    refine wpQuiet_nil ?_
    rintro w17 ⟨⟨w17, hf17⟩, rfl⟩
    clear hst hmvc hld kk2 kkx
    go_wp2_with fail
    refine (sall_calls s _).mono ?_
    rintro e W1 ⟨rfl, hf18, hlt18, hc18⟩
    have f1 := hf17.trans hf18
    have l17 := hf17.size
    have l18 := hf18.size
    obtain ⟨Bs, hBs⟩ : ∃ B, w17.heap.size = B := ⟨_, rfl⟩
    rw [hBs] at l17 l18 hlt18 hc18 ⊢
    have e2 := f1.cell_some d2 (fun h => h)
    have q9 : k.Q.b ≠ k.L.b ∧ k.Q.b ≠ k.L.br ∧ k.Q.b ≠ k.L.bb ∧ k.Q.b ≠ 0 := H0.out.s1
    have q10 : k.L.b ≠ k.Q.qr ∧ k.L.b ≠ k.Q.qy ∧ k.L.b ≠ 1 := H0.out.s2
    have q11 : k.b ≠ k.Q.b ∧ k.b ≠ k.L.b := H0.out.s3
    have q12 := H.out.q.hr
    have q13 := H.out.q.hy
    have q14 := H.out.q.tz.lt
    have q15 := H.out.q.nz
    have hq1 : QMem W1 k.Q K.x.n K.x.rk K.x.by_ K.d1 := (H0.out.q.fr HFR.out (show ¬ (k.Q.b = k.L.b ∨ k.Q.b = B8 ∨ W0.heap.size ≤ k.Q.b) by omega) (show ¬ (k.Q.qr = k.L.b ∨ k.Q.qr = B8 ∨ W0.heap.size ≤ k.Q.qr) by omega) (show ¬ (k.Q.qy = k.L.b ∨ k.Q.qy = B8 ∨ W0.heap.size ≤ k.Q.qy) by omega) (show ¬ (1 = k.L.b ∨ 1 = B8 ∨ W0.heap.size ≤ 1) by omega)).no f1
    have HQ1 := hid hq1
    have HIX1 := hid (HIX.out.no f1)
    have HWK1 := hid (HWK.out.fr f1 (fun h => h))
    have HK2 := hid ((f1.block _ (heap_lt HK1.out) (fun h => h)).trans HK1.out)
    have cq1 := f1.cell_some (HFR.out.cell_some H0.out.cq (show ¬ (k.b = k.L.b ∨ k.b = B8 ∨ W0.heap.size ≤ k.b) by omega)) (fun h => h)
    have HO1 := hid ((f1.block _ (heap_lt ((HFR.out.block _ (heap_lt HO0.out) (show ¬ (B2 + 1 + 1 = k.L.b ∨ B2 + 1 + 1 = B8 ∨ W0.heap.size ≤ B2 + 1 + 1) by omega)).trans HO0.out)) (fun h => h)).trans ((HFR.out.block _ (heap_lt HO0.out) (show ¬ (B2 + 1 + 1 = k.L.b ∨ B2 + 1 + 1 = B8 ∨ W0.heap.size ≤ B2 + 1 + 1) by omega)).trans HO0.out))
    have F1 := hid (HFR.out.trans (f1.no (F := fun j => j = k.L.b ∨ j = B8 ∨ W0.heap.size ≤ j)))
    have HTZ1 := hid hq1.tz
    have HC18 := hid hc18
    have lD1 := heap_lt HK1.out
    have hs24 := HS.out.lt
    have HOD := hid H.out.ok.ok.od
    clear hf17 hf18 f1 d2 dx hq1 hc18 hBs HIX HWK
    go_wp2
    refine (wpIn_wide (n := 7)).1 ?_
    refine wpIn_rangeFunc_ownS rfl (by omega) (gf := 205) (lb := #[.pointer (some ⟨Bs, 0, none⟩)]) rfl trivial (enters_of Tryz.func205 (by kernel_rfl) rfl)
      (sall1_any s hs24 6 (by omega) Bs (fun j => j = k.Q.b ∨ j = B8 ∨ W1.heap.size ≤ j) (by omega) W1 HTZ1.out HC18.out)
      (fun h k => Fr.trans h k) (fun W l o o' hl _ _ _ => fr_putObj W l o' (.inr (.inr hl))) (fun W => Fr.refl _ W) (Below.refl _ _) (fun _ => rfl)
      (fun pre W' => QMem W' k.Q K.x.n K.x.rk K.x.by_ (fun z => K.d1 z || pre.any fun el => decide (z = el.1)) ∧ (∃ m : Nat, WkAt W' B8 v tc tw tt m ∧ SetOf m (fun z => K.d1 z = false ∧ (pre.any fun el => decide (z = el.1)) = true)) ∧ Fr (fun j => j = k.Q.b ∨ j = B8 ∨ W1.heap.size ≤ j) W1 W')
      (fun c xs W' => False)
      (fun s A B' row hs hg hr => by
        obtain ⟨r1, ⟨m, r2, r4⟩, r3⟩ := hs
        have h2 : Fr (fun j => W1.heap.size ≤ j) A B' := ⟨hg.os, hg.tape, hg.output, hg.size, fun j hj hnk => hg.block j hj (fun e => hnk (hr j e.symm).1)⟩
        exact ⟨r1.fr h2 (by omega) (by omega) (by omega) (by omega), ⟨m, r2.fr h2 (by omega), r4⟩, ownFrom_fr _ W1 s A B' row r3 hg hr⟩)
      (fun c s A B' row hs hg hr => hs)
      ⟨HQ1.out.congr (fun r hr => by simp), ⟨0, HWK1.out, SetOf.nil (fun z h => by simp at h)⟩, Fr.refl _ _⟩
      (fun el T => T.setIfInBounds 13 (.int .i64 (el.1 : Nat)))
      ?assign2 ?body2 ?done2 ?stop2
    case stop2 => rintro D' c xs W' hD hpre hix hK; exact hix.elim
    case assign2 =>
      intro l el W' K' hK
      simp only [sbEnc]
      gi_wp2
      simpa [sbEnc] using hK
    case body2 =>
      rintro l' pre el W' hl hloop ⟨hq, ⟨m, hwk, hm⟩, hf⟩ hlen
      have hz := HM24.out el.1 ((HS.out.bit _).1 el.2)
      obtain ⟨z, hzE⟩ : ∃ z, el.1 = z := ⟨_, rfl⟩
      have HZE := hid hzE
      rw [hzE] at hz
      have hsw := hf.size
      have c2 := hf.cell_some e2 (show ¬ (B2 = k.Q.b ∨ B2 = B8 ∨ W1.heap.size ≤ B2) by have := cell_lt e2; omega)
      have c4 := hf.cell_some cq1 (show ¬ (k.b = k.Q.b ∨ k.b = B8 ∨ W1.heap.size ≤ k.b) by have := cell_lt cq1; omega)
      have hany : ∀ z', ((pre ++ [el]).any fun el => decide (z' = el.1)) = ((pre.any fun el => decide (z' = el.1)) || decide (z' = z)) := fun z' => by
        rw [List.any_append, List.any_cons, List.any_nil, Bool.or_false, HZE.out]
      have HANY := hid hany
      have HQ := hid hq
      have HWK := hid hwk
      have HM := hid hm
      have HF := hid hf
      have hput := qput_calls HOD.out HQ.out z hz
      have lB8 := hwk.lt
      clear hq hwk hm hf hany hloop HS HM24
      simp only [sbEnc, hzE, List.zip_toArray, List.foldl_toArray, List.zip_cons_cons, List.zip_nil_right, List.zip_nil_left, List.foldl_cons, List.foldl_nil, List.setIfInBounds_toArray, List.set_cons_zero, List.set_cons_succ]
      cases hd : (K.d1 z || pre.any fun el => decide (z = el.1)) with
      | true =>
        have hd2 : (if (fun z => K.d1 z || pre.any fun el => decide (z = el.1)) z = true then (5 : Int) else 0) = 5 := if_pos hd
        rw [hd2] at hput
        gi_wp2_with fail
        refine ⟨trivial, CallsIn.inRound l' (callsIn_wide.2 (hput.mono ?_))⟩
        rintro e w2 ⟨rfl, hf2, hq2⟩
        gi_wp2
        all_goals
          have g3 : Fr (fun j => j = k.Q.b ∨ j = B8 ∨ W1.heap.size ≤ j) W' w2 := hf2.mono (fun j _ h => .inl h)
          refine ⟨keepsFrom_fr (B := W1.heap.size) hf2 (fun j (h : j = k.Q.b) => by omega), g3, hq2.congr (fun r hr => ?_), ⟨m, HWK.out.fr hf2 (fun (e : B8 = k.Q.b) => by omega), HM.out.congr fun z' => ?_⟩, HF.out.trans g3⟩
          · show ((K.d1 _ || _) || _) = (K.d1 _ || _)
            rw [HANY.out, Bool.or_assoc]
          · rw [HANY.out]
            constructor
            · rintro ⟨h1, h2⟩
              exact ⟨h1, by rw [h2]; rfl⟩
            · rintro ⟨h1, h2⟩
              refine ⟨h1, ?_⟩
              rw [Bool.or_eq_true] at h2
              rcases h2 with h2 | h2
              · exact h2
              · have e := of_decide_eq_true h2
                subst e
                rw [h1] at hd
                simpa using hd
      | false =>
        have hd2 : (if (fun z => K.d1 z || pre.any fun el => decide (z = el.1)) z = true then (5 : Int) else 0) = 0 := if_neg (fun h => by rw [show (K.d1 z || pre.any fun el => decide (z = el.1)) = true from h] at hd; cases hd)
        rw [hd2] at hput
        rw [Bool.or_eq_false_iff] at hd
        gi_wp2_with fail
        refine ⟨trivial, CallsIn.inRound l' (callsIn_wide.2 (hput.mono ?_))⟩
        rintro e w2 ⟨rfl, hf2, hq2⟩
        have hwk2 := HWK.out.fr hf2 (fun (e : B8 = k.Q.b) => by omega)
        have HWK2 := hid hwk2
        have c44 := hwk2.c4
        clear hwk2
        gi_wp2_with fail
        refine ⟨trivial, CallsIn.inRound l' (callsIn_wide.2 ((with_calls m z HM.out.lt (by omega) _).mono ?_))⟩
        rintro e w3 ⟨rfl, hf3⟩
        have c45 := (HWK2.out.fr hf3 (fun h => h)).c4
        have z45 := Blk.frozen (HWK2.out.fr hf3 (fun h => h)) 4
        gi_wp2
        all_goals
          have g2 : Fr (fun j => j = k.Q.b ∨ j = B8) W' (w3.setCell ⟨B8, 4, none⟩ (.int .u64 ((m ||| 2 ^ z : Nat) : Int))) := ((hf2.trans (hf3.no (F := One k.Q.b))).mono (fun j _ h => .inl h)).trans (((Fr.refl (One B8) w3).set1 4 _).mono (fun j _ h => .inr h))
          have g3 : Fr (fun j => j = k.Q.b ∨ j = B8 ∨ W1.heap.size ≤ j) W' (w3.setCell ⟨B8, 4, none⟩ (.int .u64 ((m ||| 2 ^ z : Nat) : Int))) := g2.mono (fun j _ h => h.elim .inl (fun h => .inr (.inl h)))
          refine ⟨keepsFrom_fr (B := W1.heap.size) g2 (fun j h => by rcases h with h | h <;> omega), g3, ((hq2.no hf3).fr ((Fr.refl (One B8) w3).set1 4 _) (fun (e : k.Q.b = B8) => by omega) (fun (e : k.Q.qr = B8) => by omega) (fun (e : k.Q.qy = B8) => by omega) (fun (e : _ = B8) => by omega)).congr (fun r hr => ?_), ⟨m ||| 2 ^ z, (HWK2.out.fr hf3 (fun h => h)).marked _, HM.out.or (by omega) fun z' => ?_⟩, HF.out.trans g3⟩
          · show ((K.d1 _ || _) || _) = (K.d1 _ || _)
            rw [HANY.out, Bool.or_assoc]
          · rw [HANY.out, Bool.or_eq_true, decide_eq_true_eq]
            constructor
            · rintro ⟨h1, h2 | h2⟩
              · exact .inl ⟨h1, h2⟩
              · exact .inr h2
            · rintro (⟨h1, h2⟩ | h2)
              · exact ⟨h1, .inl h2⟩
              · subst h2; exact ⟨hd.1, .inr rfl⟩
    case done2 =>
      rintro D2 ys W' hD2 rfl ⟨hq, ⟨m, hwk, hm⟩, hfr⟩ hKD2
      have hany : ∀ z, ((sbs s).any fun el => decide (z = el.1)) = K.mvB G z := fun z => by
        rw [Bool.eq_iff_iff, List.any_eq_true, K.mvB_iff]
        constructor
        · rintro ⟨el, _, he⟩
          rw [of_decide_eq_true he]
          exact (HS.out.bit _).1 el.2
        · intro hz
          exact ⟨⟨z, (HS.out.bit z).2 hz⟩, (sbTo_mem s 24 _).2 (Nat.lt_of_lt_of_le (HM24.out z hz) hxn24), by simp⟩
      simp only [hany] at hq hm
      have hmW : SetOf m (fun z => (K.work G).m z = true) := hm.congr fun z => by
        show _ ↔ (K.mvB G z && !K.d1 z) = true
        rw [Bool.and_eq_true, Bool.not_eq_true']
        exact and_comm
      have f2 := e2
      have cw0 : W'.cell? ⟨B8, 0, none⟩ = some (.int .i64 (v : Nat)) := Blk.cell hwk (i := 0) (by omega)
      have cw1 := hwk.c1
      have cw2 := hwk.c2
      have cw3 := hwk.c3
      have cw4 := hwk.c4
      have ho := (hfr.block _ (heap_lt HO1.out) (show ¬ (B2 + 1 + 1 = k.Q.b ∨ B2 + 1 + 1 = B8 ∨ W1.heap.size ≤ B2 + 1 + 1) by have := heap_lt HO1.out; omega)).trans HO1.out
      have HO2 := hid ho
      have lW1 := hfr.size
      have lO := heap_lt HO1.out
      have HQF := hid hq
      have HXF := hid (HIX1.out.fr hfr (show ¬ (k.L.b = k.Q.b ∨ k.L.b = B8 ∨ W1.heap.size ≤ k.L.b) by omega) (show ¬ (k.L.br = k.Q.b ∨ k.L.br = B8 ∨ W1.heap.size ≤ k.L.br) by omega) (show ¬ (k.L.bb = k.Q.b ∨ k.L.bb = B8 ∨ W1.heap.size ≤ k.L.bb) by omega) (show ¬ (_ = k.Q.b ∨ _ = B8 ∨ W1.heap.size ≤ _) by omega))
      have hmk : Marks (B2 + 1 + 1 + 1) [D2, D1] W' := by
        refine Marks.cons (N := W1.heap.size) (Marks.cons (N := W0.heap.size) (Marks.nil _ _) (by simp) hD1 (by omega) ((hfr.block _ (heap_lt HK2.out) (show ¬ (D1 = k.Q.b ∨ D1 = B8 ∨ W1.heap.size ≤ D1) by have := heap_lt HK2.out; omega)).trans HK2.out)) (fun x hx => ?_) hD2 (by omega) hKD2
        rw [List.mem_singleton] at hx; rw [hx]; exact heap_lt HK2.out
      have HMK := hid hmk
      have hFT : Fr (fun j => k.own j ∨ B2 ≤ j) W3 W' := by
        have f1 : Fr (fun j => k.own j ∨ B2 ≤ j) W3 W0 := F0.out.mono (fun j _ h => .inl (.inl h))
        have f2 : Fr (fun j => k.own j ∨ B2 ≤ j) W0 W1 := F1.out.mono (fun j _ h => by
          rcases h with h | h | h
          · exact .inl (.inr h)
          · exact .inr (by omega)
          · exact .inr (by omega))
        have f3 : Fr (fun j => k.own j ∨ B2 ≤ j) W1 W' := hfr.mono (fun j _ h => by
          rcases h with h | h | h
          · exact .inl (.inl h)
          · exact .inr (by omega)
          · exact .inr (by omega))
        exact (f1.trans f2).trans f3
      have HFT := hid hFT
      clear hq hm hwk hfr ho hmk hFT hKD2 hany
      obtain ⟨p1, p2, p3, p4⟩ := own_no (Fr.refl No W') (B2 + 1 + 1) HO2.out
      go_wp2
      have q := heap_set (heap_set (heap_set (heap_set (heap_set HO2.out 0 (.int .i64 (v : Nat))) 1 (.int .i64 (tc : Nat))) 2 (.int .i64 (tw : Nat))) 3 (.int .i64 (tt : Nat))) 4 (.int .u64 (m : Nat))
      have hfz : Fr (One (B2 + 1 + 1)) W' (((((W'.setCell ⟨B2 + 1 + 1, 0, none⟩ (.int .i64 (v : Nat))).setCell ⟨B2 + 1 + 1, 1, none⟩ (.int .i64 (tc : Nat))).setCell ⟨B2 + 1 + 1, 2, none⟩ (.int .i64 (tw : Nat))).setCell ⟨B2 + 1 + 1, 3, none⟩ (.int .i64 (tt : Nat))).setCell ⟨B2 + 1 + 1, 4, none⟩ (.int .u64 (m : Nat))) := (((((Fr.refl _ W').set1 0 _).set1 1 _).set1 2 _).set1 3 _).set1 4 _
      generalize (((((W'.setCell ⟨B2 + 1 + 1, 0, none⟩ (.int .i64 (v : Nat))).setCell ⟨B2 + 1 + 1, 1, none⟩ (.int .i64 (tc : Nat))).setCell ⟨B2 + 1 + 1, 2, none⟩ (.int .i64 (tw : Nat))).setCell ⟨B2 + 1 + 1, 3, none⟩ (.int .i64 (tt : Nat))).setCell ⟨B2 + 1 + 1, 4, none⟩ (.int .u64 (m : Nat))) = W5 at q hfz ⊢
      refine leaves_marks [D2, D1] W5 (n0 := B2 + 1 + 1 + 1) (HMK.out.fr hfz (fun j o (e : j = B2 + 1 + 1) ho => by subst e; rw [HO2.out] at ho; injection ho with ho; subst ho; rfl)) fun W6 hW6 => ?_
      have hds : ∀ j, j ∈ [D2, D1] → B2 + 1 + 1 < j := fun j hj => by
        simp only [List.mem_cons, List.not_mem_nil, or_false] at hj
        rcases hj with rfl | rfl <;> omega
      have q6 := cell_of ((hW6.block _ (heap_lt q) (fun hm => by have := hds _ hm; omega)).trans q)
      have hf6 : Fr (fun j => B2 ≤ j) W' W6 := (hfz.mono (fun j _ (e : j = B2 + 1 + 1) => by omega)).trans (hW6.mono (fun j _ h => by have := hds j h; omega))
      have hz1 := H.out.x.gn.lt
      have hz2 := H.out.x.hr.1
      have hz3 := H.out.x.hb.1
      have hown : Fr k.own w W6 := ((F3.out.no (F := k.own)).trans' HFT.out (fun j hj h => h.elim id (fun h => by omega))).trans' hf6 (fun j hj h => by omega)
      refine ⟨.tuple #[.agg #[.int .i64 (v : Nat), .int .i64 (tc : Nat), .int .i64 (tw : Nat), .int .i64 (tt : Nat), .int .u64 (m : Nat)], .bool true], by simp [results, Tryz.results80, go_sem, q6 0, q6 1, q6 2, q6 3, q6 4], m, ?_, hmW, hown, H.out.ok.step HWT.out, (H3.out.c.fr HFT.out (show ¬ ((k.b = k.Q.b ∨ k.b = k.L.b) ∨ B2 ≤ k.b) by omega)).fr hf6 (by omega), HQF.out.fr hf6 (by omega) (by omega) (by omega) (by omega), ?_, H0.out.cap, H0.out.s1, H0.out.s2, H0.out.s3⟩
      · obtain ⟨h1, h2, h3, h4⟩ := HTC.out
        rw [h1, h2, h3, h4]; rfl
      · show IxMem W6 k.L (K.y G)
        rw [HYG.out]
        exact HXF.out.fr hf6 (by omega) (by omega) (by omega) (by omega)

end Go.Proofs.YtoepbhacpidcbaaGreatDoor
