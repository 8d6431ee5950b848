/- What moves with a vertex: the program's; walked. -/

import Derived.Test.YtoepbhacpidcbaaGreatDoorQBase
import Derived.Test.YtoepbhacpidcbaaGreatDoorQIdx
import Derived.Test.YtoepbhacpidcbaaGreatDoorQPerm
import Derived.Test.YtoepbhacpidcbaaGreatDoorQIdxB
import Derived.Test.YtoepbhacpidcbaaGreatDoorQRef
import Derived.Test.YtoepbhacpidcbaaGreatDoorQUnref
import Derived.Test.YtoepbhacpidcbaaGreatDoorQItr
import Derived.Test.YtoepbhacpidcbaaGreatDoorQUnE
import Derived.Test.YtoepbhacpidcbaaGreatDoorQDst
import Derived.Test.YtoepbhacpidcbaaGreatDoorQLnk
import Derived.Test.YtoepbhacpidcbaaGreatDoorQLks
import Derived.Test.YtoepbhacpidcbaaGreatDoorQMid
import Derived.Test.YtoepbhacpidcbaaGreatDoorQBig
import Derived.Test.YtoepbhacpidcbaaGreatDoorQCp2
import Derived.Test.YtoepbhacpidcbaaGreatDoorQGoes

set_option linter.unusedVariables false
set_option linter.unusedSimpArgs false
namespace Go.Proofs.YtoepbhacpidcbaaGreatDoor
open Go.RowKit Go.Shelf Go.Deep

attribute [local go_sem] Oper.semAt_some
attribute [local go_sem high] run_field0

theorem rowStar : IntRow Tryz.prog 4 229 (2 * (24 * 3)) := row2 rowEntries Tryz.underlying229 ⟨by decide, by decide⟩ ⟨rfl, rfl⟩ ⟨rfl, rfl⟩ (by kernel_rfl)
theorem eql144 (C D : Nat → Int) (hC : Wf C) (hD : Wf D) (r : Bool) (hr : r = true ↔ ∀ i, i < 144 → C i = D i) (w' : World) :
    (binOp .eql 229 (.agg (cellsR 144 C).toArray) (.agg (cellsR 144 D).toArray)).run Tryz.prog w' = .ok (.bool r) w' := by
  obtain ⟨r', hrun', hiff'⟩ := run_equal_row (P := Tryz.prog) w' (d := 9995) (m := 5) rowStar (by kernel_rfl) (by rfl) (by kernel_rfl) hC hD
  have e : r' = r := by rw [Bool.eq_iff_iff, hiff', hr]
  rw [e] at hrun'
  have h3 : (Op.equal 229 (.agg (cellsR 144 C).toArray) (.agg (cellsR 144 D).toArray)).run Tryz.prog w' = .ok r w' := hrun'
  simp [binOp, Sem.run_bind, h3]

/-- What has moved, when some pairs have been gone through. -/
def Ix.MvL (x : Ix) (lo : Nat) (C D : Nat → Int) (l : List (x.TwEl lo)) (i : Nat) : Prop :=
  ∃ el ∈ l, x.Hot C D (x.by_ el.1.1) (x.by_ el.1.2) ∧ x.low (x.by_ el.1.1 : Nat) (x.by_ el.1.2 : Nat) = (i : Nat)
theorem Ix.MvL_snoc (x : Ix) (lo : Nat) (C D : Nat → Int) (l : List (x.TwEl lo)) (el : x.TwEl lo) (i : Nat) :
    x.MvL lo C D (l ++ [el]) i ↔ (x.MvL lo C D l i ∨ (x.Hot C D (x.by_ el.1.1) (x.by_ el.1.2) ∧ x.low (x.by_ el.1.1 : Nat) (x.by_ el.1.2 : Nat) = (i : Nat))) := by
  unfold Ix.MvL
  constructor
  · rintro ⟨e, he, h⟩
    rcases List.mem_append.1 he with h1 | h1
    · exact .inl ⟨e, h1, h⟩
    · obtain rfl := List.mem_singleton.1 h1
      exact .inr h
  · rintro (⟨e, he, h⟩ | h)
    · exact ⟨e, List.mem_append_left _ he, h⟩
    · exact ⟨el, by simp, h⟩
theorem Ix.Ok.MvL_all {x : Ix} (h : x.Ok) (v : Int) (C D : Nat → Int) (i : Nat) : x.MvL _ C D (x.twos v) i ↔ x.Mv v C D i := by
  unfold Ix.MvL Ix.Mv Ix.twos
  cases hv : x.vertex v with
  | false => simp
  | true =>
    simp only [if_true, true_and]
    constructor
    · rintro ⟨el, hel, hh, hl⟩
      obtain ⟨p1, p2, p3, p4, p5⟩ := el.2
      have a := h.by_ _ p2
      have b := h.by_ _ p4
      exact ⟨_, _, a.1, b.1, fun e => p5 (by rw [← a.2, ← b.2, e]), by rw [a.2]; exact p1, by rw [b.2]; exact p3, hh, hl⟩
    · rintro ⟨u, w, hu, hw, hne, h1, h2, hh, hl⟩
      have a := h.rk u hu
      have b := h.rk w hw
      refine ⟨⟨(x.rk u, x.rk w), h1, a.1, h2, b.1, fun e => hne (h.inj hu hw e)⟩, (x.tw_mem _ _ _).2 a.1, ?_⟩
      show x.Hot C D (x.by_ (x.rk u)) (x.by_ (x.rk w)) ∧ x.low (x.by_ (x.rk u) : Nat) (x.by_ (x.rk w) : Nat) = (i : Nat)
      rw [a.2, b.2]
      exact ⟨hh, hl⟩
theorem Ix.Mv_same {x : Ix} (h : x.Ok) (v : Int) (C D : Nat → Int) (he : ∀ i, i < 144 → C i = D i) (i : Nat) : ¬ x.Mv v C D i := by
  rintro ⟨_, u, w, hu, hw, _, _, _, hh, _⟩
  have hn := h.n2
  apply hh.1
  unfold sumS
  rw [he _ (by omega), he _ (by omega)]

set_option maxRecDepth 100000 in
set_option maxHeartbeats 4000000 in
theorem moves_calls {x : Ix} {w : World} {L : IxLoc} (h : IxMem w L x) (v : Int) (C D : Nat → Int) (hC : Wf C) (hD : Wf D) :
    Calls Tryz.prog 150 #[.pointer (some ⟨L.b, 0, none⟩), .int .i64 v, starV C, starV D] w fun e w' => ∃ s : Nat, e = .returned (.int .u64 (s : Nat)) ∧ SetOf s (x.Mv v C D) ∧ Fr No w w' := by
  have hd1 : Tryz.prog.underlying 229 = some _ := Tryz.underlying229
  have hi1 : (Tryz.prog.info? 229).map (·.size) = some 144 := by kernel_rfl
  have heg : Tryz.prog.eqGuardType Tryz.prog.depth 229 = false := by kernel_rfl
  have hn2 := h.ok.n2
  have zl1 := h.lt
  have zl2 := h.hr.1
  have zl3 := h.hb.1
  have zl4 := h.gn.lt
  obtain ⟨r, hr⟩ : ∃ r : Bool, r = true ↔ ∀ i, i < 144 → C i = D i := by
    by_cases hh : ∀ i, i < 144 → C i = D i
    · exact ⟨true, by simpa using hh⟩
    · exact ⟨false, by simpa using hh⟩
  have hq := eql144 C D hC hD r hr
  have f0 := (Fr.refl No w).alloc (.cells #[.pointer (some ⟨L.b, 0, none⟩)] 26)
  have s1 := StarAt.lit (w.alloc (.cells #[.pointer (some ⟨L.b, 0, none⟩)] 26)) 229 C
  have s2 := StarAt.lit ((w.alloc (.cells #[.pointer (some ⟨L.b, 0, none⟩)] 26)).alloc (.cells (cellsR 144 C).toArray 229)) 229 D
  have hl1 := cellsR_len 144 C
  have hl2 := cellsR_len 144 D
  unfold starV
  obtain ⟨X, hX⟩ : ∃ X, cellsR 144 C = X := ⟨_, rfl⟩
  obtain ⟨Y, hY⟩ : ∃ Y, cellsR 144 D = Y := ⟨_, rfl⟩
  have hrx : ∀ {W : World} {b : Nat}, StarAt W b 229 C → W.rangeAt b 0 X := fun h => by rw [← hX]; exact h.range
  have hry : ∀ {W : World} {b : Nat}, StarAt W b 229 D → W.rangeAt b 0 Y := fun h => by rw [← hY]; exact h.range
  rw [hX] at s1 s2 hl1 hq ⊢
  rw [hY] at s2 hl2 hq ⊢
  rw [World.size_alloc] at s1
  rw [World.size_alloc, World.size_alloc] at s2
  have hw1 : ∃ W1, ((((w.alloc (.cells #[.pointer (some ⟨L.b, 0, none⟩)] 26)).alloc (.cells X.toArray 229)).alloc (.cells Y.toArray 229)).alloc (.cells #[.int .u64 0] 70)) = W1 := ⟨_, rfl⟩
  obtain ⟨W1, hW1⟩ := hw1
  have F1 : Fr No w W1 := by rw [← hW1]; exact (((f0.alloc _).alloc _).alloc _)
  have SC : StarAt W1 (w.heap.size + 1) 229 C := by rw [← hW1]; exact Blk.alloc (Blk.alloc s1 _) _
  have SD : StarAt W1 (w.heap.size + 1 + 1) 229 D := by rw [← hW1]; exact Blk.alloc s2 _
  have cx : W1.cell? ⟨w.heap.size, 0, none⟩ = some (.pointer (some ⟨L.b, 0, none⟩)) := by rw [← hW1]; simp [go_sem]
  have co : W1.cell? ⟨w.heap.size + 1 + 1 + 1, 0, none⟩ = some (.int .u64 0) := by rw [← hW1]; simp [go_sem]
  have cof : W1.frozen? ⟨w.heap.size + 1 + 1 + 1, 0, none⟩ = false := by rw [← hW1]; simp [go_sem]
  have hs1 : W1.heap.size = w.heap.size + 1 + 1 + 1 + 1 := by rw [← hW1]; simp
  have H := hid h
  have HR := hid hr
  have HF1 := hid F1
  have HSC := hid SC
  have HSD := hid SD
  have hgx := hrx SC
  have hgy := hry SD
  clear h hX hY f0 s1 s2 hC hD hr hrx hry F1 SC SD
  refine (callsIn_wide (n := 7)).1 ?_
  refine callsIn_of_wp_marks Tryz.func150 rfl trivial ?_ rfl
  refine wpIn_wide.2 ?_
  simp only [Tryz.ntmps150, List.size_toArray, List.length_cons, List.length_nil, Nat.reduceAdd, Nat.reduceSub, Array.replicate_succ, Array.replicate_zero, List.push_toArray, List.append_toArray, List.nil_append, List.cons_append]
  go_upto_region 2 with fail
  clear hW1
  cases r with
  | true =>
    have he := HR.out.1 rfl
    have HE := hid he
    clear HR he
    go_wp2_with (first
      | (refine wpList_load_mid rfl 229 (.tmp 6) rfl (w.heap.size + 1) 0 rfl X _ hgx hd1 rfl (by rw [hi1, hl1]) ?_)
      | (refine wpList_load_mid rfl 229 (.tmp 7) rfl (w.heap.size + 1 + 1) 0 rfl Y _ hgy hd1 rfl (by rw [hi1, hl2]) ?_))
    exact ⟨.int .u64 (0 : Nat), by simp [results, Tryz.results150, go_sem], 0, rfl, SetOf.nil (Ix.Mv_same H.out.ok v C D HE.out), HF1.out⟩
  | false =>
    clear HR
    go_upto_region 4 with (first
      | (refine wpList_load_mid rfl 229 (.tmp 6) rfl (w.heap.size + 1) 0 rfl X _ hgx hd1 rfl (by rw [hi1, hl1]) ?_)
      | (refine wpList_load_mid rfl 229 (.tmp 7) rfl (w.heap.size + 1 + 1) 0 rfl Y _ hgy hd1 rfl (by rw [hi1, hl2]) ?_))
    clear hq hgx hgy heg
    go_wp2_with fail
    refine (twos_calls L.b v _).mono ?_
    rintro e W0 ⟨rfl, hW0⟩
    have f0 : Fr No W1 W0 := by rw [hW0]; exact ((Fr.refl No W1).alloc _).alloc _
    have cbx : W0.cell? ⟨W1.heap.size, 0, none⟩ = some (.pointer (some ⟨L.b, 0, none⟩)) := by rw [hW0]; simp [go_sem]
    have cbv : W0.cell? ⟨W1.heap.size + 1, 0, none⟩ = some (.int .i64 v) := by rw [hW0]; simp [go_sem]
    have hsz0 : W1.heap.size + 1 < W0.heap.size := by rw [hW0]; simp
    clear hW0
    have F0 := hid (HF1.out.trans f0)
    have HM0 := hid (H.out.no F0.out)
    have SC0 := hid (HSC.out.fr f0 (fun h => h))
    have SD0 := hid (HSD.out.fr f0 (fun h => h))
    have dx := f0.cell_some cx (fun h => h)
    have d0 := f0.cell_some co (fun h => h)
    have d1 := (f0.frozen (p := ⟨w.heap.size + 1 + 1 + 1, 0, none⟩) (by show w.heap.size + 1 + 1 + 1 < W1.heap.size; omega) (fun h => h)).trans cof
    have HDX := hid dx
    obtain ⟨B, hB⟩ : ∃ B, w.heap.size + 1 + 1 + 1 = B := ⟨_, rfl⟩
    rw [hB] at d0 d1 hs1 ⊢
    have hs1' : B < W1.heap.size := by omega
    clear hs1
    clear f0 HSC HSD cx co cof dx
    go_wp2
    refine (wpIn_wide (n := 7)).1 ?_
    refine wpIn_rangeFunc_ownH rfl (by omega) (gf := 223) (lb := #[.pointer (some ⟨W1.heap.size, 0, none⟩), .pointer (some ⟨W1.heap.size + 1, 0, none⟩)]) rfl trivial (enters_of Tryz.func223 (by kernel_rfl) rfl)
      (twos1_any (x := x) (L := L) 6 (by omega) (W1.heap.size) (W1.heap.size + 1) v (fun k => k = B ∨ W0.heap.size ≤ k) (by omega) (by omega) (by omega) (by omega) (by omega) (by omega) W0 HM0.out cbx cbv)
      (fun h k => Fr.trans h k) (fun W l' o o' hl _ _ _ => fr_putObj W l' o' (.inr hl)) (Below.refl _ _) (fun _ => rfl)
      (fun pre W => (∃ s : Nat, SetOf s (x.MvL _ C D pre) ∧ W.cell? ⟨B, 0, none⟩ = some (.int .u64 (s : Nat)) ∧ W.frozen? ⟨B, 0, none⟩ = false) ∧ Fr (fun k => k = B ∨ W0.heap.size ≤ k) W0 W)
      (fun c xs W => False)
      (fun s A B' row hs hg hr => by
        obtain ⟨⟨q, q1, q2, q3⟩, q4⟩ := hs
        exact ⟨⟨q, q1, cell_kept q2 hg (fun r e => (hr r e).2), (frozen_kept q2 hg (fun r e => (hr r e).2)).trans q3⟩, ownFrom_fr _ W0 s A B' row q4 hg hr⟩)
      (fun c s A B' row hs hg hr => hs)
      ⟨⟨0, SetOf.nil (fun i hi => by obtain ⟨el, hel, _⟩ := hi; cases hel), d0, d1⟩, Fr.refl _ _⟩
      (fun el a' W => a' = { tmps := #[.pointer (some ⟨L.b, 0, none⟩), .int .i64 v, .agg X.toArray, .agg Y.toArray, .pointer (some ⟨w.heap.size, 0, none⟩), undef, .pointer (some ⟨w.heap.size + 1, 0, none⟩), .pointer (some ⟨w.heap.size + 1 + 1, 0, none⟩), .int .u64 0, .pointer (some ⟨B, 0, none⟩), .int .i64 (x.by_ el.1.1 : Nat), .int .i64 (x.by_ el.1.2 : Nat), undef, undef, .agg X.toArray, .agg Y.toArray, .bool false, undef, .pointer (some ⟨L.b, 0, none⟩), .int .i64 v, .func (.func 223) #[] #[.pointer (some ⟨W1.heap.size, 0, none⟩), .pointer (some ⟨W1.heap.size + 1, 0, none⟩)], .int .i64 (x.by_ el.1.1 : Nat), .int .i64 (x.by_ el.1.2 : Nat), undef, undef, undef, undef, undef, undef, undef, undef, undef, undef, undef, undef, undef, undef, undef, undef, undef, undef, undef, undef, undef, undef, undef, undef, undef, undef, undef], defers := [] })
      (fun el a' s A B' row hs hg hr => hs)
      ?assign ?body ?done ?stop
    case stop => rintro D' c xs W hD hpre hix hK; exact hix.elim
    case assign =>
      rintro l' pre el W K ⟨hst, hfr⟩ hK
      have HK := hid hK
      have HFR := hid hfr
      have HST := hid hst
      clear hK hfr hst
      simp only [Ix.twEnc]
      gi_wp2
      exact HK.out _ _ ((KeepsOthers.refl _).from _) (Fr.refl _ _) ⟨HST.out, HFR.out⟩ rfl
    case done =>
      rintro Dd xs W hD hys ⟨⟨s, hset, k1, k2⟩, hfr⟩ hK
      subst hys
      have hfw : Fr No w W := F0.out.trans' hfr (fun i hi h => by omega)
      have hset2 := hset.congr (fun i => (HM0.out.ok).MvL_all v C D i)
      have HSET := hid hset2
      have HFW := hid hfw
      have HK := hid hK
      clear hset hset2 hfr hfw hK d0 d1 cbx cbv
      go_wp2
      have f4 : Fr (One Dd) W (W.putObj Dd (.deferred none)) := fr_putObj (F := One Dd) _ Dd _ rfl
      refine ⟨by simp, .inl ⟨_, _, rfl, run_takeDeferred HK.out, ?_⟩⟩
      exact ⟨.int .u64 (s : Nat), by simp [results, Tryz.results150, go_sem], s, rfl, HSET.out, HFW.out.trans' f4 (fun i hi (h : i = Dd) => by omega)⟩
    case body =>
      rintro l' pre el a' W hlp hloop ⟨⟨s, hset, k1, k2⟩, hfr⟩ rfl hlen
      obtain ⟨p1, p2, p3, p4, p5⟩ := el.2
      have ha := HM0.out.ok.by_ _ p2
      have hb := HM0.out.ok.by_ _ p4
      have hsn := fun i => x.MvL_snoc _ C D pre el i
      obtain ⟨z, hz⟩ : ∃ z, x.by_ el.1.1 = z := ⟨_, rfl⟩
      obtain ⟨y, hy⟩ : ∃ y, x.by_ el.1.2 = y := ⟨_, rfl⟩
      have hzy : z ≠ y := fun e => p5 (by rw [← ha.2, ← hb.2, hz, hy, e])
      rw [hz] at ha
      rw [hy] at hb
      rw [hz, hy] at hsn
      have HSN := hid hsn
      have HFR := hid hfr
      have HSET := hid hset
      have nF : ∀ k, k < W1.heap.size → k ≠ B → ¬ (k = B ∨ W0.heap.size ≤ k) := fun k h1 h2 h => by omega
      have HSCw := hid (SC0.out.fr hfr (nF _ (by omega) (by omega)))
      have HSDw := hid (SD0.out.fr hfr (nF _ (by omega) (by omega)))
      have dxw := hfr.cell_some HDX.out (nF w.heap.size (by omega) (by omega))
      have HMw := hid (HM0.out.fr hfr (nF _ (by omega) (by omega)) (nF _ (by omega) (by omega)) (nF _ (by omega) (by omega)) (nF _ (by omega) (by omega)))
      clear hsn hfr hset nF hlen hloop d0 d1 cbx cbv p1 p2 p3 p4 p5
      rw [hz, hy]
      gi_wp2
      have hxn : x.n ≤ 24 := hn2
      refine ⟨trivial, CallsIn.inRound l' (callsIn_wide.2 ((sumS_calls HSCw.out z y (by omega) (by omega)).mono ?_))⟩
      rintro e w2 ⟨rfl, hf2⟩
      have HSD2 := hid (HSDw.out.fr hf2 (fun h => h))
      have G2 := hid hf2
      have dx2 := hf2.cell_some dxw (fun h => h)
      clear hf2 dxw HSCw
      gi_wp2
      refine ⟨trivial, CallsIn.inRound l' (callsIn_wide.2 ((sumS_calls HSD2.out z y (by omega) (by omega)).mono ?_))⟩
      rintro e w3 ⟨rfl, hf3⟩
      have G3 := hid (G2.out.trans hf3)
      have dx3 := hf3.cell_some dx2 (fun h => h)
      have k13 := G3.out.cell_some k1 (fun h => h)
      have k23 := (G3.out.frozen (p := ⟨B, 0, none⟩) (cell_lt k1) (fun h => h)).trans k2
      have HM3 := hid (HMw.out.no G3.out)
      clear hf3 dx2 G2 HSD2 HSDw HMw k2
      have hhot : x.Hot C D z y ↔ (sumS C z y ≠ sumS D z y ∧ min (sumS C z y) (sumS D z y) ≤ (x.at_ (z : Nat) (y : Nat)).w) := Iff.rfl
      obtain ⟨a, hae⟩ : ∃ a, sumS C z y = a := ⟨_, rfl⟩
      obtain ⟨b, hbe⟩ : ∃ b, sumS D z y = b := ⟨_, rfl⟩
      rw [hae, hbe] at hhot
      rw [hae, hbe]
      obtain ⟨⟨t0, t1, t2⟩, hat⟩ : ∃ en, x.at_ (z : Nat) (y : Nat) = en := ⟨_, rfl⟩
      rw [hat] at hhot
      simp only at hhot
      have HHOT := hid hhot
      have HAT := hid hat
      have hKF : ∀ W', Fr No W W' → KeepsFrom W0.heap.size W W' ∧ Fr (fun k => k = B ∨ W0.heap.size ≤ k) W W' := fun W' hf => ⟨keepsFrom_fr (B := W0.heap.size) (hf.mono (G := One B) (fun _ _ h => h.elim)) (fun k (h : k = _) => by omega), hf.no⟩
      have HKF := hid hKF
      have hnot : ¬ x.Hot C D z y → SetOf s (x.MvL _ C D (pre ++ [el])) := fun hn => HSET.out.congr fun i => by
        rw [HSN.out i]
        exact ⟨.inl, fun h => h.elim id (fun h => absurd h.1 hn)⟩
      have HNOT := hid hnot
      clear hhot hat hae hbe hKF hnot k1
      by_cases hab : a = b
      · subst hab
        gi_wp2
        refine ⟨trivial, ?_⟩
        gi_wp2
        obtain ⟨q1, q2⟩ := HKF.out _ G3.out
        exact ⟨q1, q2, ⟨s, HNOT.out (fun h => (HHOT.out.1 h).1 rfl), k13, k23⟩, HFR.out.trans q2⟩
      · have hab1 : (a != b) = true := by simpa using hab
        have HAB := hid hab
        clear hab
        gi_wp2
        refine ⟨trivial, CallsIn.inRound l' (callsIn_wide.2 ((at_calls HM3.out _ _).mono ?_))⟩
        rintro e w4 ⟨rfl, hf4⟩
        rw [HAT.out]
        simp only [En.val]
        have G4 := hid (G3.out.trans hf4)
        have dx4 := hf4.cell_some dx3 (fun h => h)
        have k14 := hf4.cell_some k13 (fun h => h)
        have k24 := (hf4.frozen (p := ⟨B, 0, none⟩) (cell_lt k13) (fun h => h)).trans k23
        have HM4 := hid (HM3.out.no hf4)
        clear hf4 dx3 k13 k23 HM3 G3
        by_cases hle : min a b ≤ t0
        · have HH := hid (HHOT.out.2 ⟨HAB.out, hle⟩)
          have hlow : x.low (z : Nat) (y : Nat) = (((if x.rk z < x.rk y then z else y) : Nat) : Int) := by
            have ht : x.two (z : Nat) (y : Nat) = true := by unfold Ix.two; simp; omega
            unfold Ix.low
            rw [if_pos ht]
            simp only [Int.toNat_natCast]
            split <;> rfl
          obtain ⟨lw, hlw⟩ : ∃ lw, (if x.rk z < x.rk y then z else y) = lw := ⟨_, rfl⟩
          have hlwn : lw < 24 := by rw [← hlw]; split <;> omega
          rw [hlw] at hlow
          have HLOW := hid hlow
          have hset2 : SetOf (s ||| 2 ^ lw) (x.MvL _ C D (pre ++ [el])) := HSET.out.or hlwn fun i => by
            rw [HSN.out i, HLOW.out]
            exact or_congr Iff.rfl ⟨fun h => by have := h.2; omega, fun h => ⟨HH.out, by rw [h]⟩⟩
          have HS2 := hid hset2
          have hsl := HSET.out.lt
          clear hlow hlw hset2
          gi_wp2_with fail
          gi_region_with (first
            | (refine ⟨trivial, ?_⟩; gi_at_call 99; refine CallsIn.inRound l' (callsIn_wide.2 ((low_calls HM4.out.drew _ _).mono ?_)); rintro e w5 ⟨rfl, kk, rfl⟩; rw [HLOW.out])
            | (refine ⟨trivial, ?_⟩; gi_at_call 152; refine CallsIn.inRound l' (callsIn_wide.2 ((with_calls s lw hsl hlwn _).mono ?_)); rintro e w6 ⟨rfl, hf6⟩;
               (have hf7 := ((Fr.refl No w4).drewN _).trans hf6); (have k16 := hf7.cell_some k14 (fun h => h)); (have k26 := (hf7.frozen (p := ⟨B, 0, none⟩) (cell_lt k14) (fun h => h)).trans k24); (have HF7 := hid hf7); clear hf6 hf7))
          all_goals
            have hw8 : Fr (One B) W (w6.setCell ⟨B, 0, none⟩ (.int .u64 ((s ||| 2 ^ lw : Nat) : Int))) := (G4.out.trans HF7.out).no.set1 _ _
            refine ⟨keepsFrom_fr (B := W0.heap.size) hw8 (fun k (h : k = _) => by omega), hw8.mono (fun k hk (h : k = B) => .inl h), ⟨s ||| 2 ^ lw, HS2.out, World.cell?_setCell_same' _ _ _ (by rw [k16]; rfl), by rw [World.frozen?_setCell]; exact k26⟩, HFR.out.trans (hw8.mono fun k hk (h : k = B) => .inl h)⟩
        · gi_wp2
          obtain ⟨q1, q2⟩ := HKF.out _ G4.out
          exact ⟨q1, q2, ⟨s, HNOT.out (fun h => by have := (HHOT.out.1 h).2; omega), k14, k24⟩, HFR.out.trans q2⟩

end Go.Proofs.YtoepbhacpidcbaaGreatDoor
/- What moves with a vertex: the document's; walked. -/
set_option linter.unusedVariables false
set_option linter.unusedSimpArgs false
namespace Go.Proofs.YtoepbhacpidcbaaGreatDoor
open Go.RowKit Go.Deep

/-- A row of 24 words. -/
def BoolAt (w : World) (b : Nat) (m : Nat → Bool) : Prop := Blk w b 24 155 (fun i => .bool (m i))
def cellsB (m : Nat → Bool) : List Value := (List.range 24).map fun i => .bool (m i)
def updB (m : Nat → Bool) (k : Nat) : Nat → Bool := fun i => if i = k then true else m i
theorem cellsB_len (m : Nat → Bool) : (cellsB m).length = 24 := by simp [cellsB]
theorem BoolAt.range {w : World} {b : Nat} {m : Nat → Bool} (h : BoolAt w b m) : w.rangeAt b 0 (cellsB m) := fun j v hv => by
  rcases Nat.lt_or_ge j 24 with hj | hj
  · simp only [cellsB, List.getElem?_map, List.getElem?_range hj, Option.map_some, Option.some.injEq] at hv
    subst hv
    rw [Nat.zero_add]
    exact Blk.cell h hj
  · rw [List.getElem?_eq_none (by simpa [cellsB] using hj)] at hv; cases hv
theorem BoolAt.set {w : World} {b : Nat} {m0 : Nat → Bool} (h : BoolAt w b m0) (m : Nat → Bool) : BoolAt (w.setCells b 0 (cellsB m)) b m :=
  (Blk.setCells _ 0 w _ h).congr fun i hi => by
    rw [cellsB_len, if_pos (by omega)]
    simp [cellsB, List.getD, hi]
theorem BoolAt.put {w : World} {b : Nat} {m : Nat → Bool} (h : BoolAt w b m) (k : Nat) : BoolAt (w.setCell ⟨b, k, none⟩ (.bool true)) b (updB m k) :=
  (Blk.setCell h k (.bool true)).congr fun i _ => by
    unfold upd updB
    by_cases e : i = k
    · rw [if_pos e, if_pos e]
    · rw [if_neg e, if_neg e]

structure RmSt (w wr : World) (C D : Nat → Int) (m : Nat → Bool) : Prop where
  f : Fr No w wr
  c : StarAt wr w.heap.size 237 C
  d : StarAt wr (w.heap.size + 1) 237 D
  z : BoolAt wr (w.heap.size + 1 + 1) (fun _ => false)
  o : BoolAt wr (w.heap.size + 1 + 1 + 1) m
theorem RmSt.fr {w wr w2 : World} {C D : Nat → Int} {m : Nat → Bool} (h : RmSt w wr C D m) (hf : Fr No wr w2) : RmSt w w2 C D m :=
  ⟨h.f.trans hf, h.c.fr hf (fun h => h), h.d.fr hf (fun h => h), Blk.fr h.z hf (fun h => h), Blk.fr h.o hf (fun h => h)⟩
theorem RmSt.put {w wr : World} {C D : Nat → Int} {m : Nat → Bool} (h : RmSt w wr C D m) (k : Nat) : RmSt w (wr.setCell ⟨w.heap.size + 1 + 1 + 1, k, none⟩ (.bool true)) C D (updB m k) :=
  ⟨h.f.setCell (p := ⟨w.heap.size + 1 + 1 + 1, k, none⟩) (.inr (by show w.heap.size ≤ w.heap.size + 1 + 1 + 1; omega)) _,
   Blk.setCell_ne h.c (by show w.heap.size + 1 + 1 + 1 ≠ w.heap.size; omega) _, Blk.setCell_ne h.d (by show w.heap.size + 1 + 1 + 1 ≠ w.heap.size + 1; omega) _, Blk.setCell_ne h.z (by show w.heap.size + 1 + 1 + 1 ≠ w.heap.size + 1 + 1; omega) _, h.o.put k⟩
theorem BoolAt.new (W : World) : BoolAt (W.alloc (.cells (cellsB (fun _ => false)).toArray 155)) W.heap.size (fun _ => false) := by
  have := Blk.new W (cellsB (fun _ => false)).toArray 155 (fun i => .bool false) (fun i hi => by
    have hi' : i < 24 := by simpa [cellsB] using hi
    simp [cellsB, hi'])
  have e : (cellsB (fun _ => false)).toArray.size = 24 := by simp [cellsB]
  rw [e] at this
  exact this

end Go.Proofs.YtoepbhacpidcbaaGreatDoor

/- The law of layer 17 of what moves; walked. -/
set_option linter.unusedVariables false
set_option linter.unusedSimpArgs false
namespace Go.Proofs.YtoepbhacpidcbaaGreatDoor
open Go.RowKit Go.Deep

theorem exists_setOf (p : Nat → Prop) (hp : ∀ i, p i → i < 24) : ∃ s, SetOf s p := by
  have key : ∀ k, k ≤ 24 → ∃ s, SetOf s (fun i => p i ∧ i < k) := by
    intro k
    induction k with
    | zero => intro _; exact ⟨0, SetOf.nil fun i h => by omega⟩
    | succ k ih =>
      intro hk
      obtain ⟨s, hs⟩ := ih (by omega)
      by_cases h : p k
      · exact ⟨s ||| 2 ^ k, hs.or (by omega) fun i => ⟨fun ⟨h1, h2⟩ => by by_cases e : i = k; exact .inr e; exact .inl ⟨h1, by omega⟩, fun h1 => h1.elim (fun h1 => ⟨h1.1, by omega⟩) (fun e => by subst e; exact ⟨h, by omega⟩)⟩⟩
      · exact ⟨s, hs.congr fun i => ⟨fun ⟨h1, h2⟩ => ⟨h1, by omega⟩, fun ⟨h1, h2⟩ => ⟨h1, by by_cases e : i = k; (subst e; exact absurd h1 h); omega⟩⟩⟩
  obtain ⟨s, hs⟩ := key 24 (Nat.le_refl _)
  exact ⟨s, hs.congr fun i => ⟨fun h => h.1, fun h => ⟨h, hp i h⟩⟩⟩
theorem moves_canon {x : Ix} {w : World} {L : IxLoc} (h : IxMem w L x) (v : Int) (C D : Nat → Int) (hC : Wf C) (hD : Wf D) {s : Nat} (hs : SetOf s (x.Mv v C D)) :
    Calls Tryz.prog 150 #[.pointer (some ⟨L.b, 0, none⟩), .int .i64 v, starV C, starV D] w fun e w' => e = .returned (.int .u64 (s : Nat)) ∧ Fr No w w' :=
  (moves_calls h v C D hC hD).mono fun e w' ⟨t, he, ht, hf⟩ => ⟨by rw [he, SetOf.eq ht hs (fun _ => Iff.rfl)], hf⟩
theorem BoolAt.lit (W : World) (m : Nat → Bool) : BoolAt (W.alloc (.cells (cellsB m).toArray 155)) W.heap.size m := by
  have := Blk.new W (cellsB m).toArray 155 (fun i => .bool (m i)) (fun i hi => by
    have hi' : i < 24 := by simpa [cellsB] using hi
    simp [cellsB, hi'])
  have e : (cellsB m).toArray.size = 24 := by simp [cellsB]
  rw [e] at this
  exact this

end Go.Proofs.YtoepbhacpidcbaaGreatDoor

/- The law of layer 17 that what moves moves back; walked. -/
set_option linter.unusedVariables false
set_option linter.unusedSimpArgs false
namespace Go.Proofs.YtoepbhacpidcbaaGreatDoor
open Go.RowKit Go.Deep

theorem Ix.Ok.mv_rk {x : Ix} (h : x.Ok) {v : Int} {C D : Nat → Int} {i : Nat} (hm : x.Mv v C D i) : x.vertex v = true ∧ x.rk v.toNat < x.rk i := by
  obtain ⟨h0, u, w, hu, hw, hne, h1, h2, _, hl⟩ := hm
  refine ⟨h0, ?_⟩
  have ht : x.two (u : Nat) (w : Nat) = true := by unfold Ix.two; simp; omega
  unfold Ix.low at hl
  rw [if_pos ht] at hl
  split at hl
  · have : u = i := by omega
    rw [← this]; exact h1
  · have : w = i := by omega
    rw [← this]; exact h2

end Go.Proofs.YtoepbhacpidcbaaGreatDoor
