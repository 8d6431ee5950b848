/- build.Whole: is each entry right; walked. -/

import Derived.Test.YtoepbhacpidcbaaGreatDoorQBase
import Derived.Test.YtoepbhacpidcbaaGreatDoorQIdx
import Derived.Test.YtoepbhacpidcbaaGreatDoorQPerm
import Derived.Test.YtoepbhacpidcbaaGreatDoorQIdxB
import Derived.Test.YtoepbhacpidcbaaGreatDoorQRef
import Derived.Test.YtoepbhacpidcbaaGreatDoorQUnref
import Derived.Test.YtoepbhacpidcbaaGreatDoorQItr
import Derived.Test.YtoepbhacpidcbaaGreatDoorQUnE
import Derived.Test.YtoepbhacpidcbaaGreatDoorQDst
import Derived.Test.YtoepbhacpidcbaaGreatDoorQLnk
import Derived.Test.YtoepbhacpidcbaaGreatDoorQLks
import Derived.Test.YtoepbhacpidcbaaGreatDoorQMid
import Derived.Test.YtoepbhacpidcbaaGreatDoorQBig
import Derived.Test.YtoepbhacpidcbaaGreatDoorQCp2
import Derived.Test.YtoepbhacpidcbaaGreatDoorQGoes
import Derived.Test.YtoepbhacpidcbaaGreatDoorQGOps
import Derived.Test.YtoepbhacpidcbaaGreatDoorQGB
import Derived.Test.YtoepbhacpidcbaaGreatDoorQG8
import Derived.Test.YtoepbhacpidcbaaGreatDoorQWh
import Derived.Test.YtoepbhacpidcbaaGreatDoorQHpK
import Derived.Test.YtoepbhacpidcbaaGreatDoorQSqO

set_option linter.unusedVariables false
set_option linter.unusedSimpArgs false
namespace Go.Proofs.YtoepbhacpidcbaaGreatDoor
open Go.RowKit Go.Shelf Go.Deep

attribute [local go_sem] Oper.semAt_some
attribute [local go_sem high] run_eql_en run_neq_en

def Ix.okAt (x : Ix) (G : Gr) (p : Nat × Nat) : Prop := x.at_ (x.by_ p.1 : Nat) (x.by_ p.2 : Nat) = x.best (x.by_ p.1 : Nat) (x.by_ p.2 : Nat) (G.best (x.by_ p.1 : Nat) (x.by_ p.2 : Nat))
theorem Ix.Ok.whole_prs {x : Ix} (h : x.Ok) {G : Gr} : Whole G x ↔ ∀ el ∈ prs x.n x.n, x.okAt G el.1 := by
  constructor
  · intro hw el _
    obtain ⟨h1, h2, h3⟩ := el.2
    have b1 := (h.by_ el.1.1 h1).1
    have b2 := (h.by_ el.1.2 h2).1
    have hne : x.by_ el.1.1 ≠ x.by_ el.1.2 := fun e => h3 (h.by_inj h1 h2 e)
    unfold Ix.okAt
    rw [at_nat (two_nat b1 b2 hne)]
    exact hw _ _ b1 b2 hne
  · intro hp u v hu hv hne
    have ru := h.rk u hu
    have rv := h.rk v hv
    have hr : x.rk u ≠ x.rk v := fun e => hne (by rw [← ru.2, ← rv.2, e])
    have := hp ⟨(x.rk u, x.rk v), ⟨ru.1, rv.1, hr⟩⟩ (prs_all x.n _)
    unfold Ix.okAt at this
    simp only at this
    rw [ru.2, rv.2, at_nat (two_nat hu hv hne)] at this
    exact this

def WhlR (w : World) (G : Gr) (x : Ix) (e : Ending) (w' : World) : Prop := ∃ b : Bool, e = .returned (.bool b) ∧ Fr No w w' ∧ (b = true ↔ (G.n = x.n ∧ Whole G x))

set_option maxRecDepth 100000 in
set_option maxHeartbeats 4000000 in
theorem whole_calls {Lg : GLoc} {G : Gr} {w : World} {L : IxLoc} {x : Ix} (hg : GMem w Lg G) (hx : IxMem w L x) (hcap : x.n ≤ L.cb) :
    Calls Tryz.prog 38 #[.pointer (some ⟨Lg.b, 0, none⟩), .pointer (some ⟨L.b, 0, none⟩)] w (WhlR w G x) := by
  have hok := hx.ok
  have hn24 := hok.n2
  have lL : L.b < w.heap.size ∧ L.br < w.heap.size ∧ L.bb < w.heap.size ∧ 0 < w.heap.size := ⟨hx.lt, hx.hr.1, hx.hb.1, hx.gn.lt⟩
  have HG := hid hg
  have HX := hid hx
  have HOK := hid hok
  have HL := hid lL
  clear hg hx hok lL
  refine (callsIn_wide (n := 7)).1 ?_
  refine callsIn_of_wp_marks Tryz.func38 rfl trivial ?_ rfl
  refine wpIn_wide.2 ?_
  simp only [Tryz.ntmps38, List.size_toArray, List.length_cons, List.length_nil, Nat.reduceAdd, Nat.reduceSub, Array.replicate_succ, Array.replicate_zero, List.push_toArray, List.append_toArray, List.nil_append, List.cons_append]
  go_wp2_with fail
  have F3 := ((((Fr.refl No w).alloc (.cells #[.pointer (some ⟨Lg.b, 0, none⟩)] 30)).alloc (.cells #[.pointer (some ⟨L.b, 0, none⟩)] 26)).alloc (.cells #[.bool false] 4))
  obtain ⟨W3, hW3⟩ : ∃ W3, ((w.alloc (.cells #[.pointer (some ⟨Lg.b, 0, none⟩)] 30)).alloc (.cells #[.pointer (some ⟨L.b, 0, none⟩)] 26)).alloc (.cells #[.bool false] 4) = W3 := ⟨_, rfl⟩
  have c2 : W3.cell? ⟨w.heap.size, 0, none⟩ = some (.pointer (some ⟨Lg.b, 0, none⟩)) := by rw [← hW3]; simp [go_sem]
  have c3 : W3.cell? ⟨w.heap.size + 1, 0, none⟩ = some (.pointer (some ⟨L.b, 0, none⟩)) := by rw [← hW3]; simp [go_sem]
  have c4 : W3.cell? ⟨w.heap.size + 1 + 1, 0, none⟩ = some (.bool false) := by rw [← hW3]; simp [go_sem]
  have z4 : W3.frozen? ⟨w.heap.size + 1 + 1, 0, none⟩ = false := by rw [← hW3]; simp [go_sem]
  rw [hW3] at F3 ⊢
  have F3 := hid F3
  clear hW3
  have hv1 : ∀ nn : Fam W3, Calls Tryz.prog 64 #[.pointer (some ⟨L.b, 0, none⟩)] nn.v fun e w' => e = .returned (.int .i64 (x.n : Nat)) ∧ Fr No nn.v w' := fun nn => vertices_calls ((HX.out.no F3.out).no nn.h)
  have hv2 : ∀ nn : Fam W3, Calls Tryz.prog 90 #[.pointer (some ⟨Lg.b, 0, none⟩)] nn.v fun e w' => e = .returned (.int .i64 (G.n : Nat)) ∧ Fr No nn.v w' := fun nn => gverts_calls ((HG.out.no F3.out).no nn.h)
  have kk2 : ∀ nn : Fam W3, nn.v.cell? ⟨w.heap.size, 0, none⟩ = some (.pointer (some ⟨Lg.b, 0, none⟩)) := Fam.cell c2
  have kk3 : ∀ nn : Fam W3, nn.v.cell? ⟨w.heap.size + 1, 0, none⟩ = some (.pointer (some ⟨L.b, 0, none⟩)) := Fam.cell c3
  obtain ⟨xn, hxn⟩ : ∃ n, x.n = n := ⟨_, rfl⟩
  have HXN := hid hxn
  rw [hxn] at hv1 hn24 hcap
  clear hxn
  refine wp_region_fam (by kernel_rfl) (by kernel_rfl) ?_
  iterate 2 (go_big_quiet_step (exact Calls.fam (hv2 _)))
  repeat (go_big_quiet_step (exact Calls.fam (hv1 _)))
  refine wpQuiet_nil ?_
  rintro w4 ⟨⟨w4, hf4⟩, rfl⟩
  have d2 := hf4.cell_some c2 (fun h => h)
  have d3 := hf4.cell_some c3 (fun h => h)
  have d4 := hf4.cell_some c4 (fun h => h)
  have y4 := (hf4.frozen (p := ⟨w.heap.size + 1 + 1, 0, none⟩) (cell_lt c4) (fun h => h)).trans z4
  have F4 := hid (F3.out.trans hf4)
  clear hf4 hv1 hv2 kk2 kk3 c2 c3 c4 z4 F3
  by_cases hne : G.n = xn
  · have hne2 : ((G.n : Int) != (xn : Int)) = false := by simp [hne]
    have hne3 : decide ((G.n : Int) = (xn : Int)) = true := by simp [hne]
    have HX4 := hid (HX.out.no F4.out)
    have HG4 := hid (HG.out.no F4.out)
    go_wp2_with fail
    refine (pairs_calls HX4.out).mono ?_
    rintro e W0 ⟨Bn, Bx, rfl, hf, hn1', hx1', hn2', hx2', cn, cx⟩
    rw [HXN.out] at cn
    have e2 := hf.cell_some d2 (fun h => h)
    have e3 := hf.cell_some d3 (fun h => h)
    have e4 := hf.cell_some d4 (fun h => h)
    have ez := (hf.frozen (p := ⟨w.heap.size + 1 + 1, 0, none⟩) (cell_lt d4) (fun h => h)).trans y4
    have HX5 := hid (HX4.out.no hf)
    have HG5 := hid (HG4.out.no hf)
    have F5 := hid (F4.out.trans hf)
    have l2 := cell_lt e2
    have l3 := cell_lt e3
    have l4 := cell_lt e4
    simp only at l2 l3 l4
    have ld4 := cell_lt d4
    simp only at ld4
    have hw := F5.out.size
    clear hf d2 d3 d4 y4 HX4 HG4 F4
    obtain ⟨B4, hB4⟩ : ∃ B, w.heap.size + 1 + 1 = B := ⟨_, rfl⟩
    rw [hB4] at e4 ez l4 ld4 ⊢
    have hb4 : w.heap.size < B4 := by omega
    clear hB4
    go_wp2
    refine (wpIn_wide (n := 7)).1 ?_
    refine wpIn_rangeFunc_ownS rfl (by omega) (gf := 166) (lb := #[.pointer (some ⟨Bn, 0, none⟩), .pointer (some ⟨Bx, 0, none⟩)]) rfl trivial (enters_of Tryz.func166 (by kernel_rfl) rfl)
      (pairs1_any hn24 (bf := x.by_) 6 (by omega) Bn Bx (fun k => k = B4 ∨ W0.heap.size ≤ k) (by omega) (by omega) W0 ⟨x, HX5.out, HXN.out, rfl⟩ cn cx)
      (fun h k => PK.trans h k) (fun W l' o o' hl _ _ _ => ⟨fr_putObj W l' o' (.inr hl), fun s => s.putObj (N := W0.heap.size) l' o' hl (by have := HL.out; omega) (by have := HL.out; omega) (by have := HL.out; omega) (by have := HL.out; omega)⟩) (fun W => PK.no (Fr.refl _ _)) (Below.refl _ _) (fun _ => rfl)
      (fun pre W => (∀ el ∈ pre, x.okAt G el.1) ∧ Fr (fun k => W0.heap.size ≤ k) W0 W)
      (fun c xs W => c = .ret ∧ (∃ el : PrEl xn, ¬ x.okAt G el.1) ∧ Fr (fun k => k = B4 ∨ W0.heap.size ≤ k) W0 W ∧ W.cell? ⟨B4, 0, none⟩ = some (.bool false))
      (fun s A B' row hs hg hr => ⟨hs.1, ownFrom_fr _ W0 s A B' row hs.2 hg hr⟩)
      (fun c s A B' row hs hg hr => ⟨hs.1, hs.2.1, ownFrom_fr _ W0 s A B' row hs.2.2.1 hg hr, cell_kept hs.2.2.2 hg (fun r e => (hr r e).2)⟩)
      ⟨fun el h => absurd h (by simp), Fr.refl _ _⟩
      (fun el T => (T.setIfInBounds 5 (.int .i64 (x.by_ el.1.1 : Nat))).setIfInBounds 6 (.int .i64 (x.by_ el.1.2 : Nat))) ?assign ?body ?done ?stop
    case assign =>
      intro l' el W K hK
      simp only [prEnc] at hK ⊢
      gi_wp2
      simpa using hK
    case done =>
      rintro D ys W hD rfl ⟨hall, hfr⟩ hKD
      have hwh : Whole G x := HOK.out.whole_prs.2 (by rw [HXN.out]; exact hall)
      have f4 := hfr.cell_some e4 (fun (h : W0.heap.size ≤ B4) => by omega)
      have fz := (hfr.frozen (p := ⟨B4, 0, none⟩) l4 (fun (h : W0.heap.size ≤ B4) => by omega)).trans ez
      have HWH := hid hwh
      have HFR := hid hfr
      have HKD := hid hKD
      clear hall hwh hfr hKD e2 e3 e4 ez cn cx HX5 HG5
      go_wp2
      have hk2 : (W.setCell ⟨B4, 0, none⟩ (.bool true)).heap[D]? = some (.deferred (some [])) := (Below.heap_setCell _ ⟨B4, 0, none⟩ _ D (by show D ≠ B4; omega)).trans HKD.out
      have k4 : (W.setCell ⟨B4, 0, none⟩ (.bool true)).cell? ⟨B4, 0, none⟩ = some (.bool true) := World.cell?_setCell_same' _ _ _ (by rw [f4]; rfl)
      have fr1 : Fr No w (W.setCell ⟨B4, 0, none⟩ (.bool true)) := (F5.out.trans' HFR.out (fun i hi (h : W0.heap.size ≤ i) => by omega)).setCell (p := ⟨B4, 0, none⟩) (.inr (by show w.heap.size ≤ B4; omega)) _
      obtain ⟨W6, hW6⟩ : ∃ W6, W.setCell ⟨B4, 0, none⟩ (.bool true) = W6 := ⟨_, rfl⟩
      rw [hW6] at hk2 k4 fr1 ⊢
      have fp : Fr (One D) W6 (W6.putObj D (.deferred none)) := fr_putObj (F := One D) _ D _ rfl
      have k5 := fp.cell_some k4 (fun (e : B4 = D) => by omega)
      refine ⟨by simp, .inl ⟨_, _, rfl, run_takeDeferred hk2, ?_⟩⟩
      exact ⟨.bool true, by simp [results, Tryz.results38, go_sem, k5], true, rfl, fr1.trans' fp (fun i hi (e : i = D) => by omega), ⟨fun _ => ⟨by rw [HXN.out]; exact hne, HWH.out⟩, fun _ => rfl⟩⟩
    case stop =>
      rintro D c pre W hD _ ⟨rfl, hbad, hfr, h4⟩ hKD
      have HBAD := hid hbad
      have HFR := hid hfr
      have HKD := hid hKD
      clear hbad hfr hKD e2 e3 e4 ez cn cx HX5 HG5
      gi_wp2
      have fp : Fr (One D) W (W.putObj D (.deferred none)) := fr_putObj (F := One D) _ D _ rfl
      have k5 := fp.cell_some h4 (fun (e : B4 = D) => by omega)
      refine ⟨by simp, .inl ⟨_, _, rfl, run_takeDeferred HKD.out, ?_⟩⟩
      refine ⟨.bool false, by simp [results, Tryz.results38, go_sem, k5], false, rfl, (F5.out.trans' HFR.out (fun i hi h => by omega)).trans' fp (fun i hi (e : i = D) => by omega), ⟨fun h => (by cases h), fun h => ?_⟩⟩
      obtain ⟨el, hel⟩ := HBAD.out
      have hw2 := HOK.out.whole_prs.1 h.2
      rw [HXN.out] at hw2
      exact absurd (hw2 el (prs_all _ _)) hel
    case body =>
      rintro l' pre el W hlp hloop ⟨hall, hfr⟩ hlen
      have b2 := hfr.cell_some e2 (fun (h : W0.heap.size ≤ w.heap.size) => by omega)
      have b3 := hfr.cell_some e3 (fun (h : W0.heap.size ≤ w.heap.size + 1) => by omega)
      have b4 := hfr.cell_some e4 (fun (h : W0.heap.size ≤ B4) => by omega)
      have bz := (hfr.frozen (p := ⟨B4, 0, none⟩) l4 (fun (h : W0.heap.size ≤ B4) => by omega)).trans ez
      have FW := hid (F5.out.trans' hfr (fun i hi (h : W0.heap.size ≤ i) => by omega))
      have HFR := hid hfr
      have HALL := hid hall
      clear hall hfr e2 e3 e4 ez cn cx hlen hloop HX5 HG5
      obtain ⟨u, hu⟩ : ∃ u, x.by_ el.1.1 = u := ⟨_, rfl⟩
      obtain ⟨v, hv⟩ : ∃ v, x.by_ el.1.2 = v := ⟨_, rfl⟩
      have hok1 : x.okAt G el.1 ↔ x.at_ (u : Nat) (v : Nat) = x.best (u : Nat) (v : Nat) (G.best (u : Nat) (v : Nat)) := by unfold Ix.okAt; rw [hu, hv]
      obtain ⟨⟨a0, a1, a2⟩, ha⟩ : ∃ y, x.at_ (u : Nat) (v : Nat) = y := ⟨_, rfl⟩
      obtain ⟨⟨b0, b1, b2'⟩, hb⟩ : ∃ y, x.best (u : Nat) (v : Nat) (G.best (u : Nat) (v : Nat)) = y := ⟨_, rfl⟩
      rw [ha, hb] at hok1
      have HOK1 := hid hok1
      have hca : ∀ nn : Fam W, Calls Tryz.prog 84 #[.pointer (some ⟨L.b, 0, none⟩), .int .i64 (u : Nat), .int .i64 (v : Nat)] nn.v fun e w' => e = .returned (.agg #[.int .i64 a0, .int .i64 a1, .int .i64 a2]) ∧ Fr No nn.v w' := fun nn => by
        have := at_calls ((HX.out.no FW.out).no nn.h) (u : Nat) (v : Nat)
        rw [ha] at this
        exact this
      have hcb : ∀ nn : Fam W, Calls Tryz.prog 92 #[.pointer (some ⟨L.b, 0, none⟩), .pointer (some ⟨Lg.b, 0, none⟩), .int .i64 (u : Nat), .int .i64 (v : Nat)] nn.v fun e w' => e = .returned (.agg #[.int .i64 b0, .int .i64 b1, .int .i64 b2']) ∧ Fr No nn.v w' := fun nn => by
        have := xbest_calls ((HX.out.no FW.out).no nn.h) (by rw [HXN.out]; exact hcap) ((HG.out.no FW.out).no nn.h) (u : Nat) (v : Nat)
        rw [hb] at this
        exact this
      have kk2 : ∀ nn : Fam W, nn.v.cell? ⟨w.heap.size, 0, none⟩ = some (.pointer (some ⟨Lg.b, 0, none⟩)) := Fam.cell b2
      have kk3 : ∀ nn : Fam W, nn.v.cell? ⟨w.heap.size + 1, 0, none⟩ = some (.pointer (some ⟨L.b, 0, none⟩)) := Fam.cell b3
      clear ha hb hok1
      gi_wp2_with fail
      conv => arg 6; simp [prEnc, hu, hv]
      clear hu hv
      refine wpIn_region_fam (by kernel_rfl) (by kernel_rfl) (by kernel_rfl) ?_
      iterate 4 (go_big_quiet_step (exact Calls.fam (hca _)))
      repeat (go_big_quiet_step (exact Calls.fam (hcb _)))
      refine wpQuiet_nil ?_
      rintro w8 ⟨⟨w8, hf8⟩, rfl⟩
      have q4 := hf8.cell_some b4 (fun h => h)
      have qz := (hf8.frozen (p := ⟨B4, 0, none⟩) (cell_lt b4) (fun h => h)).trans bz
      have HF8 := hid hf8
      have hsz := hf8.size
      clear kk2 kk3 hca hcb b2 b3 b4 bz hf8
      have heq := eq3_en ⟨a0, a1, a2⟩ ⟨b0, b1, b2'⟩
      simp only at heq
      have HEQ := hid heq
      cases hc : eq3 a0 a1 a2 b0 b1 b2' with
      | true =>
        have HC := hid hc
        clear heq
        gi_wp2
        have hW : Fr No W w8 := HF8.out
        have hk : x.okAt G el.1 := HOK1.out.2 (by have := HEQ.out; rw [HC.out] at this; exact of_decide_eq_true this.symm)
        refine ⟨keepsFrom_fr hW (fun k h => h.elim), PK.no hW, fun e he => ?_, HFR.out.trans hW.no⟩
        rcases List.mem_append.1 he with he | he
        · exact HALL.out e he
        · rw [List.mem_singleton.1 he]; exact hk
      | false =>
        have HC := hid hc
        clear heq
        gi_wp2
        have hW : Fr No W w8 := HF8.out
        have hk : ¬ x.okAt G el.1 := fun h => by
          have h1 := HOK1.out.1 h
          have h2 := HEQ.out
          rw [HC.out, h1] at h2
          simp at h2
        have hb4W : Fr (fun k => k = B4 ∨ W0.heap.size ≤ k) W0 (w8.setCell ⟨B4, 0, none⟩ (.bool false)) := ((HFR.out.trans hW.no).mono (fun k _ h => .inr h)).setCell (p := ⟨B4, 0, none⟩) (.inl (.inl rfl)) _
        have f1 : Fr (One B4) W (w8.setCell ⟨B4, 0, none⟩ (.bool false)) := (hW.no (F := One B4)).set1 0 _
        exact ⟨keepsFrom_fr f1 (fun k (h : k = B4) => by omega), rfl, ⟨el, hk⟩, hb4W, World.cell?_setCell_same' _ _ _ (by rw [q4]; rfl)⟩
  · have hne2 : ((G.n : Int) != (xn : Int)) = true := by simp; omega
    have hne3 : decide ((G.n : Int) = (xn : Int)) = false := by simp; omega
    have hne4 : ((G.n : Int) = (xn : Int)) = False := by simp; omega
    go_wp2
    have k5 : (w4.setCell ⟨w.heap.size + 1 + 1, 0, none⟩ (.bool false)).cell? ⟨w.heap.size + 1 + 1, 0, none⟩ = some (.bool false) := World.cell?_setCell_same' _ _ _ (by rw [d4]; rfl)
    exact ⟨.bool false, by simp [results, Tryz.results38, go_sem, k5], false, rfl, F4.out.setCell (p := ⟨w.heap.size + 1 + 1, 0, none⟩) (.inr (by show w.heap.size ≤ w.heap.size + 1 + 1; omega)) _, ⟨fun h => (by cases h), fun h => absurd h.1 (by rw [HXN.out]; exact hne)⟩⟩

end Go.Proofs.YtoepbhacpidcbaaGreatDoor

/- build.Build where there is no index of that list; walked. -/
set_option linter.unusedVariables false
set_option linter.unusedSimpArgs false
namespace Go.Proofs.YtoepbhacpidcbaaGreatDoor
open Go.RowKit Go.Shelf Go.Deep

attribute [local go_sem] Oper.semAt_some

end Go.Proofs.YtoepbhacpidcbaaGreatDoor
