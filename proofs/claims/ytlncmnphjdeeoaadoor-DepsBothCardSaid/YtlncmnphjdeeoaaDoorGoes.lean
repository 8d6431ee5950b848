/- The law's 'goes': the entries of a vertex's row, gone through, are the document's, as far as they are asked for; walked (up). -/
import Derived.Test.YtlncmnphjdeeoaaDoorRow2
import Derived.Test.YtlncmnphjdeeoaaDoorEnds
import Derived.Test.YtlncmnphjdeeoaaDoorLks
set_option linter.unusedVariables false
set_option linter.unusedSimpArgs false
namespace Go.Proofs.YtlncmnphjdeeoaaDoor
open Go.RowKit Go.Shelf

attribute [local go_sem] Oper.semAt_some
attribute [local go_sem high] run_eql_en run_neq_en eq3_self

set_option maxRecDepth 100000 in
set_option maxHeartbeats 4000000 in
theorem goes_up {x : Ix} {w : World} {L : IxLoc} {R : RxLoc} (h : IxMem w L x) (hr : RxMem w R x) (v most : Int) (hm : -9223372036854775808 ≤ most ∧ most ≤ 9223372036854775807) :
    Calls Tryd.prog 35 #[.pointer (some ⟨L.b, 0, none⟩), .pointer (some ⟨R.b, 0, none⟩), .int .i64 v, .bool false, .int .i64 most] w fun e w' => e = .returned (.bool true) ∧ Fr No w w' := by
  have H := hid h
  have HR := hid hr
  have hn2 := h.ok.n2
  have zl1 := h.lt
  have zl2 := h.hr.1
  have zl3 := h.hb.1
  have zl4 := h.gn.lt
  have zr1 := hr.lt
  have zr2 := hr.hr.1
  clear h hr
  refine (callsIn_wide (n := 7)).1 ?_
  refine callsIn_of_wp_marks Tryd.func35 rfl trivial ?_ rfl
  simp only [Tryd.ntmps35, List.size_toArray, List.length_cons, List.length_nil, Nat.reduceAdd, Nat.reduceSub, Array.replicate_succ, Array.replicate_zero, List.push_toArray, List.append_toArray, List.nil_append, List.cons_append]
  gi_wp2
  generalize hWa : (((((w.alloc (Obj.cells #[Value.pointer (some ⟨R.b, 0, none⟩)] 26)).alloc (Obj.cells #[Value.int .i64 v] 3)).alloc (Obj.cells #[Value.bool false] 4)).alloc (Obj.cells #[Value.int .i64 most] 3)).alloc (Obj.cells #[Value.bool false] 4)) = Wa
  have fa : Fr No w Wa := by rw [← hWa]; exact (((((Fr.refl No w).alloc _).alloc _).alloc _).alloc _).alloc _
  have a0 : Wa.cell? ⟨w.heap.size, 0, none⟩ = some (.pointer (some ⟨R.b, 0, none⟩)) := by rw [← hWa]; simp [go_sem]
  have a1 : Wa.cell? ⟨w.heap.size + 1, 0, none⟩ = some (.int .i64 v) := by rw [← hWa]; simp [go_sem]
  have a2 : Wa.cell? ⟨w.heap.size + 1 + 1, 0, none⟩ = some (.bool false) := by rw [← hWa]; simp [go_sem]
  have a3 : Wa.cell? ⟨w.heap.size + 1 + 1 + 1, 0, none⟩ = some (.int .i64 most) := by rw [← hWa]; simp [go_sem]
  have a4 : Wa.cell? ⟨w.heap.size + 1 + 1 + 1 + 1, 0, none⟩ = some (.bool false) := by rw [← hWa]; simp [go_sem]
  have a5 : Wa.frozen? ⟨w.heap.size + 1 + 1 + 1 + 1, 0, none⟩ = false := by rw [← hWa]; simp [go_sem]
  have a6 : Wa.heap[w.heap.size + 1 + 1 + 1 + 1]? = some (.cells #[.bool false] 4) := by
    rw [← hWa]
    have := heap_new ((((w.alloc (Obj.cells #[Value.pointer (some ⟨R.b, 0, none⟩)] 26)).alloc (Obj.cells #[Value.int .i64 v] 3)).alloc (Obj.cells #[Value.bool false] 4)).alloc (Obj.cells #[Value.int .i64 most] 3)) (Obj.cells #[Value.bool false] 4)
    simpa using this
  have hsa : Wa.heap.size = w.heap.size + 1 + 1 + 1 + 1 + 1 := by rw [← hWa]; simp
  clear hWa
  gi_wp2
  refine ⟨trivial, callsIn_wide.2 ((rup_calls (HR.out.no fa) v false).mono ?_)⟩
  rintro e W1 ⟨LA, lc, rfl, hf1, hsl⟩
  have F1 := hid (fa.trans hf1)
  have b0 := hf1.cell_some a0 (fun h => h)
  have b1 := hf1.cell_some a1 (fun h => h)
  have b2 := hf1.cell_some a2 (fun h => h)
  have b3 := hf1.cell_some a3 (fun h => h)
  have b4 := hf1.cell_some a4 (fun h => h)
  have b5 := (hf1.frozen (p := ⟨w.heap.size + 1 + 1 + 1 + 1, 0, none⟩) (by show w.heap.size + 1 + 1 + 1 + 1 < Wa.heap.size; omega) (fun h => h)).trans a5
  have hs1 := hf1.size
  rw [hsa] at hs1
  have l0 : w.heap.size < W1.heap.size := by omega
  have l1 : w.heap.size + 1 < W1.heap.size := by omega
  have l2 : w.heap.size + 1 + 1 < W1.heap.size := by omega
  have l3 : w.heap.size + 1 + 1 + 1 < W1.heap.size := by omega
  have l4 : w.heap.size + 1 + 1 + 1 + 1 < W1.heap.size := by omega
  have b6 := (own_no hf1 _ a6).2.2.2
  have HSL := hid hsl
  obtain ⟨l, hl⟩ : ∃ l, x.ups v false = l := ⟨_, rfl⟩
  have hlle := x.ups_le v false
  rw [hl] at HSL hlle
  rw [hl]
  have HL := hid hl
  clear a0 a1 a2 a3 a4 a5 a6 fa hf1 hsl hl hsa
  gi_wp2
  refine ⟨trivial, callsIn_wide.2 ((up_calls L.b v _).mono ?_)⟩
  rintro e W0 ⟨rfl, hW0⟩
  simp only [World.size_alloc] at hW0 ⊢
  have f0 : Fr No W1 W0 := by rw [hW0]; exact (((((Fr.refl No W1).alloc _).alloc _).alloc _).alloc _).alloc _
  have c11 : W0.cell? ⟨W1.heap.size, 0, none⟩ = some (.slice LA l.length lc) := by rw [hW0]; simp [go_sem]
  have c12 : W0.cell? ⟨W1.heap.size + 1, 0, none⟩ = some (.int .i64 0) := by rw [hW0]; simp [go_sem]
  have d12 : W0.frozen? ⟨W1.heap.size + 1, 0, none⟩ = false := by rw [hW0]; simp [go_sem]
  have cbx : W0.cell? ⟨W1.heap.size + 1 + 1, 0, none⟩ = some (.pointer (some ⟨L.b, 0, none⟩)) := by rw [hW0]; simp [go_sem]
  have cbv : W0.cell? ⟨W1.heap.size + 1 + 1 + 1, 0, none⟩ = some (.int .i64 v) := by rw [hW0]; simp [go_sem]
  have cbr : W0.cell? ⟨W1.heap.size + 1 + 1 + 1 + 1, 0, none⟩ = some (.func (.func 97) #[] #[]) := by rw [hW0]; simp [go_sem]
  have hsz : W0.heap.size = W1.heap.size + 1 + 1 + 1 + 1 + 1 := by rw [hW0]; simp
  have e0 := f0.cell_some b0 (fun h => h)
  have e1 := f0.cell_some b1 (fun h => h)
  have e2 := f0.cell_some b2 (fun h => h)
  have e3 := f0.cell_some b3 (fun h => h)
  have e4 := f0.cell_some b4 (fun h => h)
  have e5 := (f0.frozen (p := ⟨w.heap.size + 1 + 1 + 1 + 1, 0, none⟩) l4 (fun h => h)).trans b5
  have hb6 : ∀ (lo j : Nat) (y : Int), W1.cell? ⟨w.heap.size + 1 + 1 + 1 + 1, lo + j, none⟩ = some (.int .i64 y) → False := fun lo j y h => by
    rw [cell_of b6] at h
    rcases Nat.eq_zero_or_pos (lo + j) with h0 | h0
    · rw [h0] at h; simp at h
    · rw [Array.getElem?_eq_none (by simp; omega)] at h; cases h
  have HB6 := hid hb6
  have hrow := (H.out.ok).row_eq v false
  rw [HL.out] at hrow
  have hrl : (x.row v false).length = l.length := by rw [← hrow]; simp
  have HROW := hid hrow
  have HRL := hid hrl
  have F0 := hid (F1.out.trans f0)
  have hHM := hid (H.out.no F0.out)
  have hHR := hid (HR.out.no F0.out)
  clear hW0 b0 b1 b2 b3 b4 b5 b6 hb6 hrow hrl
  gi_wp2
  refine wpIn_rangeFunc_ownH rfl (by omega) (gf := 117) (lb := #[.pointer (some ⟨W1.heap.size + 1 + 1, 0, none⟩), .pointer (some ⟨W1.heap.size + 1 + 1 + 1, 0, none⟩), .pointer (some ⟨W1.heap.size + 1 + 1 + 1 + 1, 0, none⟩)]) rfl trivial (enters_of Tryd.func117 (by kernel_rfl) rfl)
    (all1_any_up (x := x) (L := L) 6 (by omega) (W1.heap.size + 1 + 1) (W1.heap.size + 1 + 1 + 1) (W1.heap.size + 1 + 1 + 1 + 1) v (fun k => (k = w.heap.size + 1 + 1 + 1 + 1 ∨ k = W1.heap.size + 1) ∨ W0.heap.size ≤ k) (by omega) (by omega) (by omega) (by omega) (by omega) (by omega) W0 hHM.out cbx cbv cbr)
    (fun h k => Fr.trans h k) (fun W l' o o' hl _ _ _ => fr_putObj W l' o' (.inr hl)) (Below.refl _ _) (fun _ => rfl)
    (fun pre W => (W.cell? ⟨W1.heap.size + 1, 0, none⟩ = some (.int .i64 (pre.length : Nat)) ∧ W.frozen? ⟨W1.heap.size + 1, 0, none⟩ = false ∧ W.cell? ⟨w.heap.size + 1 + 1 + 1 + 1, 0, none⟩ = some (.bool false) ∧ W.frozen? ⟨w.heap.size + 1 + 1 + 1 + 1, 0, none⟩ = false) ∧
      Fr (fun k => (k = w.heap.size + 1 + 1 + 1 + 1 ∨ k = W1.heap.size + 1) ∨ W0.heap.size ≤ k) W0 W ∧ ((pre.length : Int) < most ∨ pre.length = 0))
    (fun c xs W => (c = .ret ∧ ∃ (pre : List (x.RowEl v.toNat false)) (el : x.RowEl v.toNat false), xs = pre ++ [el] ∧ ((x.by_ el.1 : Nat) : Int) ≠ l.getD pre.length 0) ∨
      (c = .exit 0 ∧ (W.cell? ⟨W1.heap.size + 1, 0, none⟩ = some (.int .i64 (xs.length : Nat)) ∧ W.frozen? ⟨W1.heap.size + 1, 0, none⟩ = false ∧ W.cell? ⟨w.heap.size + 1 + 1 + 1 + 1, 0, none⟩ = some (.bool false) ∧ W.frozen? ⟨w.heap.size + 1 + 1 + 1 + 1, 0, none⟩ = false) ∧
        Fr (fun k => (k = w.heap.size + 1 + 1 + 1 + 1 ∨ k = W1.heap.size + 1) ∨ W0.heap.size ≤ k) W0 W ∧ most ≤ (xs.length : Int) ∧ 1 ≤ xs.length ∧ ((xs.length : Int) - 1 < most ∨ xs.length = 1)))
    (fun s A B row hs hg hr => ⟨⟨cell_kept hs.1.1 hg (fun r e => (hr r e).2), (frozen_kept hs.1.1 hg (fun r e => (hr r e).2)).trans hs.1.2.1, cell_kept hs.1.2.2.1 hg (fun r e => (hr r e).2), (frozen_kept hs.1.2.2.1 hg (fun r e => (hr r e).2)).trans hs.1.2.2.2⟩, ownFrom_fr _ W0 s A B row hs.2.1 hg hr, hs.2.2⟩)
    (fun c s A B row hs hg hr => by
      rcases hs with hs | ⟨e, hs⟩
      · exact .inl hs
      · exact .inr ⟨e, ⟨cell_kept hs.1.1 hg (fun r e => (hr r e).2), (frozen_kept hs.1.1 hg (fun r e => (hr r e).2)).trans hs.1.2.1, cell_kept hs.1.2.2.1 hg (fun r e => (hr r e).2), (frozen_kept hs.1.2.2.1 hg (fun r e => (hr r e).2)).trans hs.1.2.2.2⟩, ownFrom_fr _ W0 s A B row hs.2.1 hg hr, hs.2.2⟩)
    ⟨⟨by simpa using c12, d12, e4, e5⟩, Fr.refl _ _, .inr rfl⟩
    (fun el a' W => ∃ Be, W0.heap.size ≤ Be ∧ W.cell? ⟨Be, 0, none⟩ = some (.int .i64 (x.rowE v.toNat false el.1).w) ∧ W.cell? ⟨Be, 1, none⟩ = some (.int .i64 (x.rowE v.toNat false el.1).a) ∧ W.cell? ⟨Be, 2, none⟩ = some (.int .i64 (x.rowE v.toNat false el.1).m) ∧
      a' = { tmps := #[.pointer (some ⟨L.b, 0, none⟩), .pointer (some ⟨R.b, 0, none⟩), .int .i64 v, .bool false, .int .i64 most, undef, .pointer (some ⟨w.heap.size, 0, none⟩), .pointer (some ⟨w.heap.size + 1, 0, none⟩), .pointer (some ⟨w.heap.size + 1 + 1, 0, none⟩), .pointer (some ⟨w.heap.size + 1 + 1 + 1, 0, none⟩), .pointer (some ⟨w.heap.size + 1 + 1 + 1 + 1, 0, none⟩), .pointer (some ⟨W1.heap.size, 0, none⟩), .pointer (some ⟨W1.heap.size + 1, 0, none⟩), .func (.func 117) #[] #[.pointer (some ⟨W1.heap.size + 1 + 1, 0, none⟩), .pointer (some ⟨W1.heap.size + 1 + 1 + 1, 0, none⟩), .pointer (some ⟨W1.heap.size + 1 + 1 + 1 + 1, 0, none⟩)], .int .i64 (x.by_ el.1 : Nat), .pointer (some ⟨Be, 0, none⟩), .pointer (some ⟨R.b, 0, none⟩), .int .i64 v, .bool false, .slice LA l.length lc, .pointer (some ⟨L.b, 0, none⟩), .int .i64 v, .func (.func 117) #[] #[.pointer (some ⟨W1.heap.size + 1 + 1, 0, none⟩), .pointer (some ⟨W1.heap.size + 1 + 1 + 1, 0, none⟩), .pointer (some ⟨W1.heap.size + 1 + 1 + 1 + 1, 0, none⟩)], .bool false, undef, undef, undef, .func (.func 117) #[] #[.pointer (some ⟨W1.heap.size + 1 + 1, 0, none⟩), .pointer (some ⟨W1.heap.size + 1 + 1 + 1, 0, none⟩), .pointer (some ⟨W1.heap.size + 1 + 1 + 1 + 1, 0, none⟩)], .int .i64 (x.by_ el.1 : Nat), (x.rowE v.toNat false el.1).val, undef, undef, undef, undef, undef, undef, undef, undef, undef, undef, undef, undef, undef, undef, undef, undef, undef, undef, undef, undef, undef, undef, undef, undef, undef, undef, undef, undef, undef, undef, undef, undef, undef, undef, undef, undef, undef, undef, undef, undef, undef, undef, undef, undef, undef, undef, undef, undef, undef, undef, undef, undef, undef, undef, undef, undef], defers := [] })
    (fun el a' s A B row hs hg hr => by
      obtain ⟨Be, h0, h1, h2, h3, h4⟩ := hs
      exact ⟨Be, h0, cell_kept h1 hg (fun r e => (hr r e).2), cell_kept h2 hg (fun r e => (hr r e).2), cell_kept h3 hg (fun r e => (hr r e).2), h4⟩)
    ?assign ?body ?done ?stop
  case assign =>
    rintro l' pre el W K ⟨⟨k1, k2, k3, k4⟩, hfr, hmm⟩ hK
    have hsz0 := hfr.size
    have fW : ∀ o, Fr No W (W.alloc o) := fun o => (Fr.refl No W).alloc o
    have z1 := cell_lt k1
    have z3 := cell_lt k3
    have HK := hid hK
    have HFR := hid hfr
    clear hK hfr
    simp only [Ix.rowEnc, En.val]
    gi_wp2
    refine HK.out _ _ ((KeepsOthers.alloc _ _).from _) (fW _).no ⟨⟨(fW _).cell_some k1 (fun h => h), ((fW _).frozen (p := ⟨W1.heap.size + 1, 0, none⟩) z1 (fun h => h)).trans k2, (fW _).cell_some k3 (fun h => h), ((fW _).frozen (p := ⟨w.heap.size + 1 + 1 + 1 + 1, 0, none⟩) z3 (fun h => h)).trans k4⟩, HFR.out.trans (fW _).no, hmm⟩ ⟨W.heap.size, hsz0, ?_, ?_, ?_, rfl⟩
    · exact cell_of (heap_new W _) 0
    · exact cell_of (heap_new W _) 1
    · exact cell_of (heap_new W _) 2
  case stop =>
    rintro D c xs W hD hpre hix hK
    rcases hix with ⟨rfl, pre, el, rfl, hbad⟩ | ⟨rfl, ⟨k1, k2, k3, k4⟩, hfr, hg1, hg2, hg3⟩
    · exfalso
      have h1 := hpre.map (fun el => ((x.by_ el.1 : Nat) : Int))
      rw [HROW.out] at h1
      obtain ⟨t, ht⟩ := h1
      apply hbad
      rw [← ht]
      simp
    · have hle : xs.length ≤ l.length := by rw [← HRL.out]; exact hpre.length_le
      have hmin : min (l.length : Int) (max most 1) = (xs.length : Nat) := by omega
      have nF : ∀ k, k < W1.heap.size + 1 → k ≠ w.heap.size + 1 + 1 + 1 + 1 → ¬ ((k = w.heap.size + 1 + 1 + 1 + 1 ∨ k = W1.heap.size + 1) ∨ W0.heap.size ≤ k) := fun k h1 h2 h => by omega
      have m3 := hfr.cell_some e3 (nF (w.heap.size + 1 + 1 + 1) (by omega) (by omega))
      have m11 := hfr.cell_some c11 (nF W1.heap.size (by omega) (by omega))
      have HFR := hid hfr
      obtain ⟨q, hq⟩ : ∃ q, xs.length = q := ⟨_, rfl⟩
      rw [hq] at k1 hle hmin
      have HMIN := hid hmin
      clear hfr nF e0 e1 e2 e3 e4 e5 c11 c12 d12 cbx cbv cbr f0 hmin
      gi_wp2
      all_goals
        have hK2 : (W.setCell ⟨w.heap.size + 1 + 1 + 1 + 1, 0, none⟩ (.bool true)).heap[D]? = some (.deferred (some [])) := (Below.heap_setCell _ ⟨w.heap.size + 1 + 1 + 1 + 1, 0, none⟩ _ D (by show D ≠ w.heap.size + 1 + 1 + 1 + 1; omega)).trans hK
        have x4 : (W.setCell ⟨w.heap.size + 1 + 1 + 1 + 1, 0, none⟩ (.bool true)).cell? ⟨w.heap.size + 1 + 1 + 1 + 1, 0, none⟩ = some (.bool true) := World.cell?_setCell_same' _ _ _ (by rw [k3]; rfl)
        have hf1 : Fr No w (W.setCell ⟨w.heap.size + 1 + 1 + 1 + 1, 0, none⟩ (.bool true)) := (F0.out.trans' HFR.out (fun i hi h => by omega)).setCell (p := ⟨w.heap.size + 1 + 1 + 1 + 1, 0, none⟩) (.inr (by show w.heap.size ≤ w.heap.size + 1 + 1 + 1 + 1; omega)) _
        obtain ⟨W8, hW8⟩ : ∃ W8, W.setCell ⟨w.heap.size + 1 + 1 + 1 + 1, 0, none⟩ (.bool true) = W8 := ⟨_, rfl⟩
        rw [hW8] at hK2 x4 hf1 ⊢
        have y4 := cell_kept x4 (grownBy_putObj' W8 D (.deferred none)) (fun r e => by cases e; exact ⟨_, hK2, rfl⟩)
        have hf2 : Fr No w (W8.putObj D (.deferred none)) := hf1.trans' (fr_putObj (F := fun k => w.heap.size ≤ k) W8 D _ (by show w.heap.size ≤ D; omega)) (fun i hi h => by have h' : w.heap.size ≤ i := h; omega)
        refine ⟨by simp, .inl ⟨_, _, rfl, run_takeDeferred hK2, ?_⟩⟩
        exact ⟨_, by simp [results, Tryd.results35, go_sem, y4], rfl, hf2⟩
  case done =>
    rintro D xs W hD hys ⟨⟨k1, k2, k3, k4⟩, hfr, hmm⟩ hK
    have hle : xs.length = l.length := by rw [← HRL.out, hys]
    have hmin : min (l.length : Int) (max most 1) = (xs.length : Nat) := by omega
    have nF : ∀ k, k < W1.heap.size + 1 → k ≠ w.heap.size + 1 + 1 + 1 + 1 → ¬ ((k = w.heap.size + 1 + 1 + 1 + 1 ∨ k = W1.heap.size + 1) ∨ W0.heap.size ≤ k) := fun k h1 h2 h => by omega
    have m3 := hfr.cell_some e3 (nF (w.heap.size + 1 + 1 + 1) (by omega) (by omega))
    have m11 := hfr.cell_some c11 (nF W1.heap.size (by omega) (by omega))
    have HFR := hid hfr
    obtain ⟨q, hq⟩ : ∃ q, xs.length = q := ⟨_, rfl⟩
    rw [hq] at k1 hle hmin
    have HMIN := hid hmin
    clear hfr nF e0 e1 e2 e3 e4 e5 c11 c12 d12 cbx cbv cbr f0 hmin
    gi_wp2
    all_goals
      have hK2 : (W.setCell ⟨w.heap.size + 1 + 1 + 1 + 1, 0, none⟩ (.bool true)).heap[D]? = some (.deferred (some [])) := (Below.heap_setCell _ ⟨w.heap.size + 1 + 1 + 1 + 1, 0, none⟩ _ D (by show D ≠ w.heap.size + 1 + 1 + 1 + 1; omega)).trans hK
      have x4 : (W.setCell ⟨w.heap.size + 1 + 1 + 1 + 1, 0, none⟩ (.bool true)).cell? ⟨w.heap.size + 1 + 1 + 1 + 1, 0, none⟩ = some (.bool true) := World.cell?_setCell_same' _ _ _ (by rw [k3]; rfl)
      have hf1 : Fr No w (W.setCell ⟨w.heap.size + 1 + 1 + 1 + 1, 0, none⟩ (.bool true)) := (F0.out.trans' HFR.out (fun i hi h => by omega)).setCell (p := ⟨w.heap.size + 1 + 1 + 1 + 1, 0, none⟩) (.inr (by show w.heap.size ≤ w.heap.size + 1 + 1 + 1 + 1; omega)) _
      obtain ⟨W8, hW8⟩ : ∃ W8, W.setCell ⟨w.heap.size + 1 + 1 + 1 + 1, 0, none⟩ (.bool true) = W8 := ⟨_, rfl⟩
      rw [hW8] at hK2 x4 hf1 ⊢
      have y4 := cell_kept x4 (grownBy_putObj' W8 D (.deferred none)) (fun r e => by cases e; exact ⟨_, hK2, rfl⟩)
      have hf2 : Fr No w (W8.putObj D (.deferred none)) := hf1.trans' (fr_putObj (F := fun k => w.heap.size ≤ k) W8 D _ (by show w.heap.size ≤ D; omega)) (fun i hi h => by have h' : w.heap.size ≤ i := h; omega)
      refine ⟨by simp, .inl ⟨_, _, rfl, run_takeDeferred hK2, ?_⟩⟩
      exact ⟨_, by simp [results, Tryd.results35, go_sem, y4], rfl, hf2⟩
  case body =>
    rintro l' pre el a' W hlp hloop ⟨⟨k1, k2, k3, k4⟩, hfr, hmm⟩ ⟨Be, hBe, g0, g1, g2, rfl⟩ hlen
    have hvx : x.vertex v = true := by
      cases hvx : x.vertex v with
      | true => rfl
      | false => unfold Ix.row at hlen; rw [hvx] at hlen; simp at hlen
    obtain ⟨hby, hdir⟩ := (H.out.ok).row_el hvx el
    rw [HRL.out] at hlen
    have hz12 : W1.heap.size + 1 < W0.heap.size := by omega
    have hz4 : w.heap.size + 1 + 1 + 1 + 1 < W0.heap.size := by omega
    have hz11 : W1.heap.size < W0.heap.size := by omega
    clear hsz
    have nF : ∀ k, k < W1.heap.size + 1 → k ≠ w.heap.size + 1 + 1 + 1 + 1 → ¬ ((k = w.heap.size + 1 + 1 + 1 + 1 ∨ k = W1.heap.size + 1) ∨ W0.heap.size ≤ k) := fun k h1 h2 h => by omega
    have m0 := hfr.cell_some e0 (nF w.heap.size (by omega) (by omega))
    have m1 := hfr.cell_some e1 (nF (w.heap.size + 1) (by omega) (by omega))
    have m2 := hfr.cell_some e2 (nF (w.heap.size + 1 + 1) (by omega) (by omega))
    have m3 := hfr.cell_some e3 (nF (w.heap.size + 1 + 1 + 1) (by omega) (by omega))
    have m11 := hfr.cell_some c11 (nF W1.heap.size (by omega) (by omega))
    have HRW := hid (hHR.out.fr hfr (nF R.b (by omega) (by omega)) (nF R.br (by omega) (by omega)))
    rcases HSL.out with ⟨h0, _⟩ | ⟨lb, lo, lcc, h0, hle, hcs⟩
    · rw [h0] at hlen; simp at hlen
    · simp only [Value.slice.injEq] at hle
      obtain ⟨rfl, _, rfl⟩ := hle
      have hel := hcs pre.length hlen
      have hlb := cell_lt hel
      have hnb : lb ≠ w.heap.size + 1 + 1 + 1 + 1 := fun e => by rw [e] at hel; exact HB6.out _ _ _ hel
      have mel := hfr.cell_some (f0.cell_some hel (fun h => h)) (nF lb (Nat.lt_succ_of_lt hlb) hnb)
      have z1 := cell_lt k1
      have z3 := cell_lt k3
      have hsz0 := hfr.size
      have hlen2 : (pre.length : Int) < l.length := by omega
      have hlen3 : pre.length < 24 := by omega
      have HDIR := hid hdir
      obtain ⟨⟨p0, p1, p2⟩, hen⟩ : ∃ y, x.rowE v.toNat false el.1 = y := ⟨_, rfl⟩
      have HEN := hid hen
      obtain ⟨z, hz⟩ : ∃ z, x.by_ el.1 = z := ⟨_, rfl⟩
      have HZ := hid hz
      obtain ⟨y, hy⟩ : ∃ y, l.getD pre.length 0 = y := ⟨_, rfl⟩
      have HY := hid hy
      have HLEN1 := hid (show ((pre ++ [el]).length : Nat) = pre.length + 1 by simp)
      obtain ⟨q, hq⟩ : ∃ q, pre.length = q := ⟨_, rfl⟩
      rw [hen] at g0 g1 g2
      have hat : x.at_ v (z : Nat) = ⟨p0, p1, p2⟩ := by
        have := HDIR.out
        rw [HEN.out, HZ.out] at this
        simpa [Ix.dirE] using this.symm
      have hca : ∀ n : Fam W, Calls Tryd.prog 32 #[.pointer (some ⟨R.b, 0, none⟩), .int .i64 v, .int .i64 (z : Nat)] n.v fun e w' => e = .returned (.agg #[.int .i64 p0, .int .i64 p1, .int .i64 p2]) ∧ Fr No n.v w' := fun n => by
        have := rat_calls (HRW.out.no n.h) v (z : Nat)
        rw [hat] at this
        exact this
      have HHY := hid hy
      rw [hy] at mel
      rw [hq] at k1 mel hlen2 hlen3 hmm
      simp only at g0 g1 g2
      have kk0 : ∀ n : Fam W, n.v.cell? ⟨w.heap.size, 0, none⟩ = some (.pointer (some ⟨R.b, 0, none⟩)) := Fam.cell m0
      have kk1 : ∀ n : Fam W, n.v.cell? ⟨w.heap.size + 1, 0, none⟩ = some (.int .i64 v) := Fam.cell m1
      have kk2 : ∀ n : Fam W, n.v.cell? ⟨w.heap.size + 1 + 1, 0, none⟩ = some (.bool false) := Fam.cell m2
      have kk3 : ∀ n : Fam W, n.v.cell? ⟨W1.heap.size, 0, none⟩ = some (.slice (some ⟨lb, lo, none⟩) l.length lc) := Fam.cell m11
      have kk4 : ∀ n : Fam W, n.v.cell? ⟨W1.heap.size + 1, 0, none⟩ = some (.int .i64 (q : Nat)) := Fam.cell k1
      have kk5 : ∀ n : Fam W, n.v.cell? ⟨Be, 0, none⟩ = some (.int .i64 p0) := Fam.cell g0
      have kk6 : ∀ n : Fam W, n.v.cell? ⟨Be, 1, none⟩ = some (.int .i64 p1) := Fam.cell g1
      have kk7 : ∀ n : Fam W, n.v.cell? ⟨Be, 2, none⟩ = some (.int .i64 p2) := Fam.cell g2
      have kk8 : ∀ n : Fam W, n.v.cell? ⟨lb, lo + q, none⟩ = some (.int .i64 y) := Fam.cell mel
      have HFR := hid hfr
      have HK := hid (And.intro k1 (And.intro k2 (And.intro k3 (And.intro k4 m3))))
      have HQ := hid hq
      clear hcs hel h0 nF m0 m1 m2 m11 mel k1 k2 k3 k4 m3 g0 g1 g2 hfr hat hen hz hy hq hdir e0 e1 e2 e3 e4 e5 c11 c12 d12 cbx cbv cbr hlen hloop f0
      rw [HEN.out, HZ.out]
      simp only [En.val]
      have hd1 : decide ((l.length : Int) ≤ q) = false := by simp; omega
      have hd2 : ((l.length : Int) ≤ q) = False := by simp; omega
      have hd3 : (l.length ≤ q) = False := by simp; omega
      by_cases hmt : y = (z : Nat)
      · subst hmt
        gi_wp2_with fail
        refine wpIn_region_fam (by kernel_rfl) (by kernel_rfl) (by kernel_rfl) ?_
        repeat (go_big_quiet_step (exact Calls.fam (hca _)))
        refine wpQuiet_nil ?_
        rintro w7 ⟨⟨w7, hf7⟩, rfl⟩
        have j1 := hf7.cell_some HK.out.1 (fun h => h)
        have j2 := (hf7.frozen (p := ⟨W1.heap.size + 1, 0, none⟩) z1 (fun h => h)).trans HK.out.2.1
        have j3 := hf7.cell_some HK.out.2.2.1 (fun h => h)
        have j4 := (hf7.frozen (p := ⟨w.heap.size + 1 + 1 + 1 + 1, 0, none⟩) z3 (fun h => h)).trans HK.out.2.2.2.1
        have j5 := hf7.cell_some HK.out.2.2.2.2 (fun h => h)
        have HF7 := hid hf7
        clear kk0 kk1 kk2 kk3 kk4 kk5 kk6 kk7 kk8 hca hf7
        by_cases hge : most ≤ (q : Int) + 1
        · have hge2 : ((q : Int) + 1 ≥ most) = True := by simp; omega
          gi_wp2
          have hw8 : Fr (One (W1.heap.size + 1)) W (w7.setCell ⟨W1.heap.size + 1, 0, none⟩ (.int .i64 ((q : Int) + 1))) := HF7.out.no.set1 _ _
          have hl1 : (((pre ++ [el]).length : Nat) : Int) = (q : Int) + 1 := by rw [HLEN1.out, HQ.out]; omega
          have hcells : (w7.setCell ⟨W1.heap.size + 1, 0, none⟩ (.int .i64 ((q : Int) + 1))).cell? ⟨W1.heap.size + 1, 0, none⟩ = some (.int .i64 ((pre ++ [el]).length : Nat)) ∧ (w7.setCell ⟨W1.heap.size + 1, 0, none⟩ (.int .i64 ((q : Int) + 1))).frozen? ⟨W1.heap.size + 1, 0, none⟩ = false ∧
              (w7.setCell ⟨W1.heap.size + 1, 0, none⟩ (.int .i64 ((q : Int) + 1))).cell? ⟨w.heap.size + 1 + 1 + 1 + 1, 0, none⟩ = some (.bool false) ∧ (w7.setCell ⟨W1.heap.size + 1, 0, none⟩ (.int .i64 ((q : Int) + 1))).frozen? ⟨w.heap.size + 1 + 1 + 1 + 1, 0, none⟩ = false :=
            ⟨by rw [hl1]; exact World.cell?_setCell_same' _ _ _ (by rw [j1]; rfl), by rw [World.frozen?_setCell]; exact j2, by rw [World.cell?_setCell_other _ _ _ _ (by simp <;> omega)]; exact j3, by rw [World.frozen?_setCell]; exact j4⟩
          have hkf := keepsFrom_fr (B := W0.heap.size) hw8 (fun k (h : k = _) => by omega)
          have hfr8 := HFR.out.trans' hw8 (fun k hk (h : k = W1.heap.size + 1) => .inl (.inr h))
          exact ⟨hkf, .inr ⟨rfl, hcells, hfr8, by rw [hl1]; exact hge, by rw [HLEN1.out]; omega, by rw [hl1, HLEN1.out, HQ.out]; omega⟩⟩
        · gi_wp2
          have hw8 : Fr (One (W1.heap.size + 1)) W (w7.setCell ⟨W1.heap.size + 1, 0, none⟩ (.int .i64 ((q : Int) + 1))) := HF7.out.no.set1 _ _
          have hl1 : (((pre ++ [el]).length : Nat) : Int) = (q : Int) + 1 := by rw [HLEN1.out, HQ.out]; omega
          have hcells : (w7.setCell ⟨W1.heap.size + 1, 0, none⟩ (.int .i64 ((q : Int) + 1))).cell? ⟨W1.heap.size + 1, 0, none⟩ = some (.int .i64 ((pre ++ [el]).length : Nat)) ∧ (w7.setCell ⟨W1.heap.size + 1, 0, none⟩ (.int .i64 ((q : Int) + 1))).frozen? ⟨W1.heap.size + 1, 0, none⟩ = false ∧
              (w7.setCell ⟨W1.heap.size + 1, 0, none⟩ (.int .i64 ((q : Int) + 1))).cell? ⟨w.heap.size + 1 + 1 + 1 + 1, 0, none⟩ = some (.bool false) ∧ (w7.setCell ⟨W1.heap.size + 1, 0, none⟩ (.int .i64 ((q : Int) + 1))).frozen? ⟨w.heap.size + 1 + 1 + 1 + 1, 0, none⟩ = false :=
            ⟨by rw [hl1]; exact World.cell?_setCell_same' _ _ _ (by rw [j1]; rfl), by rw [World.frozen?_setCell]; exact j2, by rw [World.cell?_setCell_other _ _ _ _ (by simp <;> omega)]; exact j3, by rw [World.frozen?_setCell]; exact j4⟩
          have hkf := keepsFrom_fr (B := W0.heap.size) hw8 (fun k (h : k = _) => by omega)
          have hfr8 := HFR.out.trans' hw8 (fun k hk (h : k = W1.heap.size + 1) => .inl (.inr h))
          exact ⟨hkf, hw8.mono (fun k hk (h : k = W1.heap.size + 1) => .inl (.inr h)), hcells, hfr8, .inl (by rw [hl1]; omega)⟩
      · have hn1' : (y == ((z : Nat) : Int)) = false := by simpa using hmt
        have hn2' : decide (y = ((z : Nat) : Int)) = false := by simpa using hmt
        have hn3' : (y != ((z : Nat) : Int)) = true := by simpa using hmt
        have hn4' : (y = ((z : Nat) : Int)) = False := by simpa using hmt
        gi_wp2_with fail
        refine wpIn_region_fam (by kernel_rfl) (by kernel_rfl) (by kernel_rfl) ?_
        repeat (go_big_quiet_step (exact Calls.fam (hca _)))
        refine wpQuiet_nil ?_
        rintro w7 ⟨⟨w7, hf7⟩, rfl⟩
        have j3 := hf7.cell_some HK.out.2.2.1 (fun h => h)
        have j4 := (hf7.frozen (p := ⟨w.heap.size + 1 + 1 + 1 + 1, 0, none⟩) z3 (fun h => h)).trans HK.out.2.2.2.1
        have HF7 := hid hf7
        clear kk0 kk1 kk2 kk3 kk4 kk5 kk6 kk7 kk8 hca hf7
        gi_wp2
        exact ⟨keepsFrom_fr (HF7.out.no.set1 _ _ : Fr (One (w.heap.size + 1 + 1 + 1 + 1)) W _) (fun k (h : k = _) => by omega), .inl ⟨rfl, pre, el, rfl, by rw [HZ.out, HHY.out]; exact fun e => hmt e.symm⟩⟩

end Go.Proofs.YtlncmnphjdeeoaaDoor

/- The law's 'goes': the entries of a vertex's row, gone through, are the document's, as far as they are asked for; walked (down). -/
set_option linter.unusedVariables false
set_option linter.unusedSimpArgs false
namespace Go.Proofs.YtlncmnphjdeeoaaDoor
open Go.RowKit Go.Shelf

attribute [local go_sem] Oper.semAt_some
attribute [local go_sem high] run_eql_en run_neq_en eq3_self

set_option maxRecDepth 100000 in
set_option maxHeartbeats 4000000 in
theorem goes_down {x : Ix} {w : World} {L : IxLoc} {R : RxLoc} (h : IxMem w L x) (hr : RxMem w R x) (v most : Int) (hm : -9223372036854775808 ≤ most ∧ most ≤ 9223372036854775807) :
    Calls Tryd.prog 35 #[.pointer (some ⟨L.b, 0, none⟩), .pointer (some ⟨R.b, 0, none⟩), .int .i64 v, .bool true, .int .i64 most] w fun e w' => e = .returned (.bool true) ∧ Fr No w w' := by
  have H := hid h
  have HR := hid hr
  have hn2 := h.ok.n2
  have zl1 := h.lt
  have zl2 := h.hr.1
  have zl3 := h.hb.1
  have zl4 := h.gn.lt
  have zr1 := hr.lt
  have zr2 := hr.hr.1
  clear h hr
  refine (callsIn_wide (n := 7)).1 ?_
  refine callsIn_of_wp_marks Tryd.func35 rfl trivial ?_ rfl
  simp only [Tryd.ntmps35, List.size_toArray, List.length_cons, List.length_nil, Nat.reduceAdd, Nat.reduceSub, Array.replicate_succ, Array.replicate_zero, List.push_toArray, List.append_toArray, List.nil_append, List.cons_append]
  gi_wp2
  generalize hWa : (((((w.alloc (Obj.cells #[Value.pointer (some ⟨R.b, 0, none⟩)] 26)).alloc (Obj.cells #[Value.int .i64 v] 3)).alloc (Obj.cells #[Value.bool true] 4)).alloc (Obj.cells #[Value.int .i64 most] 3)).alloc (Obj.cells #[Value.bool false] 4)) = Wa
  have fa : Fr No w Wa := by rw [← hWa]; exact (((((Fr.refl No w).alloc _).alloc _).alloc _).alloc _).alloc _
  have a0 : Wa.cell? ⟨w.heap.size, 0, none⟩ = some (.pointer (some ⟨R.b, 0, none⟩)) := by rw [← hWa]; simp [go_sem]
  have a1 : Wa.cell? ⟨w.heap.size + 1, 0, none⟩ = some (.int .i64 v) := by rw [← hWa]; simp [go_sem]
  have a2 : Wa.cell? ⟨w.heap.size + 1 + 1, 0, none⟩ = some (.bool true) := by rw [← hWa]; simp [go_sem]
  have a3 : Wa.cell? ⟨w.heap.size + 1 + 1 + 1, 0, none⟩ = some (.int .i64 most) := by rw [← hWa]; simp [go_sem]
  have a4 : Wa.cell? ⟨w.heap.size + 1 + 1 + 1 + 1, 0, none⟩ = some (.bool false) := by rw [← hWa]; simp [go_sem]
  have a5 : Wa.frozen? ⟨w.heap.size + 1 + 1 + 1 + 1, 0, none⟩ = false := by rw [← hWa]; simp [go_sem]
  have a6 : Wa.heap[w.heap.size + 1 + 1 + 1 + 1]? = some (.cells #[.bool false] 4) := by
    rw [← hWa]
    have := heap_new ((((w.alloc (Obj.cells #[Value.pointer (some ⟨R.b, 0, none⟩)] 26)).alloc (Obj.cells #[Value.int .i64 v] 3)).alloc (Obj.cells #[Value.bool true] 4)).alloc (Obj.cells #[Value.int .i64 most] 3)) (Obj.cells #[Value.bool false] 4)
    simpa using this
  have hsa : Wa.heap.size = w.heap.size + 1 + 1 + 1 + 1 + 1 := by rw [← hWa]; simp
  clear hWa
  gi_wp2
  refine ⟨trivial, callsIn_wide.2 ((rup_calls (HR.out.no fa) v true).mono ?_)⟩
  rintro e W1 ⟨LA, lc, rfl, hf1, hsl⟩
  have F1 := hid (fa.trans hf1)
  have b0 := hf1.cell_some a0 (fun h => h)
  have b1 := hf1.cell_some a1 (fun h => h)
  have b2 := hf1.cell_some a2 (fun h => h)
  have b3 := hf1.cell_some a3 (fun h => h)
  have b4 := hf1.cell_some a4 (fun h => h)
  have b5 := (hf1.frozen (p := ⟨w.heap.size + 1 + 1 + 1 + 1, 0, none⟩) (by show w.heap.size + 1 + 1 + 1 + 1 < Wa.heap.size; omega) (fun h => h)).trans a5
  have hs1 := hf1.size
  rw [hsa] at hs1
  have l0 : w.heap.size < W1.heap.size := by omega
  have l1 : w.heap.size + 1 < W1.heap.size := by omega
  have l2 : w.heap.size + 1 + 1 < W1.heap.size := by omega
  have l3 : w.heap.size + 1 + 1 + 1 < W1.heap.size := by omega
  have l4 : w.heap.size + 1 + 1 + 1 + 1 < W1.heap.size := by omega
  have b6 := (own_no hf1 _ a6).2.2.2
  have HSL := hid hsl
  obtain ⟨l, hl⟩ : ∃ l, x.ups v true = l := ⟨_, rfl⟩
  have hlle := x.ups_le v true
  rw [hl] at HSL hlle
  rw [hl]
  have HL := hid hl
  clear a0 a1 a2 a3 a4 a5 a6 fa hf1 hsl hl hsa
  gi_wp2
  refine ⟨trivial, callsIn_wide.2 ((up_calls L.b v _).mono ?_)⟩
  rintro e Wm ⟨rfl, hWm⟩
  simp only [World.size_alloc] at hWm ⊢
  have fm : Fr No W1 Wm := by rw [hWm]; exact (((((Fr.refl No W1).alloc _).alloc _).alloc _).alloc _).alloc _
  have u11 : Wm.cell? ⟨W1.heap.size, 0, none⟩ = some (.slice LA l.length lc) := by rw [hWm]; simp [go_sem]
  have u12 : Wm.cell? ⟨W1.heap.size + 1, 0, none⟩ = some (.int .i64 0) := by rw [hWm]; simp [go_sem]
  have ud12 : Wm.frozen? ⟨W1.heap.size + 1, 0, none⟩ = false := by rw [hWm]; simp [go_sem]
  have v2 := fm.cell_some b2 (fun h => h)
  have v1 := fm.cell_some b1 (fun h => h)
  have hszm : Wm.heap.size = W1.heap.size + 1 + 1 + 1 + 1 + 1 := by rw [hWm]; simp
  clear hWm
  gi_wp2
  refine ⟨trivial, callsIn_wide.2 ((down_calls L.b v _).mono ?_)⟩
  rintro e W0 ⟨rfl, hW0⟩
  have g0 : Fr No Wm W0 := by rw [hW0]; exact (((Fr.refl No Wm).alloc _).alloc _).alloc _
  have f0 : Fr No W1 W0 := fm.trans g0
  have c11 := g0.cell_some u11 (fun h => h)
  have c12 := g0.cell_some u12 (fun h => h)
  have d12 := (g0.frozen (p := ⟨W1.heap.size + 1, 0, none⟩) (by show W1.heap.size + 1 < Wm.heap.size; omega) (fun h => h)).trans ud12
  have cbx : W0.cell? ⟨Wm.heap.size, 0, none⟩ = some (.pointer (some ⟨L.b, 0, none⟩)) := by rw [hW0]; simp [go_sem]
  have cbv : W0.cell? ⟨Wm.heap.size + 1, 0, none⟩ = some (.int .i64 v) := by rw [hW0]; simp [go_sem]
  have cbr : W0.cell? ⟨Wm.heap.size + 1 + 1, 0, none⟩ = some (.func (.func 98) #[] #[]) := by rw [hW0]; simp [go_sem]
  have hsz : W0.heap.size = Wm.heap.size + 1 + 1 + 1 := by rw [hW0]; simp
  rw [hszm] at cbx cbv cbr hsz
  simp only [hszm]
  have e0 := f0.cell_some b0 (fun h => h)
  have e1 := f0.cell_some b1 (fun h => h)
  have e2 := f0.cell_some b2 (fun h => h)
  have e3 := f0.cell_some b3 (fun h => h)
  have e4 := f0.cell_some b4 (fun h => h)
  have e5 := (f0.frozen (p := ⟨w.heap.size + 1 + 1 + 1 + 1, 0, none⟩) l4 (fun h => h)).trans b5
  have hb6 : ∀ (lo j : Nat) (y : Int), W1.cell? ⟨w.heap.size + 1 + 1 + 1 + 1, lo + j, none⟩ = some (.int .i64 y) → False := fun lo j y h => by
    rw [cell_of b6] at h
    rcases Nat.eq_zero_or_pos (lo + j) with h0 | h0
    · rw [h0] at h; simp at h
    · rw [Array.getElem?_eq_none (by simp; omega)] at h; cases h
  have HB6 := hid hb6
  have hrow := (H.out.ok).row_eq v true
  rw [HL.out] at hrow
  have hrl : (x.row v true).length = l.length := by rw [← hrow]; simp
  have HROW := hid hrow
  have HRL := hid hrl
  have F0 := hid (F1.out.trans f0)
  have hHM := hid (H.out.no F0.out)
  have hHR := hid (HR.out.no F0.out)
  clear hW0 g0 u11 u12 ud12 v2 v1 fm hszm b0 b1 b2 b3 b4 b5 b6 hb6 hrow hrl
  gi_wp2
  refine wpIn_rangeFunc_ownH rfl (by omega) (gf := 117) (lb := #[.pointer (some ⟨W1.heap.size + 1 + 1 + 1 + 1 + 1, 0, none⟩), .pointer (some ⟨W1.heap.size + 1 + 1 + 1 + 1 + 1 + 1, 0, none⟩), .pointer (some ⟨W1.heap.size + 1 + 1 + 1 + 1 + 1 + 1 + 1, 0, none⟩)]) rfl trivial (enters_of Tryd.func117 (by kernel_rfl) rfl)
    (all1_any_down (x := x) (L := L) 6 (by omega) (W1.heap.size + 1 + 1 + 1 + 1 + 1) (W1.heap.size + 1 + 1 + 1 + 1 + 1 + 1) (W1.heap.size + 1 + 1 + 1 + 1 + 1 + 1 + 1) v (fun k => (k = w.heap.size + 1 + 1 + 1 + 1 ∨ k = W1.heap.size + 1) ∨ W0.heap.size ≤ k) (by omega) (by omega) (by omega) (by omega) (by omega) (by omega) W0 hHM.out cbx cbv cbr)
    (fun h k => Fr.trans h k) (fun W l' o o' hl _ _ _ => fr_putObj W l' o' (.inr hl)) (Below.refl _ _) (fun _ => rfl)
    (fun pre W => (W.cell? ⟨W1.heap.size + 1, 0, none⟩ = some (.int .i64 (pre.length : Nat)) ∧ W.frozen? ⟨W1.heap.size + 1, 0, none⟩ = false ∧ W.cell? ⟨w.heap.size + 1 + 1 + 1 + 1, 0, none⟩ = some (.bool false) ∧ W.frozen? ⟨w.heap.size + 1 + 1 + 1 + 1, 0, none⟩ = false) ∧
      Fr (fun k => (k = w.heap.size + 1 + 1 + 1 + 1 ∨ k = W1.heap.size + 1) ∨ W0.heap.size ≤ k) W0 W ∧ ((pre.length : Int) < most ∨ pre.length = 0))
    (fun c xs W => (c = .ret ∧ ∃ (pre : List (x.RowEl v.toNat true)) (el : x.RowEl v.toNat true), xs = pre ++ [el] ∧ ((x.by_ el.1 : Nat) : Int) ≠ l.getD pre.length 0) ∨
      (c = .exit 0 ∧ (W.cell? ⟨W1.heap.size + 1, 0, none⟩ = some (.int .i64 (xs.length : Nat)) ∧ W.frozen? ⟨W1.heap.size + 1, 0, none⟩ = false ∧ W.cell? ⟨w.heap.size + 1 + 1 + 1 + 1, 0, none⟩ = some (.bool false) ∧ W.frozen? ⟨w.heap.size + 1 + 1 + 1 + 1, 0, none⟩ = false) ∧
        Fr (fun k => (k = w.heap.size + 1 + 1 + 1 + 1 ∨ k = W1.heap.size + 1) ∨ W0.heap.size ≤ k) W0 W ∧ most ≤ (xs.length : Int) ∧ 1 ≤ xs.length ∧ ((xs.length : Int) - 1 < most ∨ xs.length = 1)))
    (fun s A B row hs hg hr => ⟨⟨cell_kept hs.1.1 hg (fun r e => (hr r e).2), (frozen_kept hs.1.1 hg (fun r e => (hr r e).2)).trans hs.1.2.1, cell_kept hs.1.2.2.1 hg (fun r e => (hr r e).2), (frozen_kept hs.1.2.2.1 hg (fun r e => (hr r e).2)).trans hs.1.2.2.2⟩, ownFrom_fr _ W0 s A B row hs.2.1 hg hr, hs.2.2⟩)
    (fun c s A B row hs hg hr => by
      rcases hs with hs | ⟨e, hs⟩
      · exact .inl hs
      · exact .inr ⟨e, ⟨cell_kept hs.1.1 hg (fun r e => (hr r e).2), (frozen_kept hs.1.1 hg (fun r e => (hr r e).2)).trans hs.1.2.1, cell_kept hs.1.2.2.1 hg (fun r e => (hr r e).2), (frozen_kept hs.1.2.2.1 hg (fun r e => (hr r e).2)).trans hs.1.2.2.2⟩, ownFrom_fr _ W0 s A B row hs.2.1 hg hr, hs.2.2⟩)
    ⟨⟨by simpa using c12, d12, e4, e5⟩, Fr.refl _ _, .inr rfl⟩
    (fun el a' W => ∃ Be, W0.heap.size ≤ Be ∧ W.cell? ⟨Be, 0, none⟩ = some (.int .i64 (x.rowE v.toNat true el.1).w) ∧ W.cell? ⟨Be, 1, none⟩ = some (.int .i64 (x.rowE v.toNat true el.1).a) ∧ W.cell? ⟨Be, 2, none⟩ = some (.int .i64 (x.rowE v.toNat true el.1).m) ∧
      a' = { tmps := #[.pointer (some ⟨L.b, 0, none⟩), .pointer (some ⟨R.b, 0, none⟩), .int .i64 v, .bool true, .int .i64 most, undef, .pointer (some ⟨w.heap.size, 0, none⟩), .pointer (some ⟨w.heap.size + 1, 0, none⟩), .pointer (some ⟨w.heap.size + 1 + 1, 0, none⟩), .pointer (some ⟨w.heap.size + 1 + 1 + 1, 0, none⟩), .pointer (some ⟨w.heap.size + 1 + 1 + 1 + 1, 0, none⟩), .pointer (some ⟨W1.heap.size, 0, none⟩), .pointer (some ⟨W1.heap.size + 1, 0, none⟩), .func (.func 117) #[] #[.pointer (some ⟨W1.heap.size + 1 + 1 + 1 + 1 + 1, 0, none⟩), .pointer (some ⟨W1.heap.size + 1 + 1 + 1 + 1 + 1 + 1, 0, none⟩), .pointer (some ⟨W1.heap.size + 1 + 1 + 1 + 1 + 1 + 1 + 1, 0, none⟩)], .int .i64 (x.by_ el.1 : Nat), .pointer (some ⟨Be, 0, none⟩), .pointer (some ⟨R.b, 0, none⟩), .int .i64 v, .bool true, .slice LA l.length lc, .pointer (some ⟨L.b, 0, none⟩), .int .i64 v, .func (.func 117) #[] #[.pointer (some ⟨W1.heap.size + 1 + 1, 0, none⟩), .pointer (some ⟨W1.heap.size + 1 + 1 + 1, 0, none⟩), .pointer (some ⟨W1.heap.size + 1 + 1 + 1 + 1, 0, none⟩)], .bool true, .pointer (some ⟨L.b, 0, none⟩), .int .i64 v, .func (.func 117) #[] #[.pointer (some ⟨W1.heap.size + 1 + 1 + 1 + 1 + 1, 0, none⟩), .pointer (some ⟨W1.heap.size + 1 + 1 + 1 + 1 + 1 + 1, 0, none⟩), .pointer (some ⟨W1.heap.size + 1 + 1 + 1 + 1 + 1 + 1 + 1, 0, none⟩)], .func (.func 117) #[] #[.pointer (some ⟨W1.heap.size + 1 + 1 + 1 + 1 + 1, 0, none⟩), .pointer (some ⟨W1.heap.size + 1 + 1 + 1 + 1 + 1 + 1, 0, none⟩), .pointer (some ⟨W1.heap.size + 1 + 1 + 1 + 1 + 1 + 1 + 1, 0, none⟩)], .int .i64 (x.by_ el.1 : Nat), (x.rowE v.toNat true el.1).val, undef, undef, undef, undef, undef, undef, undef, undef, undef, undef, undef, undef, undef, undef, undef, undef, undef, undef, undef, undef, undef, undef, undef, undef, undef, undef, undef, undef, undef, undef, undef, undef, undef, undef, undef, undef, undef, undef, undef, undef, undef, undef, undef, undef, undef, undef, undef, undef, undef, undef, undef, undef, undef, undef, undef, undef], defers := [] })
    (fun el a' s A B row hs hg hr => by
      obtain ⟨Be, h0, h1, h2, h3, h4⟩ := hs
      exact ⟨Be, h0, cell_kept h1 hg (fun r e => (hr r e).2), cell_kept h2 hg (fun r e => (hr r e).2), cell_kept h3 hg (fun r e => (hr r e).2), h4⟩)
    ?assign ?body ?done ?stop
  case assign =>
    rintro l' pre el W K ⟨⟨k1, k2, k3, k4⟩, hfr, hmm⟩ hK
    have hsz0 := hfr.size
    have fW : ∀ o, Fr No W (W.alloc o) := fun o => (Fr.refl No W).alloc o
    have z1 := cell_lt k1
    have z3 := cell_lt k3
    have HK := hid hK
    have HFR := hid hfr
    clear hK hfr
    simp only [Ix.rowEnc, En.val]
    gi_wp2
    refine HK.out _ _ ((KeepsOthers.alloc _ _).from _) (fW _).no ⟨⟨(fW _).cell_some k1 (fun h => h), ((fW _).frozen (p := ⟨W1.heap.size + 1, 0, none⟩) z1 (fun h => h)).trans k2, (fW _).cell_some k3 (fun h => h), ((fW _).frozen (p := ⟨w.heap.size + 1 + 1 + 1 + 1, 0, none⟩) z3 (fun h => h)).trans k4⟩, HFR.out.trans (fW _).no, hmm⟩ ⟨W.heap.size, hsz0, ?_, ?_, ?_, rfl⟩
    · exact cell_of (heap_new W _) 0
    · exact cell_of (heap_new W _) 1
    · exact cell_of (heap_new W _) 2
  case stop =>
    rintro D c xs W hD hpre hix hK
    rcases hix with ⟨rfl, pre, el, rfl, hbad⟩ | ⟨rfl, ⟨k1, k2, k3, k4⟩, hfr, hg1, hg2, hg3⟩
    · exfalso
      have h1 := hpre.map (fun el => ((x.by_ el.1 : Nat) : Int))
      rw [HROW.out] at h1
      obtain ⟨t, ht⟩ := h1
      apply hbad
      rw [← ht]
      simp
    · have hle : xs.length ≤ l.length := by rw [← HRL.out]; exact hpre.length_le
      have hmin : min (l.length : Int) (max most 1) = (xs.length : Nat) := by omega
      have nF : ∀ k, k < W1.heap.size + 1 → k ≠ w.heap.size + 1 + 1 + 1 + 1 → ¬ ((k = w.heap.size + 1 + 1 + 1 + 1 ∨ k = W1.heap.size + 1) ∨ W0.heap.size ≤ k) := fun k h1 h2 h => by omega
      have m3 := hfr.cell_some e3 (nF (w.heap.size + 1 + 1 + 1) (by omega) (by omega))
      have m11 := hfr.cell_some c11 (nF W1.heap.size (by omega) (by omega))
      have HFR := hid hfr
      obtain ⟨q, hq⟩ : ∃ q, xs.length = q := ⟨_, rfl⟩
      rw [hq] at k1 hle hmin
      have HMIN := hid hmin
      clear hfr nF e0 e1 e2 e3 e4 e5 c11 c12 d12 cbx cbv cbr f0 hmin
      gi_wp2
      all_goals
        have hK2 : (W.setCell ⟨w.heap.size + 1 + 1 + 1 + 1, 0, none⟩ (.bool true)).heap[D]? = some (.deferred (some [])) := (Below.heap_setCell _ ⟨w.heap.size + 1 + 1 + 1 + 1, 0, none⟩ _ D (by show D ≠ w.heap.size + 1 + 1 + 1 + 1; omega)).trans hK
        have x4 : (W.setCell ⟨w.heap.size + 1 + 1 + 1 + 1, 0, none⟩ (.bool true)).cell? ⟨w.heap.size + 1 + 1 + 1 + 1, 0, none⟩ = some (.bool true) := World.cell?_setCell_same' _ _ _ (by rw [k3]; rfl)
        have hf1 : Fr No w (W.setCell ⟨w.heap.size + 1 + 1 + 1 + 1, 0, none⟩ (.bool true)) := (F0.out.trans' HFR.out (fun i hi h => by omega)).setCell (p := ⟨w.heap.size + 1 + 1 + 1 + 1, 0, none⟩) (.inr (by show w.heap.size ≤ w.heap.size + 1 + 1 + 1 + 1; omega)) _
        obtain ⟨W8, hW8⟩ : ∃ W8, W.setCell ⟨w.heap.size + 1 + 1 + 1 + 1, 0, none⟩ (.bool true) = W8 := ⟨_, rfl⟩
        rw [hW8] at hK2 x4 hf1 ⊢
        have y4 := cell_kept x4 (grownBy_putObj' W8 D (.deferred none)) (fun r e => by cases e; exact ⟨_, hK2, rfl⟩)
        have hf2 : Fr No w (W8.putObj D (.deferred none)) := hf1.trans' (fr_putObj (F := fun k => w.heap.size ≤ k) W8 D _ (by show w.heap.size ≤ D; omega)) (fun i hi h => by have h' : w.heap.size ≤ i := h; omega)
        refine ⟨by simp, .inl ⟨_, _, rfl, run_takeDeferred hK2, ?_⟩⟩
        exact ⟨_, by simp [results, Tryd.results35, go_sem, y4], rfl, hf2⟩
  case done =>
    rintro D xs W hD hys ⟨⟨k1, k2, k3, k4⟩, hfr, hmm⟩ hK
    have hle : xs.length = l.length := by rw [← HRL.out, hys]
    have hmin : min (l.length : Int) (max most 1) = (xs.length : Nat) := by omega
    have nF : ∀ k, k < W1.heap.size + 1 → k ≠ w.heap.size + 1 + 1 + 1 + 1 → ¬ ((k = w.heap.size + 1 + 1 + 1 + 1 ∨ k = W1.heap.size + 1) ∨ W0.heap.size ≤ k) := fun k h1 h2 h => by omega
    have m3 := hfr.cell_some e3 (nF (w.heap.size + 1 + 1 + 1) (by omega) (by omega))
    have m11 := hfr.cell_some c11 (nF W1.heap.size (by omega) (by omega))
    have HFR := hid hfr
    obtain ⟨q, hq⟩ : ∃ q, xs.length = q := ⟨_, rfl⟩
    rw [hq] at k1 hle hmin
    have HMIN := hid hmin
    clear hfr nF e0 e1 e2 e3 e4 e5 c11 c12 d12 cbx cbv cbr f0 hmin
    gi_wp2
    all_goals
      have hK2 : (W.setCell ⟨w.heap.size + 1 + 1 + 1 + 1, 0, none⟩ (.bool true)).heap[D]? = some (.deferred (some [])) := (Below.heap_setCell _ ⟨w.heap.size + 1 + 1 + 1 + 1, 0, none⟩ _ D (by show D ≠ w.heap.size + 1 + 1 + 1 + 1; omega)).trans hK
      have x4 : (W.setCell ⟨w.heap.size + 1 + 1 + 1 + 1, 0, none⟩ (.bool true)).cell? ⟨w.heap.size + 1 + 1 + 1 + 1, 0, none⟩ = some (.bool true) := World.cell?_setCell_same' _ _ _ (by rw [k3]; rfl)
      have hf1 : Fr No w (W.setCell ⟨w.heap.size + 1 + 1 + 1 + 1, 0, none⟩ (.bool true)) := (F0.out.trans' HFR.out (fun i hi h => by omega)).setCell (p := ⟨w.heap.size + 1 + 1 + 1 + 1, 0, none⟩) (.inr (by show w.heap.size ≤ w.heap.size + 1 + 1 + 1 + 1; omega)) _
      obtain ⟨W8, hW8⟩ : ∃ W8, W.setCell ⟨w.heap.size + 1 + 1 + 1 + 1, 0, none⟩ (.bool true) = W8 := ⟨_, rfl⟩
      rw [hW8] at hK2 x4 hf1 ⊢
      have y4 := cell_kept x4 (grownBy_putObj' W8 D (.deferred none)) (fun r e => by cases e; exact ⟨_, hK2, rfl⟩)
      have hf2 : Fr No w (W8.putObj D (.deferred none)) := hf1.trans' (fr_putObj (F := fun k => w.heap.size ≤ k) W8 D _ (by show w.heap.size ≤ D; omega)) (fun i hi h => by have h' : w.heap.size ≤ i := h; omega)
      refine ⟨by simp, .inl ⟨_, _, rfl, run_takeDeferred hK2, ?_⟩⟩
      exact ⟨_, by simp [results, Tryd.results35, go_sem, y4], rfl, hf2⟩
  case body =>
    rintro l' pre el a' W hlp hloop ⟨⟨k1, k2, k3, k4⟩, hfr, hmm⟩ ⟨Be, hBe, g0, g1, g2, rfl⟩ hlen
    have hvx : x.vertex v = true := by
      cases hvx : x.vertex v with
      | true => rfl
      | false => unfold Ix.row at hlen; rw [hvx] at hlen; simp at hlen
    obtain ⟨hby, hdir⟩ := (H.out.ok).row_el hvx el
    rw [HRL.out] at hlen
    have hz12 : W1.heap.size + 1 < W0.heap.size := by omega
    have hz4 : w.heap.size + 1 + 1 + 1 + 1 < W0.heap.size := by omega
    have hz11 : W1.heap.size < W0.heap.size := by omega
    clear hsz
    have nF : ∀ k, k < W1.heap.size + 1 → k ≠ w.heap.size + 1 + 1 + 1 + 1 → ¬ ((k = w.heap.size + 1 + 1 + 1 + 1 ∨ k = W1.heap.size + 1) ∨ W0.heap.size ≤ k) := fun k h1 h2 h => by omega
    have m0 := hfr.cell_some e0 (nF w.heap.size (by omega) (by omega))
    have m1 := hfr.cell_some e1 (nF (w.heap.size + 1) (by omega) (by omega))
    have m2 := hfr.cell_some e2 (nF (w.heap.size + 1 + 1) (by omega) (by omega))
    have m3 := hfr.cell_some e3 (nF (w.heap.size + 1 + 1 + 1) (by omega) (by omega))
    have m11 := hfr.cell_some c11 (nF W1.heap.size (by omega) (by omega))
    have HRW := hid (hHR.out.fr hfr (nF R.b (by omega) (by omega)) (nF R.br (by omega) (by omega)))
    rcases HSL.out with ⟨h0, _⟩ | ⟨lb, lo, lcc, h0, hle, hcs⟩
    · rw [h0] at hlen; simp at hlen
    · simp only [Value.slice.injEq] at hle
      obtain ⟨rfl, _, rfl⟩ := hle
      have hel := hcs pre.length hlen
      have hlb := cell_lt hel
      have hnb : lb ≠ w.heap.size + 1 + 1 + 1 + 1 := fun e => by rw [e] at hel; exact HB6.out _ _ _ hel
      have mel := hfr.cell_some (f0.cell_some hel (fun h => h)) (nF lb (Nat.lt_succ_of_lt hlb) hnb)
      have z1 := cell_lt k1
      have z3 := cell_lt k3
      have hsz0 := hfr.size
      have hlen2 : (pre.length : Int) < l.length := by omega
      have hlen3 : pre.length < 24 := by omega
      have HDIR := hid hdir
      obtain ⟨⟨p0, p1, p2⟩, hen⟩ : ∃ y, x.rowE v.toNat true el.1 = y := ⟨_, rfl⟩
      have HEN := hid hen
      obtain ⟨z, hz⟩ : ∃ z, x.by_ el.1 = z := ⟨_, rfl⟩
      have HZ := hid hz
      obtain ⟨y, hy⟩ : ∃ y, l.getD pre.length 0 = y := ⟨_, rfl⟩
      have HY := hid hy
      have HLEN1 := hid (show ((pre ++ [el]).length : Nat) = pre.length + 1 by simp)
      obtain ⟨q, hq⟩ : ∃ q, pre.length = q := ⟨_, rfl⟩
      rw [hen] at g0 g1 g2
      have hat : x.at_ (z : Nat) v = ⟨p0, p1, p2⟩ := by
        have := HDIR.out
        rw [HEN.out, HZ.out] at this
        simpa [Ix.dirE] using this.symm
      have hca : ∀ n : Fam W, Calls Tryd.prog 32 #[.pointer (some ⟨R.b, 0, none⟩), .int .i64 (z : Nat), .int .i64 v] n.v fun e w' => e = .returned (.agg #[.int .i64 p0, .int .i64 p1, .int .i64 p2]) ∧ Fr No n.v w' := fun n => by
        have := rat_calls (HRW.out.no n.h) (z : Nat) v
        rw [hat] at this
        exact this
      have HHY := hid hy
      rw [hy] at mel
      rw [hq] at k1 mel hlen2 hlen3 hmm
      simp only at g0 g1 g2
      have kk0 : ∀ n : Fam W, n.v.cell? ⟨w.heap.size, 0, none⟩ = some (.pointer (some ⟨R.b, 0, none⟩)) := Fam.cell m0
      have kk1 : ∀ n : Fam W, n.v.cell? ⟨w.heap.size + 1, 0, none⟩ = some (.int .i64 v) := Fam.cell m1
      have kk2 : ∀ n : Fam W, n.v.cell? ⟨w.heap.size + 1 + 1, 0, none⟩ = some (.bool true) := Fam.cell m2
      have kk3 : ∀ n : Fam W, n.v.cell? ⟨W1.heap.size, 0, none⟩ = some (.slice (some ⟨lb, lo, none⟩) l.length lc) := Fam.cell m11
      have kk4 : ∀ n : Fam W, n.v.cell? ⟨W1.heap.size + 1, 0, none⟩ = some (.int .i64 (q : Nat)) := Fam.cell k1
      have kk5 : ∀ n : Fam W, n.v.cell? ⟨Be, 0, none⟩ = some (.int .i64 p0) := Fam.cell g0
      have kk6 : ∀ n : Fam W, n.v.cell? ⟨Be, 1, none⟩ = some (.int .i64 p1) := Fam.cell g1
      have kk7 : ∀ n : Fam W, n.v.cell? ⟨Be, 2, none⟩ = some (.int .i64 p2) := Fam.cell g2
      have kk8 : ∀ n : Fam W, n.v.cell? ⟨lb, lo + q, none⟩ = some (.int .i64 y) := Fam.cell mel
      have HFR := hid hfr
      have HK := hid (And.intro k1 (And.intro k2 (And.intro k3 (And.intro k4 m3))))
      have HQ := hid hq
      clear hcs hel h0 nF m0 m1 m2 m11 mel k1 k2 k3 k4 m3 g0 g1 g2 hfr hat hen hz hy hq hdir e0 e1 e2 e3 e4 e5 c11 c12 d12 cbx cbv cbr hlen hloop f0
      rw [HEN.out, HZ.out]
      simp only [En.val]
      have hd1 : decide ((l.length : Int) ≤ q) = false := by simp; omega
      have hd2 : ((l.length : Int) ≤ q) = False := by simp; omega
      have hd3 : (l.length ≤ q) = False := by simp; omega
      by_cases hmt : y = (z : Nat)
      · subst hmt
        gi_wp2_with fail
        refine wpIn_region_fam (by kernel_rfl) (by kernel_rfl) (by kernel_rfl) ?_
        repeat (go_big_quiet_step (exact Calls.fam (hca _)))
        refine wpQuiet_nil ?_
        rintro w7 ⟨⟨w7, hf7⟩, rfl⟩
        have j1 := hf7.cell_some HK.out.1 (fun h => h)
        have j2 := (hf7.frozen (p := ⟨W1.heap.size + 1, 0, none⟩) z1 (fun h => h)).trans HK.out.2.1
        have j3 := hf7.cell_some HK.out.2.2.1 (fun h => h)
        have j4 := (hf7.frozen (p := ⟨w.heap.size + 1 + 1 + 1 + 1, 0, none⟩) z3 (fun h => h)).trans HK.out.2.2.2.1
        have j5 := hf7.cell_some HK.out.2.2.2.2 (fun h => h)
        have HF7 := hid hf7
        clear kk0 kk1 kk2 kk3 kk4 kk5 kk6 kk7 kk8 hca hf7
        by_cases hge : most ≤ (q : Int) + 1
        · have hge2 : ((q : Int) + 1 ≥ most) = True := by simp; omega
          gi_wp2
          have hw8 : Fr (One (W1.heap.size + 1)) W (w7.setCell ⟨W1.heap.size + 1, 0, none⟩ (.int .i64 ((q : Int) + 1))) := HF7.out.no.set1 _ _
          have hl1 : (((pre ++ [el]).length : Nat) : Int) = (q : Int) + 1 := by rw [HLEN1.out, HQ.out]; omega
          have hcells : (w7.setCell ⟨W1.heap.size + 1, 0, none⟩ (.int .i64 ((q : Int) + 1))).cell? ⟨W1.heap.size + 1, 0, none⟩ = some (.int .i64 ((pre ++ [el]).length : Nat)) ∧ (w7.setCell ⟨W1.heap.size + 1, 0, none⟩ (.int .i64 ((q : Int) + 1))).frozen? ⟨W1.heap.size + 1, 0, none⟩ = false ∧
              (w7.setCell ⟨W1.heap.size + 1, 0, none⟩ (.int .i64 ((q : Int) + 1))).cell? ⟨w.heap.size + 1 + 1 + 1 + 1, 0, none⟩ = some (.bool false) ∧ (w7.setCell ⟨W1.heap.size + 1, 0, none⟩ (.int .i64 ((q : Int) + 1))).frozen? ⟨w.heap.size + 1 + 1 + 1 + 1, 0, none⟩ = false :=
            ⟨by rw [hl1]; exact World.cell?_setCell_same' _ _ _ (by rw [j1]; rfl), by rw [World.frozen?_setCell]; exact j2, by rw [World.cell?_setCell_other _ _ _ _ (by simp <;> omega)]; exact j3, by rw [World.frozen?_setCell]; exact j4⟩
          have hkf := keepsFrom_fr (B := W0.heap.size) hw8 (fun k (h : k = _) => by omega)
          have hfr8 := HFR.out.trans' hw8 (fun k hk (h : k = W1.heap.size + 1) => .inl (.inr h))
          exact ⟨hkf, .inr ⟨rfl, hcells, hfr8, by rw [hl1]; exact hge, by rw [HLEN1.out]; omega, by rw [hl1, HLEN1.out, HQ.out]; omega⟩⟩
        · gi_wp2
          have hw8 : Fr (One (W1.heap.size + 1)) W (w7.setCell ⟨W1.heap.size + 1, 0, none⟩ (.int .i64 ((q : Int) + 1))) := HF7.out.no.set1 _ _
          have hl1 : (((pre ++ [el]).length : Nat) : Int) = (q : Int) + 1 := by rw [HLEN1.out, HQ.out]; omega
          have hcells : (w7.setCell ⟨W1.heap.size + 1, 0, none⟩ (.int .i64 ((q : Int) + 1))).cell? ⟨W1.heap.size + 1, 0, none⟩ = some (.int .i64 ((pre ++ [el]).length : Nat)) ∧ (w7.setCell ⟨W1.heap.size + 1, 0, none⟩ (.int .i64 ((q : Int) + 1))).frozen? ⟨W1.heap.size + 1, 0, none⟩ = false ∧
              (w7.setCell ⟨W1.heap.size + 1, 0, none⟩ (.int .i64 ((q : Int) + 1))).cell? ⟨w.heap.size + 1 + 1 + 1 + 1, 0, none⟩ = some (.bool false) ∧ (w7.setCell ⟨W1.heap.size + 1, 0, none⟩ (.int .i64 ((q : Int) + 1))).frozen? ⟨w.heap.size + 1 + 1 + 1 + 1, 0, none⟩ = false :=
            ⟨by rw [hl1]; exact World.cell?_setCell_same' _ _ _ (by rw [j1]; rfl), by rw [World.frozen?_setCell]; exact j2, by rw [World.cell?_setCell_other _ _ _ _ (by simp <;> omega)]; exact j3, by rw [World.frozen?_setCell]; exact j4⟩
          have hkf := keepsFrom_fr (B := W0.heap.size) hw8 (fun k (h : k = _) => by omega)
          have hfr8 := HFR.out.trans' hw8 (fun k hk (h : k = W1.heap.size + 1) => .inl (.inr h))
          exact ⟨hkf, hw8.mono (fun k hk (h : k = W1.heap.size + 1) => .inl (.inr h)), hcells, hfr8, .inl (by rw [hl1]; omega)⟩
      · have hn1' : (y == ((z : Nat) : Int)) = false := by simpa using hmt
        have hn2' : decide (y = ((z : Nat) : Int)) = false := by simpa using hmt
        have hn3' : (y != ((z : Nat) : Int)) = true := by simpa using hmt
        have hn4' : (y = ((z : Nat) : Int)) = False := by simpa using hmt
        gi_wp2_with fail
        refine wpIn_region_fam (by kernel_rfl) (by kernel_rfl) (by kernel_rfl) ?_
        repeat (go_big_quiet_step (exact Calls.fam (hca _)))
        refine wpQuiet_nil ?_
        rintro w7 ⟨⟨w7, hf7⟩, rfl⟩
        have j3 := hf7.cell_some HK.out.2.2.1 (fun h => h)
        have j4 := (hf7.frozen (p := ⟨w.heap.size + 1 + 1 + 1 + 1, 0, none⟩) z3 (fun h => h)).trans HK.out.2.2.2.1
        have HF7 := hid hf7
        clear kk0 kk1 kk2 kk3 kk4 kk5 kk6 kk7 kk8 hca hf7
        gi_wp2
        exact ⟨keepsFrom_fr (HF7.out.no.set1 _ _ : Fr (One (w.heap.size + 1 + 1 + 1 + 1)) W _) (fun k (h : k = _) => by omega), .inl ⟨rfl, pre, el, rfl, by rw [HZ.out, HHY.out]; exact fun e => hmt e.symm⟩⟩

end Go.Proofs.YtlncmnphjdeeoaaDoor

/- The law of going through: the entries of a vertex's rows, all links and all shortcuts are the document's; walked. -/
set_option linter.unusedVariables false
set_option linter.unusedSimpArgs false
namespace Go.Proofs.YtlncmnphjdeeoaaDoor
open Go.RowKit Go.Deep

set_option maxRecDepth 100000 in
set_option maxHeartbeats 4000000 in
theorem goes_law (n num : Nat) (A : Option Addr) (ln cp : Nat) (lk : Nat → Lk) (v : Int) (m : Nat) (w : World) (hn : n ≤ 255) (hnum : (num : Int) ≤ 18446744073709551615) (hl : LinksF w A ln lk) (hln : ln ≤ 140737488351232) (hmm : m ≤ 255) (hN : NoneVar w) :
    Calls Tryd.prog 8 #[.int .u8 (n : Nat), .int .u64 (num : Nat), .slice A ln cp, .int .i64 v, .int .u8 (m : Nat)] w fun e w' => e = .returned (.bool true) ∧ Fr No w w' := by
  have HN := hid hN
  have HL := hid hl
  clear hN hl
  go_enter Tryd.func8, Tryd.ntmps8
  go_wp2_with fail
  refine (awake15_calls w HN.out).mono ?_
  rintro e w1 ⟨rfl, hf⟩
  have HN1 := hid (HN.out.fr hf (fun h => h))
  have HL1 := hid (LinksF.fr HL.out hf)
  have G1 := hid hf
  clear hf
  go_wp2_with fail
  refine (made_calls n num A ln cp lk w1 hn hnum HL1.out hln HN1.out).mono ?_
  rintro e w2 ⟨L, R, rfl, hf, hm, hr, _⟩
  obtain ⟨x, hx⟩ : ∃ x, (Ix.start (1 + n % 24) num).sets lk (min ln 300) = x := ⟨_, rfl⟩
  rw [hx] at hm hr
  have hn2 := hm.ok.n2
  have HM := hid hm
  have HR := hid hr
  have G2 := hid (G1.out.trans hf)
  clear hf hm hr hx HN1 HL1
  go_wp2_with fail
  refine (goes_up HM.out HR.out v m (by omega)).mono ?_
  rintro e w3 ⟨rfl, hf⟩
  have HM3 := hid (HM.out.no hf)
  have HR3 := hid (HR.out.no hf)
  have G3 := hid (G2.out.trans hf)
  clear hf HM HR
  go_wp2_with fail
  refine (goes_down HM3.out HR3.out v m (by omega)).mono ?_
  rintro e w4 ⟨rfl, hf⟩
  have HM4 := hid (HM3.out.no hf)
  have HR4 := hid (HR3.out.no hf)
  have G4 := hid (G3.out.trans hf)
  clear hf HM3 HR3
  have hlen := x.lks_len x.n
  have hnn : x.n * x.n ≤ 24 * 24 := Nat.mul_le_mul hn2 hn2
  have hfl := List.length_filter_le (Lk.want true) (x.lks x.n)
  go_wp2_with fail
  refine (links_calls HM4.out).mono ?_
  rintro e w5 ⟨A5, c5, rfl, hf, hs⟩
  have HS5 := hid hs
  have HM5 := hid (HM4.out.no hf)
  have HR5 := hid (HR4.out.no hf)
  have G5 := hid (G4.out.trans hf)
  clear hf hs HM4 HR4
  go_wp2_with fail
  refine (rlinks_calls HR5.out false).mono ?_
  rintro e w6 ⟨A6, c6, rfl, hf, hs⟩
  rw [want_all] at hs ⊢
  have HS6 := hid hs
  have HS56 := hid (HS5.out.fr hf)
  have HM6 := hid (HM5.out.no hf)
  have HR6 := hid (HR5.out.no hf)
  have G6 := hid (G5.out.trans hf)
  clear hf hs HM5 HR5 HS5
  obtain ⟨l, hl⟩ : ∃ l, x.lks x.n = l := ⟨_, rfl⟩
  have hshl := x.shorts_filter
  rw [hl] at HS6 HS56 hlen hfl hshl ⊢
  have HSH := hid hshl
  have HLL := hid hl
  clear hl hshl
  go_wp2_with fail
  refine (lks_same (by omega) (fun _ => HS56.out) (fun _ => HS6.out)).mono ?_
  rintro e w7 ⟨rfl, hf⟩
  have HM7 := hid (HM6.out.no hf)
  have HR7 := hid (HR6.out.no hf)
  have G7 := hid (G6.out.trans hf)
  clear hf HM6 HR6 HS56 HS6
  go_wp2_with fail
  refine (shortcuts_calls HM7.out).mono ?_
  rintro e w8 ⟨A8, c8, rfl, hf, hs⟩
  rw [HSH.out] at hs ⊢
  have HS8 := hid hs
  have HM8 := hid (HM7.out.no hf)
  have HR8 := hid (HR7.out.no hf)
  have G8 := hid (G7.out.trans hf)
  clear hf hs HM7 HR7
  go_wp2_with fail
  refine (rlinks_calls HR8.out true).mono ?_
  rintro e w9 ⟨A9, c9, rfl, hf, hs⟩
  rw [HLL.out] at hs ⊢
  have HS9 := hid hs
  have HS89 := hid (fun h0 => (HS8.out h0).fr hf)
  have G9 := hid (G8.out.trans hf)
  clear hf hs HR8
  go_wp2_with fail
  refine (lks_same (by omega) HS89.out (fun _ => HS9.out)).mono ?_
  rintro e w10 ⟨rfl, hf⟩
  have G10 := hid (G9.out.trans hf)
  clear hf
  go_wp2
  go_ret
  exact ⟨rfl, G10.out⟩

end Go.Proofs.YtlncmnphjdeeoaaDoor
