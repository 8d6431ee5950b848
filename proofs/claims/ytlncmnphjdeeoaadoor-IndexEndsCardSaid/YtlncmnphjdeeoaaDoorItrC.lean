/- A graph's best arc from a vertex to another; walked. -/
import Derived.Test.YtlncmnphjdeeoaaDoorItrB
set_option linter.unusedVariables false
set_option linter.unusedSimpArgs false
namespace Go.Proofs.YtlncmnphjdeeoaaDoor
open Go.RowKit Go.Shelf

attribute [local go_sem] Oper.semAt_some

/-- The arcs out of vertex v are those at the places zs. -/
def OutAt (n₀ : Nat) (w : World) (b : Nat) (v : Int) (zs : List Id64) : Prop :=
  b < n₀ ∧ zs.length ≤ 1000 ∧ ∃ (A : Option Addr) (nv cv : Nat), w.cell? ⟨b, 320, none⟩ = some (.slice A nv cv) ∧ nv ≤ 1000 ∧
    ((decide (0 ≤ v ∧ v < nv) = false ∧ zs = []) ∨
     ∃ (ba k cap : Nat) (S : Option Addr), A = some ⟨ba, 0, none⟩ ∧ v = (k : Nat) ∧ k < nv ∧ ba < n₀ ∧ w.cell? ⟨ba, k * 2, none⟩ = some (.slice S zs.length cap) ∧ Itr.Ints n₀ w (.slice S zs.length cap) zs)

theorem OutAt.below {n₀ b : Nat} {w W : World} {v : Int} {zs : List Id64} (h : OutAt n₀ w b v zs) (hb : Below n₀ w W) : OutAt n₀ W b v zs := by
  obtain ⟨h1, h2, A, nv, cv, h3, h4, h5⟩ := h
  refine ⟨h1, h2, A, nv, cv, (hb.cell (p := ⟨b, 320, none⟩) h1).trans h3, h4, ?_⟩
  rcases h5 with h5 | ⟨ba, k, cap, S, rfl, e, hk, hba, hc, hI⟩
  · exact .inl h5
  · exact .inr ⟨ba, k, cap, S, rfl, e, hk, hba, (hb.cell (p := ⟨ba, k * 2, none⟩) hba).trans hc, hI.below hb⟩

theorem out1_any (n : Nat) (hn : 1 ≤ n) (Bg Bv b n₀ : Nat) (v : Int) (zs : List Id64) (w : World) (hg : w.cell? ⟨Bg, 0, none⟩ = some (.pointer (some ⟨b, 0, none⟩))) (hv : w.cell? ⟨Bv, 0, none⟩ = some (.int .i64 v))
    (h : OutAt n₀ w b v zs) (hl : Bg < w.heap.size ∧ Bv < w.heap.size) (hn₀ : n₀ ≤ w.heap.size) :
    SeqStopsK Fence.wide n Tryd.prog 131 #[.pointer (some ⟨Bg, 0, none⟩), .pointer (some ⟨Bv, 0, none⟩)] (fun x : Id64 => #[Value.int .i64 x.1]) (Below n₀) (fun ys => ys = zs) (fun pre => pre <+: zs) zs.length w := by
  obtain ⟨h1, h2, A, nv, cv, h3, h4, ⟨h5, rfl⟩ | ⟨ba, k, cap, S, rfl, rfl, hk, hba, hc, hI⟩⟩ := h
  · exact out1_no n hn Bg Bv b nv cv A v n₀ w hg hv h3 h4 h5 ⟨hl.1, hl.2, by omega⟩
  · exact out1_yes n hn Bg Bv b nv cv ba k n₀ cap S zs w hg hv h3 h4 hk hc ⟨hl.1, hl.2, by omega, by omega⟩ hn₀ hI h2

theorem cell_lt {w : World} {a : Addr} {v : Value} (h : w.cell? a = some v) : a.block < w.heap.size := by
  rcases Nat.lt_or_ge a.block w.heap.size with h' | h'
  · exact h'
  · simp [World.cell?, Array.getElem?_eq_none h'] at h

structure Arc4 where
  t : Int
  h : Int
  w : Int
  c : Bool

/-- The arcs at the graph's places. -/
def ArcsAt (w : World) (b : Nat) (arc : Nat → Arc4) : Prop :=
  ∀ i, i < 64 → w.cell? ⟨b, i * 5, none⟩ = some (.int .i64 (arc i).t) ∧ w.cell? ⟨b, i * 5 + 1, none⟩ = some (.int .i64 (arc i).h) ∧ w.cell? ⟨b, i * 5 + 2, none⟩ = some (.int .i64 (arc i).w) ∧ w.cell? ⟨b, i * 5 + 3, none⟩ = some (.bool (arc i).c)

def bestStep (arc : Nat → Arc4) (head : Int) (acc : Int × Int) (i : Id64) : Int × Int :=
  if (arc i.1.toNat).h = head ∧ (arc i.1.toNat).c = false ∧ (arc i.1.toNat).w < acc.1 then ((arc i.1.toNat).w, i.1) else acc
def bestOf (arc : Nat → Arc4) (head : Int) (zs : List Id64) : Int × Int := zs.foldl (bestStep arc head) (4611686018427387906, -1)
theorem bestOf_snoc (arc : Nat → Arc4) (head : Int) (pre : List Id64) (x : Id64) : bestOf arc head (pre ++ [x]) = bestStep arc head (bestOf arc head pre) x := by simp [bestOf]

set_option maxRecDepth 100000 in
set_option maxHeartbeats 1000000 in
theorem out_calls (b : Nat) (v : Int) (w : World) :
    Calls Tryd.prog 114 #[.pointer (some ⟨b, 0, none⟩), .int .i64 v] w fun e w' => e = .returned (.func (.func 131) #[] #[.pointer (some ⟨w.heap.size, 0, none⟩), .pointer (some ⟨w.heap.size + 1, 0, none⟩)]) ∧
      w' = (w.alloc (.cells #[.pointer (some ⟨b, 0, none⟩)] 87)).alloc (.cells #[.int .i64 v] 3) := by
  go_enter Tryd.func114, Tryd.ntmps114
  go_wp2
  go_ret
  exact ⟨by simp, rfl⟩

set_option maxRecDepth 100000 in
set_option maxHeartbeats 4000000 in
theorem gbest_calls {w : World} {b : Nat} {tail head : Int} {zs : List Id64} {arc : Nat → Arc4} (h : OutAt w.heap.size w b tail zs) (ha : ArcsAt w b arc) :
    Calls Tryd.prog 91 #[.pointer (some ⟨b, 0, none⟩), .int .i64 tail, .int .i64 head] w fun e w' => e = .returned (.tuple #[.int .i64 (bestOf arc head zs).1, .int .i64 (bestOf arc head zs).2]) ∧ Fr No w w' := by
  have hbl := h.1
  have H := hid h
  have HA := hid ha
  clear h ha
  refine (callsIn_wide (n := 7)).1 ?_
  refine callsIn_of_wp_marks Tryd.func91 rfl trivial ?_ rfl
  simp only [Tryd.ntmps91, List.size_toArray, List.length_cons, List.length_nil, Nat.reduceAdd, Nat.reduceSub, Array.replicate_succ, Array.replicate_zero, List.push_toArray, List.append_toArray, List.nil_append, List.cons_append]
  gi_wp2
  refine ⟨trivial, callsIn_wide.2 ((out_calls _ _ _).mono ?_)⟩
  rintro e W0 ⟨rfl, hW0⟩
  simp only [World.size_alloc] at hW0 ⊢
  have f0 : Fr No w W0 := by rw [hW0]; exact ((((((Fr.refl No w).alloc _).alloc _).alloc _).alloc _).alloc _).alloc _
  have c3 : W0.cell? ⟨w.heap.size, 0, none⟩ = some (.pointer (some ⟨b, 0, none⟩)) := by rw [hW0]; simp [go_sem]
  have c5 : W0.cell? ⟨w.heap.size + 1, 0, none⟩ = some (.int .i64 head) := by rw [hW0]; simp [go_sem]
  have c6 : W0.cell? ⟨w.heap.size + 1 + 1, 0, none⟩ = some (.int .i64 4611686018427387906) := by rw [hW0]; simp [go_sem]
  have c7 : W0.cell? ⟨w.heap.size + 1 + 1 + 1, 0, none⟩ = some (.int .i64 (-1)) := by rw [hW0]; simp [go_sem]
  have d6 : W0.frozen? ⟨w.heap.size + 1 + 1, 0, none⟩ = false := by rw [hW0]; simp [go_sem]
  have d7 : W0.frozen? ⟨w.heap.size + 1 + 1 + 1, 0, none⟩ = false := by rw [hW0]; simp [go_sem]
  have cg : W0.cell? ⟨w.heap.size + 1 + 1 + 1 + 1, 0, none⟩ = some (.pointer (some ⟨b, 0, none⟩)) := by rw [hW0]; simp [go_sem]
  have cv : W0.cell? ⟨w.heap.size + 1 + 1 + 1 + 1 + 1, 0, none⟩ = some (.int .i64 tail) := by rw [hW0]; simp [go_sem]
  have hsz : W0.heap.size = w.heap.size + 1 + 1 + 1 + 1 + 1 + 1 := by rw [hW0]; simp
  clear hW0
  gi_wp2
  refine wpIn_rangeFunc_ownF rfl (by omega) (gf := 131) (lb := #[.pointer (some ⟨w.heap.size + 1 + 1 + 1 + 1, 0, none⟩), .pointer (some ⟨w.heap.size + 1 + 1 + 1 + 1 + 1, 0, none⟩)]) rfl trivial (enters_of Tryd.func131 (by kernel_rfl) rfl)
    (out1_any 6 (by omega) (w.heap.size + 1 + 1 + 1 + 1) (w.heap.size + 1 + 1 + 1 + 1 + 1) b w.heap.size tail zs W0 cg cv (H.out.below f0.below) ⟨by omega, by omega⟩ (by omega)) belowK_t (belowK_b (by omega)) (Below.refl _ _) (fun _ => rfl)
    (fun pre W => ((W.cell? ⟨w.heap.size, 0, none⟩ = some (.pointer (some ⟨b, 0, none⟩)) ∧ W.cell? ⟨w.heap.size + 1, 0, none⟩ = some (.int .i64 head) ∧ W.cell? ⟨w.heap.size + 1 + 1, 0, none⟩ = some (.int .i64 (bestOf arc head pre).1) ∧
        W.cell? ⟨w.heap.size + 1 + 1 + 1, 0, none⟩ = some (.int .i64 (bestOf arc head pre).2)) ∧ W.frozen? ⟨w.heap.size + 1 + 1, 0, none⟩ = false ∧ W.frozen? ⟨w.heap.size + 1 + 1 + 1, 0, none⟩ = false) ∧ Below w.heap.size w W)
    (fun _ _ _ => False)
    (OwnFrom.and (Own.from (fun s A B row hs hg hr => ⟨⟨cell_kept hs.1.1 hg hr, cell_kept hs.1.2.1 hg hr, cell_kept hs.1.2.2.1 hg hr, cell_kept hs.1.2.2.2 hg hr⟩, (frozen_kept hs.1.2.2.1 hg hr).trans hs.2.1, (frozen_kept hs.1.2.2.2 hg hr).trans hs.2.2⟩) _) (ownFrom_below (Nat.le_refl _) (by omega)))
    (fun _ _ _ _ _ hs _ _ => hs.elim)
    ⟨⟨⟨c3, c5, c6, c7⟩, d6, d7⟩, f0.below⟩
    (fun x => { tmps := #[.pointer (some ⟨b, 0, none⟩), .int .i64 tail, .int .i64 head, .pointer (some ⟨w.heap.size, 0, none⟩), undef, .pointer (some ⟨w.heap.size + 1, 0, none⟩), .pointer (some ⟨w.heap.size + 1 + 1, 0, none⟩), .pointer (some ⟨w.heap.size + 1 + 1 + 1, 0, none⟩),
      .int .i64 x.1, undef, .pointer (some ⟨b, 0, none⟩), .int .i64 tail, .func (.func 131) #[] #[.pointer (some ⟨w.heap.size + 1 + 1 + 1 + 1, 0, none⟩), .pointer (some ⟨w.heap.size + 1 + 1 + 1 + 1 + 1, 0, none⟩)], .int .i64 x.1, undef, undef, undef, undef, undef, undef, undef, undef, undef, undef, undef, undef, undef, undef, undef, undef, undef, undef, undef, undef, undef, undef, undef, undef, undef, undef, undef], defers := [] }) ?assign ?body ?done ?stop
  case assign =>
    intro l x W K hK
    gi_wp2
    exact hK
  case stop =>
    rintro D c pre W _ _ h _
    exact h.elim
  case done =>
    rintro D ys W hD rfl ⟨⟨⟨e3, e5, e6, e7⟩, z6, z7⟩, hB⟩ hK
    clear c3 c5 c6 c7 d6 d7 cg cv
    gi_wp2
    gi_region
    all_goals gi_wp2
    have hK2 : ((W.setCell ⟨w.heap.size + 1 + 1, 0, none⟩ (.int .i64 (bestOf arc head ys).1)).setCell ⟨w.heap.size + 1 + 1 + 1, 0, none⟩ (.int .i64 (bestOf arc head ys).2)).drew.heap[D]? = some (.deferred (some [])) :=
      (Below.heap_setCell _ ⟨w.heap.size + 1 + 1 + 1, 0, none⟩ _ D (by show D ≠ w.heap.size + 1 + 1 + 1; omega)).trans ((Below.heap_setCell _ ⟨w.heap.size + 1 + 1, 0, none⟩ _ D (by show D ≠ w.heap.size + 1 + 1; omega)).trans hK)
    have x6 : ((W.setCell ⟨w.heap.size + 1 + 1, 0, none⟩ (.int .i64 (bestOf arc head ys).1)).setCell ⟨w.heap.size + 1 + 1 + 1, 0, none⟩ (.int .i64 (bestOf arc head ys).2)).drew.cell? ⟨w.heap.size + 1 + 1, 0, none⟩ = some (.int .i64 (bestOf arc head ys).1) := by
      show ((W.setCell ⟨w.heap.size + 1 + 1, 0, none⟩ (.int .i64 (bestOf arc head ys).1)).setCell ⟨w.heap.size + 1 + 1 + 1, 0, none⟩ (.int .i64 (bestOf arc head ys).2)).cell? ⟨w.heap.size + 1 + 1, 0, none⟩ = _
      rw [World.cell?_setCell_other _ _ _ _ (by simp <;> omega)]; exact World.cell?_setCell_same' _ _ _ (by rw [e6]; rfl)
    have x7 : ((W.setCell ⟨w.heap.size + 1 + 1, 0, none⟩ (.int .i64 (bestOf arc head ys).1)).setCell ⟨w.heap.size + 1 + 1 + 1, 0, none⟩ (.int .i64 (bestOf arc head ys).2)).drew.cell? ⟨w.heap.size + 1 + 1 + 1, 0, none⟩ = some (.int .i64 (bestOf arc head ys).2) := by
      show ((W.setCell ⟨w.heap.size + 1 + 1, 0, none⟩ (.int .i64 (bestOf arc head ys).1)).setCell ⟨w.heap.size + 1 + 1 + 1, 0, none⟩ (.int .i64 (bestOf arc head ys).2)).cell? ⟨w.heap.size + 1 + 1 + 1, 0, none⟩ = _
      exact World.cell?_setCell_same' _ _ _ (by rw [World.cell?_setCell_other _ _ _ _ (by simp <;> omega), e7]; rfl)
    have k1 : Below w.heap.size w ((W.setCell ⟨w.heap.size + 1 + 1, 0, none⟩ (.int .i64 (bestOf arc head ys).1)).setCell ⟨w.heap.size + 1 + 1 + 1, 0, none⟩ (.int .i64 (bestOf arc head ys).2)).drew :=
      ((hB.setCell (p := ⟨w.heap.size + 1 + 1, 0, none⟩) (by show w.heap.size ≤ w.heap.size + 1 + 1; omega) _).setCell (p := ⟨w.heap.size + 1 + 1 + 1, 0, none⟩) (by show w.heap.size ≤ w.heap.size + 1 + 1 + 1; omega) _).drew
    obtain ⟨W3, hW3⟩ : ∃ W3, ((W.setCell ⟨w.heap.size + 1 + 1, 0, none⟩ (.int .i64 (bestOf arc head ys).1)).setCell ⟨w.heap.size + 1 + 1 + 1, 0, none⟩ (.int .i64 (bestOf arc head ys).2)).drew = W3 := ⟨_, rfl⟩
    rw [hW3] at hK2 x6 x7 k1 ⊢
    have y6 := cell_kept x6 (grownBy_putObj' W3 D (.deferred none)) (fun r e => by cases e; exact ⟨_, hK2, rfl⟩)
    have y7 := cell_kept x7 (grownBy_putObj' W3 D (.deferred none)) (fun r e => by cases e; exact ⟨_, hK2, rfl⟩)
    have k2 := k1.trans (belowK_b (w := w) (Nat.le_refl _) W3 D _ (.deferred none) (by omega) hK2 rfl rfl)
    refine ⟨by simp, .inl ⟨_, _, rfl, run_takeDeferred hK2, ?_⟩⟩
    exact ⟨_, by simp [results, Tryd.results91, go_sem, y6, y7], rfl, Fr.of_below k2⟩
  case body =>
    rintro l pre ⟨xv, hx0, hx1⟩ W ⟨⟨⟨e3, e5, e6, e7⟩, z6, z7⟩, hB⟩ _
    obtain ⟨i, rfl⟩ := Int.eq_ofNat_of_zero_le hx0
    have hi : i < 64 := by omega
    obtain ⟨a0, a1, a2, a3⟩ := HA.out i hi
    have b0 := (hB.cell (p := ⟨b, i * 5, none⟩) hbl).trans a0
    have b1 := (hB.cell (p := ⟨b, i * 5 + 1, none⟩) hbl).trans a1
    have b2 := (hB.cell (p := ⟨b, i * 5 + 2, none⟩) hbl).trans a2
    have b3 := (hB.cell (p := ⟨b, i * 5 + 3, none⟩) hbl).trans a3
    have hnext := bestOf_snoc arc head pre ⟨(i : Nat), hx0, hx1⟩
    have hstep : bestStep arc head (bestOf arc head pre) ⟨(i : Nat), hx0, hx1⟩ = if (arc i).h = head ∧ (arc i).c = false ∧ (arc i).w < (bestOf arc head pre).1 then ((arc i).w, (i : Int)) else bestOf arc head pre := rfl
    rw [hstep] at hnext
    obtain ⟨⟨at_, ah, aw, ac⟩, har⟩ : ∃ y, arc i = y := ⟨_, rfl⟩
    rw [har] at b0 b1 b2 b3 hnext
    have HN := hid hnext
    have HB := hid hB
    have Z6 := hid z6
    have Z7 := hid z7
    have hsw : w.heap.size ≤ W.heap.size := hB.size
    simp only at b0 b1 b2 b3 HN
    obtain ⟨⟨cw, ci⟩, hacc⟩ : ∃ y, bestOf arc head pre = y := ⟨_, rfl⟩
    rw [hacc] at e6 e7 HN
    simp only at e6 e7 HN
    clear c3 c5 c6 c7 d6 d7 cg cv a0 a1 a2 a3 hnext hstep har hB hacc
    have h7 : w.heap.size + 1 + 1 + 1 < W.heap.size := cell_lt e7
    have h3 : w.heap.size < W.heap.size := by omega
    have h5 : w.heap.size + 1 < W.heap.size := by omega
    have h6 : w.heap.size + 1 + 1 < W.heap.size := by omega
    have A0 := fun o => (Fr.refl No W).alloc o
    by_cases q1 : ah = head
    · subst q1
      cases ac with
      | false =>
        by_cases q3 : aw < cw
        · have hn : bestOf arc ah (pre ++ [⟨(i : Nat), hx0, hx1⟩]) = (aw, (i : Int)) := by rw [HN.out, if_pos ⟨rfl, rfl, q3⟩]
          have HNN := hid hn
          have HA0 := hid A0
          clear hn A0
          gi_wp2
          have k1 : Below w.heap.size W (((W.setCell ⟨w.heap.size + 1 + 1, 0, none⟩ (.int .i64 aw)).setCell ⟨w.heap.size + 1 + 1 + 1, 0, none⟩ (.int .i64 (i : Nat))).alloc (Obj.cells #[.int .i64 at_, .int .i64 ah, .int .i64 aw, .bool false] 93)) :=
            (((Below.refl w.heap.size W).setCell (p := ⟨w.heap.size + 1 + 1, 0, none⟩) (by show w.heap.size ≤ w.heap.size + 1 + 1; omega) _).setCell (p := ⟨w.heap.size + 1 + 1 + 1, 0, none⟩) (by show w.heap.size ≤ w.heap.size + 1 + 1 + 1; omega) _).alloc (by simp; omega) _
          have A1 := fun o => (Fr.refl No ((W.setCell ⟨w.heap.size + 1 + 1, 0, none⟩ (.int .i64 aw)).setCell ⟨w.heap.size + 1 + 1 + 1, 0, none⟩ (.int .i64 (i : Nat)))).alloc o
          refine ⟨((KeepsOthers.setCell _ _ _).trans (KeepsOthers.setCell _ _ _)).trans (KeepsOthers.alloc _ _), k1, ⟨⟨⟨?_, ?_, ?_, ?_⟩, ?_, ?_⟩, HB.out.trans k1⟩⟩
          · refine (A1 _).cell_some ?_ (fun h => h)
            rw [World.cell?_setCell_other _ _ _ _ (by simp <;> omega), World.cell?_setCell_other _ _ _ _ (by simp <;> omega)]; exact e3
          · refine (A1 _).cell_some ?_ (fun h => h)
            rw [World.cell?_setCell_other _ _ _ _ (by simp <;> omega), World.cell?_setCell_other _ _ _ _ (by simp <;> omega)]; exact e5
          · rw [HNN.out]
            refine (A1 _).cell_some ?_ (fun h => h)
            rw [World.cell?_setCell_other _ _ _ _ (by simp <;> omega)]; exact World.cell?_setCell_same' _ _ _ (by rw [e6]; rfl)
          · rw [HNN.out]
            refine (A1 _).cell_some ?_ (fun h => h)
            exact World.cell?_setCell_same' _ _ _ (by rw [World.cell?_setCell_other _ _ _ _ (by simp <;> omega), e7]; rfl)
          · refine ((A1 _).frozen (p := ⟨w.heap.size + 1 + 1, 0, none⟩) (by simp; omega) (fun h => h)).trans ?_
            rw [World.frozen?_setCell, World.frozen?_setCell]; exact Z6.out
          · refine ((A1 _).frozen (p := ⟨w.heap.size + 1 + 1 + 1, 0, none⟩) (by simp; omega) (fun h => h)).trans ?_
            rw [World.frozen?_setCell, World.frozen?_setCell]; exact Z7.out
        · have hn : bestOf arc ah (pre ++ [⟨(i : Nat), hx0, hx1⟩]) = (cw, ci) := by rw [HN.out, if_neg (fun h => q3 h.2.2)]
          have HNN := hid hn
          have HA0 := hid A0
          clear hn A0
          gi_wp2
          refine ⟨KeepsOthers.alloc _ _, (Below.refl _ W).alloc hsw _, ⟨⟨⟨(HA0.out _).cell_some e3 (fun h => h), (HA0.out _).cell_some e5 (fun h => h), ?_, ?_⟩, ?_, ?_⟩, HB.out.trans ((Below.refl _ W).alloc hsw _)⟩⟩
          · rw [HNN.out]; exact (HA0.out _).cell_some e6 (fun h => h)
          · rw [HNN.out]; exact (HA0.out _).cell_some e7 (fun h => h)
          · exact ((HA0.out _).frozen (p := ⟨w.heap.size + 1 + 1, 0, none⟩) h6 (fun h => h)).trans Z6.out
          · exact ((HA0.out _).frozen (p := ⟨w.heap.size + 1 + 1 + 1, 0, none⟩) h7 (fun h => h)).trans Z7.out
      | true =>
        have hn : bestOf arc ah (pre ++ [⟨(i : Nat), hx0, hx1⟩]) = (cw, ci) := by rw [HN.out, if_neg (fun h => by cases h.2.1)]
        have HNN := hid hn
        have HA0 := hid A0
        clear hn A0
        gi_wp2
        refine ⟨KeepsOthers.alloc _ _, (Below.refl _ W).alloc hsw _, ⟨⟨⟨(HA0.out _).cell_some e3 (fun h => h), (HA0.out _).cell_some e5 (fun h => h), ?_, ?_⟩, ?_, ?_⟩, HB.out.trans ((Below.refl _ W).alloc hsw _)⟩⟩
        · rw [HNN.out]; exact (HA0.out _).cell_some e6 (fun h => h)
        · rw [HNN.out]; exact (HA0.out _).cell_some e7 (fun h => h)
        · exact ((HA0.out _).frozen (p := ⟨w.heap.size + 1 + 1, 0, none⟩) h6 (fun h => h)).trans Z6.out
        · exact ((HA0.out _).frozen (p := ⟨w.heap.size + 1 + 1 + 1, 0, none⟩) h7 (fun h => h)).trans Z7.out
    · have hn : bestOf arc head (pre ++ [⟨(i : Nat), hx0, hx1⟩]) = (cw, ci) := by rw [HN.out, if_neg (fun h => q1 h.1)]
      have HNN := hid hn
      have HA0 := hid A0
      clear hn A0
      gi_wp2
      refine ⟨KeepsOthers.alloc _ _, (Below.refl _ W).alloc hsw _, ⟨⟨⟨(HA0.out _).cell_some e3 (fun h => h), (HA0.out _).cell_some e5 (fun h => h), ?_, ?_⟩, ?_, ?_⟩, HB.out.trans ((Below.refl _ W).alloc hsw _)⟩⟩
      · rw [HNN.out]; exact (HA0.out _).cell_some e6 (fun h => h)
      · rw [HNN.out]; exact (HA0.out _).cell_some e7 (fun h => h)
      · exact ((HA0.out _).frozen (p := ⟨w.heap.size + 1 + 1, 0, none⟩) h6 (fun h => h)).trans Z6.out
      · exact ((HA0.out _).frozen (p := ⟨w.heap.size + 1 + 1 + 1, 0, none⟩) h7 (fun h => h)).trans Z7.out

end Go.Proofs.YtlncmnphjdeeoaaDoor
