/- A new graph, and the document's; walked. -/
import Derived.Test.YtpkocidcfnlbiaaDoorGB
import Derived.StillTailTactics
set_option linter.unusedVariables false
set_option linter.unusedSimpArgs false
namespace Go.Proofs.YtpkocidcfnlbiaaDoor
open Go.RowKit Go.Deep

def Gr.zero (n m : Nat) : Gr := ⟨n, m, fun _ => ⟨0, 0, 0, false⟩, fun _ => false⟩
theorem sel_none {p : Nat → Bool} (h : ∀ i, p i = false) : sel p = [] := by
  unfold sel
  rw [List.filter_eq_nil_iff.2 (fun i _ => by rw [h i]; simp)]; rfl
theorem Gr.zero_lst (n m q : Nat) : (Gr.zero n m).lst q = [] := sel_none (fun i => rfl)
theorem Gr.zero_cnt (n m : Nat) : (Gr.zero n m).cnt = 0 := by unfold Gr.cnt; rw [sel_none (p := (Gr.zero n m).tk) (fun i => rfl)]; rfl

set_option maxRecDepth 100000 in
theorem gz4_all : ((List.range 64).all fun i => isF (Tryd.zeroCells73[i * 5 + 4]!)) = true := by kernel_rfl
set_option maxRecDepth 100000 in
theorem gz321 : Tryd.zeroCells73[321]? = some (.int .i64 0) := by kernel_rfl
theorem gz4 (i : Nat) (hi : i < 64) : Tryd.zeroCells73[i * 5 + 4]? = some (.bool false) := by
  have hs := Tryd.zeroCells73_size
  have h := List.all_eq_true.1 gz4_all i (by simpa using hi)
  have hl : i * 5 + 4 < Tryd.zeroCells73.size := by omega
  rw [Array.getElem?_eq_getElem hl, ← isF_eq h]; exact congrArg some (getElem!_pos Tryd.zeroCells73 _ hl).symm
theorem gz_slot (n m i : Nat) (hi : i < 320) : Tryd.zeroCells73[i]? = some ((Gr.zero n m).slot (i / 5) (i % 5)) := by
  obtain ⟨j, d, hd, hj, rfl⟩ : ∃ j d, d < 5 ∧ j < 64 ∧ i = j * 5 + d := ⟨i / 5, i % 5, Nat.mod_lt _ (by omega), by omega, by omega⟩
  rw [show (j * 5 + d) / 5 = j by omega, show (j * 5 + d) % 5 = d by omega]
  obtain ⟨z0, z1, z2, z3⟩ := gz j hj
  match d, hd with
  | 0, _ => exact z0
  | 1, _ => exact z1
  | 2, _ => exact z2
  | 3, _ => exact z3
  | 4, _ => exact gz4 j hj

set_option maxRecDepth 100000 in
set_option maxHeartbeats 4000000 in
theorem gnew2_calls (n m : Nat) (h1 : 1 ≤ n) (h2 : n ≤ 24) (h3 : 1 ≤ m) (h4 : m ≤ 64) (w : World) :
    Calls Tryd.prog 11 #[.int .i64 (n : Nat), .int .i64 (m : Nat)] w fun e w' => ∃ L : GLoc, e = .returned (.tuple #[.pointer (some ⟨L.b, 0, none⟩), .int .i64 0]) ∧ GMem w' L (Gr.zero n m) ∧ Fr No w w' ∧ ∀ j, L.own n j → w.heap.size ≤ j := by
  have hmk := run_make_ends n (by omega)
  go_enter Tryd.func11, Tryd.ntmps11
  go_wp2
  go_ret2
  refine ⟨⟨w.heap.size + 1, w.heap.size, fun _ => none, fun _ => 0⟩, rfl, LMem.gm ⟨h1, h2, h3, h4, fun i _ h => by cases h⟩ ⟨_, heap_alloc2' w _ _, by simp [Tryd.zeroCells73_size], fun i hi => ?_⟩ ⟨⟨_, heap_alloc2 w _ _, by simp [madeCells, Gr.zero]; omega, fun i hi => ?_⟩, fun q hq => ⟨Gr.zero_lst n m q, rfl⟩, ⟨by simp, fun q k hq hk => by cases hk⟩, fun p q k _ _ hp => by cases hp⟩, ((Fr.refl _ _).alloc _).alloc _, ?_⟩
  · have hs := Tryd.zeroCells73_size
    rw [Array.getElem?_setIfInBounds, Array.getElem?_setIfInBounds, Gr.cell_eq, Gr.zero_cnt]
    unfold Gr.cellN
    by_cases e2 : 322 = i
    · subst e2
      rw [if_pos rfl, if_pos (by simp [hs]), if_neg (by omega), if_neg (by omega), if_neg (by omega)]; rfl
    · rw [if_neg e2]
      by_cases e0 : 320 = i
      · subst e0
        rw [if_pos rfl, if_pos (by simp [hs]), if_neg (by omega), if_pos rfl]; rfl
      · rw [if_neg e0]
        by_cases e1 : i < 320
        · rw [if_pos e1]; exact gz_slot n m i e1
        · rw [if_neg e1, if_neg (Ne.symm e0), if_pos (show i = 321 by omega), show i = 321 by omega]; exact gz321
  · exact made_ends n i (by have : i < 2 * n := hi; omega)
  · rintro j (e | e | ⟨q, hq, e⟩)
    · simp at e; omega
    · simp at e; omega
    · cases e

end Go.Proofs.YtpkocidcfnlbiaaDoor

/- An insertion into the document's graph; a change of either graph; both graphs behind changes; walked. -/
set_option linter.unusedVariables false
set_option linter.unusedSimpArgs false
namespace Go.Proofs.YtpkocidcfnlbiaaDoor
open Go.RowKit Go.Deep

theorem Gr.put_set (G : Gr) (k : Nat) (a : Arc4) (h : G.icode (k : Nat) a = 0) : G.put (k : Nat) a = G.set k a true := by
  unfold Gr.put; rw [if_pos h]; rfl

end Go.Proofs.YtpkocidcfnlbiaaDoor

/- A change of either graph; both graphs behind changes; walked. -/
set_option linter.unusedVariables false
set_option linter.unusedSimpArgs false
namespace Go.Proofs.YtpkocidcfnlbiaaDoor
open Go.RowKit Go.Deep

theorem GStep.of {w W0 w' : World} {L : GLoc} {n : Nat} {G' : Gr} (f0 : Fr No w W0) (h : GStep W0 L n w' G') : GStep w L n w' G' := by
  obtain ⟨L', h1, h2, h3, h4⟩ := h
  exact ⟨L', h1, h2, (f0.no (F := L.own n)).trans' h3 (fun i _ hi => hi), fun j hj => (h4 j hj).imp id (fun h => by have := f0.size; omega)⟩
theorem Gr.put_n (G : Gr) (id : Int) (a : Arc4) : (G.put id a).n = G.n ∧ (G.put id a).most = G.most := by unfold Gr.put; split <;> exact ⟨rfl, rfl⟩
theorem Gr.rm_n (G : Gr) (id : Int) : (G.rm id).n = G.n ∧ (G.rm id).most = G.most := by unfold Gr.rm; split <;> exact ⟨rfl, rfl⟩
theorem Gr.tn_n (G : Gr) (id : Int) (c : Bool) : (G.tn id c).n = G.n ∧ (G.tn id c).most = G.most := by unfold Gr.tn; split <;> exact ⟨rfl, rfl⟩
theorem Gr.wt_n (G : Gr) (id x : Int) : (G.wt id x).n = G.n ∧ (G.wt id x).most = G.most := by unfold Gr.wt; split <;> exact ⟨rfl, rfl⟩
theorem Gr.step_n (G : Gr) (c : Chg) : (G.step c).n = G.n ∧ (G.step c).most = G.most := by
  unfold Gr.step
  split
  · exact G.put_n _ _
  · split
    · exact G.rm_n _
    · split
      · exact G.tn_n _ _
      · split
        · exact G.tn_n _ _
        · exact G.wt_n _ _
theorem Gr.steps_n (G : Gr) (f : Nat → Chg) : ∀ k, (G.steps f k).n = G.n ∧ (G.steps f k).most = G.most := by
  intro k
  induction k with
  | zero => exact ⟨rfl, rfl⟩
  | succ k ih =>
    have := (G.steps f k).step_n (f k)
    rw [ih.1, ih.2] at this
    exact this

end Go.Proofs.YtpkocidcfnlbiaaDoor
