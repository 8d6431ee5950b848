/- A new graph, and the document's; walked. -/
import Derived.Test.YtlncmnphjdeeoaaDoorRG
set_option linter.unusedVariables false
set_option linter.unusedSimpArgs false
namespace Go.Proofs.YtlncmnphjdeeoaaDoor
open Go.RowKit Go.Deep

def Gr.zero (n m : Nat) : Gr := ⟨n, m, fun _ => ⟨0, 0, 0, false⟩, fun _ => false⟩
theorem sel_none {p : Nat → Bool} (h : ∀ i, p i = false) : sel p = [] := by
  unfold sel
  rw [List.filter_eq_nil_iff.2 (fun i _ => by rw [h i]; simp)]; rfl
theorem Gr.zero_lst (n m q : Nat) : (Gr.zero n m).lst q = [] := sel_none (fun i => rfl)
theorem Gr.zero_cnt (n m : Nat) : (Gr.zero n m).cnt = 0 := by unfold Gr.cnt; rw [sel_none (p := (Gr.zero n m).tk) (fun i => rfl)]; rfl

set_option maxRecDepth 100000 in
theorem gz4_all : ((List.range 64).all fun i => isF (Tryd.zeroCells148[i * 5 + 4]!)) = true := by kernel_rfl
set_option maxRecDepth 100000 in
theorem gz321 : Tryd.zeroCells148[321]? = some (.int .i64 0) := by kernel_rfl
theorem gz4 (i : Nat) (hi : i < 64) : Tryd.zeroCells148[i * 5 + 4]? = some (.bool false) := by
  have hs := Tryd.zeroCells148_size
  have h := List.all_eq_true.1 gz4_all i (by simpa using hi)
  have hl : i * 5 + 4 < Tryd.zeroCells148.size := by omega
  rw [Array.getElem?_eq_getElem hl, ← isF_eq h]; exact congrArg some (getElem!_pos Tryd.zeroCells148 _ hl).symm
theorem gz_slot (n m i : Nat) (hi : i < 320) : Tryd.zeroCells148[i]? = some ((Gr.zero n m).slot (i / 5) (i % 5)) := by
  obtain ⟨j, d, hd, hj, rfl⟩ : ∃ j d, d < 5 ∧ j < 64 ∧ i = j * 5 + d := ⟨i / 5, i % 5, Nat.mod_lt _ (by omega), by omega, by omega⟩
  rw [show (j * 5 + d) / 5 = j by omega, show (j * 5 + d) % 5 = d by omega]
  obtain ⟨z0, z1, z2, z3⟩ := gz j hj
  match d, hd with
  | 0, _ => exact z0
  | 1, _ => exact z1
  | 2, _ => exact z2
  | 3, _ => exact z3
  | 4, _ => exact gz4 j hj

set_option maxRecDepth 100000 in
set_option maxHeartbeats 4000000 in
theorem gnew2_calls (n m : Nat) (h1 : 1 ≤ n) (h2 : n ≤ 24) (h3 : 1 ≤ m) (h4 : m ≤ 64) (w : World) :
    Calls Tryd.prog 61 #[.int .i64 (n : Nat), .int .i64 (m : Nat)] w fun e w' => ∃ L : GLoc, e = .returned (.tuple #[.pointer (some ⟨L.b, 0, none⟩), .int .i64 0]) ∧ GMem w' L (Gr.zero n m) ∧ Fr No w w' ∧ ∀ j, L.own n j → w.heap.size ≤ j := by
  have hmk := run_make_ends n (by omega)
  go_enter Tryd.func61, Tryd.ntmps61
  go_wp2
  go_ret2
  refine ⟨⟨w.heap.size + 1, w.heap.size, fun _ => none, fun _ => 0⟩, rfl, LMem.gm ⟨h1, h2, h3, h4, fun i _ h => by cases h⟩ ⟨_, heap_alloc2' w _ _, by simp [Tryd.zeroCells148_size], fun i hi => ?_⟩ ⟨⟨_, heap_alloc2 w _ _, by simp [madeCells, Gr.zero]; omega, fun i hi => ?_⟩, fun q hq => ⟨Gr.zero_lst n m q, rfl⟩, ⟨by simp, fun q k hq hk => by cases hk⟩, fun p q k _ _ hp => by cases hp⟩, ((Fr.refl _ _).alloc _).alloc _, ?_⟩
  · have hs := Tryd.zeroCells148_size
    rw [Array.getElem?_setIfInBounds, Array.getElem?_setIfInBounds, Gr.cell_eq, Gr.zero_cnt]
    unfold Gr.cellN
    by_cases e2 : 322 = i
    · subst e2
      rw [if_pos rfl, if_pos (by simp [hs]), if_neg (by omega), if_neg (by omega), if_neg (by omega)]; rfl
    · rw [if_neg e2]
      by_cases e0 : 320 = i
      · subst e0
        rw [if_pos rfl, if_pos (by simp [hs]), if_neg (by omega), if_pos rfl]; rfl
      · rw [if_neg e0]
        by_cases e1 : i < 320
        · rw [if_pos e1]; exact gz_slot n m i e1
        · rw [if_neg e1, if_neg (Ne.symm e0), if_pos (show i = 321 by omega), show i = 321 by omega]; exact gz321
  · exact made_ends n i (by have : i < 2 * n := hi; omega)
  · rintro j (e | e | ⟨q, hq, e⟩)
    · simp at e; omega
    · simp at e; omega
    · cases e

set_option maxRecDepth 100000 in
theorem rz_all : (((List.range 64).all fun i => isF (Tryd.zeroCells96[2 + i]!)) && ((List.range 64).all fun i => isZ (Tryd.zeroCells96[66 + i * 4]!) && isZ (Tryd.zeroCells96[66 + i * 4 + 1]!) && isZ (Tryd.zeroCells96[66 + i * 4 + 2]!) && isF (Tryd.zeroCells96[66 + i * 4 + 3]!))) = true := by kernel_rfl
theorem rz_cell (n m i : Nat) (h2 : 2 ≤ i) (hi : i < 322) : Tryd.zeroCells96[i]? = some ((Gr.zero n m).rcell i) := by
  have hs := Tryd.zeroCells96_size
  have h := rz_all
  rw [Bool.and_eq_true] at h
  have key : ∀ j, j < 322 → Tryd.zeroCells96[j]? = some (Tryd.zeroCells96[j]!) := fun j hj => by
    have hl : j < Tryd.zeroCells96.size := by omega
    rw [Array.getElem?_eq_getElem hl]; exact congrArg some (getElem!_pos Tryd.zeroCells96 j hl).symm
  rw [key i hi]
  by_cases h66 : i < 66
  · obtain ⟨j, rfl⟩ : ∃ j, i = 2 + j := ⟨i - 2, by omega⟩
    rw [Gr.rcell_tk _ j (by omega), isF_eq (List.all_eq_true.1 h.1 j (List.mem_range.2 (by omega)))]; rfl
  · obtain ⟨j, d, hd, rfl⟩ : ∃ j d, d < 4 ∧ i = 66 + j * 4 + d := ⟨(i - 66) / 4, (i - 66) % 4, Nat.mod_lt _ (by omega), by omega⟩
    rw [Gr.rcell_arc _ j d hd]
    have hh := List.all_eq_true.1 h.2 j (List.mem_range.2 (by omega))
    simp only [Bool.and_eq_true] at hh
    match d, hd with
    | 0, _ => rw [Nat.add_zero, isZ_eq hh.1.1.1]; rfl
    | 1, _ => rw [isZ_eq hh.1.1.2]; rfl
    | 2, _ => rw [isZ_eq hh.1.2]; rfl
    | 3, _ => rw [isF_eq hh.2]; rfl

set_option maxRecDepth 100000 in
set_option maxHeartbeats 4000000 in
theorem rgnew_calls (n m : Nat) (w : World) :
    Calls Tryd.prog 88 #[.int .i64 (n : Nat), .int .i64 (m : Nat)] w fun e w' => ∃ b : Nat, e = .returned (.pointer (some ⟨b, 0, none⟩)) ∧ RGM w' b (Gr.zero n m) ∧ Fr No w w' ∧ w.heap.size ≤ b := by
  go_enter Tryd.func88, Tryd.ntmps88
  go_wp2
  go_ret
  refine ⟨w.heap.size, rfl, ⟨_, heap_new w _, by simp [Tryd.zeroCells96_size], fun i hi => ?_⟩, (Fr.refl _ _).alloc _, Nat.le_refl _⟩
  rw [Array.getElem?_setIfInBounds, Array.getElem?_setIfInBounds]
  have hs := Tryd.zeroCells96_size
  by_cases e1 : 1 = i
  · subst e1
    rw [if_pos rfl, if_pos (by simp [hs])]; rfl
  · rw [if_neg e1]
    by_cases e0 : 0 = i
    · subst e0
      rw [if_pos rfl, if_pos (by simp [hs])]; rfl
    · rw [if_neg e0]; exact rz_cell n m i (by omega) hi

end Go.Proofs.YtlncmnphjdeeoaaDoor
