/- A new graph, and the document's; walked. -/
import Derived.StillTailTactics
import Derived.Test.YtoepbhacpidcbaaGreatDoorQBase
import Derived.Test.YtoepbhacpidcbaaGreatDoorQIdx
import Derived.Test.YtoepbhacpidcbaaGreatDoorQPerm
import Derived.Test.YtoepbhacpidcbaaGreatDoorQIdxB
import Derived.Test.YtoepbhacpidcbaaGreatDoorQRef
import Derived.Test.YtoepbhacpidcbaaGreatDoorQUnref
import Derived.Test.YtoepbhacpidcbaaGreatDoorQItr
import Derived.Test.YtoepbhacpidcbaaGreatDoorQUnE
import Derived.Test.YtoepbhacpidcbaaGreatDoorQDst
import Derived.Test.YtoepbhacpidcbaaGreatDoorQLnk
import Derived.Test.YtoepbhacpidcbaaGreatDoorQMid
import Derived.Test.YtoepbhacpidcbaaGreatDoorQBig
import Derived.Test.YtoepbhacpidcbaaGreatDoorQCp2
import Derived.Test.YtoepbhacpidcbaaGreatDoorQGOps
import Derived.Test.YtoepbhacpidcbaaGreatDoorQBld

set_option linter.unusedVariables false
set_option linter.unusedSimpArgs false
namespace Go.Proofs.YtoepbhacpidcbaaGreatDoor
open Go.RowKit Go.Deep

def Gr.zero (n m : Nat) : Gr := ⟨n, m, fun _ => ⟨0, 0, 0, false⟩, fun _ => false⟩
theorem sel_none {p : Nat → Bool} (h : ∀ i, p i = false) : sel p = [] := by
  unfold sel
  rw [List.filter_eq_nil_iff.2 (fun i _ => by rw [h i]; simp)]; rfl
theorem Gr.zero_lst (n m q : Nat) : (Gr.zero n m).lst q = [] := sel_none (fun i => rfl)
theorem Gr.zero_cnt (n m : Nat) : (Gr.zero n m).cnt = 0 := by unfold Gr.cnt; rw [sel_none (p := (Gr.zero n m).tk) (fun i => rfl)]; rfl

set_option maxRecDepth 100000 in
theorem gz4_all : ((List.range 64).all fun i => isF (Tryz.zeroCells197[i * 5 + 4]!)) = true := by kernel_rfl
set_option maxRecDepth 100000 in
theorem gz321 : Tryz.zeroCells197[321]? = some (.int .i64 0) := by kernel_rfl
theorem gz4 (i : Nat) (hi : i < 64) : Tryz.zeroCells197[i * 5 + 4]? = some (.bool false) := by
  have hs := Tryz.zeroCells197_size
  have h := List.all_eq_true.1 gz4_all i (by simpa using hi)
  have hl : i * 5 + 4 < Tryz.zeroCells197.size := by omega
  rw [Array.getElem?_eq_getElem hl, ← isF_eq h]; exact congrArg some (getElem!_pos Tryz.zeroCells197 _ hl).symm
theorem gz_slot (n m i : Nat) (hi : i < 320) : Tryz.zeroCells197[i]? = some ((Gr.zero n m).slot (i / 5) (i % 5)) := by
  obtain ⟨j, d, hd, hj, rfl⟩ : ∃ j d, d < 5 ∧ j < 64 ∧ i = j * 5 + d := ⟨i / 5, i % 5, Nat.mod_lt _ (by omega), by omega, by omega⟩
  rw [show (j * 5 + d) / 5 = j by omega, show (j * 5 + d) % 5 = d by omega]
  obtain ⟨z0, z1, z2, z3⟩ := gz j hj
  match d, hd with
  | 0, _ => exact z0
  | 1, _ => exact z1
  | 2, _ => exact z2
  | 3, _ => exact z3
  | 4, _ => exact gz4 j hj

set_option maxRecDepth 100000 in
set_option maxHeartbeats 4000000 in
theorem gnew2_calls (n m : Nat) (h1 : 1 ≤ n) (h2 : n ≤ 24) (h3 : 1 ≤ m) (h4 : m ≤ 64) (w : World) :
    Calls Tryz.prog 53 #[.int .i64 (n : Nat), .int .i64 (m : Nat)] w fun e w' => ∃ L : GLoc, e = .returned (.tuple #[.pointer (some ⟨L.b, 0, none⟩), .int .i64 0]) ∧ GMem w' L (Gr.zero n m) ∧ Fr No w w' ∧ ∀ j, L.own n j → w.heap.size ≤ j := by
  have hmk := run_make_ends n (by omega)
  go_enter Tryz.func53, Tryz.ntmps53
  go_wp2
  go_ret2
  refine ⟨⟨w.heap.size + 1, w.heap.size, fun _ => none, fun _ => 0⟩, rfl, LMem.gm ⟨h1, h2, h3, h4, fun i _ h => by cases h⟩ ⟨_, heap_alloc2' w _ _, by simp [Tryz.zeroCells197_size], fun i hi => ?_⟩ ⟨⟨_, heap_alloc2 w _ _, by simp [madeCells, Gr.zero]; omega, fun i hi => ?_⟩, fun q hq => ⟨Gr.zero_lst n m q, rfl⟩, ⟨by simp, fun q k hq hk => by cases hk⟩, fun p q k _ _ hp => by cases hp⟩, ((Fr.refl _ _).alloc _).alloc _, ?_⟩
  · have hs := Tryz.zeroCells197_size
    rw [Array.getElem?_setIfInBounds, Array.getElem?_setIfInBounds, Gr.cell_eq, Gr.zero_cnt]
    unfold Gr.cellN
    by_cases e2 : 322 = i
    · subst e2
      rw [if_pos rfl, if_pos (by simp [hs]), if_neg (by omega), if_neg (by omega), if_neg (by omega)]; rfl
    · rw [if_neg e2]
      by_cases e0 : 320 = i
      · subst e0
        rw [if_pos rfl, if_pos (by simp [hs]), if_neg (by omega), if_pos rfl]; rfl
      · rw [if_neg e0]
        by_cases e1 : i < 320
        · rw [if_pos e1]; exact gz_slot n m i e1
        · rw [if_neg e1, if_neg (Ne.symm e0), if_pos (show i = 321 by omega), show i = 321 by omega]; exact gz321
  · exact made_ends n i (by have : i < 2 * n := hi; omega)
  · rintro j (e | e | ⟨q, hq, e⟩)
    · simp at e; omega
    · simp at e; omega
    · cases e

set_option maxRecDepth 100000 in
theorem rz_all : (((List.range 64).all fun i => isF (Tryz.zeroCells52[2 + i]!)) && ((List.range 64).all fun i => isZ (Tryz.zeroCells52[66 + i * 4]!) && isZ (Tryz.zeroCells52[66 + i * 4 + 1]!) && isZ (Tryz.zeroCells52[66 + i * 4 + 2]!) && isF (Tryz.zeroCells52[66 + i * 4 + 3]!))) = true := by kernel_rfl
theorem rz_cell (n m i : Nat) (h2 : 2 ≤ i) (hi : i < 322) : Tryz.zeroCells52[i]? = some ((Gr.zero n m).rcell i) := by
  have hs := Tryz.zeroCells52_size
  have h := rz_all
  rw [Bool.and_eq_true] at h
  have key : ∀ j, j < 322 → Tryz.zeroCells52[j]? = some (Tryz.zeroCells52[j]!) := fun j hj => by
    have hl : j < Tryz.zeroCells52.size := by omega
    rw [Array.getElem?_eq_getElem hl]; exact congrArg some (getElem!_pos Tryz.zeroCells52 j hl).symm
  rw [key i hi]
  by_cases h66 : i < 66
  · obtain ⟨j, rfl⟩ : ∃ j, i = 2 + j := ⟨i - 2, by omega⟩
    rw [Gr.rcell_tk _ j (by omega), isF_eq (List.all_eq_true.1 h.1 j (List.mem_range.2 (by omega)))]; rfl
  · obtain ⟨j, d, hd, rfl⟩ : ∃ j d, d < 4 ∧ i = 66 + j * 4 + d := ⟨(i - 66) / 4, (i - 66) % 4, Nat.mod_lt _ (by omega), by omega⟩
    rw [Gr.rcell_arc _ j d hd]
    have hh := List.all_eq_true.1 h.2 j (List.mem_range.2 (by omega))
    simp only [Bool.and_eq_true] at hh
    match d, hd with
    | 0, _ => rw [Nat.add_zero, isZ_eq hh.1.1.1]; rfl
    | 1, _ => rw [isZ_eq hh.1.1.2]; rfl
    | 2, _ => rw [isZ_eq hh.1.2]; rfl
    | 3, _ => rw [isF_eq hh.2]; rfl

set_option maxRecDepth 100000 in
set_option maxHeartbeats 4000000 in
theorem rgnew_calls (n m : Nat) (w : World) :
    Calls Tryz.prog 59 #[.int .i64 (n : Nat), .int .i64 (m : Nat)] w fun e w' => ∃ b : Nat, e = .returned (.pointer (some ⟨b, 0, none⟩)) ∧ RGM w' b (Gr.zero n m) ∧ Fr No w w' ∧ w.heap.size ≤ b := by
  go_enter Tryz.func59, Tryz.ntmps59
  go_wp2
  go_ret
  refine ⟨w.heap.size, rfl, ⟨_, heap_new w _, by simp [Tryz.zeroCells52_size], fun i hi => ?_⟩, (Fr.refl _ _).alloc _, Nat.le_refl _⟩
  rw [Array.getElem?_setIfInBounds, Array.getElem?_setIfInBounds]
  have hs := Tryz.zeroCells52_size
  by_cases e1 : 1 = i
  · subst e1
    rw [if_pos rfl, if_pos (by simp [hs])]; rfl
  · rw [if_neg e1]
    by_cases e0 : 0 = i
    · subst e0
      rw [if_pos rfl, if_pos (by simp [hs])]; rfl
    · rw [if_neg e0]; exact rz_cell n m i (by omega) hi

end Go.Proofs.YtoepbhacpidcbaaGreatDoor

/- An insertion into the document's graph; a change of either graph; both graphs behind changes; walked. -/
set_option linter.unusedVariables false
set_option linter.unusedSimpArgs false
namespace Go.Proofs.YtoepbhacpidcbaaGreatDoor
open Go.RowKit Go.Deep

theorem Gr.put_set (G : Gr) (k : Nat) (a : Arc4) (h : G.icode (k : Nat) a = 0) : G.put (k : Nat) a = G.set k a true := by
  unfold Gr.put; rw [if_pos h]; rfl

set_option maxRecDepth 100000 in
set_option maxHeartbeats 2000000 in
theorem rgins_a {w : World} {b : Nat} {G : Gr} (h : RGM w b G) (id : Int) (a : Arc4) (h0 : id < 0) :
    Calls Tryz.prog 125 #[.pointer (some ⟨b, 0, none⟩), .int .i64 id, .agg #[.int .i64 a.t, .int .i64 a.h, .int .i64 a.w, .bool a.c]] w fun e w' => e = .returned (.int .i64 1) ∧ Fr No w w' := by
  have e0' : decide (id < 0) = true := by simpa using h0
  have f0 : Fr No w (w.alloc (.cells #[.int .i64 a.t, .int .i64 a.h, .int .i64 a.w, .bool a.c] 49)) := (Fr.refl No w).alloc _
  have hA := heap_new w (.cells #[.int .i64 a.t, .int .i64 a.h, .int .i64 a.w, .bool a.c] 49)
  have a0 := cell_of hA 0
  have a1 := cell_of hA 1
  have a2 := cell_of hA 2
  have a3 := cell_of hA 3
  have F0 := hid f0
  have H0 := hid (h.no f0)
  have hzA : w.heap.size < (w.alloc (.cells #[.int .i64 a.t, .int .i64 a.h, .int .i64 a.w, .bool a.c] 49)).heap.size := by simp
  clear h f0 hA
  simp at a0 a1 a2 a3
  go_enter Tryz.func125, Tryz.ntmps125
  go_wp2
  go_ret
  exact ⟨rfl, F0.out⟩

set_option maxRecDepth 100000 in
set_option maxHeartbeats 2000000 in
theorem rgins_b {w : World} {b : Nat} {G : Gr} (h : RGM w b G) (id : Int) (a : Arc4) (h0 : 63 < id) :
    Calls Tryz.prog 125 #[.pointer (some ⟨b, 0, none⟩), .int .i64 id, .agg #[.int .i64 a.t, .int .i64 a.h, .int .i64 a.w, .bool a.c]] w fun e w' => e = .returned (.int .i64 1) ∧ Fr No w w' := by
  have e0 : ¬ id < 0 := by omega
  have e0' : decide (id < 0) = false := by simp; omega
  have e1' : decide (63 < id) = true := by simpa using h0
  have f0 : Fr No w (w.alloc (.cells #[.int .i64 a.t, .int .i64 a.h, .int .i64 a.w, .bool a.c] 49)) := (Fr.refl No w).alloc _
  have hA := heap_new w (.cells #[.int .i64 a.t, .int .i64 a.h, .int .i64 a.w, .bool a.c] 49)
  have a0 := cell_of hA 0
  have a1 := cell_of hA 1
  have a2 := cell_of hA 2
  have a3 := cell_of hA 3
  have F0 := hid f0
  have H0 := hid (h.no f0)
  have hzA : w.heap.size < (w.alloc (.cells #[.int .i64 a.t, .int .i64 a.h, .int .i64 a.w, .bool a.c] 49)).heap.size := by simp
  clear h f0 hA
  simp at a0 a1 a2 a3
  go_enter Tryz.func125, Tryz.ntmps125
  go_wp2
  go_ret
  exact ⟨rfl, F0.out⟩

set_option maxRecDepth 100000 in
set_option maxHeartbeats 2000000 in
theorem rgins_1 {w : World} {b : Nat} {G : Gr} (h : RGM w b G) (id : Int) (a : Arc4) (h0 : (0 ≤ id ∧ id < 64)) (h1 : ¬ (0 ≤ a.t ∧ a.t < G.n)) :
    Calls Tryz.prog 125 #[.pointer (some ⟨b, 0, none⟩), .int .i64 id, .agg #[.int .i64 a.t, .int .i64 a.h, .int .i64 a.w, .bool a.c]] w fun e w' => e = .returned (.int .i64 1) ∧ Fr No w w' := by
  have e0 : ¬ id < 0 := by omega
  have e1 : ¬ 63 < id := by omega
  have e0' : decide (id < 0) = false := by simp; omega
  have e1' : decide (63 < id) = false := by simp; omega
  have d1 : decide (0 ≤ a.t ∧ a.t < G.n) = false := decide_eq_false h1
  have f0 : Fr No w (w.alloc (.cells #[.int .i64 a.t, .int .i64 a.h, .int .i64 a.w, .bool a.c] 49)) := (Fr.refl No w).alloc _
  have hA := heap_new w (.cells #[.int .i64 a.t, .int .i64 a.h, .int .i64 a.w, .bool a.c] 49)
  have a0 := cell_of hA 0
  have a1 := cell_of hA 1
  have a2 := cell_of hA 2
  have a3 := cell_of hA 3
  have F0 := hid f0
  have H0 := hid (h.no f0)
  have hzA : w.heap.size < (w.alloc (.cells #[.int .i64 a.t, .int .i64 a.h, .int .i64 a.w, .bool a.c] 49)).heap.size := by simp
  clear h f0 hA
  simp at a0 a1 a2 a3
  go_enter Tryz.func125, Tryz.ntmps125
  go_wp2_with fail
  refine (rgvertex_calls H0.out a.t).mono ?_
  rintro e w1 ⟨rfl, rfl⟩
  rw [d1]
  go_wp2
  go_ret
  exact ⟨rfl, F0.out⟩

set_option maxRecDepth 100000 in
set_option maxHeartbeats 2000000 in
theorem rgins_2 {w : World} {b : Nat} {G : Gr} (h : RGM w b G) (id : Int) (a : Arc4) (h0 : (0 ≤ id ∧ id < 64)) (h1 : (0 ≤ a.t ∧ a.t < G.n)) (h2 : ¬ (0 ≤ a.h ∧ a.h < G.n)) :
    Calls Tryz.prog 125 #[.pointer (some ⟨b, 0, none⟩), .int .i64 id, .agg #[.int .i64 a.t, .int .i64 a.h, .int .i64 a.w, .bool a.c]] w fun e w' => e = .returned (.int .i64 1) ∧ Fr No w w' := by
  have e0 : ¬ id < 0 := by omega
  have e1 : ¬ 63 < id := by omega
  have e0' : decide (id < 0) = false := by simp; omega
  have e1' : decide (63 < id) = false := by simp; omega
  have d1 : decide (0 ≤ a.t ∧ a.t < G.n) = true := decide_eq_true h1
  have d2 : decide (0 ≤ a.h ∧ a.h < G.n) = false := decide_eq_false h2
  have f0 : Fr No w (w.alloc (.cells #[.int .i64 a.t, .int .i64 a.h, .int .i64 a.w, .bool a.c] 49)) := (Fr.refl No w).alloc _
  have hA := heap_new w (.cells #[.int .i64 a.t, .int .i64 a.h, .int .i64 a.w, .bool a.c] 49)
  have a0 := cell_of hA 0
  have a1 := cell_of hA 1
  have a2 := cell_of hA 2
  have a3 := cell_of hA 3
  have F0 := hid f0
  have H0 := hid (h.no f0)
  have hzA : w.heap.size < (w.alloc (.cells #[.int .i64 a.t, .int .i64 a.h, .int .i64 a.w, .bool a.c] 49)).heap.size := by simp
  clear h f0 hA
  simp at a0 a1 a2 a3
  go_enter Tryz.func125, Tryz.ntmps125
  go_wp2_with fail
  refine (rgvertex_calls H0.out a.t).mono ?_
  rintro e w1 ⟨rfl, rfl⟩
  rw [d1]
  go_wp2_with fail
  refine (rgvertex_calls H0.out a.h).mono ?_
  rintro e w1 ⟨rfl, rfl⟩
  rw [d2]
  go_wp2
  go_ret
  exact ⟨rfl, F0.out⟩

set_option maxRecDepth 100000 in
set_option maxHeartbeats 2000000 in
theorem rgins_3 {w : World} {b : Nat} {G : Gr} (h : RGM w b G) (id : Int) (a : Arc4) (h0 : (0 ≤ id ∧ id < 64)) (h1 : (0 ≤ a.t ∧ a.t < G.n)) (h2 : (0 ≤ a.h ∧ a.h < G.n)) (h3 : ¬ (1 ≤ a.w ∧ a.w ≤ 4611686018427387904)) :
    Calls Tryz.prog 125 #[.pointer (some ⟨b, 0, none⟩), .int .i64 id, .agg #[.int .i64 a.t, .int .i64 a.h, .int .i64 a.w, .bool a.c]] w fun e w' => e = .returned (.int .i64 1) ∧ Fr No w w' := by
  have e0 : ¬ id < 0 := by omega
  have e1 : ¬ 63 < id := by omega
  have e0' : decide (id < 0) = false := by simp; omega
  have e1' : decide (63 < id) = false := by simp; omega
  have d1 : decide (0 ≤ a.t ∧ a.t < G.n) = true := decide_eq_true h1
  have d2 : decide (0 ≤ a.h ∧ a.h < G.n) = true := decide_eq_true h2
  have d3 : decide (1 ≤ a.w ∧ a.w ≤ 4611686018427387904) = false := decide_eq_false h3
  have f0 : Fr No w (w.alloc (.cells #[.int .i64 a.t, .int .i64 a.h, .int .i64 a.w, .bool a.c] 49)) := (Fr.refl No w).alloc _
  have hA := heap_new w (.cells #[.int .i64 a.t, .int .i64 a.h, .int .i64 a.w, .bool a.c] 49)
  have a0 := cell_of hA 0
  have a1 := cell_of hA 1
  have a2 := cell_of hA 2
  have a3 := cell_of hA 3
  have F0 := hid f0
  have H0 := hid (h.no f0)
  have hzA : w.heap.size < (w.alloc (.cells #[.int .i64 a.t, .int .i64 a.h, .int .i64 a.w, .bool a.c] 49)).heap.size := by simp
  clear h f0 hA
  simp at a0 a1 a2 a3
  go_enter Tryz.func125, Tryz.ntmps125
  go_wp2_with fail
  refine (rgvertex_calls H0.out a.t).mono ?_
  rintro e w1 ⟨rfl, rfl⟩
  rw [d1]
  go_wp2_with fail
  refine (rgvertex_calls H0.out a.h).mono ?_
  rintro e w1 ⟨rfl, rfl⟩
  rw [d2]
  go_wp2_with fail
  refine (rgweight_calls a.w _).mono ?_
  rintro e w1 ⟨rfl, rfl⟩
  rw [d3]
  go_wp2
  go_ret
  exact ⟨rfl, F0.out⟩

set_option maxRecDepth 100000 in
set_option maxHeartbeats 2000000 in
theorem rgins_4 {w : World} {b : Nat} {G : Gr} (h : RGM w b G) (id : Int) (a : Arc4) (h0 : (0 ≤ id ∧ id < 64)) (h1 : (0 ≤ a.t ∧ a.t < G.n)) (h2 : (0 ≤ a.h ∧ a.h < G.n)) (h3 : (1 ≤ a.w ∧ a.w ≤ 4611686018427387904)) (htk : G.tk id.toNat = true) :
    Calls Tryz.prog 125 #[.pointer (some ⟨b, 0, none⟩), .int .i64 id, .agg #[.int .i64 a.t, .int .i64 a.h, .int .i64 a.w, .bool a.c]] w fun e w' => e = .returned (.int .i64 4) ∧ Fr No w w' := by
  have e0 : ¬ id < 0 := by omega
  have e1 : ¬ 63 < id := by omega
  have e0' : decide (id < 0) = false := by simp; omega
  have e1' : decide (63 < id) = false := by simp; omega
  have d1 : decide (0 ≤ a.t ∧ a.t < G.n) = true := decide_eq_true h1
  have d2 : decide (0 ≤ a.h ∧ a.h < G.n) = true := decide_eq_true h2
  have d3 : decide (1 ≤ a.w ∧ a.w ≤ 4611686018427387904) = true := decide_eq_true h3
  have f0 : Fr No w (w.alloc (.cells #[.int .i64 a.t, .int .i64 a.h, .int .i64 a.w, .bool a.c] 49)) := (Fr.refl No w).alloc _
  have hA := heap_new w (.cells #[.int .i64 a.t, .int .i64 a.h, .int .i64 a.w, .bool a.c] 49)
  have a0 := cell_of hA 0
  have a1 := cell_of hA 1
  have a2 := cell_of hA 2
  have a3 := cell_of hA 3
  have F0 := hid f0
  have H0 := hid (h.no f0)
  have hzA : w.heap.size < (w.alloc (.cells #[.int .i64 a.t, .int .i64 a.h, .int .i64 a.w, .bool a.c] 49)).heap.size := by simp
  clear h f0 hA
  simp at a0 a1 a2 a3
  have k0 := H0.out.tkc (show id.toNat < 64 by omega)
  rw [htk] at k0
  obtain ⟨k, rfl⟩ := Int.eq_ofNat_of_zero_le h0.1
  have hk : k < 64 := by omega
  have hk2 : (k : Int) < 64 := by omega
  rw [Int.toNat_natCast] at k0
  go_enter Tryz.func125, Tryz.ntmps125
  go_wp2_with fail
  refine (rgvertex_calls H0.out a.t).mono ?_
  rintro e w1 ⟨rfl, rfl⟩
  rw [d1]
  go_wp2_with fail
  refine (rgvertex_calls H0.out a.h).mono ?_
  rintro e w1 ⟨rfl, rfl⟩
  rw [d2]
  go_wp2_with fail
  refine (rgweight_calls a.w _).mono ?_
  rintro e w1 ⟨rfl, rfl⟩
  rw [d3]
  go_wp2
  go_ret
  exact ⟨rfl, F0.out⟩

set_option maxRecDepth 100000 in
set_option maxHeartbeats 2000000 in
theorem rgins_yes {w : World} {b : Nat} {G : Gr} (h : RGM w b G) (id : Int) (a : Arc4) (h0 : (0 ≤ id ∧ id < 64)) (h1 : (0 ≤ a.t ∧ a.t < G.n)) (h2 : (0 ≤ a.h ∧ a.h < G.n)) (h3 : (1 ≤ a.w ∧ a.w ≤ 4611686018427387904)) (htk : G.tk id.toNat = false) (hcnt : G.cnt < G.most) (hm : G.most ≤ 64) :
    Calls Tryz.prog 125 #[.pointer (some ⟨b, 0, none⟩), .int .i64 id, .agg #[.int .i64 a.t, .int .i64 a.h, .int .i64 a.w, .bool a.c]] w fun e w' => e = .returned (.int .i64 0) ∧ RGM w' b (G.set id.toNat a true) ∧ Fr (One b) w w' := by
  have e0 : ¬ id < 0 := by omega
  have e1 : ¬ 63 < id := by omega
  have e0' : decide (id < 0) = false := by simp; omega
  have e1' : decide (63 < id) = false := by simp; omega
  have d1 : decide (0 ≤ a.t ∧ a.t < G.n) = true := decide_eq_true h1
  have d2 : decide (0 ≤ a.h ∧ a.h < G.n) = true := decide_eq_true h2
  have d3 : decide (1 ≤ a.w ∧ a.w ≤ 4611686018427387904) = true := decide_eq_true h3
  have hbw := Blk.lt h
  have f0 : Fr No w (w.alloc (.cells #[.int .i64 a.t, .int .i64 a.h, .int .i64 a.w, .bool a.c] 49)) := (Fr.refl No w).alloc _
  have hA := heap_new w (.cells #[.int .i64 a.t, .int .i64 a.h, .int .i64 a.w, .bool a.c] 49)
  have a0 := cell_of hA 0
  have a1 := cell_of hA 1
  have a2 := cell_of hA 2
  have a3 := cell_of hA 3
  have F0 := hid f0
  have H0 := hid (h.no f0)
  have hzA : w.heap.size < (w.alloc (.cells #[.int .i64 a.t, .int .i64 a.h, .int .i64 a.w, .bool a.c] 49)).heap.size := by simp
  clear h f0 hA
  have k0 := H0.out.tkc (show id.toNat < 64 by omega)
  rw [htk] at k0
  obtain ⟨k, rfl⟩ := Int.eq_ofNat_of_zero_le h0.1
  have hk : k < 64 := by omega
  have hk2 : (k : Int) < 64 := by omega
  rw [Int.toNat_natCast] at k0
  rw [Int.toNat_natCast]
  have hbl : b < (w.alloc (.cells #[.int .i64 a.t, .int .i64 a.h, .int .i64 a.w, .bool a.c] 49)).heap.size := Blk.lt H0.out
  go_enter Tryz.func125, Tryz.ntmps125
  go_wp2_with fail
  refine (rgvertex_calls H0.out a.t).mono ?_
  rintro e w1 ⟨rfl, rfl⟩
  rw [d1]
  go_wp2_with fail
  refine (rgvertex_calls H0.out a.h).mono ?_
  rintro e w1 ⟨rfl, rfl⟩
  rw [d2]
  go_wp2_with fail
  refine (rgweight_calls a.w _).mono ?_
  rintro e w1 ⟨rfl, rfl⟩
  rw [d3]
  obtain ⟨W0, hW0⟩ : ∃ W0, w.alloc (.cells #[.int .i64 a.t, .int .i64 a.h, .int .i64 a.w, .bool a.c] 49) = W0 := ⟨_, rfl⟩
  rw [hW0] at F0 H0 a0 a1 a2 a3 k0 hzA hbl ⊢
  clear hW0
  simp at a0 a1 a2 a3
  have k1 := H0.out.c1
  have kk1 : ∀ n : Fam W0, n.v.cell? ⟨b, 1, none⟩ = some (.int .i64 (G.most : Nat)) := Fam.cell k1
  have hlen : ∀ n : Fam W0, Calls Tryz.prog 182 #[.pointer (some ⟨b, 0, none⟩)] n.v fun e w' => e = .returned (.int .i64 (G.cnt : Nat)) ∧ Fr No n.v w' := fun n => rglen_calls (H0.out.no n.h)
  have hcd : ((G.most : Int) ≤ (G.cnt : Nat)) = False := by simp; omega
  have hcd2 : decide ((G.most : Int) ≤ (G.cnt : Nat)) = false := by simp; omega
  clear k1
  go_wp2_with fail
  refine wp_region_fam (by kernel_rfl) (by kernel_rfl) ?_
  repeat (go_big_quiet_step (exact Calls.fam (hlen _)))
  refine wpQuiet_nil ?_
  rintro w4 ⟨⟨w4, hf4⟩, rfl⟩
  have H4 := hid (H0.out.no hf4)
  have F4 := hid (F0.out.trans hf4)
  have b0 := hf4.cell_some a0 (fun h => h)
  have b1 := hf4.cell_some a1 (fun h => h)
  have b2 := hf4.cell_some a2 (fun h => h)
  have b3 := hf4.cell_some a3 (fun h => h)
  have hs4 := hf4.size
  have z4 := H4.out.tkc hk
  have zf := fun i => Blk.frozen H4.out i
  have hb4 : b < w4.heap.size := Blk.lt H4.out
  clear hf4 a0 a1 a2 a3 hlen kk1 k0 H0 d1 d2 d3 h1 h2 h3
  have hne : w.heap.size ≠ b := by omega
  go_wp2_with fail
  have B5 := Blk.setCell H4.out (2 + k) (.bool true)
  have F5 : Fr (One b) w4 (w4.setCell ⟨b, 2 + k, none⟩ (.bool true)) := (Fr.refl _ _).set1 _ _
  generalize w4.setCell ⟨b, 2 + k, none⟩ (.bool true) = w5 at B5 F5 ⊢
  have c0 := F5.cell_some b0 (fun (e : w.heap.size = b) => hne e)
  have c1 := F5.cell_some b1 (fun (e : w.heap.size = b) => hne e)
  have c2 := F5.cell_some b2 (fun (e : w.heap.size = b) => hne e)
  have c3 := F5.cell_some b3 (fun (e : w.heap.size = b) => hne e)
  have z0 := B5.cell (i := 66 + k * 4) (by omega)
  have z1 := B5.cell (i := 66 + k * 4 + 1) (by omega)
  have z2 := B5.cell (i := 66 + k * 4 + 2) (by omega)
  have z3 := B5.cell (i := 66 + k * 4 + 3) (by omega)
  have zg := fun i => B5.frozen i
  have hb5 := B5.lt
  have hs5 := F5.size
  have HB5 := hid B5
  have HF5 := hid F5
  clear B5 F5 b0 b1 b2 b3 z4 zf
  go_still_tail 6, (by kernel_rfl)
  go_wp2
  go_ret
  exact ⟨rfl, Blk.congr ((((Blk.setCell HB5.out (66 + k * 4) (.int .i64 a.t)).setCell (66 + k * 4 + 1) (.int .i64 a.h)).setCell (66 + k * 4 + 2) (.int .i64 a.w)).setCell (66 + k * 4 + 3) (.bool a.c)).drew (fun i _ => G.rset_cell k hk a true i),
    (F4.out.no (F := One b)).trans' (((((HF5.out.set1 _ _).set1 _ _).set1 _ _).set1 _ _).drew) (fun i _ h => h)⟩

theorem rginsert_calls {w : World} {b : Nat} {G : Gr} (h : RGM w b G) (hm : G.most = 64) (id : Int) (a : Arc4) :
    Calls Tryz.prog 125 #[.pointer (some ⟨b, 0, none⟩), .int .i64 id, .agg #[.int .i64 a.t, .int .i64 a.h, .int .i64 a.w, .bool a.c]] w fun e w' => e = .returned (.int .i64 (G.icode id a)) ∧ RGM w' b (G.put id a) ∧ Fr (One b) w w' := by
  have no : ∀ c : Int, G.icode id a = c → c ≠ 0 → Calls Tryz.prog 125 #[.pointer (some ⟨b, 0, none⟩), .int .i64 id, .agg #[.int .i64 a.t, .int .i64 a.h, .int .i64 a.w, .bool a.c]] w (fun e w' => e = .returned (.int .i64 c) ∧ Fr No w w') →
      Calls Tryz.prog 125 #[.pointer (some ⟨b, 0, none⟩), .int .i64 id, .agg #[.int .i64 a.t, .int .i64 a.h, .int .i64 a.w, .bool a.c]] w fun e w' => e = .returned (.int .i64 (G.icode id a)) ∧ RGM w' b (G.put id a) ∧ Fr (One b) w w' := by
    intro c ec hc hcalls
    refine hcalls.mono ?_
    rintro e w' ⟨rfl, hf⟩
    refine ⟨by rw [ec], ?_, hf.no⟩
    rw [show G.put id a = G from by unfold Gr.put; rw [ec]; exact if_neg hc]
    exact h.no hf
  by_cases h0 : 0 ≤ id ∧ id < 64
  · by_cases h1 : 0 ≤ a.t ∧ a.t < G.n
    · by_cases h2 : 0 ≤ a.h ∧ a.h < G.n
      · by_cases h3 : 1 ≤ a.w ∧ a.w ≤ 4611686018427387904
        · have hok : (0 ≤ id ∧ id < 64) ∧ G.okA a := ⟨h0, h1, h2, h3⟩
          cases htk : G.tk id.toNat with
          | true => exact no 4 (by unfold Gr.icode; rw [if_pos hok, if_pos htk]) (by omega) (rgins_4 h id a h0 h1 h2 h3 htk)
          | false =>
            have ec : G.icode id a = 0 := by unfold Gr.icode; rw [if_pos hok, htk]; rfl
            have hcnt : G.cnt < G.most := by
              have hc := G.ins_cnt id.toNat a (by omega) htk
              have hl : (G.ins id.toNat a).cnt ≤ 64 := sel_len _
              omega
            refine (rgins_yes h id a h0 h1 h2 h3 htk hcnt (by omega)).mono ?_
            rintro e w' ⟨rfl, h5, h6⟩
            refine ⟨by rw [ec], ?_, h6⟩
            have := G.put_set id.toNat a (by rw [Int.toNat_of_nonneg h0.1]; exact ec)
            rw [Int.toNat_of_nonneg h0.1] at this
            rw [this]; exact h5
        · exact no 1 (by unfold Gr.icode; rw [if_neg (fun hh => h3 hh.2.2.2)]) (by omega) (rgins_3 h id a h0 h1 h2 h3)
      · exact no 1 (by unfold Gr.icode; rw [if_neg (fun hh => h2 hh.2.2.1)]) (by omega) (rgins_2 h id a h0 h1 h2)
    · exact no 1 (by unfold Gr.icode; rw [if_neg (fun hh => h1 hh.2.1)]) (by omega) (rgins_1 h id a h0 h1)
  · rcases (show id < 0 ∨ 63 < id by omega) with h | h'
    · exact no 1 (by unfold Gr.icode; rw [if_neg (fun hh => h0 hh.1)]) (by omega) (rgins_a (by assumption) id a h)
    · exact no 1 (by unfold Gr.icode; rw [if_neg (fun hh => h0 hh.1)]) (by omega) (rgins_b (by assumption) id a h')

end Go.Proofs.YtoepbhacpidcbaaGreatDoor

/- A change of either graph; both graphs behind changes; walked. -/
set_option linter.unusedVariables false
set_option linter.unusedSimpArgs false
namespace Go.Proofs.YtoepbhacpidcbaaGreatDoor
open Go.RowKit Go.Deep

theorem GStep.of {w W0 w' : World} {L : GLoc} {n : Nat} {G' : Gr} (f0 : Fr No w W0) (h : GStep W0 L n w' G') : GStep w L n w' G' := by
  obtain ⟨L', h1, h2, h3, h4⟩ := h
  exact ⟨L', h1, h2, (f0.no (F := L.own n)).trans' h3 (fun i _ hi => hi), fun j hj => (h4 j hj).imp id (fun h => by have := f0.size; omega)⟩
theorem Gr.put_n (G : Gr) (id : Int) (a : Arc4) : (G.put id a).n = G.n ∧ (G.put id a).most = G.most := by unfold Gr.put; split <;> exact ⟨rfl, rfl⟩
theorem Gr.rm_n (G : Gr) (id : Int) : (G.rm id).n = G.n ∧ (G.rm id).most = G.most := by unfold Gr.rm; split <;> exact ⟨rfl, rfl⟩
theorem Gr.tn_n (G : Gr) (id : Int) (c : Bool) : (G.tn id c).n = G.n ∧ (G.tn id c).most = G.most := by unfold Gr.tn; split <;> exact ⟨rfl, rfl⟩
theorem Gr.wt_n (G : Gr) (id x : Int) : (G.wt id x).n = G.n ∧ (G.wt id x).most = G.most := by unfold Gr.wt; split <;> exact ⟨rfl, rfl⟩
theorem Gr.step_n (G : Gr) (c : Chg) : (G.step c).n = G.n ∧ (G.step c).most = G.most := by
  unfold Gr.step
  split
  · exact G.put_n _ _
  · split
    · exact G.rm_n _
    · split
      · exact G.tn_n _ _
      · split
        · exact G.tn_n _ _
        · exact G.wt_n _ _
theorem Gr.steps_n (G : Gr) (f : Nat → Chg) : ∀ k, (G.steps f k).n = G.n ∧ (G.steps f k).most = G.most := by
  intro k
  induction k with
  | zero => exact ⟨rfl, rfl⟩
  | succ k ih =>
    have := (G.steps f k).step_n (f k)
    rw [ih.1, ih.2] at this
    exact this

set_option maxRecDepth 100000 in
set_option maxHeartbeats 2000000 in
theorem do_calls {w : World} {L : GLoc} {G : Gr} (h : GMem w L G) (hm : G.most = 64) (c : Chg) :
    Calls Tryz.prog 60 #[.pointer (some ⟨L.b, 0, none⟩), c.val] w fun e w' => e = .returned (.int .i64 (G.scode c)) ∧ GStep w L G.n w' (G.step c) := by
  obtain ⟨kd, id, ⟨t, hd, wt, cl⟩⟩ := c
  have f0 : Fr No w (w.alloc (.cells #[.int .i64 kd, .int .i64 id, .int .i64 t, .int .i64 hd, .int .i64 wt, .bool cl] 64)) := (Fr.refl No w).alloc _
  have hA := heap_new w (.cells #[.int .i64 kd, .int .i64 id, .int .i64 t, .int .i64 hd, .int .i64 wt, .bool cl] 64)
  have a0 := cell_of hA 0
  have a1 := cell_of hA 1
  have a2 := cell_of hA 2
  have a3 := cell_of hA 3
  have a4 := cell_of hA 4
  have a5 := cell_of hA 5
  have F0 := hid f0
  have H0 := hid (h.no f0)
  have hzA : w.heap.size < (w.alloc (.cells #[.int .i64 kd, .int .i64 id, .int .i64 t, .int .i64 hd, .int .i64 wt, .bool cl] 64)).heap.size := by simp
  clear h f0 hA
  simp at a0 a1 a2 a3 a4 a5
  simp only [Chg.val]
  by_cases h0 : kd = 0
  · subst h0
    rw [show G.scode ⟨0, id, ⟨t, hd, wt, cl⟩⟩ = G.icode id ⟨t, hd, wt, cl⟩ from rfl, show G.step ⟨0, id, ⟨t, hd, wt, cl⟩⟩ = G.put id ⟨t, hd, wt, cl⟩ from rfl]
    skip
    go_enter Tryz.func60, Tryz.ntmps60
    go_wp2_with fail
    refine (ginsert_calls H0.out hm id ⟨t, hd, wt, cl⟩).mono ?_
    rintro e w1 ⟨rfl, hR⟩
    have HR := hid (show GStep _ L G.n w1 _ from hR)
    clear hR
    go_wp2
    go_ret
    exact ⟨rfl, GStep.of F0.out HR.out⟩
  · have d0 : (kd == 0) = false := by simpa using h0
    by_cases h1 : kd = 1
    · subst h1
      rw [show G.scode ⟨1, id, ⟨t, hd, wt, cl⟩⟩ = G.code id from rfl, show G.step ⟨1, id, ⟨t, hd, wt, cl⟩⟩ = G.rm id from rfl]
      skip
      go_enter Tryz.func60, Tryz.ntmps60
      go_wp2_with fail
      refine (gdelete_calls H0.out id).mono ?_
      rintro e w1 ⟨rfl, hR, hf⟩
      have HR := hid (GStep.same hR hf)
      clear hf
      clear hR
      go_wp2
      go_ret
      exact ⟨rfl, GStep.of F0.out HR.out⟩
    · have d1 : (kd == 1) = false := by simpa using h1
      by_cases h2 : kd = 2
      · subst h2
        rw [show G.scode ⟨2, id, ⟨t, hd, wt, cl⟩⟩ = G.tcode id true from rfl, show G.step ⟨2, id, ⟨t, hd, wt, cl⟩⟩ = G.tn id true from rfl]
        skip
        go_enter Tryz.func60, Tryz.ntmps60
        go_wp2_with fail
        refine (gclose_calls H0.out id).mono ?_
        rintro e w1 ⟨rfl, hR, hf⟩
        have HR := hid (GStep.same hR hf)
        clear hf
        clear hR
        go_wp2
        go_ret
        exact ⟨rfl, GStep.of F0.out HR.out⟩
      · have d2 : (kd == 2) = false := by simpa using h2
        by_cases h3 : kd = 3
        · subst h3
          rw [show G.scode ⟨3, id, ⟨t, hd, wt, cl⟩⟩ = G.tcode id false from rfl, show G.step ⟨3, id, ⟨t, hd, wt, cl⟩⟩ = G.tn id false from rfl]
          skip
          go_enter Tryz.func60, Tryz.ntmps60
          go_wp2_with fail
          refine (greopen_calls H0.out id).mono ?_
          rintro e w1 ⟨rfl, hR, hf⟩
          have HR := hid (GStep.same hR hf)
          clear hf
          clear hR
          go_wp2
          go_ret
          exact ⟨rfl, GStep.of F0.out HR.out⟩
        · have d3 : (kd == 3) = false := by simpa using h3
          rw [show G.scode ⟨kd, id, ⟨t, hd, wt, cl⟩⟩ = G.wcode id wt from by unfold Gr.scode; rw [if_neg h0, if_neg h1, if_neg h2, if_neg h3], show G.step ⟨kd, id, ⟨t, hd, wt, cl⟩⟩ = G.wt id wt from by unfold Gr.step; rw [if_neg h0, if_neg h1, if_neg h2, if_neg h3]]
          clear h0 h1 h2 h3
          go_enter Tryz.func60, Tryz.ntmps60
          go_wp2_with fail
          refine (gweigh_calls H0.out id wt).mono ?_
          rintro e w1 ⟨rfl, hR, hf⟩
          have HR := hid (GStep.same hR hf)
          clear hf
          clear hR
          go_wp2
          go_ret
          exact ⟨rfl, GStep.of F0.out HR.out⟩

set_option maxRecDepth 100000 in
set_option maxHeartbeats 2000000 in
theorem doref_calls {w : World} {b : Nat} {G : Gr} (h : RGM w b G) (hm : G.most = 64) (c : Chg) :
    Calls Tryz.prog 61 #[.pointer (some ⟨b, 0, none⟩), c.val] w fun e w' => e = .returned (.int .i64 (G.scode c)) ∧ RGM w' b (G.step c) ∧ Fr (One b) w w' := by
  obtain ⟨kd, id, ⟨t, hd, wt, cl⟩⟩ := c
  have f0 : Fr No w (w.alloc (.cells #[.int .i64 kd, .int .i64 id, .int .i64 t, .int .i64 hd, .int .i64 wt, .bool cl] 64)) := (Fr.refl No w).alloc _
  have hA := heap_new w (.cells #[.int .i64 kd, .int .i64 id, .int .i64 t, .int .i64 hd, .int .i64 wt, .bool cl] 64)
  have a0 := cell_of hA 0
  have a1 := cell_of hA 1
  have a2 := cell_of hA 2
  have a3 := cell_of hA 3
  have a4 := cell_of hA 4
  have a5 := cell_of hA 5
  have F0 := hid f0
  have H0 := hid (h.no f0)
  have hzA : w.heap.size < (w.alloc (.cells #[.int .i64 kd, .int .i64 id, .int .i64 t, .int .i64 hd, .int .i64 wt, .bool cl] 64)).heap.size := by simp
  clear h f0 hA
  simp at a0 a1 a2 a3 a4 a5
  simp only [Chg.val]
  by_cases h0 : kd = 0
  · subst h0
    rw [show G.scode ⟨0, id, ⟨t, hd, wt, cl⟩⟩ = G.icode id ⟨t, hd, wt, cl⟩ from rfl, show G.step ⟨0, id, ⟨t, hd, wt, cl⟩⟩ = G.put id ⟨t, hd, wt, cl⟩ from rfl]
    skip
    go_enter Tryz.func61, Tryz.ntmps61
    go_wp2_with fail
    refine (rginsert_calls H0.out hm id ⟨t, hd, wt, cl⟩).mono ?_
    rintro e w1 ⟨rfl, hR, hf⟩
    have HR := hid hR
    have HF := hid hf
    clear hR hf
    go_wp2
    go_ret
    exact ⟨rfl, HR.out, (F0.out.no (F := One b)).trans' HF.out (fun i _ hi => hi)⟩
  · have d0 : (kd == 0) = false := by simpa using h0
    by_cases h1 : kd = 1
    · subst h1
      rw [show G.scode ⟨1, id, ⟨t, hd, wt, cl⟩⟩ = G.code id from rfl, show G.step ⟨1, id, ⟨t, hd, wt, cl⟩⟩ = G.rm id from rfl]
      skip
      go_enter Tryz.func61, Tryz.ntmps61
      go_wp2_with fail
      refine (rgdelete_calls H0.out id).mono ?_
      rintro e w1 ⟨rfl, hR, hf⟩
      have HR := hid hR
      have HF := hid hf
      clear hR hf
      go_wp2
      go_ret
      exact ⟨rfl, HR.out, (F0.out.no (F := One b)).trans' HF.out (fun i _ hi => hi)⟩
    · have d1 : (kd == 1) = false := by simpa using h1
      by_cases h2 : kd = 2
      · subst h2
        rw [show G.scode ⟨2, id, ⟨t, hd, wt, cl⟩⟩ = G.tcode id true from rfl, show G.step ⟨2, id, ⟨t, hd, wt, cl⟩⟩ = G.tn id true from rfl]
        skip
        go_enter Tryz.func61, Tryz.ntmps61
        go_wp2_with fail
        refine (rgturn_calls H0.out id true).mono ?_
        rintro e w1 ⟨rfl, hR, hf⟩
        have HR := hid hR
        have HF := hid hf
        clear hR hf
        go_wp2
        go_ret
        exact ⟨rfl, HR.out, (F0.out.no (F := One b)).trans' HF.out (fun i _ hi => hi)⟩
      · have d2 : (kd == 2) = false := by simpa using h2
        by_cases h3 : kd = 3
        · subst h3
          rw [show G.scode ⟨3, id, ⟨t, hd, wt, cl⟩⟩ = G.tcode id false from rfl, show G.step ⟨3, id, ⟨t, hd, wt, cl⟩⟩ = G.tn id false from rfl]
          skip
          go_enter Tryz.func61, Tryz.ntmps61
          go_wp2_with fail
          refine (rgturn_calls H0.out id false).mono ?_
          rintro e w1 ⟨rfl, hR, hf⟩
          have HR := hid hR
          have HF := hid hf
          clear hR hf
          go_wp2
          go_ret
          exact ⟨rfl, HR.out, (F0.out.no (F := One b)).trans' HF.out (fun i _ hi => hi)⟩
        · have d3 : (kd == 3) = false := by simpa using h3
          rw [show G.scode ⟨kd, id, ⟨t, hd, wt, cl⟩⟩ = G.wcode id wt from by unfold Gr.scode; rw [if_neg h0, if_neg h1, if_neg h2, if_neg h3], show G.step ⟨kd, id, ⟨t, hd, wt, cl⟩⟩ = G.wt id wt from by unfold Gr.step; rw [if_neg h0, if_neg h1, if_neg h2, if_neg h3]]
          clear h0 h1 h2 h3
          go_enter Tryz.func61, Tryz.ntmps61
          go_wp2_with fail
          refine (rgweigh_calls H0.out id wt).mono ?_
          rintro e w1 ⟨rfl, hR, hf⟩
          have HR := hid hR
          have HF := hid hf
          clear hR hf
          go_wp2
          go_ret
          exact ⟨rfl, HR.out, (F0.out.no (F := One b)).trans' HF.out (fun i _ hi => hi)⟩

set_option maxRecDepth 100000 in
set_option maxHeartbeats 4000000 in
theorem made8_calls (n : Nat) (A : Option Addr) (ln cp : Nat) (f : Nat → Chg) (w : World) (hn : n ≤ 255) (hc : ChgsF w A ln f) (hln : ln ≤ 140737488351232) :
    Calls Tryz.prog 16 #[.int .u8 (n : Nat), .slice A ln cp] w fun e w' => ∃ (L : GLoc) (b : Nat), e = .returned (.tuple #[.pointer (some ⟨L.b, 0, none⟩), .pointer (some ⟨b, 0, none⟩)]) ∧ Fr No w w' ∧
      GMem w' L ((Gr.zero (1 + n % 24) 64).steps f (min ln 150)) ∧ RGM w' b ((Gr.zero (1 + n % 24) 64).steps f (min ln 150)) ∧ w.heap.size ≤ b ∧ ∀ j, L.own (1 + n % 24) j → w.heap.size ≤ j ∧ j ≠ b := by
  have hmod : n % 24 < 24 := Nat.mod_lt _ (by omega)
  have hC := hid hc
  obtain ⟨N, hN⟩ : ∃ N, 1 + n % 24 = N := ⟨_, rfl⟩
  rw [hN]
  have hN1 : 1 ≤ N := by omega
  have hN2 : N ≤ 24 := by omega
  have hNI : ((1 : Int) + (n : Int) % 24) = ((N : Nat) : Int) := by omega
  obtain ⟨G0, hG0⟩ : ∃ G0, Gr.zero N 64 = G0 := ⟨_, rfl⟩
  have hst := G0.steps_n f
  have hg0 : G0.n = N ∧ G0.most = 64 := by rw [← hG0]; exact ⟨rfl, rfl⟩
  rw [hg0.1, hg0.2] at hst
  have HST := hid hst
  have HG0 := hid hG0
  have HG0N := hid hg0.1
  have HNI := hid hNI
  rw [hG0]
  clear hc hmod hN hst hg0 hNI hG0
  go_enter Tryz.func16, Tryz.ntmps16
  go_wp2_with fail
  rw [HNI.out]
  refine (gnew2_calls N 64 hN1 hN2 (by omega) (by omega) w).mono ?_
  rintro e w1 ⟨L0, rfl, hm, hf, hown⟩
  rw [HG0.out] at hm
  have HM1 := hid hm
  have HF1 := hid hf
  have HO1 := hid hown
  clear hm hf hown
  go_wp2_with fail
  refine (rgnew_calls N 64 w1).mono ?_
  rintro e w2 ⟨b, rfl, hr, hf, hb⟩
  rw [HG0.out] at hr
  have HM2 := hid (HM1.out.no hf)
  have HR2 := hid hr
  have HF2 := hid (HF1.out.trans hf)
  have hs1 := HF1.out.size
  have HO2 := hid (show ∀ j, L0.own N j → w.heap.size ≤ j ∧ j ≠ b from fun j hj => ⟨HO1.out j hj, fun e => by have := HM1.out.own_lt (by rw [HG0N.out]; exact hj); omega⟩)
  have hbw : w.heap.size ≤ b := by omega
  clear hr hf HM1 HF1 HO1 hb hs1
  go_wp2
  go_loopg [10] (ln + 1) (fun g p wr => ∃ (k : Nat) (L : GLoc), p = .int .i64 k ∧ k ≤ ln ∧ k ≤ 150 ∧ g = ln + 1 - k ∧ L.b = L0.b ∧ Fr No w wr ∧ GMem wr L (G0.steps f k) ∧ RGM wr b (G0.steps f k) ∧ ∀ j, L.own N j → w.heap.size ≤ j ∧ j ≠ b)
  case atStart => exact ⟨0, L0, rfl, by omega, by omega, rfl, rfl, HF2.out, HM2.out, HR2.out, HO2.out⟩
  case round =>
    obtain ⟨k, L, rfl, hk, hk3, hg, hLb, hf, hm, hr, hown⟩ := hrel
    have HG := hid hg
    have HF := hid hf
    have HM := hid hm
    have HR := hid hr
    have HO := hid hown
    have HL := hid hLb
    clear hg hf hm hr hown hLb HM2 HR2 HO2 HF2
    by_cases hlt : k < ln
    · by_cases hlt3 : k < 150
      · obtain ⟨bl, ol, rfl, hc⟩ := hC.out (by omega)
        have HC := hid (hc k hlt)
        obtain ⟨c0, c1, c2, c3, c4, c5⟩ := HC.out.fr HF.out (fun h => h)
        have hst := HST.out k
        have HST2 := hid hst
        obtain ⟨X, hX⟩ : ∃ X, G0.steps f k = X := ⟨_, rfl⟩
        have hnext : G0.steps f (k + 1) = X.step (f k) := by rw [← hX]; rfl
        rw [hX] at HM HR HST2
        have hXn := HST2.out.1
        have hXm := HST2.out.2
        have HN := hid hnext
        have hlt2 : (k : Int) < ln := by omega
        have hlt4 : (k : Int) < 150 := by omega
        obtain ⟨⟨kd, id, ⟨t, hd, wt, cl⟩⟩, hfk⟩ : ∃ y, f k = y := ⟨_, rfl⟩
        rw [hfk] at c0 c1 c2 c3 c4 c5 HN HC
        simp only at c0 c1 c2 c3 c4 c5
        clear hc hst hX hnext hfk
        go_wp2_with fail
        have hdo := do_calls HM.out hXm ⟨kd, id, ⟨t, hd, wt, cl⟩⟩
        rw [HL.out] at hdo
        refine hdo.mono ?_
        clear hdo
        rintro e w3 ⟨rfl, L', hm', hb', hf', ho'⟩
        rw [hXn] at hf' ho'
        have hbl := Blk.lt HR.out
        have HF3 := hid (HF.out.trans' hf' (fun i hi h => by have := (HO.out i h).1; omega))
        have HR3 := hid (HR.out.fr hf' (fun h => (HO.out b h).2 rfl))
        have hsz := HF.out.size
        have HO3 := hid (show ∀ j, L'.own N j → w.heap.size ≤ j ∧ j ≠ b from fun j hj => by
          rcases ho' j hj with h | h
          · exact HO.out j h
          · exact ⟨by omega, by omega⟩)
        have HM3 := hid hm'
        have HL3 := hid (hb'.trans HL.out)
        clear hm' hb' hf' ho' HM HR HF HO HL c0 c1 c2 c3 c4 c5
        obtain ⟨c0, c1, c2, c3, c4, c5⟩ := HC.out.fr HF3.out (fun h => h)
        simp only at c0 c1 c2 c3 c4 c5
        go_wp2_with fail
        refine (doref_calls HR3.out hXm ⟨kd, id, ⟨t, hd, wt, cl⟩⟩).mono ?_
        rintro e w4 ⟨rfl, hr4, hf4⟩
        have hXn2 := ((X.step_n ⟨kd, id, ⟨t, hd, wt, cl⟩⟩).1).trans hXn
        have HM4 := hid (HM3.out.fr hf4 (fun j hj (h : j = b) => (HO3.out j (by rw [hXn2] at hj; exact hj)).2 h))
        have HR4 := hid hr4
        have HF4 := hid (HF3.out.trans' hf4 (fun i hi (h : i = b) => by omega))
        clear hr4 hf4 HM3 HR3 HF3 c0 c1 c2 c3 c4 c5
        go_wp2
        go_roundg (ln + 1 - (k + 1))
        case measure => have := HG.out; omega
        case rel => exact ⟨k + 1, L', by go_num, by omega, by omega, rfl, HL3.out, HF4.out, by rw [HN.out]; exact HM4.out, by rw [HN.out]; exact HR4.out, HO3.out⟩
      · have e : k = min ln 150 := by omega
        have HE := hid e
        have hlt2 : (k : Int) < ln := by omega
        have hlt4 : ¬ (k : Int) < 150 := by omega
        clear e
        go_wp2
        go_ret2
        exact ⟨L, b, by rw [HL.out]; rfl, HF.out, HE.out ▸ HM.out, HE.out ▸ HR.out, hbw, HO.out⟩
    · have e : k = min ln 150 := by omega
      have HE := hid e
      have hlt2 : ¬ (k : Int) < ln := by omega
      clear e
      go_wp2
      go_ret2
      exact ⟨L, b, by rw [HL.out]; rfl, HF.out, HE.out ▸ HM.out, HE.out ▸ HR.out, hbw, HO.out⟩

end Go.Proofs.YtoepbhacpidcbaaGreatDoor
