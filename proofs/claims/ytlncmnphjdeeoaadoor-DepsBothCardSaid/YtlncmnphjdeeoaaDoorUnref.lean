/- The document's unpacking of an entry; walked. -/
import Derived.Test.YtlncmnphjdeeoaaDoorUnpure
import Derived.Test.YtlncmnphjdeeoaaDoorApp
set_option linter.unusedVariables false
set_option linter.unusedSimpArgs false
namespace Go.Proofs.YtlncmnphjdeeoaaDoor
open Go.RowKit Go.Deep
attribute [local go_sem ↓] Go.wp_at_zero Go.wp_at_succ
attribute [local go_sem high] run_eql_en run_neq_en

/-- A slice value that reads as a list: nil of the empty one. -/
def SlL (w : World) (v : Value) (l : List Int) : Prop :=
  (l = [] ∧ v = .slice none 0 0) ∨ (∃ b off c, 0 < l.length ∧ v = .slice (some ⟨b, off, none⟩) l.length c ∧ ∀ j, j < l.length → w.cell? ⟨b, off + j, none⟩ = some (.int .i64 (l.getD j 0)))
theorem SlL.fr {w w' : World} {v : Value} {l : List Int} (h : SlL w v l) (hf : Fr No w w') : SlL w' v l := by
  rcases h with h | ⟨b, off, c, h0, e, hc⟩
  · exact .inl h
  · exact .inr ⟨b, off, c, h0, e, fun j hj => hf.cell_some (hc j hj) (fun h => h)⟩
theorem SlL.nil (w : World) : SlL w (.slice none 0 0) [] := .inl ⟨rfl, rfl⟩

set_option maxRecDepth 100000 in
set_option maxHeartbeats 1000000 in
theorem radd_none {w : World} {R : RxLoc} {x : Ix} (h : RxMem w R x) (u v : Int) (sv : Value) (h0 : x.at_ u v = En.none) :
    Calls Tryd.prog 60 #[.pointer (some ⟨R.b, 0, none⟩), .int .i64 u, .int .i64 v, sv] w fun e w' => e = .returned (.tuple #[.slice none 0 0, .int .i64 3]) ∧ Fr No w w' := by
  have H0 := hid h0
  clear h0
  go_enter Tryd.func60, Tryd.ntmps60
  go_wp2_with (go_at_call 32; refine (rat_calls h _ _).mono ?_; rintro e w1 ⟨rfl, hf⟩; rw [H0.out]; simp only [En.val, En.none])
  go_region_held3 (fun w' => w'.cell? ⟨w1.heap.size, 0, none⟩ = some (.int .i64 4611686018427387906) ∧ w'.cell? ⟨w1.heap.size, 1, none⟩ = some (.int .i64 (-1)) ∧ w'.cell? ⟨w1.heap.size, 2, none⟩ = some (.int .i64 (-1))) (go_keep)
    (first | (go_at_call 33; refine (rnone_calls _).mono ?_; rintro e w2 ⟨rfl, hf2⟩; obtain ⟨o1, o2, o3, o4⟩ := own_no hf2 w1.heap.size (heap_newN _ _ 1); simp only [En.val, En.none]))
  all_goals go_wp2
  all_goals go_ret2
  all_goals exact ⟨rfl, ((hf.alloc _).drew).trans hf2⟩

set_option maxRecDepth 100000 in
set_option maxHeartbeats 2000000 in
theorem radd_long {w : World} {R : RxLoc} {x : Ix} (h : RxMem w R x) (u v : Int) (A : Option Addr) (n c : Nat) (e0 e1 e2 : Int) (h0 : x.at_ u v = ⟨e0, e1, e2⟩) (hE : eq3 e0 e1 e2 4611686018427387906 (-1) (-1) = false) (hm : e2 < 0) (hl : 23 ≤ n) (hl2 : n ≤ 100) :
    Calls Tryd.prog 60 #[.pointer (some ⟨R.b, 0, none⟩), .int .i64 u, .int .i64 v, .slice A n c] w fun e w' => e = .returned (.tuple #[.slice none 0 0, .int .i64 9]) ∧ Fr No w w' := by
  have H0 := hid h0
  have HE := hid hE
  clear h0 hE
  go_enter Tryd.func60, Tryd.ntmps60
  go_wp2_with (go_at_call 32; refine (rat_calls h _ _).mono ?_; rintro e w1 ⟨rfl, hf⟩; rw [H0.out]; simp only [En.val])
  go_region_held3 (fun w' => w'.cell? ⟨w1.heap.size, 0, none⟩ = some (.int .i64 e0) ∧ w'.cell? ⟨w1.heap.size, 1, none⟩ = some (.int .i64 e1) ∧ w'.cell? ⟨w1.heap.size, 2, none⟩ = some (.int .i64 e2)) (go_keep)
    (first | (go_at_call 33; refine (rnone_calls _).mono ?_; rintro e w2 ⟨rfl, hf2⟩; obtain ⟨o1, o2, o3, o4⟩ := own_no hf2 w1.heap.size (heap_newN _ _ 1); simp only [En.val, En.none]))
  rw [HE.out]
  have HF := hid (((hf.alloc _).drew).trans hf2)
  clear hf hf2
  go_wp2
  go_ret2
  exact ⟨rfl, HF.out⟩

set_option maxRecDepth 100000 in
set_option maxHeartbeats 2000000 in
theorem radd_arc0 {w : World} {R : RxLoc} {x : Ix} (h : RxMem w R x) (u v : Int) (e0 e1 e2 : Int) (h0 : x.at_ u v = ⟨e0, e1, e2⟩) (hE : eq3 e0 e1 e2 4611686018427387906 (-1) (-1) = false) (hm : e2 < 0) :
    Calls Tryd.prog 60 #[.pointer (some ⟨R.b, 0, none⟩), .int .i64 u, .int .i64 v, .slice none 0 0] w fun e w' => ∃ sv, e = .returned (.tuple #[sv, .int .i64 0]) ∧ Fr No w w' ∧ SlL w' sv [e1] := by
  have H0 := hid h0
  have HE := hid hE
  clear h0 hE
  go_enter Tryd.func60, Tryd.ntmps60
  go_wp2_with (go_at_call 32; refine (rat_calls h _ _).mono ?_; rintro e w1 ⟨rfl, hf⟩; rw [H0.out]; simp only [En.val])
  go_region_held3 (fun w' => w'.cell? ⟨w1.heap.size, 0, none⟩ = some (.int .i64 e0) ∧ w'.cell? ⟨w1.heap.size, 1, none⟩ = some (.int .i64 e1) ∧ w'.cell? ⟨w1.heap.size, 2, none⟩ = some (.int .i64 e2)) (go_keep)
    (first | (go_at_call 33; refine (rnone_calls _).mono ?_; rintro e w2 ⟨rfl, hf2⟩; obtain ⟨o1, o2, o3, o4⟩ := own_no hf2 w1.heap.size (heap_newN _ _ 1); simp only [En.val, En.none]))
  rw [HE.out]
  have HF := hid (((hf.alloc _).drew).trans hf2)
  clear hf hf2
  go_wp2
  go_region_law ((first
    | (refine step_app (.tmp 28) (.tmp 31) w2.heap.size 0 0 (w2.heap.size + 1) 0 1 1 [] (fun _ => e1) ?_ ?_ ?_ ?_ w2.heap.size ?_ ?_ ?_ ?_ ?_ ?_; rfl; rfl; rfl; rfl; exact empty_one _ _ _; (first | omega | (simp <;> omega)); exact new_cell (heap_alloc2' w2 _ _); decide; decide; intro g cap w3 hown hgrow hat hlt)
    | (refine step_app (.tmp 28) (.tmp 31) (w2.heap.size + 1) 0 0 w2.heap.size 0 1 1 [] (fun _ => e1) ?_ ?_ ?_ ?_ w2.heap.size ?_ ?_ ?_ ?_ ?_ ?_; rfl; rfl; rfl; rfl; exact empty_two _ _ _; (first | omega | (simp <;> omega)); exact new_cell (heap_alloc2 w2 _ _); decide; decide; intro g cap w3 hown hgrow hat hlt)))
  all_goals go_wp2
  all_goals go_ret2
  all_goals
    obtain ⟨q1, q2, q3, q4, q5⟩ := own_list (l := [e1]) (by simpa using hown)
    refine ⟨_, rfl, (((HF.out.alloc _).alloc _).drew).grown hgrow (fun k e => by cases e; exact .inr (by have := HF.out.size; omega)), .inr ⟨g, 0, cap, by simp, rfl, fun j hj => ?_⟩⟩
    rw [Nat.zero_add]; exact q5 j (by simpa using hj)

set_option maxRecDepth 100000 in
set_option maxHeartbeats 4000000 in
theorem radd_arc {w : World} {R : RxLoc} {x : Ix} (h : RxMem w R x) (u v : Int) (e0 e1 e2 : Int) (b off n c : Nat) (f : Nat → Int) (hc : ∀ j, j < n → w.cell? ⟨b, off + j, none⟩ = some (.int .i64 (f j))) (hn0 : 0 < n) (hn : n < 23)
    (h0 : x.at_ u v = ⟨e0, e1, e2⟩) (hE : eq3 e0 e1 e2 4611686018427387906 (-1) (-1) = false) (hm : e2 < 0) :
    Calls Tryd.prog 60 #[.pointer (some ⟨R.b, 0, none⟩), .int .i64 u, .int .i64 v, .slice (some ⟨b, off, none⟩) n c] w fun e w' => ∃ sv, e = .returned (.tuple #[sv, .int .i64 0]) ∧ Fr No w w' ∧ SlL w' sv ((List.range n).map f ++ [e1]) := by
  have H0 := hid h0
  have HE := hid hE
  have HC := hid hc
  clear h0 hE hc
  go_enter Tryd.func60, Tryd.ntmps60
  go_wp2_with (go_at_call 32; refine (rat_calls h _ _).mono ?_; rintro e w1 ⟨rfl, hf⟩; rw [H0.out]; simp only [En.val])
  go_region_held3 (fun w' => w'.cell? ⟨w1.heap.size, 0, none⟩ = some (.int .i64 e0) ∧ w'.cell? ⟨w1.heap.size, 1, none⟩ = some (.int .i64 e1) ∧ w'.cell? ⟨w1.heap.size, 2, none⟩ = some (.int .i64 e2)) (go_keep)
    (first | (go_at_call 33; refine (rnone_calls _).mono ?_; rintro e w2 ⟨rfl, hf2⟩; obtain ⟨o1, o2, o3, o4⟩ := own_no hf2 w1.heap.size (heap_newN _ _ 1); simp only [En.val, En.none]))
  rw [HE.out]
  have HF := hid (((hf.alloc _).drew).trans hf2)
  clear hf hf2
  have HFS := HF.out.size
  go_wp2
  go_region_law ((first
    | (refine step_app (.tmp 26) (.tmp 27) w2.heap.size 0 0 b off n c [] f ?_ ?_ ?_ ?_ w2.heap.size ?_ ?_ ?_ ?_ ?_ ?_; rfl; rfl; rfl; rfl; exact (own_of_heap (C := #[]) (heap_new w2 _) (Nat.le_refl _) (Nat.le_refl _) (Nat.zero_le _) rfl rfl rfl); (first | omega | (simp <;> omega)); exact (fun j hj => ((HF.out.alloc _).drew).cell_some (HC.out j hj) (fun h => h)); exact hn0; omega; intro g cap w3 hown hgrow hat hlt; simp only [Nat.zero_add, List.nil_append] at hown; have o5 := cell_of ((hgrow.block w1.heap.size (by simp <;> omega) (by simp <;> omega)).trans (keep_alloc o4 _)); have hs3 : w2.heap.size ≤ w3.heap.size := (by have := hgrow.size; simp at this; omega); have HO := hid hown; have HG := hid hgrow; clear hown hgrow hat)
    | (refine step_app (.tmp 26) (.tmp 27) w2.heap.size 0 0 b off n c [] f ?_ ?_ ?_ ?_ w2.heap.size ?_ ?_ ?_ ?_ ?_ ?_; rfl; rfl; rfl; rfl; exact (empty_one _ _ _); (first | omega | (simp <;> omega)); exact (fun j hj => (((HF.out.alloc _).alloc _).drew).cell_some (HC.out j hj) (fun h => h)); exact hn0; omega; intro g cap w3 hown hgrow hat hlt; simp only [Nat.zero_add, List.nil_append] at hown; have o5 := cell_of ((hgrow.block w1.heap.size (by simp <;> omega) (by simp <;> omega)).trans (keep_alloc2 o4 _ _)); have hs3 : w2.heap.size ≤ w3.heap.size := (by have := hgrow.size; simp at this; omega); have H6 : Hid (w3.heap[w2.heap.size + 1]? = some (.cells #[.int .i64 e1] 3)) := hid ((hgrow.block _ (by simp <;> omega) (by simp <;> omega)).trans (heap_2d' w2 _ _)); have HO := hid hown; have HG := hid hgrow; clear hown hgrow hat)
    | (refine step_app (.tmp 26) (.tmp 27) (w2.heap.size + 1) 0 0 b off n c [] f ?_ ?_ ?_ ?_ w2.heap.size ?_ ?_ ?_ ?_ ?_ ?_; rfl; rfl; rfl; rfl; exact (empty_two _ _ _); (first | omega | (simp <;> omega)); exact (fun j hj => (((HF.out.alloc _).alloc _).drew).cell_some (HC.out j hj) (fun h => h)); exact hn0; omega; intro g cap w3 hown hgrow hat hlt; simp only [Nat.zero_add, List.nil_append] at hown; have o5 := cell_of ((hgrow.block w1.heap.size (by simp <;> omega) (by simp <;> omega)).trans (keep_alloc2 o4 _ _)); have hs3 : w2.heap.size ≤ w3.heap.size := (by have := hgrow.size; simp at this; omega); have H6 : Hid (w3.heap[w2.heap.size]? = some (.cells #[.int .i64 e1] 3)) := hid ((hgrow.block _ (by simp <;> omega) (by simp <;> omega)).trans (heap_2d w2 _ _)); have HO := hid hown; have HG := hid hgrow; clear hown hgrow hat)
    | (refine step_app (.tmp 28) (.tmp 31) g n cap w3.heap.size 0 1 1 ((List.range n).map f) (fun _ => e1) ?_ ?_ ?_ ?_ w2.heap.size ?_ ?_ ?_ ?_ ?_ ?_; rfl; rfl; rfl; rfl; exact (HO.out.alloc _); (first | omega | (simp <;> omega)); exact new_cell (heap_new w3 _); decide; omega; intro g2 cap2 w4 hown2 hgrow2 hat2 hlt2; have HO2 := hid hown2; have HG2 := hid hgrow2; clear hown2 hgrow2 hat2)
    | (refine step_app (.tmp 28) (.tmp 31) g n cap (w2.heap.size + 1) 0 1 1 ((List.range n).map f) (fun _ => e1) ?_ ?_ ?_ ?_ w2.heap.size ?_ ?_ ?_ ?_ ?_ ?_; rfl; rfl; rfl; rfl; exact HO.out; (first | omega | (simp <;> omega)); exact new_cell H6.out; decide; omega; intro g2 cap2 w4 hown2 hgrow2 hat2 hlt2; have HO2 := hid hown2; have HG2 := hid hgrow2; clear hown2 hgrow2 hat2)
    | (refine step_app (.tmp 28) (.tmp 31) g n cap w2.heap.size 0 1 1 ((List.range n).map f) (fun _ => e1) ?_ ?_ ?_ ?_ w2.heap.size ?_ ?_ ?_ ?_ ?_ ?_; rfl; rfl; rfl; rfl; exact HO.out; (first | omega | (simp <;> omega)); exact new_cell H6.out; decide; omega; intro g2 cap2 w4 hown2 hgrow2 hat2 hlt2; have HO2 := hid hown2; have HG2 := hid hgrow2; clear hown2 hgrow2 hat2)))
  all_goals go_wp2
  all_goals go_ret2
  all_goals
    obtain ⟨q1, q2, q3, q4, q5⟩ := own_list (l := (List.range n).map f ++ [e1]) (by simpa using HO2.out)
    have hg0 := (HO.out.lt g rfl).1
    have hl : ((List.range n).map f ++ [e1]).length = n + 1 := by simp
    refine ⟨.slice (some ⟨g2, 0, none⟩) (n + 1) cap2, rfl, ?_, .inr ⟨g2, 0, cap2, by simp, by rw [hl], fun j hj => ?_⟩⟩
    rotate_left
    · rw [Nat.zero_add]; exact q5 j (by omega)
  all_goals first
    | exact ((((HF.out.alloc _).drew).grown HG.out (fun k e => by cases e; exact .inr (by omega))).alloc _).grown HG2.out (fun k e => by cases e; exact .inr (by omega))
    | exact ((((HF.out.alloc _).alloc _).drew).grown HG.out (fun k e => by cases e; exact .inr (by omega))).grown HG2.out (fun k e => by cases e; exact .inr (by omega))

end Go.Proofs.YtlncmnphjdeeoaaDoor
