/- Unpacking as plain mathematics: an entry's arcs; how deep it goes. -/
import Derived.Test.YtlncmnphjdeeoaaDoorMade
import Derived.Test.YtlncmnphjdeeoaaDoorApp
set_option linter.unusedVariables false
set_option linter.unusedSimpArgs false
namespace Go.Proofs.YtlncmnphjdeeoaaDoor
open Go.RowKit

/-- Each entry may be there. -/
def Ix.Fit (x : Ix) : Prop := ∀ u v : Nat, x.two u v = true → x.May u v (x.ent u v)

theorem Ix.May_congr {x y : Ix} (hn : x.n = y.n) (hr : x.rk = y.rk) (u v : Int) (e : En) : x.May u v e ↔ y.May u v e := by
  have : ∀ z, x.rank z = y.rank z := fun z => by simp only [Ix.rank, hn, hr]
  simp only [Ix.May, this]
theorem Ix.two_congr {x y : Ix} (hn : x.n = y.n) (u v : Int) : x.two u v = y.two u v := by simp only [Ix.two, hn]

theorem Ix.Fit.setI {x : Ix} (h : x.Fit) (u v : Int) (e : En) : (x.setI u v e).Fit := fun a b hab => by
  have hn := Ix.setI_n x u v e
  have hr := Ix.setI_rk x u v e
  rw [Ix.May_congr hn hr]
  rw [Ix.two_congr hn] at hab
  unfold Ix.setI
  split
  · rename_i hc
    simp only [Ix.set]
    split
    · rename_i he
      obtain ⟨rfl, rfl⟩ := he
      obtain ⟨_, h1, _, h2, _⟩ := two_iff hc.1
      rw [Int.toNat_of_nonneg h1, Int.toNat_of_nonneg h2]
      exact hc.2
    · exact h a b hab
  · exact h a b hab
theorem Ix.Fit.sets {x : Ix} (h : x.Fit) (f : Nat → Lk) : ∀ k, (x.sets f k).Fit := by
  intro k
  induction k with
  | zero => exact h
  | succ k ih => exact ih.setI _ _ _
theorem Ix.Fit.new (n : Nat) (f : Nat → Int) (g : Nat → Nat) : (Ix.new n f g).Fit := fun u v _ => .inl ⟨rfl, rfl, rfl⟩
theorem Ix.Fit.start (n num : Nat) : (Ix.start n num).Fit := Ix.Fit.new _ _ _

/-- An entry from one vertex to another one: none, an arc, or by way of a lower vertex. -/
theorem Ix.Fit.cases {x : Ix} (h : x.Fit) (hok : x.Ok) (u v : Int) : x.at_ u v = En.none ∨
    ((x.at_ u v).w ≤ 4611686018427387905 ∧ 1 ≤ (x.at_ u v).w ∧ x.two u v = true ∧
      (((x.at_ u v).m = -1 ∧ 0 ≤ (x.at_ u v).a ∧ (x.at_ u v).a < 64) ∨
       ((x.at_ u v).a = -1 ∧ 0 ≤ (x.at_ u v).m ∧ (x.at_ u v).m < x.n ∧ x.rk (x.at_ u v).m.toNat < x.rk u.toNat ∧ x.rk (x.at_ u v).m.toNat < x.rk v.toNat))) := by
  cases ht : x.two u v with
  | false => exact .inl (by simp [Ix.at_, ht])
  | true =>
    have e : x.at_ u v = x.ent u.toNat v.toNat := by simp [Ix.at_, ht]
    obtain ⟨hne, h1, h2, h3, h4⟩ := two_iff ht
    have hm := h u.toNat v.toNat (by rw [Int.toNat_of_nonneg h1, Int.toNat_of_nonneg h3]; exact ht)
    rw [← e, Int.toNat_of_nonneg h1, Int.toNat_of_nonneg h3] at hm
    have ru : x.rank u = x.rk u.toNat := if_pos ⟨h1, h2⟩
    have rv : x.rank v = x.rk v.toNat := if_pos ⟨h3, h4⟩
    rcases hm with ⟨a, b, c⟩ | ⟨a, b, ⟨c, d, f⟩ | ⟨c, d, f, g, k⟩⟩
    · left; cases hx : x.at_ u v; rw [hx] at a b c; simp only at a b c; rw [a, b, c]; rfl
    · exact .inr ⟨b, a, rfl, .inl ⟨c, d, f⟩⟩
    · have hv : 0 ≤ (x.at_ u v).m ∧ (x.at_ u v).m < x.n := by
        unfold Ix.rank at f; split at f
        · assumption
        · omega
      have rm : x.rank (x.at_ u v).m = x.rk (x.at_ u v).m.toNat := if_pos hv
      refine .inr ⟨b, a, rfl, .inr ⟨d, hv.1, hv.2, ?_, ?_⟩⟩ <;> omega

/-- The arcs of an entry behind others, and the code (3: there is none, 9: too many). -/
def Ix.add (x : Ix) : Nat → Int → Int → List Int → List Int × Int
  | 0, _, _, _ => ([], 3)
  | f + 1, u, v, l =>
    if x.at_ u v = En.none then ([], 3)
    else if (x.at_ u v).m < 0 then (if 23 ≤ l.length then ([], 9) else (l ++ [(x.at_ u v).a], 0))
    else if (x.add f u (x.at_ u v).m l).2 ≠ 0 then ([], (x.add f u (x.at_ u v).m l).2)
    else x.add f (x.at_ u v).m v (x.add f u (x.at_ u v).m l).1

/-- How deep an entry goes at most. -/
def Ix.dep (x : Ix) (u v : Int) : Nat := min (x.rk u.toNat) (x.rk v.toNat) + 1

theorem Ix.dep_le {x : Ix} (h : x.Ok) {u v : Int} (ht : x.two u v = true) : x.dep u v ≤ 24 := by
  obtain ⟨hne, h1, h2, h3, h4⟩ := two_iff ht
  have := (h.rk u.toNat (by omega)).1
  have := h.n2
  unfold Ix.dep; omega

theorem Ix.dep_mid {x : Ix} {u v : Int} (h1 : x.rk (x.at_ u v).m.toNat < x.rk u.toNat) (h2 : x.rk (x.at_ u v).m.toNat < x.rk v.toNat) :
    x.dep u (x.at_ u v).m < x.dep u v ∧ x.dep (x.at_ u v).m v < x.dep u v := by unfold Ix.dep; omega

/-- More fuel than the depth changes nothing. -/
theorem Ix.add_fuel {x : Ix} (hf : x.Fit) (hok : x.Ok) : ∀ (d f g : Nat) (u v : Int) (l : List Int), x.dep u v ≤ d → d ≤ f → d ≤ g → x.add f u v l = x.add g u v l := by
  intro d
  induction d with
  | zero => intro f g u v l h; unfold Ix.dep at h; omega
  | succ d ih =>
    intro f g u v l h hfd hgd
    obtain ⟨f, rfl⟩ : ∃ k, f = k + 1 := ⟨f - 1, by omega⟩
    obtain ⟨g, rfl⟩ : ∃ k, g = k + 1 := ⟨g - 1, by omega⟩
    simp only [Ix.add]
    rcases hf.cases hok u v with h0 | ⟨h1, h2, h3, ⟨h4, h5, h6⟩ | ⟨h4, h5, h6, h7, h8⟩⟩
    · rw [if_pos h0, if_pos h0]
    · by_cases h0 : x.at_ u v = En.none
      · rw [if_pos h0, if_pos h0]
      · have hm : (x.at_ u v).m < 0 := by omega
        simp only [if_neg h0, if_pos hm]
    · by_cases h0 : x.at_ u v = En.none
      · rw [if_pos h0, if_pos h0]
      · have hd := Ix.dep_mid h7 h8
        have hm : ¬ (x.at_ u v).m < 0 := by omega
        simp only [if_neg h0, if_neg hm]
        rw [ih f g u _ l (by omega) (by omega) (by omega)]
        split
        · rfl
        · exact ih f g _ v _ (by omega) (by omega) (by omega)

/-- No list has more than 23 arcs, and none is empty behind a success. -/
theorem Ix.add_len (x : Ix) : ∀ (f : Nat) (u v : Int) (l : List Int), l.length ≤ 23 → (x.add f u v l).1.length ≤ 23 ∧ ((x.add f u v l).2 = 0 → l.length < (x.add f u v l).1.length) ∧ ((x.add f u v l).2 ≠ 0 → (x.add f u v l).1 = [] ∧ 0 ≤ (x.add f u v l).2 ∧ (x.add f u v l).2 ≤ 9) := by
  intro f
  induction f with
  | zero => intro u v l h; exact ⟨by simp [Ix.add], by simp [Ix.add], by simp [Ix.add]⟩
  | succ f ih =>
    intro u v l h
    simp only [Ix.add]
    split
    · exact ⟨by simp, by simp, by simp⟩
    · split
      · split
        · exact ⟨by simp, by simp, by simp⟩
        · exact ⟨by simp; omega, by simp, by simp⟩
      · have i1 := ih u (x.at_ u v).m l h
        split
        · rename_i hne
          exact ⟨by simp, fun e => absurd e hne, fun _ => ⟨rfl, (i1.2.2 hne).2⟩⟩
        · rename_i heq
          have heq : (x.add f u (x.at_ u v).m l).2 = 0 := by simpa using heq
          have i2 := ih (x.at_ u v).m v _ i1.1
          exact ⟨i2.1, fun e => Nat.lt_trans (i1.2.1 heq) (i2.2.1 e), i2.2.2⟩

end Go.Proofs.YtlncmnphjdeeoaaDoor

/- The document's unpacking of an entry; walked. -/
set_option linter.unusedVariables false
set_option linter.unusedSimpArgs false
namespace Go.Proofs.YtlncmnphjdeeoaaDoor
open Go.RowKit Go.Deep
attribute [local go_sem ↓] Go.wp_at_zero Go.wp_at_succ
attribute [local go_sem high] run_eql_en run_neq_en

/-- A slice value that reads as a list: nil of the empty one. -/
def SlL (w : World) (v : Value) (l : List Int) : Prop :=
  (l = [] ∧ v = .slice none 0 0) ∨ (∃ b off c, 0 < l.length ∧ v = .slice (some ⟨b, off, none⟩) l.length c ∧ ∀ j, j < l.length → w.cell? ⟨b, off + j, none⟩ = some (.int .i64 (l.getD j 0)))
theorem SlL.fr {w w' : World} {v : Value} {l : List Int} (h : SlL w v l) (hf : Fr No w w') : SlL w' v l := by
  rcases h with h | ⟨b, off, c, h0, e, hc⟩
  · exact .inl h
  · exact .inr ⟨b, off, c, h0, e, fun j hj => hf.cell_some (hc j hj) (fun h => h)⟩
theorem SlL.nil (w : World) : SlL w (.slice none 0 0) [] := .inl ⟨rfl, rfl⟩

set_option maxRecDepth 100000 in
set_option maxHeartbeats 1000000 in
theorem radd_none {w : World} {R : RxLoc} {x : Ix} (h : RxMem w R x) (u v : Int) (sv : Value) (h0 : x.at_ u v = En.none) :
    Calls Tryd.prog 60 #[.pointer (some ⟨R.b, 0, none⟩), .int .i64 u, .int .i64 v, sv] w fun e w' => e = .returned (.tuple #[.slice none 0 0, .int .i64 3]) ∧ Fr No w w' := by
  have H0 := hid h0
  clear h0
  go_enter Tryd.func60, Tryd.ntmps60
  go_wp2_with (go_at_call 32; refine (rat_calls h _ _).mono ?_; rintro e w1 ⟨rfl, hf⟩; rw [H0.out]; simp only [En.val, En.none])
  go_region_held3 (fun w' => w'.cell? ⟨w1.heap.size, 0, none⟩ = some (.int .i64 4611686018427387906) ∧ w'.cell? ⟨w1.heap.size, 1, none⟩ = some (.int .i64 (-1)) ∧ w'.cell? ⟨w1.heap.size, 2, none⟩ = some (.int .i64 (-1))) (go_keep)
    (first | (go_at_call 33; refine (rnone_calls _).mono ?_; rintro e w2 ⟨rfl, hf2⟩; obtain ⟨o1, o2, o3, o4⟩ := own_no hf2 w1.heap.size (heap_newN _ _ 1); simp only [En.val, En.none]))
  all_goals go_wp2
  all_goals go_ret2
  all_goals exact ⟨rfl, ((hf.alloc _).drew).trans hf2⟩

set_option maxRecDepth 100000 in
set_option maxHeartbeats 2000000 in
theorem radd_long {w : World} {R : RxLoc} {x : Ix} (h : RxMem w R x) (u v : Int) (A : Option Addr) (n c : Nat) (e0 e1 e2 : Int) (h0 : x.at_ u v = ⟨e0, e1, e2⟩) (hE : eq3 e0 e1 e2 4611686018427387906 (-1) (-1) = false) (hm : e2 < 0) (hl : 23 ≤ n) (hl2 : n ≤ 100) :
    Calls Tryd.prog 60 #[.pointer (some ⟨R.b, 0, none⟩), .int .i64 u, .int .i64 v, .slice A n c] w fun e w' => e = .returned (.tuple #[.slice none 0 0, .int .i64 9]) ∧ Fr No w w' := by
  have H0 := hid h0
  have HE := hid hE
  clear h0 hE
  go_enter Tryd.func60, Tryd.ntmps60
  go_wp2_with (go_at_call 32; refine (rat_calls h _ _).mono ?_; rintro e w1 ⟨rfl, hf⟩; rw [H0.out]; simp only [En.val])
  go_region_held3 (fun w' => w'.cell? ⟨w1.heap.size, 0, none⟩ = some (.int .i64 e0) ∧ w'.cell? ⟨w1.heap.size, 1, none⟩ = some (.int .i64 e1) ∧ w'.cell? ⟨w1.heap.size, 2, none⟩ = some (.int .i64 e2)) (go_keep)
    (first | (go_at_call 33; refine (rnone_calls _).mono ?_; rintro e w2 ⟨rfl, hf2⟩; obtain ⟨o1, o2, o3, o4⟩ := own_no hf2 w1.heap.size (heap_newN _ _ 1); simp only [En.val, En.none]))
  rw [HE.out]
  have HF := hid (((hf.alloc _).drew).trans hf2)
  clear hf hf2
  go_wp2
  go_ret2
  exact ⟨rfl, HF.out⟩

set_option maxRecDepth 100000 in
set_option maxHeartbeats 2000000 in
theorem radd_arc0 {w : World} {R : RxLoc} {x : Ix} (h : RxMem w R x) (u v : Int) (e0 e1 e2 : Int) (h0 : x.at_ u v = ⟨e0, e1, e2⟩) (hE : eq3 e0 e1 e2 4611686018427387906 (-1) (-1) = false) (hm : e2 < 0) :
    Calls Tryd.prog 60 #[.pointer (some ⟨R.b, 0, none⟩), .int .i64 u, .int .i64 v, .slice none 0 0] w fun e w' => ∃ sv, e = .returned (.tuple #[sv, .int .i64 0]) ∧ Fr No w w' ∧ SlL w' sv [e1] := by
  have H0 := hid h0
  have HE := hid hE
  clear h0 hE
  go_enter Tryd.func60, Tryd.ntmps60
  go_wp2_with (go_at_call 32; refine (rat_calls h _ _).mono ?_; rintro e w1 ⟨rfl, hf⟩; rw [H0.out]; simp only [En.val])
  go_region_held3 (fun w' => w'.cell? ⟨w1.heap.size, 0, none⟩ = some (.int .i64 e0) ∧ w'.cell? ⟨w1.heap.size, 1, none⟩ = some (.int .i64 e1) ∧ w'.cell? ⟨w1.heap.size, 2, none⟩ = some (.int .i64 e2)) (go_keep)
    (first | (go_at_call 33; refine (rnone_calls _).mono ?_; rintro e w2 ⟨rfl, hf2⟩; obtain ⟨o1, o2, o3, o4⟩ := own_no hf2 w1.heap.size (heap_newN _ _ 1); simp only [En.val, En.none]))
  rw [HE.out]
  have HF := hid (((hf.alloc _).drew).trans hf2)
  clear hf hf2
  go_wp2
  go_region_law ((first
    | (refine step_app (.tmp 28) (.tmp 31) w2.heap.size 0 0 (w2.heap.size + 1) 0 1 1 [] (fun _ => e1) ?_ ?_ ?_ ?_ w2.heap.size ?_ ?_ ?_ ?_ ?_ ?_; rfl; rfl; rfl; rfl; exact empty_one _ _ _; (first | omega | (simp <;> omega)); exact new_cell (heap_alloc2' w2 _ _); decide; decide; intro g cap w3 hown hgrow hat hlt)
    | (refine step_app (.tmp 28) (.tmp 31) (w2.heap.size + 1) 0 0 w2.heap.size 0 1 1 [] (fun _ => e1) ?_ ?_ ?_ ?_ w2.heap.size ?_ ?_ ?_ ?_ ?_ ?_; rfl; rfl; rfl; rfl; exact empty_two _ _ _; (first | omega | (simp <;> omega)); exact new_cell (heap_alloc2 w2 _ _); decide; decide; intro g cap w3 hown hgrow hat hlt)))
  all_goals go_wp2
  all_goals go_ret2
  all_goals
    obtain ⟨q1, q2, q3, q4, q5⟩ := own_list (l := [e1]) (by simpa using hown)
    refine ⟨_, rfl, (((HF.out.alloc _).alloc _).drew).grown hgrow (fun k e => by cases e; exact .inr (by have := HF.out.size; omega)), .inr ⟨g, 0, cap, by simp, rfl, fun j hj => ?_⟩⟩
    rw [Nat.zero_add]; exact q5 j (by simpa using hj)

set_option maxRecDepth 100000 in
set_option maxHeartbeats 4000000 in
theorem radd_arc {w : World} {R : RxLoc} {x : Ix} (h : RxMem w R x) (u v : Int) (e0 e1 e2 : Int) (b off n c : Nat) (f : Nat → Int) (hc : ∀ j, j < n → w.cell? ⟨b, off + j, none⟩ = some (.int .i64 (f j))) (hn0 : 0 < n) (hn : n < 23)
    (h0 : x.at_ u v = ⟨e0, e1, e2⟩) (hE : eq3 e0 e1 e2 4611686018427387906 (-1) (-1) = false) (hm : e2 < 0) :
    Calls Tryd.prog 60 #[.pointer (some ⟨R.b, 0, none⟩), .int .i64 u, .int .i64 v, .slice (some ⟨b, off, none⟩) n c] w fun e w' => ∃ sv, e = .returned (.tuple #[sv, .int .i64 0]) ∧ Fr No w w' ∧ SlL w' sv ((List.range n).map f ++ [e1]) := by
  have H0 := hid h0
  have HE := hid hE
  have HC := hid hc
  clear h0 hE hc
  go_enter Tryd.func60, Tryd.ntmps60
  go_wp2_with (go_at_call 32; refine (rat_calls h _ _).mono ?_; rintro e w1 ⟨rfl, hf⟩; rw [H0.out]; simp only [En.val])
  go_region_held3 (fun w' => w'.cell? ⟨w1.heap.size, 0, none⟩ = some (.int .i64 e0) ∧ w'.cell? ⟨w1.heap.size, 1, none⟩ = some (.int .i64 e1) ∧ w'.cell? ⟨w1.heap.size, 2, none⟩ = some (.int .i64 e2)) (go_keep)
    (first | (go_at_call 33; refine (rnone_calls _).mono ?_; rintro e w2 ⟨rfl, hf2⟩; obtain ⟨o1, o2, o3, o4⟩ := own_no hf2 w1.heap.size (heap_newN _ _ 1); simp only [En.val, En.none]))
  rw [HE.out]
  have HF := hid (((hf.alloc _).drew).trans hf2)
  clear hf hf2
  have HFS := HF.out.size
  go_wp2
  go_region_law ((first
    | (refine step_app (.tmp 26) (.tmp 27) w2.heap.size 0 0 b off n c [] f ?_ ?_ ?_ ?_ w2.heap.size ?_ ?_ ?_ ?_ ?_ ?_; rfl; rfl; rfl; rfl; exact (own_of_heap (C := #[]) (heap_new w2 _) (Nat.le_refl _) (Nat.le_refl _) (Nat.zero_le _) rfl rfl rfl); (first | omega | (simp <;> omega)); exact (fun j hj => ((HF.out.alloc _).drew).cell_some (HC.out j hj) (fun h => h)); exact hn0; omega; intro g cap w3 hown hgrow hat hlt; simp only [Nat.zero_add, List.nil_append] at hown; have o5 := cell_of ((hgrow.block w1.heap.size (by simp <;> omega) (by simp <;> omega)).trans (keep_alloc o4 _)); have hs3 : w2.heap.size ≤ w3.heap.size := (by have := hgrow.size; simp at this; omega); have HO := hid hown; have HG := hid hgrow; clear hown hgrow hat)
    | (refine step_app (.tmp 26) (.tmp 27) w2.heap.size 0 0 b off n c [] f ?_ ?_ ?_ ?_ w2.heap.size ?_ ?_ ?_ ?_ ?_ ?_; rfl; rfl; rfl; rfl; exact (empty_one _ _ _); (first | omega | (simp <;> omega)); exact (fun j hj => (((HF.out.alloc _).alloc _).drew).cell_some (HC.out j hj) (fun h => h)); exact hn0; omega; intro g cap w3 hown hgrow hat hlt; simp only [Nat.zero_add, List.nil_append] at hown; have o5 := cell_of ((hgrow.block w1.heap.size (by simp <;> omega) (by simp <;> omega)).trans (keep_alloc2 o4 _ _)); have hs3 : w2.heap.size ≤ w3.heap.size := (by have := hgrow.size; simp at this; omega); have H6 : Hid (w3.heap[w2.heap.size + 1]? = some (.cells #[.int .i64 e1] 3)) := hid ((hgrow.block _ (by simp <;> omega) (by simp <;> omega)).trans (heap_2d' w2 _ _)); have HO := hid hown; have HG := hid hgrow; clear hown hgrow hat)
    | (refine step_app (.tmp 26) (.tmp 27) (w2.heap.size + 1) 0 0 b off n c [] f ?_ ?_ ?_ ?_ w2.heap.size ?_ ?_ ?_ ?_ ?_ ?_; rfl; rfl; rfl; rfl; exact (empty_two _ _ _); (first | omega | (simp <;> omega)); exact (fun j hj => (((HF.out.alloc _).alloc _).drew).cell_some (HC.out j hj) (fun h => h)); exact hn0; omega; intro g cap w3 hown hgrow hat hlt; simp only [Nat.zero_add, List.nil_append] at hown; have o5 := cell_of ((hgrow.block w1.heap.size (by simp <;> omega) (by simp <;> omega)).trans (keep_alloc2 o4 _ _)); have hs3 : w2.heap.size ≤ w3.heap.size := (by have := hgrow.size; simp at this; omega); have H6 : Hid (w3.heap[w2.heap.size]? = some (.cells #[.int .i64 e1] 3)) := hid ((hgrow.block _ (by simp <;> omega) (by simp <;> omega)).trans (heap_2d w2 _ _)); have HO := hid hown; have HG := hid hgrow; clear hown hgrow hat)
    | (refine step_app (.tmp 28) (.tmp 31) g n cap w3.heap.size 0 1 1 ((List.range n).map f) (fun _ => e1) ?_ ?_ ?_ ?_ w2.heap.size ?_ ?_ ?_ ?_ ?_ ?_; rfl; rfl; rfl; rfl; exact (HO.out.alloc _); (first | omega | (simp <;> omega)); exact new_cell (heap_new w3 _); decide; omega; intro g2 cap2 w4 hown2 hgrow2 hat2 hlt2; have HO2 := hid hown2; have HG2 := hid hgrow2; clear hown2 hgrow2 hat2)
    | (refine step_app (.tmp 28) (.tmp 31) g n cap (w2.heap.size + 1) 0 1 1 ((List.range n).map f) (fun _ => e1) ?_ ?_ ?_ ?_ w2.heap.size ?_ ?_ ?_ ?_ ?_ ?_; rfl; rfl; rfl; rfl; exact HO.out; (first | omega | (simp <;> omega)); exact new_cell H6.out; decide; omega; intro g2 cap2 w4 hown2 hgrow2 hat2 hlt2; have HO2 := hid hown2; have HG2 := hid hgrow2; clear hown2 hgrow2 hat2)
    | (refine step_app (.tmp 28) (.tmp 31) g n cap w2.heap.size 0 1 1 ((List.range n).map f) (fun _ => e1) ?_ ?_ ?_ ?_ w2.heap.size ?_ ?_ ?_ ?_ ?_ ?_; rfl; rfl; rfl; rfl; exact HO.out; (first | omega | (simp <;> omega)); exact new_cell H6.out; decide; omega; intro g2 cap2 w4 hown2 hgrow2 hat2 hlt2; have HO2 := hid hown2; have HG2 := hid hgrow2; clear hown2 hgrow2 hat2)))
  all_goals go_wp2
  all_goals go_ret2
  all_goals
    obtain ⟨q1, q2, q3, q4, q5⟩ := own_list (l := (List.range n).map f ++ [e1]) (by simpa using HO2.out)
    have hg0 := (HO.out.lt g rfl).1
    have hl : ((List.range n).map f ++ [e1]).length = n + 1 := by simp
    refine ⟨.slice (some ⟨g2, 0, none⟩) (n + 1) cap2, rfl, ?_, .inr ⟨g2, 0, cap2, by simp, by rw [hl], fun j hj => ?_⟩⟩
    rotate_left
    · rw [Nat.zero_add]; exact q5 j (by omega)
  all_goals first
    | exact ((((HF.out.alloc _).drew).grown HG.out (fun k e => by cases e; exact .inr (by omega))).alloc _).grown HG2.out (fun k e => by cases e; exact .inr (by omega))
    | exact ((((HF.out.alloc _).alloc _).drew).grown HG.out (fun k e => by cases e; exact .inr (by omega))).grown HG2.out (fun k e => by cases e; exact .inr (by omega))

end Go.Proofs.YtlncmnphjdeeoaaDoor

/- The document's unpacking of an entry, whole; walked. -/
set_option linter.unusedVariables false
set_option linter.unusedSimpArgs false
namespace Go.Proofs.YtlncmnphjdeeoaaDoor
open Go.RowKit Go.Deep
attribute [local go_sem ↓] Go.wp_at_zero Go.wp_at_succ
attribute [local go_sem high] run_eql_en run_neq_en

set_option maxRecDepth 100000 in
set_option maxHeartbeats 4000000 in
theorem radd_mid {w : World} {R : RxLoc} {x : Ix} (h : RxMem w R x) (u v : Int) (sv : Value) (l l1 l2 : List Int) (c1 c2 : Int) (hsl : SlL w sv l) (e0 e1 e2 : Int)
    (h0 : x.at_ u v = ⟨e0, e1, e2⟩) (hE : eq3 e0 e1 e2 4611686018427387906 (-1) (-1) = false) (hm : 0 ≤ e2)
    (i1 : ∀ w1, RxMem w1 R x → SlL w1 sv l → Calls Tryd.prog 60 #[.pointer (some ⟨R.b, 0, none⟩), .int .i64 u, .int .i64 e2, sv] w1 fun e w' => ∃ sv', e = .returned (.tuple #[sv', .int .i64 c1]) ∧ Fr No w1 w' ∧ SlL w' sv' l1)
    (i2 : ∀ w1 sv1, RxMem w1 R x → SlL w1 sv1 l1 → Calls Tryd.prog 60 #[.pointer (some ⟨R.b, 0, none⟩), .int .i64 e2, .int .i64 v, sv1] w1 fun e w' => ∃ sv', e = .returned (.tuple #[sv', .int .i64 c2]) ∧ Fr No w1 w' ∧ SlL w' sv' l2) (hc1 : c1 = 0) :
    Calls Tryd.prog 60 #[.pointer (some ⟨R.b, 0, none⟩), .int .i64 u, .int .i64 v, sv] w fun e w' => ∃ sv', e = .returned (.tuple #[sv', .int .i64 c2]) ∧ Fr No w w' ∧ SlL w' sv' l2 := by
  subst hc1
  have H0 := hid h0
  have HE := hid hE
  have HS := hid hsl
  have I1 := hid i1
  have I2 := hid i2
  clear h0 hE hsl i1 i2
  go_enter Tryd.func60, Tryd.ntmps60
  go_wp2_with (go_at_call 32; refine (rat_calls h _ _).mono ?_; rintro e w1 ⟨rfl, hf⟩; rw [H0.out]; simp only [En.val])
  go_region_held3 (fun w' => w'.cell? ⟨w1.heap.size, 0, none⟩ = some (.int .i64 e0) ∧ w'.cell? ⟨w1.heap.size, 1, none⟩ = some (.int .i64 e1) ∧ w'.cell? ⟨w1.heap.size, 2, none⟩ = some (.int .i64 e2)) (go_keep)
    (first | (go_at_call 33; refine (rnone_calls _).mono ?_; rintro e w2 ⟨rfl, hf2⟩; obtain ⟨o1, o2, o3, o4⟩ := own_no hf2 w1.heap.size (heap_newN _ _ 1); simp only [En.val, En.none]))
  rw [HE.out]
  have HF := hid (((hf.alloc _).drew).trans hf2)
  clear hf hf2
  go_wp2_with fail
  refine (I1.out _ (h.no HF.out) (HS.out.fr HF.out)).mono ?_
  rintro e w3 ⟨sv1, rfl, hf3, hs3⟩
  obtain ⟨p1, p2, p3, p4⟩ := own_no hf3 w1.heap.size o4
  have HF3 := hid hf3
  have HS3 := hid hs3
  clear hf3 hs3 o1 o2 o4
  go_wp2_with fail
  refine (I2.out _ _ ((h.no HF.out).no HF3.out) HS3.out).mono ?_
  rintro e w4 ⟨sv2, rfl, hf4, hs4⟩
  have HF4 := hid hf4
  have HS4 := hid hs4
  clear hf4 hs4
  go_wp2
  go_ret2
  exact ⟨sv2, rfl, (HF.out.trans HF3.out).trans HF4.out, HS4.out⟩

set_option maxRecDepth 100000 in
set_option maxHeartbeats 4000000 in
theorem radd_stop {w : World} {R : RxLoc} {x : Ix} (h : RxMem w R x) (u v : Int) (sv : Value) (l l1 : List Int) (c1 : Int) (hsl : SlL w sv l) (e0 e1 e2 : Int)
    (h0 : x.at_ u v = ⟨e0, e1, e2⟩) (hE : eq3 e0 e1 e2 4611686018427387906 (-1) (-1) = false) (hm : 0 ≤ e2)
    (i1 : ∀ w1, RxMem w1 R x → SlL w1 sv l → Calls Tryd.prog 60 #[.pointer (some ⟨R.b, 0, none⟩), .int .i64 u, .int .i64 e2, sv] w1 fun e w' => ∃ sv', e = .returned (.tuple #[sv', .int .i64 c1]) ∧ Fr No w1 w' ∧ SlL w' sv' l1)
    (hc1 : (c1 != 0) = true) :
    Calls Tryd.prog 60 #[.pointer (some ⟨R.b, 0, none⟩), .int .i64 u, .int .i64 v, sv] w fun e w' => e = .returned (.tuple #[.slice none 0 0, .int .i64 c1]) ∧ Fr No w w' := by
  have H0 := hid h0
  have HE := hid hE
  have HS := hid hsl
  have I1 := hid i1
  clear h0 hE hsl i1
  go_enter Tryd.func60, Tryd.ntmps60
  go_wp2_with (go_at_call 32; refine (rat_calls h _ _).mono ?_; rintro e w1 ⟨rfl, hf⟩; rw [H0.out]; simp only [En.val])
  go_region_held3 (fun w' => w'.cell? ⟨w1.heap.size, 0, none⟩ = some (.int .i64 e0) ∧ w'.cell? ⟨w1.heap.size, 1, none⟩ = some (.int .i64 e1) ∧ w'.cell? ⟨w1.heap.size, 2, none⟩ = some (.int .i64 e2)) (go_keep)
    (first | (go_at_call 33; refine (rnone_calls _).mono ?_; rintro e w2 ⟨rfl, hf2⟩; obtain ⟨o1, o2, o3, o4⟩ := own_no hf2 w1.heap.size (heap_newN _ _ 1); simp only [En.val, En.none]))
  rw [HE.out]
  have HF := hid (((hf.alloc _).drew).trans hf2)
  clear hf hf2
  go_wp2_with fail
  refine (I1.out _ (h.no HF.out) (HS.out.fr HF.out)).mono ?_
  rintro e w3 ⟨sv1, rfl, hf3, hs3⟩
  have HF3 := hid hf3
  clear hf3 hs3
  go_wp2_with fail
  go_ret2
  exact ⟨rfl, HF.out.trans HF3.out⟩

theorem radd_calls {x : Ix} (hfit : x.Fit) (hok : x.Ok) : ∀ (f : Nat) (u v : Int) (l : List Int) (sv : Value) (w : World) (R : RxLoc), RxMem w R x → 1 ≤ f → (x.two u v = true → x.dep u v ≤ f) → l.length ≤ 23 → SlL w sv l →
    Calls Tryd.prog 60 #[.pointer (some ⟨R.b, 0, none⟩), .int .i64 u, .int .i64 v, sv] w fun e w' => ∃ sv', e = .returned (.tuple #[sv', .int .i64 (x.add f u v l).2]) ∧ Fr No w w' ∧ SlL w' sv' (x.add f u v l).1 := by
  intro f
  induction f with
  | zero => intro u v l sv w R _ h; omega
  | succ f ih =>
    intro u v l sv w R h _ hdep hlen hsl
    by_cases h0 : x.at_ u v = En.none
    · have e : x.add (f + 1) u v l = ([], 3) := by rw [Ix.add, if_pos h0]
      rw [e]
      refine (radd_none h u v sv h0).mono ?_
      rintro r w' ⟨rfl, hf⟩
      exact ⟨_, rfl, hf, SlL.nil _⟩
    · have hc := hfit.cases hok u v
      rw [or_iff_right h0] at hc
      obtain ⟨hw1, hw2, htw, hc⟩ := hc
      have hd := hdep htw
      obtain ⟨⟨e0, e1, e2⟩, hE⟩ : ∃ e, x.at_ u v = e := ⟨_, rfl⟩
      rw [hE] at h0 hc hw1 hw2
      simp only at hc hw1 hw2
      have hq : eq3 e0 e1 e2 4611686018427387906 (-1) (-1) = false := by
        have := eq3_en ⟨e0, e1, e2⟩ En.none
        simp only [En.none] at this
        rw [this]; simpa [En.none] using h0
      have hne : ¬ x.at_ u v = En.none := by rw [hE]; exact h0
      rcases hc with ⟨hm, ha, hb⟩ | ⟨ha, hm0, hm1, hr1, hr2⟩
      · by_cases hl : 23 ≤ l.length
        · have e : x.add (f + 1) u v l = ([], 9) := by rw [Ix.add, if_neg hne, hE, if_pos (show e2 < 0 by omega), if_pos hl]
          rw [e]
          rcases hsl with ⟨rfl, rfl⟩ | ⟨b, off, c, hp, rfl, hcs⟩
          · simp at hl
          · refine (radd_long h u v _ _ _ e0 e1 e2 hE hq (by omega) hl (by omega)).mono ?_
            rintro r w' ⟨rfl, hf⟩
            exact ⟨_, rfl, hf, SlL.nil _⟩
        · have e : x.add (f + 1) u v l = (l ++ [e1], 0) := by rw [Ix.add, if_neg hne, hE, if_pos (show e2 < 0 by omega), if_neg hl]
          rw [e]
          rcases hsl with ⟨rfl, rfl⟩ | ⟨b, off, c, hp, rfl, hcs⟩
          · refine (radd_arc0 h u v e0 e1 e2 hE hq (by omega)).mono ?_
            rintro r w' ⟨sv, rfl, hf, hs⟩
            exact ⟨sv, rfl, hf, hs⟩
          · refine (radd_arc h u v e0 e1 e2 b off l.length c (fun j => l.getD j 0) hcs hp (by omega) hE hq (by omega)).mono ?_
            rintro r w' ⟨sv, rfl, hf, hs⟩
            refine ⟨sv, rfl, hf, ?_⟩
            have el : (List.range l.length).map (fun j => l.getD j 0) = l := by
              apply List.ext_getElem
              · simp
              · intro i h1 h2; simp [List.getElem?_eq_getElem h2]
            rwa [el] at hs
      · have hmr : x.dep u e2 ≤ f ∧ x.dep e2 v ≤ f ∧ 1 ≤ f := by
          have := @Ix.dep_mid x u v (by rw [hE]; exact hr1) (by rw [hE]; exact hr2)
          rw [hE] at this
          simp only at this
          have : 1 ≤ x.dep u e2 := by unfold Ix.dep; omega
          omega
        have ea : x.add (f + 1) u v l = if (x.add f u e2 l).2 ≠ 0 then ([], (x.add f u e2 l).2) else x.add f e2 v (x.add f u e2 l).1 := by
          rw [Ix.add, if_neg hne, hE, if_neg (show ¬ e2 < 0 by omega)]
        have i1 := fun w1 h1 hs1 => ih u e2 l sv w1 R h1 hmr.2.2 (fun _ => hmr.1) hlen hs1
        have hlen1 := (x.add_len f u e2 l hlen).1
        by_cases hz : (x.add f u e2 l).2 = 0
        · rw [ea, if_neg (by simpa using hz)]
          have i2 := fun w1 sv1 h1 hs1 => ih e2 v _ sv1 w1 R h1 hmr.2.2 (fun _ => hmr.2.1) hlen1 hs1
          exact radd_mid h u v sv l _ _ _ _ hsl e0 e1 e2 hE hq hm0 i1 i2 hz
        · rw [ea, if_pos hz]
          refine (radd_stop h u v sv l _ _ hsl e0 e1 e2 hE hq hm0 i1 (by simpa using hz)).mono ?_
          rintro r w' ⟨rfl, hf⟩
          exact ⟨_, rfl, hf, SlL.nil _⟩

end Go.Proofs.YtlncmnphjdeeoaaDoor
