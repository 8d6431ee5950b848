/- The document's unpacking of an entry, whole; walked. -/
import Derived.Test.YtlncmnphjdeeoaaDoorUnref
set_option linter.unusedVariables false
set_option linter.unusedSimpArgs false
namespace Go.Proofs.YtlncmnphjdeeoaaDoor
open Go.RowKit Go.Deep
attribute [local go_sem ↓] Go.wp_at_zero Go.wp_at_succ
attribute [local go_sem high] run_eql_en run_neq_en

set_option maxRecDepth 100000 in
set_option maxHeartbeats 4000000 in
theorem radd_mid {w : World} {R : RxLoc} {x : Ix} (h : RxMem w R x) (u v : Int) (sv : Value) (l l1 l2 : List Int) (c1 c2 : Int) (hsl : SlL w sv l) (e0 e1 e2 : Int)
    (h0 : x.at_ u v = ⟨e0, e1, e2⟩) (hE : eq3 e0 e1 e2 4611686018427387906 (-1) (-1) = false) (hm : 0 ≤ e2)
    (i1 : ∀ w1, RxMem w1 R x → SlL w1 sv l → Calls Tryd.prog 60 #[.pointer (some ⟨R.b, 0, none⟩), .int .i64 u, .int .i64 e2, sv] w1 fun e w' => ∃ sv', e = .returned (.tuple #[sv', .int .i64 c1]) ∧ Fr No w1 w' ∧ SlL w' sv' l1)
    (i2 : ∀ w1 sv1, RxMem w1 R x → SlL w1 sv1 l1 → Calls Tryd.prog 60 #[.pointer (some ⟨R.b, 0, none⟩), .int .i64 e2, .int .i64 v, sv1] w1 fun e w' => ∃ sv', e = .returned (.tuple #[sv', .int .i64 c2]) ∧ Fr No w1 w' ∧ SlL w' sv' l2) (hc1 : c1 = 0) :
    Calls Tryd.prog 60 #[.pointer (some ⟨R.b, 0, none⟩), .int .i64 u, .int .i64 v, sv] w fun e w' => ∃ sv', e = .returned (.tuple #[sv', .int .i64 c2]) ∧ Fr No w w' ∧ SlL w' sv' l2 := by
  subst hc1
  have H0 := hid h0
  have HE := hid hE
  have HS := hid hsl
  have I1 := hid i1
  have I2 := hid i2
  clear h0 hE hsl i1 i2
  go_enter Tryd.func60, Tryd.ntmps60
  go_wp2_with (go_at_call 32; refine (rat_calls h _ _).mono ?_; rintro e w1 ⟨rfl, hf⟩; rw [H0.out]; simp only [En.val])
  go_region_held3 (fun w' => w'.cell? ⟨w1.heap.size, 0, none⟩ = some (.int .i64 e0) ∧ w'.cell? ⟨w1.heap.size, 1, none⟩ = some (.int .i64 e1) ∧ w'.cell? ⟨w1.heap.size, 2, none⟩ = some (.int .i64 e2)) (go_keep)
    (first | (go_at_call 33; refine (rnone_calls _).mono ?_; rintro e w2 ⟨rfl, hf2⟩; obtain ⟨o1, o2, o3, o4⟩ := own_no hf2 w1.heap.size (heap_newN _ _ 1); simp only [En.val, En.none]))
  rw [HE.out]
  have HF := hid (((hf.alloc _).drew).trans hf2)
  clear hf hf2
  go_wp2_with fail
  refine (I1.out _ (h.no HF.out) (HS.out.fr HF.out)).mono ?_
  rintro e w3 ⟨sv1, rfl, hf3, hs3⟩
  obtain ⟨p1, p2, p3, p4⟩ := own_no hf3 w1.heap.size o4
  have HF3 := hid hf3
  have HS3 := hid hs3
  clear hf3 hs3 o1 o2 o4
  go_wp2_with fail
  refine (I2.out _ _ ((h.no HF.out).no HF3.out) HS3.out).mono ?_
  rintro e w4 ⟨sv2, rfl, hf4, hs4⟩
  have HF4 := hid hf4
  have HS4 := hid hs4
  clear hf4 hs4
  go_wp2
  go_ret2
  exact ⟨sv2, rfl, (HF.out.trans HF3.out).trans HF4.out, HS4.out⟩

set_option maxRecDepth 100000 in
set_option maxHeartbeats 4000000 in
theorem radd_stop {w : World} {R : RxLoc} {x : Ix} (h : RxMem w R x) (u v : Int) (sv : Value) (l l1 : List Int) (c1 : Int) (hsl : SlL w sv l) (e0 e1 e2 : Int)
    (h0 : x.at_ u v = ⟨e0, e1, e2⟩) (hE : eq3 e0 e1 e2 4611686018427387906 (-1) (-1) = false) (hm : 0 ≤ e2)
    (i1 : ∀ w1, RxMem w1 R x → SlL w1 sv l → Calls Tryd.prog 60 #[.pointer (some ⟨R.b, 0, none⟩), .int .i64 u, .int .i64 e2, sv] w1 fun e w' => ∃ sv', e = .returned (.tuple #[sv', .int .i64 c1]) ∧ Fr No w1 w' ∧ SlL w' sv' l1)
    (hc1 : (c1 != 0) = true) :
    Calls Tryd.prog 60 #[.pointer (some ⟨R.b, 0, none⟩), .int .i64 u, .int .i64 v, sv] w fun e w' => e = .returned (.tuple #[.slice none 0 0, .int .i64 c1]) ∧ Fr No w w' := by
  have H0 := hid h0
  have HE := hid hE
  have HS := hid hsl
  have I1 := hid i1
  clear h0 hE hsl i1
  go_enter Tryd.func60, Tryd.ntmps60
  go_wp2_with (go_at_call 32; refine (rat_calls h _ _).mono ?_; rintro e w1 ⟨rfl, hf⟩; rw [H0.out]; simp only [En.val])
  go_region_held3 (fun w' => w'.cell? ⟨w1.heap.size, 0, none⟩ = some (.int .i64 e0) ∧ w'.cell? ⟨w1.heap.size, 1, none⟩ = some (.int .i64 e1) ∧ w'.cell? ⟨w1.heap.size, 2, none⟩ = some (.int .i64 e2)) (go_keep)
    (first | (go_at_call 33; refine (rnone_calls _).mono ?_; rintro e w2 ⟨rfl, hf2⟩; obtain ⟨o1, o2, o3, o4⟩ := own_no hf2 w1.heap.size (heap_newN _ _ 1); simp only [En.val, En.none]))
  rw [HE.out]
  have HF := hid (((hf.alloc _).drew).trans hf2)
  clear hf hf2
  go_wp2_with fail
  refine (I1.out _ (h.no HF.out) (HS.out.fr HF.out)).mono ?_
  rintro e w3 ⟨sv1, rfl, hf3, hs3⟩
  have HF3 := hid hf3
  clear hf3 hs3
  go_wp2_with fail
  go_ret2
  exact ⟨rfl, HF.out.trans HF3.out⟩

theorem radd_calls {x : Ix} (hfit : x.Fit) (hok : x.Ok) : ∀ (f : Nat) (u v : Int) (l : List Int) (sv : Value) (w : World) (R : RxLoc), RxMem w R x → 1 ≤ f → (x.two u v = true → x.dep u v ≤ f) → l.length ≤ 23 → SlL w sv l →
    Calls Tryd.prog 60 #[.pointer (some ⟨R.b, 0, none⟩), .int .i64 u, .int .i64 v, sv] w fun e w' => ∃ sv', e = .returned (.tuple #[sv', .int .i64 (x.add f u v l).2]) ∧ Fr No w w' ∧ SlL w' sv' (x.add f u v l).1 := by
  intro f
  induction f with
  | zero => intro u v l sv w R _ h; omega
  | succ f ih =>
    intro u v l sv w R h _ hdep hlen hsl
    by_cases h0 : x.at_ u v = En.none
    · have e : x.add (f + 1) u v l = ([], 3) := by rw [Ix.add, if_pos h0]
      rw [e]
      refine (radd_none h u v sv h0).mono ?_
      rintro r w' ⟨rfl, hf⟩
      exact ⟨_, rfl, hf, SlL.nil _⟩
    · have hc := hfit.cases hok u v
      rw [or_iff_right h0] at hc
      obtain ⟨hw1, hw2, htw, hc⟩ := hc
      have hd := hdep htw
      obtain ⟨⟨e0, e1, e2⟩, hE⟩ : ∃ e, x.at_ u v = e := ⟨_, rfl⟩
      rw [hE] at h0 hc hw1 hw2
      simp only at hc hw1 hw2
      have hq : eq3 e0 e1 e2 4611686018427387906 (-1) (-1) = false := by
        have := eq3_en ⟨e0, e1, e2⟩ En.none
        simp only [En.none] at this
        rw [this]; simpa [En.none] using h0
      have hne : ¬ x.at_ u v = En.none := by rw [hE]; exact h0
      rcases hc with ⟨hm, ha, hb⟩ | ⟨ha, hm0, hm1, hr1, hr2⟩
      · by_cases hl : 23 ≤ l.length
        · have e : x.add (f + 1) u v l = ([], 9) := by rw [Ix.add, if_neg hne, hE, if_pos (show e2 < 0 by omega), if_pos hl]
          rw [e]
          rcases hsl with ⟨rfl, rfl⟩ | ⟨b, off, c, hp, rfl, hcs⟩
          · simp at hl
          · refine (radd_long h u v _ _ _ e0 e1 e2 hE hq (by omega) hl (by omega)).mono ?_
            rintro r w' ⟨rfl, hf⟩
            exact ⟨_, rfl, hf, SlL.nil _⟩
        · have e : x.add (f + 1) u v l = (l ++ [e1], 0) := by rw [Ix.add, if_neg hne, hE, if_pos (show e2 < 0 by omega), if_neg hl]
          rw [e]
          rcases hsl with ⟨rfl, rfl⟩ | ⟨b, off, c, hp, rfl, hcs⟩
          · refine (radd_arc0 h u v e0 e1 e2 hE hq (by omega)).mono ?_
            rintro r w' ⟨sv, rfl, hf, hs⟩
            exact ⟨sv, rfl, hf, hs⟩
          · refine (radd_arc h u v e0 e1 e2 b off l.length c (fun j => l.getD j 0) hcs hp (by omega) hE hq (by omega)).mono ?_
            rintro r w' ⟨sv, rfl, hf, hs⟩
            refine ⟨sv, rfl, hf, ?_⟩
            have el : (List.range l.length).map (fun j => l.getD j 0) = l := by
              apply List.ext_getElem
              · simp
              · intro i h1 h2; simp [List.getElem?_eq_getElem h2]
            rwa [el] at hs
      · have hmr : x.dep u e2 ≤ f ∧ x.dep e2 v ≤ f ∧ 1 ≤ f := by
          have := @Ix.dep_mid x u v (by rw [hE]; exact hr1) (by rw [hE]; exact hr2)
          rw [hE] at this
          simp only at this
          have : 1 ≤ x.dep u e2 := by unfold Ix.dep; omega
          omega
        have ea : x.add (f + 1) u v l = if (x.add f u e2 l).2 ≠ 0 then ([], (x.add f u e2 l).2) else x.add f e2 v (x.add f u e2 l).1 := by
          rw [Ix.add, if_neg hne, hE, if_neg (show ¬ e2 < 0 by omega)]
        have i1 := fun w1 h1 hs1 => ih u e2 l sv w1 R h1 hmr.2.2 (fun _ => hmr.1) hlen hs1
        have hlen1 := (x.add_len f u e2 l hlen).1
        by_cases hz : (x.add f u e2 l).2 = 0
        · rw [ea, if_neg (by simpa using hz)]
          have i2 := fun w1 sv1 h1 hs1 => ih e2 v _ sv1 w1 R h1 hmr.2.2 (fun _ => hmr.2.1) hlen1 hs1
          exact radd_mid h u v sv l _ _ _ _ hsl e0 e1 e2 hE hq hm0 i1 i2 hz
        · rw [ea, if_pos hz]
          refine (radd_stop h u v sv l _ _ hsl e0 e1 e2 hE hq hm0 i1 (by simpa using hz)).mono ?_
          rintro r w' ⟨rfl, hf⟩
          exact ⟨_, rfl, hf, SlL.nil _⟩

end Go.Proofs.YtlncmnphjdeeoaaDoor
