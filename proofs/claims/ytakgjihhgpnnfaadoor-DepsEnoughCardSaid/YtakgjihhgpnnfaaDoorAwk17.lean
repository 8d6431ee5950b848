/- The deps law's check that its parts are awake; walked. -/
import Derived.Test.YtakgjihhgpnnfaaDoorMov
import Derived.Test.YtakgjihhgpnnfaaDoorAwk
import Derived.Test.YtakgjihhgpnnfaaDoorHang
set_option linter.unusedVariables false
set_option linter.unusedSimpArgs false
namespace Go.Proofs.YtakgjihhgpnnfaaDoor
open Go.RowKit Go.Deep

instance (x : Ix) (C D : Nat → Int) (u w : Nat) : Decidable (x.Hot C D u w) := by unfold Ix.Hot; infer_instance
def aq0 : Ix := Ix.new 3 awf awg
def aq1 : Ix := aq0.setI 0 1 ⟨2, 7, -1⟩
def aq2 : Ix := aq1.setI 1 2 ⟨3, 8, -1⟩
def aq3 : Ix := aq2.setI 0 2 ⟨5, -1, 1⟩
def aq4 : Ix := aq3.setI 1 2 ⟨4, 8, -1⟩
def aqC : Nat → Int := starC (aq3.star 1 false) (aq3.star 1 true)
def aqD : Nat → Int := starC (aq4.star 1 false) (aq4.star 1 true)
theorem aq_h1 : (aq3.hang 1).length = 1 := by decide +kernel
theorem aq_h2 : ((aq3.hang 1).getD 0 Lk.zero).h = 2 := by decide +kernel
theorem aq_c1 : aqC 6 = 3 := by decide +kernel
theorem aq_c2 : aqC 72 = 2 := by decide +kernel
theorem aq_m : aq4.mids 0 2 = [] := by decide +kernel
theorem aq_mv (i : Nat) : aq4.Mv 1 aqC aqD i ↔ i = 0 := by
  have hn : aq4.n = 3 := by decide +kernel
  constructor
  · rintro ⟨_, u, w, hu, hw, hne, h1, h2, hh, hl⟩
    rw [hn] at hu hw
    have hu' : u = 0 ∨ u = 1 ∨ u = 2 := by omega
    have hw' : w = 0 ∨ w = 1 ∨ w = 2 := by omega
    rcases hu' with rfl | rfl | rfl <;> rcases hw' with rfl | rfl | rfl
    all_goals first
      | exact absurd rfl hne
      | exact absurd h1 (by decide +kernel)
      | exact absurd h2 (by decide +kernel)
      | exact absurd hh (by decide +kernel)
      | (rw [show aq4.low ((0 : Nat) : Int) ((2 : Nat) : Int) = 0 by decide +kernel] at hl; omega)
  · rintro rfl
    exact ⟨by decide +kernel, 0, 2, by decide +kernel, by decide +kernel, by decide, by decide +kernel, by decide +kernel, by decide +kernel, by decide +kernel⟩

set_option maxRecDepth 100000 in
set_option maxHeartbeats 4000000 in
theorem awake17_calls (w : World) (hN : NoneVar w) : Calls Tryd.prog 20 #[] w fun e w' => e = .returned (.bool true) ∧ Fr No w w' := by
  have hd1 : Tryd.prog.underlying 61 = some _ := Tryd.underlying61
  have hi1 : (Tryd.prog.info? 61).map (·.size) = some 144 := by kernel_rfl
  have HN := hid hN
  clear hN
  go_enter Tryd.func20, Tryd.ntmps20
  go_wp2_with fail
  refine (new_yes (some ⟨w.heap.size, 0, none⟩) 3 3 awf _ (lit_ints 3 awf (by intro j hj; (have : j = 0 ∨ j = 1 ∨ j = 2 := by omega); rcases this with rfl | rfl | rfl <;> rfl)) (by decide) aw_perm awg aw_g1 aw_g2 (HN.out.fr ((Fr.refl No _).alloc _) (fun h => h))).mono ?_
  rintro e w1 ⟨L, rfl, hf, hm, hb, _, _, hcb⟩
  have hsz : w.heap.size ≤ L.b := by simp only [World.alloc, Array.size_push] at hb; omega
  have M0 := hid (show IxMem w1 L aq0 from hm)
  have F0 := hid (((Fr.refl No w).alloc _).trans hf)
  clear hf hm hb hcb
  go_wp2_with fail
  refine (set_calls M0.out 0 1 ⟨2, 7, -1⟩).mono ?_
  rintro e w4 ⟨rfl, hm, hf⟩
  have M3 := hid (show IxMem w4 L aq1 from hm)
  have F3 := hid (fr_sub F0.out hf hsz)
  clear hm hf
  go_wp2_with fail
  refine (set_calls M3.out 1 2 ⟨3, 8, -1⟩).mono ?_
  rintro e w5 ⟨rfl, hm, hf⟩
  have M4 := hid (show IxMem w5 L aq2 from hm)
  have F4 := hid (fr_sub F3.out hf hsz)
  clear hm hf
  go_wp2_with fail
  refine (set_calls M4.out 0 2 ⟨5, -1, 1⟩).mono ?_
  rintro e w6 ⟨rfl, hm, hf⟩
  have M5 := hid (show IxMem w6 L aq3 from hm)
  have F5 := hid (fr_sub F4.out hf hsz)
  clear hm hf
  go_wp2_with fail
  refine (star_calls M5.out 1).mono ?_
  rintro e w7 ⟨rfl, hf⟩
  have M6 := hid (M5.out.no hf)
  have F6 := hid (F5.out.trans hf)
  clear hf
  have hs1 := (StarAt.new1 w7).set aqC
  have ht1 := (StarAt.new1 w7).there
  have ho1 := cellsR_one 144 aqC
  have hl1 := cellsR_len 144 aqC
  have f1 : Fr No w7 ((w7.alloc (.cells Tryd.zeroCells61 61)).setCells w7.heap.size 0 (cellsR 144 aqC)) := Fr.setCellsL (.inr (Nat.le_refl _)) _ _ _ ((Fr.refl _ _).alloc _)
  rw [show starC (aq3.star 1 false) (aq3.star 1 true) = aqC from rfl]
  unfold starV
  obtain ⟨X, hX⟩ : ∃ X, cellsR 144 aqC = X := ⟨_, rfl⟩
  rw [hX] at hs1 ho1 hl1 f1 ⊢
  have HX := hid hX
  have HS1 := hid hs1
  have M7 := hid (M6.out.no f1)
  have F7 := hid (F6.out.trans f1)
  clear hX hs1 f1
  go_wp2_with (refine wpList_store_mid rfl 61 (.tmp 3) (.tmp 22) rfl w7.heap.size 0 X.toArray rfl rfl (by simpa [hl1] using ht1) (by rw [hi1]; simp [hl1]) ho1 ?_; simp only [List.toList_toArray])
  generalize ((w7.alloc (.cells Tryd.zeroCells61 61)).setCells w7.heap.size 0 X) = W7 at HS1 M7 F7 ⊢
  have hB7 : w.heap.size ≤ w7.heap.size := F6.out.size
  have hLB : L.b < w7.heap.size := M6.out.lt
  generalize w7.heap.size = B at *
  clear ht1 ho1 hl1
  refine (hang_calls M7.out 1).mono ?_
  rintro e w8 ⟨A, c, rfl, hf, hsl, hge⟩
  have hsl := hsl (by rw [aq_h1]; omega)
  obtain ⟨hg, rfl, hge⟩ := hge (by rw [aq_h1]; omega)
  rw [aq_h1] at hsl ⊢
  have M8 := hid (M7.out.no hf)
  have F8 := hid (F7.out.trans hf)
  have S8 := hid (HS1.out.fr hf (fun h => h))
  rcases hsl with ⟨h0, _⟩ | ⟨hb, ho, hc, _, he, hat⟩
  · exact absurd h0 (by decide +kernel)
  · rw [aq_h1] at he hat
    simp only [Value.slice.injEq] at he
    simp only [Option.some.injEq, Addr.mk.injEq, and_true] at he
    obtain ⟨⟨rfl, rfl⟩, _, rfl⟩ := he
    have hh := (hat 0 (by omega)).h
    rw [aq_h2] at hh
    have HH := hid hh
    have hB8 := HS1.out.lt
    have hnb : hg ≠ L.b := by omega
    have hzhb : hg < w8.heap.size := cell_lt hh
    clear hat hf hh
    go_wp2_with fail
    refine (set_calls M8.out 1 2 ⟨4, 8, -1⟩).mono ?_
    rintro e w9 ⟨rfl, hm, hf⟩
    have M9 := hid (show IxMem w9 L aq4 from hm)
    have F9 := hid (fr_sub F8.out hf hsz)
    have S9 := hid (S8.out.fr hf (fun (h : B = L.b) => by omega))
    have hh9 := hf.cell_some HH.out (fun (h : hg = L.b) => hnb h)
    clear hm hf
    have k6 := Blk.cell S9.out (i := 6) (by omega)
    have k72 := Blk.cell S9.out (i := 72) (by omega)
    rw [aq_c1] at k6
    rw [aq_c2] at k72
    have wfC : Wf aqC := M5.out.ok.starWf 1
    have wfD : Wf aqD := M9.out.ok.starWf 1
    obtain ⟨Y, hY⟩ : ∃ Y, (cellsR 144 aqD).toArray = Y := ⟨_, rfl⟩
    have hst : ∀ n : Fam w9, Calls Tryd.prog 23 #[.pointer (some ⟨L.b, 0, none⟩), .int .i64 1] n.v fun e w' => e = .returned (.agg Y) ∧ Fr No n.v w' := fun n => by
      rw [← hY]; exact star_calls (M9.out.no n.h) 1
    have hmv : ∀ n : Fam w9, Calls Tryd.prog 26 #[.pointer (some ⟨L.b, 0, none⟩), .int .i64 1, .agg X.toArray, .agg Y] n.v fun e w' => e = .returned (.int .u64 1) ∧ Fr No n.v w' := fun n => by
      rw [← hY, ← HX.out]
      refine (moves_calls (M9.out.no n.h) 1 aqC aqD wfC wfD).mono ?_
      rintro e w' ⟨s, rfl, hs, hf⟩
      have e1 : s = 1 := SetOf.eq hs (t := 1) (q := fun i => i = 0) ⟨by decide, fun i => by
        rw [show (1 : Nat) = 2 ^ 0 from rfl, Nat.testBit_two_pow]; simp; exact eq_comm⟩ (fun i => aq_mv i)
      subst e1
      exact ⟨rfl, hf⟩
    have hmd : ∀ n : Fam w9, Calls Tryd.prog 21 #[.pointer (some ⟨L.b, 0, none⟩), .int .i64 0, .int .i64 2] n.v fun e w' => e = .returned (.slice none 0 0) ∧ Fr No n.v w' := fun n => by
      refine (mid_calls (M9.out.no n.h) 0 2).mono ?_
      rintro e w' ⟨A, c, rfl, hf, hs⟩
      rw [aq_m] at hs ⊢
      rcases hs with ⟨_, h2⟩ | ⟨_, _, _, h0, _⟩
      · exact ⟨congrArg Ending.returned h2, hf⟩
      · simp at h0
    have kk1 : ∀ n : Fam w9, n.v.cell? ⟨B, 6, none⟩ = some (.int .i64 3) := Fam.cell k6
    have kk2 : ∀ n : Fam w9, n.v.cell? ⟨B, 72, none⟩ = some (.int .i64 2) := Fam.cell k72
    have kk3 : ∀ n : Fam w9, n.v.cell? ⟨hg, 1, none⟩ = some (.int .i64 2) := Fam.cell (by simpa using hh9)
    have hld : ∀ n : Fam w9, (Instr.loadAt 61 (.pointer (some ⟨B, 0, none⟩))).run Tryd.prog n.v = .ok (.agg X.toArray) n.v := fun n => by
      rw [← HX.out]; exact run_loadAt_mid n.v B 0 61 _ _ (S9.out.fr n.h (fun h => h)).range hd1 rfl (by rw [hi1, cellsR_len])
    have HM9 := hid M9
    clear hY hd1 hi1 k6 k72 hh9 wfC wfD
    go_wp2_with fail
    refine wp_region_fam (by kernel_rfl) (by kernel_rfl) ?_
    iterate 26 (go_big_quiet_step (fail))
    go_big_quiet_want
    refine quiet_load 61 (.tmp 3) rfl (.pointer (some ⟨B, 0, none⟩)) (.agg X.toArray) rfl (by rintro w' ⟨n, rfl⟩; exact hld n) ?_
    simp only [Act.put, List.setIfInBounds_toArray, List.set_cons_zero, List.set_cons_succ]
    go_big_quiet_on
    repeat (go_big_quiet_step (first | exact Calls.fam (hst _) | exact Calls.fam (hmv _) | exact Calls.fam (hmd _)))
    refine wpQuiet_nil ?_
    rintro w10 ⟨⟨w10, hf10⟩, rfl⟩
    go_wp2
    go_ret
    exact ⟨rfl, F9.out.trans hf10⟩

end Go.Proofs.YtakgjihhgpnnfaaDoor
