/- An insertion into the document's graph; a change of either graph; both graphs behind changes; walked. -/
import Derived.Test.YtlncmnphjdeeoaaDoorGNew
import Derived.StillTailTactics
set_option linter.unusedVariables false
set_option linter.unusedSimpArgs false
namespace Go.Proofs.YtlncmnphjdeeoaaDoor
open Go.RowKit Go.Deep

theorem Gr.put_set (G : Gr) (k : Nat) (a : Arc4) (h : G.icode (k : Nat) a = 0) : G.put (k : Nat) a = G.set k a true := by
  unfold Gr.put; rw [if_pos h]; rfl

set_option maxRecDepth 100000 in
set_option maxHeartbeats 2000000 in
theorem rgins_a {w : World} {b : Nat} {G : Gr} (h : RGM w b G) (id : Int) (a : Arc4) (h0 : id < 0) :
    Calls Tryd.prog 110 #[.pointer (some ⟨b, 0, none⟩), .int .i64 id, .agg #[.int .i64 a.t, .int .i64 a.h, .int .i64 a.w, .bool a.c]] w fun e w' => e = .returned (.int .i64 1) ∧ Fr No w w' := by
  have e0' : decide (id < 0) = true := by simpa using h0
  have f0 : Fr No w (w.alloc (.cells #[.int .i64 a.t, .int .i64 a.h, .int .i64 a.w, .bool a.c] 93)) := (Fr.refl No w).alloc _
  have hA := heap_new w (.cells #[.int .i64 a.t, .int .i64 a.h, .int .i64 a.w, .bool a.c] 93)
  have a0 := cell_of hA 0
  have a1 := cell_of hA 1
  have a2 := cell_of hA 2
  have a3 := cell_of hA 3
  have F0 := hid f0
  have H0 := hid (h.no f0)
  have hzA : w.heap.size < (w.alloc (.cells #[.int .i64 a.t, .int .i64 a.h, .int .i64 a.w, .bool a.c] 93)).heap.size := by simp
  clear h f0 hA
  simp at a0 a1 a2 a3
  go_enter Tryd.func110, Tryd.ntmps110
  go_wp2
  go_ret
  exact ⟨rfl, F0.out⟩

set_option maxRecDepth 100000 in
set_option maxHeartbeats 2000000 in
theorem rgins_b {w : World} {b : Nat} {G : Gr} (h : RGM w b G) (id : Int) (a : Arc4) (h0 : 63 < id) :
    Calls Tryd.prog 110 #[.pointer (some ⟨b, 0, none⟩), .int .i64 id, .agg #[.int .i64 a.t, .int .i64 a.h, .int .i64 a.w, .bool a.c]] w fun e w' => e = .returned (.int .i64 1) ∧ Fr No w w' := by
  have e0 : ¬ id < 0 := by omega
  have e0' : decide (id < 0) = false := by simp; omega
  have e1' : decide (63 < id) = true := by simpa using h0
  have f0 : Fr No w (w.alloc (.cells #[.int .i64 a.t, .int .i64 a.h, .int .i64 a.w, .bool a.c] 93)) := (Fr.refl No w).alloc _
  have hA := heap_new w (.cells #[.int .i64 a.t, .int .i64 a.h, .int .i64 a.w, .bool a.c] 93)
  have a0 := cell_of hA 0
  have a1 := cell_of hA 1
  have a2 := cell_of hA 2
  have a3 := cell_of hA 3
  have F0 := hid f0
  have H0 := hid (h.no f0)
  have hzA : w.heap.size < (w.alloc (.cells #[.int .i64 a.t, .int .i64 a.h, .int .i64 a.w, .bool a.c] 93)).heap.size := by simp
  clear h f0 hA
  simp at a0 a1 a2 a3
  go_enter Tryd.func110, Tryd.ntmps110
  go_wp2
  go_ret
  exact ⟨rfl, F0.out⟩

set_option maxRecDepth 100000 in
set_option maxHeartbeats 2000000 in
theorem rgins_1 {w : World} {b : Nat} {G : Gr} (h : RGM w b G) (id : Int) (a : Arc4) (h0 : (0 ≤ id ∧ id < 64)) (h1 : ¬ (0 ≤ a.t ∧ a.t < G.n)) :
    Calls Tryd.prog 110 #[.pointer (some ⟨b, 0, none⟩), .int .i64 id, .agg #[.int .i64 a.t, .int .i64 a.h, .int .i64 a.w, .bool a.c]] w fun e w' => e = .returned (.int .i64 1) ∧ Fr No w w' := by
  have e0 : ¬ id < 0 := by omega
  have e1 : ¬ 63 < id := by omega
  have e0' : decide (id < 0) = false := by simp; omega
  have e1' : decide (63 < id) = false := by simp; omega
  have d1 : decide (0 ≤ a.t ∧ a.t < G.n) = false := decide_eq_false h1
  have f0 : Fr No w (w.alloc (.cells #[.int .i64 a.t, .int .i64 a.h, .int .i64 a.w, .bool a.c] 93)) := (Fr.refl No w).alloc _
  have hA := heap_new w (.cells #[.int .i64 a.t, .int .i64 a.h, .int .i64 a.w, .bool a.c] 93)
  have a0 := cell_of hA 0
  have a1 := cell_of hA 1
  have a2 := cell_of hA 2
  have a3 := cell_of hA 3
  have F0 := hid f0
  have H0 := hid (h.no f0)
  have hzA : w.heap.size < (w.alloc (.cells #[.int .i64 a.t, .int .i64 a.h, .int .i64 a.w, .bool a.c] 93)).heap.size := by simp
  clear h f0 hA
  simp at a0 a1 a2 a3
  go_enter Tryd.func110, Tryd.ntmps110
  go_wp2_with fail
  refine (rgvertex_calls H0.out a.t).mono ?_
  rintro e w1 ⟨rfl, rfl⟩
  rw [d1]
  go_wp2
  go_ret
  exact ⟨rfl, F0.out⟩

set_option maxRecDepth 100000 in
set_option maxHeartbeats 2000000 in
theorem rgins_2 {w : World} {b : Nat} {G : Gr} (h : RGM w b G) (id : Int) (a : Arc4) (h0 : (0 ≤ id ∧ id < 64)) (h1 : (0 ≤ a.t ∧ a.t < G.n)) (h2 : ¬ (0 ≤ a.h ∧ a.h < G.n)) :
    Calls Tryd.prog 110 #[.pointer (some ⟨b, 0, none⟩), .int .i64 id, .agg #[.int .i64 a.t, .int .i64 a.h, .int .i64 a.w, .bool a.c]] w fun e w' => e = .returned (.int .i64 1) ∧ Fr No w w' := by
  have e0 : ¬ id < 0 := by omega
  have e1 : ¬ 63 < id := by omega
  have e0' : decide (id < 0) = false := by simp; omega
  have e1' : decide (63 < id) = false := by simp; omega
  have d1 : decide (0 ≤ a.t ∧ a.t < G.n) = true := decide_eq_true h1
  have d2 : decide (0 ≤ a.h ∧ a.h < G.n) = false := decide_eq_false h2
  have f0 : Fr No w (w.alloc (.cells #[.int .i64 a.t, .int .i64 a.h, .int .i64 a.w, .bool a.c] 93)) := (Fr.refl No w).alloc _
  have hA := heap_new w (.cells #[.int .i64 a.t, .int .i64 a.h, .int .i64 a.w, .bool a.c] 93)
  have a0 := cell_of hA 0
  have a1 := cell_of hA 1
  have a2 := cell_of hA 2
  have a3 := cell_of hA 3
  have F0 := hid f0
  have H0 := hid (h.no f0)
  have hzA : w.heap.size < (w.alloc (.cells #[.int .i64 a.t, .int .i64 a.h, .int .i64 a.w, .bool a.c] 93)).heap.size := by simp
  clear h f0 hA
  simp at a0 a1 a2 a3
  go_enter Tryd.func110, Tryd.ntmps110
  go_wp2_with fail
  refine (rgvertex_calls H0.out a.t).mono ?_
  rintro e w1 ⟨rfl, rfl⟩
  rw [d1]
  go_wp2_with fail
  refine (rgvertex_calls H0.out a.h).mono ?_
  rintro e w1 ⟨rfl, rfl⟩
  rw [d2]
  go_wp2
  go_ret
  exact ⟨rfl, F0.out⟩

set_option maxRecDepth 100000 in
set_option maxHeartbeats 2000000 in
theorem rgins_3 {w : World} {b : Nat} {G : Gr} (h : RGM w b G) (id : Int) (a : Arc4) (h0 : (0 ≤ id ∧ id < 64)) (h1 : (0 ≤ a.t ∧ a.t < G.n)) (h2 : (0 ≤ a.h ∧ a.h < G.n)) (h3 : ¬ (1 ≤ a.w ∧ a.w ≤ 4611686018427387904)) :
    Calls Tryd.prog 110 #[.pointer (some ⟨b, 0, none⟩), .int .i64 id, .agg #[.int .i64 a.t, .int .i64 a.h, .int .i64 a.w, .bool a.c]] w fun e w' => e = .returned (.int .i64 1) ∧ Fr No w w' := by
  have e0 : ¬ id < 0 := by omega
  have e1 : ¬ 63 < id := by omega
  have e0' : decide (id < 0) = false := by simp; omega
  have e1' : decide (63 < id) = false := by simp; omega
  have d1 : decide (0 ≤ a.t ∧ a.t < G.n) = true := decide_eq_true h1
  have d2 : decide (0 ≤ a.h ∧ a.h < G.n) = true := decide_eq_true h2
  have d3 : decide (1 ≤ a.w ∧ a.w ≤ 4611686018427387904) = false := decide_eq_false h3
  have f0 : Fr No w (w.alloc (.cells #[.int .i64 a.t, .int .i64 a.h, .int .i64 a.w, .bool a.c] 93)) := (Fr.refl No w).alloc _
  have hA := heap_new w (.cells #[.int .i64 a.t, .int .i64 a.h, .int .i64 a.w, .bool a.c] 93)
  have a0 := cell_of hA 0
  have a1 := cell_of hA 1
  have a2 := cell_of hA 2
  have a3 := cell_of hA 3
  have F0 := hid f0
  have H0 := hid (h.no f0)
  have hzA : w.heap.size < (w.alloc (.cells #[.int .i64 a.t, .int .i64 a.h, .int .i64 a.w, .bool a.c] 93)).heap.size := by simp
  clear h f0 hA
  simp at a0 a1 a2 a3
  go_enter Tryd.func110, Tryd.ntmps110
  go_wp2_with fail
  refine (rgvertex_calls H0.out a.t).mono ?_
  rintro e w1 ⟨rfl, rfl⟩
  rw [d1]
  go_wp2_with fail
  refine (rgvertex_calls H0.out a.h).mono ?_
  rintro e w1 ⟨rfl, rfl⟩
  rw [d2]
  go_wp2_with fail
  refine (rgweight_calls a.w _).mono ?_
  rintro e w1 ⟨rfl, rfl⟩
  rw [d3]
  go_wp2
  go_ret
  exact ⟨rfl, F0.out⟩

set_option maxRecDepth 100000 in
set_option maxHeartbeats 2000000 in
theorem rgins_4 {w : World} {b : Nat} {G : Gr} (h : RGM w b G) (id : Int) (a : Arc4) (h0 : (0 ≤ id ∧ id < 64)) (h1 : (0 ≤ a.t ∧ a.t < G.n)) (h2 : (0 ≤ a.h ∧ a.h < G.n)) (h3 : (1 ≤ a.w ∧ a.w ≤ 4611686018427387904)) (htk : G.tk id.toNat = true) :
    Calls Tryd.prog 110 #[.pointer (some ⟨b, 0, none⟩), .int .i64 id, .agg #[.int .i64 a.t, .int .i64 a.h, .int .i64 a.w, .bool a.c]] w fun e w' => e = .returned (.int .i64 4) ∧ Fr No w w' := by
  have e0 : ¬ id < 0 := by omega
  have e1 : ¬ 63 < id := by omega
  have e0' : decide (id < 0) = false := by simp; omega
  have e1' : decide (63 < id) = false := by simp; omega
  have d1 : decide (0 ≤ a.t ∧ a.t < G.n) = true := decide_eq_true h1
  have d2 : decide (0 ≤ a.h ∧ a.h < G.n) = true := decide_eq_true h2
  have d3 : decide (1 ≤ a.w ∧ a.w ≤ 4611686018427387904) = true := decide_eq_true h3
  have f0 : Fr No w (w.alloc (.cells #[.int .i64 a.t, .int .i64 a.h, .int .i64 a.w, .bool a.c] 93)) := (Fr.refl No w).alloc _
  have hA := heap_new w (.cells #[.int .i64 a.t, .int .i64 a.h, .int .i64 a.w, .bool a.c] 93)
  have a0 := cell_of hA 0
  have a1 := cell_of hA 1
  have a2 := cell_of hA 2
  have a3 := cell_of hA 3
  have F0 := hid f0
  have H0 := hid (h.no f0)
  have hzA : w.heap.size < (w.alloc (.cells #[.int .i64 a.t, .int .i64 a.h, .int .i64 a.w, .bool a.c] 93)).heap.size := by simp
  clear h f0 hA
  simp at a0 a1 a2 a3
  have k0 := H0.out.tkc (show id.toNat < 64 by omega)
  rw [htk] at k0
  obtain ⟨k, rfl⟩ := Int.eq_ofNat_of_zero_le h0.1
  have hk : k < 64 := by omega
  have hk2 : (k : Int) < 64 := by omega
  rw [Int.toNat_natCast] at k0
  go_enter Tryd.func110, Tryd.ntmps110
  go_wp2_with fail
  refine (rgvertex_calls H0.out a.t).mono ?_
  rintro e w1 ⟨rfl, rfl⟩
  rw [d1]
  go_wp2_with fail
  refine (rgvertex_calls H0.out a.h).mono ?_
  rintro e w1 ⟨rfl, rfl⟩
  rw [d2]
  go_wp2_with fail
  refine (rgweight_calls a.w _).mono ?_
  rintro e w1 ⟨rfl, rfl⟩
  rw [d3]
  go_wp2
  go_ret
  exact ⟨rfl, F0.out⟩

set_option maxRecDepth 100000 in
set_option maxHeartbeats 2000000 in
theorem rgins_yes {w : World} {b : Nat} {G : Gr} (h : RGM w b G) (id : Int) (a : Arc4) (h0 : (0 ≤ id ∧ id < 64)) (h1 : (0 ≤ a.t ∧ a.t < G.n)) (h2 : (0 ≤ a.h ∧ a.h < G.n)) (h3 : (1 ≤ a.w ∧ a.w ≤ 4611686018427387904)) (htk : G.tk id.toNat = false) (hcnt : G.cnt < G.most) (hm : G.most ≤ 64) :
    Calls Tryd.prog 110 #[.pointer (some ⟨b, 0, none⟩), .int .i64 id, .agg #[.int .i64 a.t, .int .i64 a.h, .int .i64 a.w, .bool a.c]] w fun e w' => e = .returned (.int .i64 0) ∧ RGM w' b (G.set id.toNat a true) ∧ Fr (One b) w w' := by
  have e0 : ¬ id < 0 := by omega
  have e1 : ¬ 63 < id := by omega
  have e0' : decide (id < 0) = false := by simp; omega
  have e1' : decide (63 < id) = false := by simp; omega
  have d1 : decide (0 ≤ a.t ∧ a.t < G.n) = true := decide_eq_true h1
  have d2 : decide (0 ≤ a.h ∧ a.h < G.n) = true := decide_eq_true h2
  have d3 : decide (1 ≤ a.w ∧ a.w ≤ 4611686018427387904) = true := decide_eq_true h3
  have hbw := Blk.lt h
  have f0 : Fr No w (w.alloc (.cells #[.int .i64 a.t, .int .i64 a.h, .int .i64 a.w, .bool a.c] 93)) := (Fr.refl No w).alloc _
  have hA := heap_new w (.cells #[.int .i64 a.t, .int .i64 a.h, .int .i64 a.w, .bool a.c] 93)
  have a0 := cell_of hA 0
  have a1 := cell_of hA 1
  have a2 := cell_of hA 2
  have a3 := cell_of hA 3
  have F0 := hid f0
  have H0 := hid (h.no f0)
  have hzA : w.heap.size < (w.alloc (.cells #[.int .i64 a.t, .int .i64 a.h, .int .i64 a.w, .bool a.c] 93)).heap.size := by simp
  clear h f0 hA
  have k0 := H0.out.tkc (show id.toNat < 64 by omega)
  rw [htk] at k0
  obtain ⟨k, rfl⟩ := Int.eq_ofNat_of_zero_le h0.1
  have hk : k < 64 := by omega
  have hk2 : (k : Int) < 64 := by omega
  rw [Int.toNat_natCast] at k0
  rw [Int.toNat_natCast]
  have hbl : b < (w.alloc (.cells #[.int .i64 a.t, .int .i64 a.h, .int .i64 a.w, .bool a.c] 93)).heap.size := Blk.lt H0.out
  go_enter Tryd.func110, Tryd.ntmps110
  go_wp2_with fail
  refine (rgvertex_calls H0.out a.t).mono ?_
  rintro e w1 ⟨rfl, rfl⟩
  rw [d1]
  go_wp2_with fail
  refine (rgvertex_calls H0.out a.h).mono ?_
  rintro e w1 ⟨rfl, rfl⟩
  rw [d2]
  go_wp2_with fail
  refine (rgweight_calls a.w _).mono ?_
  rintro e w1 ⟨rfl, rfl⟩
  rw [d3]
  obtain ⟨W0, hW0⟩ : ∃ W0, w.alloc (.cells #[.int .i64 a.t, .int .i64 a.h, .int .i64 a.w, .bool a.c] 93) = W0 := ⟨_, rfl⟩
  rw [hW0] at F0 H0 a0 a1 a2 a3 k0 hzA hbl ⊢
  clear hW0
  simp at a0 a1 a2 a3
  have k1 := H0.out.c1
  have kk1 : ∀ n : Fam W0, n.v.cell? ⟨b, 1, none⟩ = some (.int .i64 (G.most : Nat)) := Fam.cell k1
  have hlen : ∀ n : Fam W0, Calls Tryd.prog 129 #[.pointer (some ⟨b, 0, none⟩)] n.v fun e w' => e = .returned (.int .i64 (G.cnt : Nat)) ∧ Fr No n.v w' := fun n => rglen_calls (H0.out.no n.h)
  have hcd : ((G.most : Int) ≤ (G.cnt : Nat)) = False := by simp; omega
  have hcd2 : decide ((G.most : Int) ≤ (G.cnt : Nat)) = false := by simp; omega
  clear k1
  go_wp2_with fail
  refine wp_region_fam (by kernel_rfl) (by kernel_rfl) ?_
  repeat (go_big_quiet_step (exact Calls.fam (hlen _)))
  refine wpQuiet_nil ?_
  rintro w4 ⟨⟨w4, hf4⟩, rfl⟩
  have H4 := hid (H0.out.no hf4)
  have F4 := hid (F0.out.trans hf4)
  have b0 := hf4.cell_some a0 (fun h => h)
  have b1 := hf4.cell_some a1 (fun h => h)
  have b2 := hf4.cell_some a2 (fun h => h)
  have b3 := hf4.cell_some a3 (fun h => h)
  have hs4 := hf4.size
  have z4 := H4.out.tkc hk
  have zf := fun i => Blk.frozen H4.out i
  have hb4 : b < w4.heap.size := Blk.lt H4.out
  clear hf4 a0 a1 a2 a3 hlen kk1 k0 H0 d1 d2 d3 h1 h2 h3
  have hne : w.heap.size ≠ b := by omega
  go_wp2_with fail
  have B5 := Blk.setCell H4.out (2 + k) (.bool true)
  have F5 : Fr (One b) w4 (w4.setCell ⟨b, 2 + k, none⟩ (.bool true)) := (Fr.refl _ _).set1 _ _
  generalize w4.setCell ⟨b, 2 + k, none⟩ (.bool true) = w5 at B5 F5 ⊢
  have c0 := F5.cell_some b0 (fun (e : w.heap.size = b) => hne e)
  have c1 := F5.cell_some b1 (fun (e : w.heap.size = b) => hne e)
  have c2 := F5.cell_some b2 (fun (e : w.heap.size = b) => hne e)
  have c3 := F5.cell_some b3 (fun (e : w.heap.size = b) => hne e)
  have z0 := B5.cell (i := 66 + k * 4) (by omega)
  have z1 := B5.cell (i := 66 + k * 4 + 1) (by omega)
  have z2 := B5.cell (i := 66 + k * 4 + 2) (by omega)
  have z3 := B5.cell (i := 66 + k * 4 + 3) (by omega)
  have zg := fun i => B5.frozen i
  have hb5 := B5.lt
  have hs5 := F5.size
  have HB5 := hid B5
  have HF5 := hid F5
  clear B5 F5 b0 b1 b2 b3 z4 zf
  go_still_tail 6, (by kernel_rfl)
  go_wp2
  go_ret
  exact ⟨rfl, Blk.congr ((((Blk.setCell HB5.out (66 + k * 4) (.int .i64 a.t)).setCell (66 + k * 4 + 1) (.int .i64 a.h)).setCell (66 + k * 4 + 2) (.int .i64 a.w)).setCell (66 + k * 4 + 3) (.bool a.c)).drew (fun i _ => G.rset_cell k hk a true i),
    (F4.out.no (F := One b)).trans' (((((HF5.out.set1 _ _).set1 _ _).set1 _ _).set1 _ _).drew) (fun i _ h => h)⟩

theorem rginsert_calls {w : World} {b : Nat} {G : Gr} (h : RGM w b G) (hm : G.most = 64) (id : Int) (a : Arc4) :
    Calls Tryd.prog 110 #[.pointer (some ⟨b, 0, none⟩), .int .i64 id, .agg #[.int .i64 a.t, .int .i64 a.h, .int .i64 a.w, .bool a.c]] w fun e w' => e = .returned (.int .i64 (G.icode id a)) ∧ RGM w' b (G.put id a) ∧ Fr (One b) w w' := by
  have no : ∀ c : Int, G.icode id a = c → c ≠ 0 → Calls Tryd.prog 110 #[.pointer (some ⟨b, 0, none⟩), .int .i64 id, .agg #[.int .i64 a.t, .int .i64 a.h, .int .i64 a.w, .bool a.c]] w (fun e w' => e = .returned (.int .i64 c) ∧ Fr No w w') →
      Calls Tryd.prog 110 #[.pointer (some ⟨b, 0, none⟩), .int .i64 id, .agg #[.int .i64 a.t, .int .i64 a.h, .int .i64 a.w, .bool a.c]] w fun e w' => e = .returned (.int .i64 (G.icode id a)) ∧ RGM w' b (G.put id a) ∧ Fr (One b) w w' := by
    intro c ec hc hcalls
    refine hcalls.mono ?_
    rintro e w' ⟨rfl, hf⟩
    refine ⟨by rw [ec], ?_, hf.no⟩
    rw [show G.put id a = G from by unfold Gr.put; rw [ec]; exact if_neg hc]
    exact h.no hf
  by_cases h0 : 0 ≤ id ∧ id < 64
  · by_cases h1 : 0 ≤ a.t ∧ a.t < G.n
    · by_cases h2 : 0 ≤ a.h ∧ a.h < G.n
      · by_cases h3 : 1 ≤ a.w ∧ a.w ≤ 4611686018427387904
        · have hok : (0 ≤ id ∧ id < 64) ∧ G.okA a := ⟨h0, h1, h2, h3⟩
          cases htk : G.tk id.toNat with
          | true => exact no 4 (by unfold Gr.icode; rw [if_pos hok, if_pos htk]) (by omega) (rgins_4 h id a h0 h1 h2 h3 htk)
          | false =>
            have ec : G.icode id a = 0 := by unfold Gr.icode; rw [if_pos hok, htk]; rfl
            have hcnt : G.cnt < G.most := by
              have hc := G.ins_cnt id.toNat a (by omega) htk
              have hl : (G.ins id.toNat a).cnt ≤ 64 := sel_len _
              omega
            refine (rgins_yes h id a h0 h1 h2 h3 htk hcnt (by omega)).mono ?_
            rintro e w' ⟨rfl, h5, h6⟩
            refine ⟨by rw [ec], ?_, h6⟩
            have := G.put_set id.toNat a (by rw [Int.toNat_of_nonneg h0.1]; exact ec)
            rw [Int.toNat_of_nonneg h0.1] at this
            rw [this]; exact h5
        · exact no 1 (by unfold Gr.icode; rw [if_neg (fun hh => h3 hh.2.2.2)]) (by omega) (rgins_3 h id a h0 h1 h2 h3)
      · exact no 1 (by unfold Gr.icode; rw [if_neg (fun hh => h2 hh.2.2.1)]) (by omega) (rgins_2 h id a h0 h1 h2)
    · exact no 1 (by unfold Gr.icode; rw [if_neg (fun hh => h1 hh.2.1)]) (by omega) (rgins_1 h id a h0 h1)
  · rcases (show id < 0 ∨ 63 < id by omega) with h | h'
    · exact no 1 (by unfold Gr.icode; rw [if_neg (fun hh => h0 hh.1)]) (by omega) (rgins_a (by assumption) id a h)
    · exact no 1 (by unfold Gr.icode; rw [if_neg (fun hh => h0 hh.1)]) (by omega) (rgins_b (by assumption) id a h')

end Go.Proofs.YtlncmnphjdeeoaaDoor
