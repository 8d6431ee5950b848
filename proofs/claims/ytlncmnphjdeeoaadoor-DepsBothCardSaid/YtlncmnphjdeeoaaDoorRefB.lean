/- The document's index: what may be an entry, and setting one; walked. -/
import Derived.Test.YtlncmnphjdeeoaaDoorRef
import Derived.Test.YtlncmnphjdeeoaaDoorEq
set_option linter.unusedVariables false
set_option linter.unusedSimpArgs false
namespace Go.Proofs.YtlncmnphjdeeoaaDoor
open Go.RowKit Go.Deep
attribute [local go_sem ↓] Go.wp_at_zero Go.wp_at_succ
attribute [local go_sem high] run_eql_en run_neq_en

theorem vertex_rank {x : Ix} {v : Int} (h : x.vertex v = true) : x.rank v = x.rk v.toNat ∧ 0 ≤ v ∧ v < x.n := by
  simp only [Ix.vertex, decide_eq_true_eq] at h
  exact ⟨if_pos h, h⟩
theorem vertex_no {x : Ix} {v : Int} (h : x.vertex v = false) : x.rank v = -1 := by
  simp only [Ix.vertex, decide_eq_false_iff_not] at h
  exact if_neg h

set_option maxHeartbeats 1000000 in
theorem rfits_n {w : World} {L : RxLoc} {x : Ix} (h : RxMem w L x) (u v : Int) (hu0 : 0 ≤ u) (hu1 : u < x.n) (hv0 : 0 ≤ v) (hv1 : v < x.n) (e0 e1 e2 : Int) (d : Bool) (hE : eq3 e0 e1 e2 4611686018427387906 (-1) (-1) = true) :
    Calls Tryd.prog 73 #[.pointer (some ⟨L.b, 0, none⟩), .int .i64 u, .int .i64 v, .agg #[.int .i64 e0, .int .i64 e1, .int .i64 e2]] w fun r w' => r = .returned (.bool true) ∧ Fr No w w' := by
  have HE := hid hE
  clear hE
  go_enter Tryd.func73, Tryd.ntmps73
  go_wp2_with fail
  go_region_held3 (fun w' => w'.cell? ⟨w.heap.size, 0, none⟩ = some (.int .i64 e0) ∧ w'.cell? ⟨w.heap.size, 1, none⟩ = some (.int .i64 e1) ∧ w'.cell? ⟨w.heap.size, 2, none⟩ = some (.int .i64 e2)) (go_keep)
    (first | (go_at_call 33; refine (rnone_calls _).mono ?_; rintro e w1 ⟨rfl, hf⟩; obtain ⟨o1, o2, o3, o4⟩ := own_no hf w.heap.size (heap_newN _ _ 1); simp only [En.val, En.none]))
  rw [HE.out]
  have hff := (((Fr.refl No _).alloc _).drew).trans hf
  have hW : RxMem w1 L x := h.no hff
  have HW := hid hff
  clear hf hff
  go_wp2
  go_ret
  exact ⟨rfl, HW.out⟩

set_option maxHeartbeats 1000000 in
theorem rfits_lo {w : World} {L : RxLoc} {x : Ix} (h : RxMem w L x) (u v : Int) (hu0 : 0 ≤ u) (hu1 : u < x.n) (hv0 : 0 ≤ v) (hv1 : v < x.n) (e0 e1 e2 : Int) (d : Bool) (hE : eq3 e0 e1 e2 4611686018427387906 (-1) (-1) = false) (h1 : e0 < 1) :
    Calls Tryd.prog 73 #[.pointer (some ⟨L.b, 0, none⟩), .int .i64 u, .int .i64 v, .agg #[.int .i64 e0, .int .i64 e1, .int .i64 e2]] w fun r w' => r = .returned (.bool false) ∧ Fr No w w' := by
  have HE := hid hE
  clear hE
  go_enter Tryd.func73, Tryd.ntmps73
  go_wp2_with fail
  go_region_held3 (fun w' => w'.cell? ⟨w.heap.size, 0, none⟩ = some (.int .i64 e0) ∧ w'.cell? ⟨w.heap.size, 1, none⟩ = some (.int .i64 e1) ∧ w'.cell? ⟨w.heap.size, 2, none⟩ = some (.int .i64 e2)) (go_keep)
    (first | (go_at_call 33; refine (rnone_calls _).mono ?_; rintro e w1 ⟨rfl, hf⟩; obtain ⟨o1, o2, o3, o4⟩ := own_no hf w.heap.size (heap_newN _ _ 1); simp only [En.val, En.none]))
  rw [HE.out]
  have hff := (((Fr.refl No _).alloc _).drew).trans hf
  have hW : RxMem w1 L x := h.no hff
  have HW := hid hff
  clear hf hff
  go_wp2
  go_ret
  exact ⟨rfl, HW.out⟩

set_option maxHeartbeats 1000000 in
theorem rfits_hi {w : World} {L : RxLoc} {x : Ix} (h : RxMem w L x) (u v : Int) (hu0 : 0 ≤ u) (hu1 : u < x.n) (hv0 : 0 ≤ v) (hv1 : v < x.n) (e0 e1 e2 : Int) (d : Bool) (hE : eq3 e0 e1 e2 4611686018427387906 (-1) (-1) = false) (h1 : 4611686018427387905 < e0) :
    Calls Tryd.prog 73 #[.pointer (some ⟨L.b, 0, none⟩), .int .i64 u, .int .i64 v, .agg #[.int .i64 e0, .int .i64 e1, .int .i64 e2]] w fun r w' => r = .returned (.bool false) ∧ Fr No w w' := by
  have HE := hid hE
  clear hE
  go_enter Tryd.func73, Tryd.ntmps73
  go_wp2_with fail
  go_region_held3 (fun w' => w'.cell? ⟨w.heap.size, 0, none⟩ = some (.int .i64 e0) ∧ w'.cell? ⟨w.heap.size, 1, none⟩ = some (.int .i64 e1) ∧ w'.cell? ⟨w.heap.size, 2, none⟩ = some (.int .i64 e2)) (go_keep)
    (first | (go_at_call 33; refine (rnone_calls _).mono ?_; rintro e w1 ⟨rfl, hf⟩; obtain ⟨o1, o2, o3, o4⟩ := own_no hf w.heap.size (heap_newN _ _ 1); simp only [En.val, En.none]))
  rw [HE.out]
  have hff := (((Fr.refl No _).alloc _).drew).trans hf
  have hW : RxMem w1 L x := h.no hff
  have HW := hid hff
  clear hf hff
  go_wp2
  go_ret
  exact ⟨rfl, HW.out⟩

set_option maxHeartbeats 1000000 in
theorem rfits_arc {w : World} {L : RxLoc} {x : Ix} (h : RxMem w L x) (u v : Int) (hu0 : 0 ≤ u) (hu1 : u < x.n) (hv0 : 0 ≤ v) (hv1 : v < x.n) (e0 e1 e2 : Int) (d : Bool) (hE : eq3 e0 e1 e2 4611686018427387906 (-1) (-1) = false) (h1 : 1 ≤ e0) (h2 : e0 ≤ 4611686018427387905) (h3 : 0 ≤ e1) (h4 : e1 ≤ 63) (h5 : (e2 == -1) = true) :
    Calls Tryd.prog 73 #[.pointer (some ⟨L.b, 0, none⟩), .int .i64 u, .int .i64 v, .agg #[.int .i64 e0, .int .i64 e1, .int .i64 e2]] w fun r w' => r = .returned (.bool true) ∧ Fr No w w' := by
  have HE := hid hE
  clear hE
  go_enter Tryd.func73, Tryd.ntmps73
  go_wp2_with fail
  go_region_held3 (fun w' => w'.cell? ⟨w.heap.size, 0, none⟩ = some (.int .i64 e0) ∧ w'.cell? ⟨w.heap.size, 1, none⟩ = some (.int .i64 e1) ∧ w'.cell? ⟨w.heap.size, 2, none⟩ = some (.int .i64 e2)) (go_keep)
    (first | (go_at_call 33; refine (rnone_calls _).mono ?_; rintro e w1 ⟨rfl, hf⟩; obtain ⟨o1, o2, o3, o4⟩ := own_no hf w.heap.size (heap_newN _ _ 1); simp only [En.val, En.none]))
  rw [HE.out]
  have hff := (((Fr.refl No _).alloc _).drew).trans hf
  have hW : RxMem w1 L x := h.no hff
  have HW := hid hff
  clear hf hff
  go_wp2
  go_ret
  exact ⟨rfl, HW.out⟩

set_option maxHeartbeats 1000000 in
theorem rfits_a1 {w : World} {L : RxLoc} {x : Ix} (h : RxMem w L x) (u v : Int) (hu0 : 0 ≤ u) (hu1 : u < x.n) (hv0 : 0 ≤ v) (hv1 : v < x.n) (e0 e1 e2 : Int) (d : Bool) (hE : eq3 e0 e1 e2 4611686018427387906 (-1) (-1) = false) (h1 : 1 ≤ e0) (h2 : e0 ≤ 4611686018427387905) (h3 : e1 < 0) (hA : (e1 == -1) = false) :
    Calls Tryd.prog 73 #[.pointer (some ⟨L.b, 0, none⟩), .int .i64 u, .int .i64 v, .agg #[.int .i64 e0, .int .i64 e1, .int .i64 e2]] w fun r w' => r = .returned (.bool false) ∧ Fr No w w' := by
  have HE := hid hE
  clear hE
  go_enter Tryd.func73, Tryd.ntmps73
  go_wp2_with fail
  go_region_held3 (fun w' => w'.cell? ⟨w.heap.size, 0, none⟩ = some (.int .i64 e0) ∧ w'.cell? ⟨w.heap.size, 1, none⟩ = some (.int .i64 e1) ∧ w'.cell? ⟨w.heap.size, 2, none⟩ = some (.int .i64 e2)) (go_keep)
    (first | (go_at_call 33; refine (rnone_calls _).mono ?_; rintro e w1 ⟨rfl, hf⟩; obtain ⟨o1, o2, o3, o4⟩ := own_no hf w.heap.size (heap_newN _ _ 1); simp only [En.val, En.none]))
  rw [HE.out]
  have hff := (((Fr.refl No _).alloc _).drew).trans hf
  have hW : RxMem w1 L x := h.no hff
  have g0 := hW.c0
  have gl := hW.lt
  have gr := hW.hr.1
  have HF := hid hff
  have HW := hid hW
  clear hf hff hW
  go_wp2
  go_quiet (fail)
  go_wp2
  go_ret
  exact ⟨rfl, HF.out.drewN _⟩

set_option maxHeartbeats 1000000 in
theorem rfits_a2 {w : World} {L : RxLoc} {x : Ix} (h : RxMem w L x) (u v : Int) (hu0 : 0 ≤ u) (hu1 : u < x.n) (hv0 : 0 ≤ v) (hv1 : v < x.n) (e0 e1 e2 : Int) (d : Bool) (hE : eq3 e0 e1 e2 4611686018427387906 (-1) (-1) = false) (h1 : 1 ≤ e0) (h2 : e0 ≤ 4611686018427387905) (h3 : e1 < 0) (hA : (e1 == -1) = true) (hV : x.vertex e2 = false) :
    Calls Tryd.prog 73 #[.pointer (some ⟨L.b, 0, none⟩), .int .i64 u, .int .i64 v, .agg #[.int .i64 e0, .int .i64 e1, .int .i64 e2]] w fun r w' => r = .returned (.bool false) ∧ Fr No w w' := by
  have HV := hid hV
  clear hV
  have HE := hid hE
  clear hE
  go_enter Tryd.func73, Tryd.ntmps73
  go_wp2_with fail
  go_region_held3 (fun w' => w'.cell? ⟨w.heap.size, 0, none⟩ = some (.int .i64 e0) ∧ w'.cell? ⟨w.heap.size, 1, none⟩ = some (.int .i64 e1) ∧ w'.cell? ⟨w.heap.size, 2, none⟩ = some (.int .i64 e2)) (go_keep)
    (first | (go_at_call 33; refine (rnone_calls _).mono ?_; rintro e w1 ⟨rfl, hf⟩; obtain ⟨o1, o2, o3, o4⟩ := own_no hf w.heap.size (heap_newN _ _ 1); simp only [En.val, En.none]))
  rw [HE.out]
  have hff := (((Fr.refl No _).alloc _).drew).trans hf
  have hW : RxMem w1 L x := h.no hff
  have g0 := hW.c0
  have gl := hW.lt
  have gr := hW.hr.1
  have HF := hid hff
  have HW := hid hW
  clear hf hff hW
  go_wp2
  go_quiet ((go_at_call 54; exact Calls.quiet_of_same ((rvertex_calls (HW.out.drewN _) _).mono fun e w' he => ⟨he.1.trans (by rw [HV.out]), he.2.symm⟩)))
  go_wp2
  go_ret
  exact ⟨rfl, HF.out.drewN _⟩

set_option maxHeartbeats 1000000 in
theorem rfits_a3 {w : World} {L : RxLoc} {x : Ix} (h : RxMem w L x) (u v : Int) (hu0 : 0 ≤ u) (hu1 : u < x.n) (hv0 : 0 ≤ v) (hv1 : v < x.n) (e0 e1 e2 : Int) (d : Bool) (hE : eq3 e0 e1 e2 4611686018427387906 (-1) (-1) = false) (h1 : 1 ≤ e0) (h2 : e0 ≤ 4611686018427387905) (h3 : e1 < 0) (hA : (e1 == -1) = true) (hV : x.vertex e2 = true) (hC : decide (x.rk e2.toNat < x.rk u.toNat) = false) :
    Calls Tryd.prog 73 #[.pointer (some ⟨L.b, 0, none⟩), .int .i64 u, .int .i64 v, .agg #[.int .i64 e0, .int .i64 e1, .int .i64 e2]] w fun r w' => r = .returned (.bool false) ∧ Fr No w w' := by
  have HV := hid hV
  clear hV
  have HE := hid hE
  clear hE
  go_enter Tryd.func73, Tryd.ntmps73
  go_wp2_with fail
  go_region_held3 (fun w' => w'.cell? ⟨w.heap.size, 0, none⟩ = some (.int .i64 e0) ∧ w'.cell? ⟨w.heap.size, 1, none⟩ = some (.int .i64 e1) ∧ w'.cell? ⟨w.heap.size, 2, none⟩ = some (.int .i64 e2)) (go_keep)
    (first | (go_at_call 33; refine (rnone_calls _).mono ?_; rintro e w1 ⟨rfl, hf⟩; obtain ⟨o1, o2, o3, o4⟩ := own_no hf w.heap.size (heap_newN _ _ 1); simp only [En.val, En.none]))
  rw [HE.out]
  have hff := (((Fr.refl No _).alloc _).drew).trans hf
  have hW : RxMem w1 L x := h.no hff
  have g0 := hW.c0
  have gl := hW.lt
  have gr := hW.hr.1
  obtain ⟨-, hb1, hb2⟩ := vertex_rank HV.out
  have gu := hW.rk u.toNat (by omega)
  have gv := hW.rk v.toNat (by omega)
  have ge := hW.rk e2.toNat (by omega)
  have HF := hid hff
  have HW := hid hW
  clear hf hff hW
  go_wp2
  go_quiet ((go_at_call 54; exact Calls.quiet_of_same ((rvertex_calls (HW.out.drewN _) _).mono fun e w' he => ⟨he.1.trans (by rw [HV.out]), he.2.symm⟩)))
  go_wp2
  go_ret
  exact ⟨rfl, HF.out.drewN _⟩

set_option maxHeartbeats 1000000 in
theorem rfits_a4 {w : World} {L : RxLoc} {x : Ix} (h : RxMem w L x) (u v : Int) (hu0 : 0 ≤ u) (hu1 : u < x.n) (hv0 : 0 ≤ v) (hv1 : v < x.n) (e0 e1 e2 : Int) (d : Bool) (hE : eq3 e0 e1 e2 4611686018427387906 (-1) (-1) = false) (h1 : 1 ≤ e0) (h2 : e0 ≤ 4611686018427387905) (h3 : e1 < 0) (hA : (e1 == -1) = true) (hV : x.vertex e2 = true) (hC : decide (x.rk e2.toNat < x.rk u.toNat) = true) (hD : decide (x.rk e2.toNat < x.rk v.toNat) = d) :
    Calls Tryd.prog 73 #[.pointer (some ⟨L.b, 0, none⟩), .int .i64 u, .int .i64 v, .agg #[.int .i64 e0, .int .i64 e1, .int .i64 e2]] w fun r w' => r = .returned (.bool d) ∧ Fr No w w' := by
  have HV := hid hV
  clear hV
  have HE := hid hE
  clear hE
  go_enter Tryd.func73, Tryd.ntmps73
  go_wp2_with fail
  go_region_held3 (fun w' => w'.cell? ⟨w.heap.size, 0, none⟩ = some (.int .i64 e0) ∧ w'.cell? ⟨w.heap.size, 1, none⟩ = some (.int .i64 e1) ∧ w'.cell? ⟨w.heap.size, 2, none⟩ = some (.int .i64 e2)) (go_keep)
    (first | (go_at_call 33; refine (rnone_calls _).mono ?_; rintro e w1 ⟨rfl, hf⟩; obtain ⟨o1, o2, o3, o4⟩ := own_no hf w.heap.size (heap_newN _ _ 1); simp only [En.val, En.none]))
  rw [HE.out]
  have hff := (((Fr.refl No _).alloc _).drew).trans hf
  have hW : RxMem w1 L x := h.no hff
  have g0 := hW.c0
  have gl := hW.lt
  have gr := hW.hr.1
  obtain ⟨-, hb1, hb2⟩ := vertex_rank HV.out
  have gu := hW.rk u.toNat (by omega)
  have gv := hW.rk v.toNat (by omega)
  have ge := hW.rk e2.toNat (by omega)
  have HF := hid hff
  have HW := hid hW
  clear hf hff hW
  go_wp2
  go_quiet ((go_at_call 54; exact Calls.quiet_of_same ((rvertex_calls (HW.out.drewN _) _).mono fun e w' he => ⟨he.1.trans (by rw [HV.out]), he.2.symm⟩)))
  go_wp2
  go_ret
  exact ⟨ret_bool (by first | exact hD | rfl | simpa using hD), HF.out.drewN _⟩

set_option maxHeartbeats 1000000 in
theorem rfits_b1 {w : World} {L : RxLoc} {x : Ix} (h : RxMem w L x) (u v : Int) (hu0 : 0 ≤ u) (hu1 : u < x.n) (hv0 : 0 ≤ v) (hv1 : v < x.n) (e0 e1 e2 : Int) (d : Bool) (hE : eq3 e0 e1 e2 4611686018427387906 (-1) (-1) = false) (h1 : 1 ≤ e0) (h2 : e0 ≤ 4611686018427387905) (h3 : 63 < e1) (hA : (e1 == -1) = false) :
    Calls Tryd.prog 73 #[.pointer (some ⟨L.b, 0, none⟩), .int .i64 u, .int .i64 v, .agg #[.int .i64 e0, .int .i64 e1, .int .i64 e2]] w fun r w' => r = .returned (.bool false) ∧ Fr No w w' := by
  have HE := hid hE
  clear hE
  go_enter Tryd.func73, Tryd.ntmps73
  go_wp2_with fail
  go_region_held3 (fun w' => w'.cell? ⟨w.heap.size, 0, none⟩ = some (.int .i64 e0) ∧ w'.cell? ⟨w.heap.size, 1, none⟩ = some (.int .i64 e1) ∧ w'.cell? ⟨w.heap.size, 2, none⟩ = some (.int .i64 e2)) (go_keep)
    (first | (go_at_call 33; refine (rnone_calls _).mono ?_; rintro e w1 ⟨rfl, hf⟩; obtain ⟨o1, o2, o3, o4⟩ := own_no hf w.heap.size (heap_newN _ _ 1); simp only [En.val, En.none]))
  rw [HE.out]
  have hff := (((Fr.refl No _).alloc _).drew).trans hf
  have hW : RxMem w1 L x := h.no hff
  have g0 := hW.c0
  have gl := hW.lt
  have gr := hW.hr.1
  have HF := hid hff
  have HW := hid hW
  clear hf hff hW
  go_wp2
  go_quiet (fail)
  go_wp2
  go_ret
  exact ⟨rfl, HF.out.drewN _⟩

set_option maxHeartbeats 1000000 in
theorem rfits_c1 {w : World} {L : RxLoc} {x : Ix} (h : RxMem w L x) (u v : Int) (hu0 : 0 ≤ u) (hu1 : u < x.n) (hv0 : 0 ≤ v) (hv1 : v < x.n) (e0 e1 e2 : Int) (d : Bool) (hE : eq3 e0 e1 e2 4611686018427387906 (-1) (-1) = false) (h1 : 1 ≤ e0) (h2 : e0 ≤ 4611686018427387905) (h3 : 0 ≤ e1) (h4 : e1 ≤ 63) (h5 : (e2 == -1) = false) (hA : (e1 == -1) = false) :
    Calls Tryd.prog 73 #[.pointer (some ⟨L.b, 0, none⟩), .int .i64 u, .int .i64 v, .agg #[.int .i64 e0, .int .i64 e1, .int .i64 e2]] w fun r w' => r = .returned (.bool false) ∧ Fr No w w' := by
  have HE := hid hE
  clear hE
  go_enter Tryd.func73, Tryd.ntmps73
  go_wp2_with fail
  go_region_held3 (fun w' => w'.cell? ⟨w.heap.size, 0, none⟩ = some (.int .i64 e0) ∧ w'.cell? ⟨w.heap.size, 1, none⟩ = some (.int .i64 e1) ∧ w'.cell? ⟨w.heap.size, 2, none⟩ = some (.int .i64 e2)) (go_keep)
    (first | (go_at_call 33; refine (rnone_calls _).mono ?_; rintro e w1 ⟨rfl, hf⟩; obtain ⟨o1, o2, o3, o4⟩ := own_no hf w.heap.size (heap_newN _ _ 1); simp only [En.val, En.none]))
  rw [HE.out]
  have hff := (((Fr.refl No _).alloc _).drew).trans hf
  have hW : RxMem w1 L x := h.no hff
  have g0 := hW.c0
  have gl := hW.lt
  have gr := hW.hr.1
  have HF := hid hff
  have HW := hid hW
  clear hf hff hW
  go_wp2
  go_quiet (fail)
  go_wp2
  go_ret
  exact ⟨rfl, HF.out.drewN _⟩

end Go.Proofs.YtlncmnphjdeeoaaDoor
