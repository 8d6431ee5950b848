/- dist.Norm, dist.Add at two numbers; walked. -/

import Derived.Test.YtoepbhacpidcbaaGreatDoorQBase
import Derived.Test.YtoepbhacpidcbaaGreatDoorQIdx
import Derived.Test.YtoepbhacpidcbaaGreatDoorQPerm
import Derived.Test.YtoepbhacpidcbaaGreatDoorQIdxB
import Derived.Test.YtoepbhacpidcbaaGreatDoorQRef
import Derived.Test.YtoepbhacpidcbaaGreatDoorQUnref
import Derived.Test.YtoepbhacpidcbaaGreatDoorQItr
import Derived.Test.YtoepbhacpidcbaaGreatDoorQUnE

set_option linter.unusedVariables false
set_option linter.unusedSimpArgs false
namespace Go.Proofs.YtoepbhacpidcbaaGreatDoor
open Go.RowKit Go.Deep

def normI (x : Int) : Int := if x < 0 then 0 else if 4611686018427387906 < x then 4611686018427387906 else x
def add1 (s x : Int) : Int :=
  if s = 4611686018427387906 ∨ normI x = 4611686018427387906 then 4611686018427387906 else if 4611686018427387904 < s ∨ 4611686018427387904 - s < normI x then 4611686018427387905 else s + normI x
theorem normI_b (x : Int) : 0 ≤ normI x ∧ normI x ≤ 4611686018427387906 := by unfold normI; split <;> (try split) <;> omega
theorem add1_b {s : Int} (h : 0 ≤ s ∧ s ≤ 4611686018427387906) (x : Int) : 0 ≤ add1 s x ∧ add1 s x ≤ 4611686018427387906 := by
  have := normI_b x
  unfold add1
  split
  · omega
  · split <;> omega

set_option maxRecDepth 100000 in
set_option maxHeartbeats 1000000 in
theorem norm_calls (x : Int) (w : World) : Calls Tryz.prog 190 #[.int .i64 x] w fun e w' => e = .returned (.int .i64 (normI x)) ∧ Fr No w w' := by
  rcases (show x < 0 ∨ (0 ≤ x ∧ 4611686018427387906 < x) ∨ (0 ≤ x ∧ x ≤ 4611686018427387906) by omega) with h | h | h
  · have e : normI x = 0 := by unfold normI; rw [if_pos h]
    have h2 := h
    go_enter Tryz.func190, Tryz.ntmps190
    go_wp2
    all_goals (try (exfalso; split at * <;> omega))
    all_goals go_ret
    all_goals exact ⟨ret_int (by rw [e]), Fr.refl _ _⟩
  · have e : normI x = 4611686018427387906 := by unfold normI; rw [if_neg (by omega), if_pos h.2]
    obtain ⟨h1, h2⟩ := h
    go_enter Tryz.func190, Tryz.ntmps190
    go_wp2
    all_goals (try (exfalso; split at * <;> omega))
    all_goals go_ret
    all_goals exact ⟨ret_int (by rw [e]), Fr.refl _ _⟩
  · have e : normI x = x := by unfold normI; rw [if_neg (by omega), if_neg (by omega)]
    obtain ⟨h1, h2⟩ := h
    go_enter Tryz.func190, Tryz.ntmps190
    go_wp2
    all_goals (try (exfalso; split at * <;> omega))
    all_goals go_ret
    all_goals exact ⟨ret_int (by rw [e]), Fr.refl _ _⟩

set_option maxRecDepth 100000 in
set_option maxHeartbeats 2000000 in
theorem add1_calls (s x : Int) (hs : 0 ≤ s ∧ s ≤ 4611686018427387906) (w : World) : Calls Tryz.prog 189 #[.int .i64 s, .int .i64 x] w fun e w' => e = .returned (.int .i64 (add1 s x)) ∧ Fr No w w' := by
  have hb := normI_b x
  obtain ⟨y, hy⟩ : ∃ y, normI x = y := ⟨_, rfl⟩
  have HY := hid hy
  have hadd : add1 s x = if s = 4611686018427387906 ∨ y = 4611686018427387906 then 4611686018427387906 else if 4611686018427387904 < s ∨ 4611686018427387904 - s < y then 4611686018427387905 else s + y := by rw [add1, hy]
  have HADD := hid hadd
  rw [hy] at hb
  clear hadd hy
  by_cases c1 : s = 4611686018427387906
  · subst c1
    go_enter Tryz.func189, Tryz.ntmps189
    go_wp2_with (go_at_call 190; refine (norm_calls x _).mono ?_; rintro e w1 ⟨rfl, hf⟩; rw [HY.out])
    go_ret
    exact ⟨by rw [HADD.out]; simp, hf⟩
  · have d1 : (s == 4611686018427387906) = false := by simpa using c1
    by_cases c2 : y = 4611686018427387906
    · subst c2
      go_enter Tryz.func189, Tryz.ntmps189
      go_wp2_with (go_at_call 190; refine (norm_calls x _).mono ?_; rintro e w1 ⟨rfl, hf⟩; rw [HY.out])
      all_goals go_ret
      all_goals exact ⟨by rw [HADD.out]; simp, hf⟩
    · have d2 : (y == 4611686018427387906) = false := by simpa using c2
      by_cases c3 : 4611686018427387904 < s
      · go_enter Tryz.func189, Tryz.ntmps189
        go_wp2_with (go_at_call 190; refine (norm_calls x _).mono ?_; rintro e w1 ⟨rfl, hf⟩; rw [HY.out])
        all_goals go_ret
        all_goals exact ⟨ret_int (by rw [HADD.out, if_neg (by omega), if_pos (.inl c3)]), hf⟩
      · by_cases c4 : 4611686018427387904 - s < y
        · go_enter Tryz.func189, Tryz.ntmps189
          go_wp2_with (go_at_call 190; refine (norm_calls x _).mono ?_; rintro e w1 ⟨rfl, hf⟩; rw [HY.out])
          all_goals go_ret
          all_goals exact ⟨ret_int (by rw [HADD.out, if_neg (by omega), if_pos (.inr c4)]), hf⟩
        · go_enter Tryz.func189, Tryz.ntmps189
          go_wp2_with (go_at_call 190; refine (norm_calls x _).mono ?_; rintro e w1 ⟨rfl, hf⟩; rw [HY.out])
          all_goals go_ret
          all_goals exact ⟨ret_int (by rw [HADD.out, if_neg (by omega), if_neg (by omega)]), hf⟩

end Go.Proofs.YtoepbhacpidcbaaGreatDoor

/- dist.Add at a row of numbers; the index's 'Best'; walked. -/
set_option linter.unusedVariables false
set_option linter.unusedSimpArgs false
namespace Go.Proofs.YtoepbhacpidcbaaGreatDoor
open Go.RowKit Go.Deep

def accF (f : Nat → Int) : Nat → Int
  | 0 => 0
  | i + 1 => add1 (accF f i) (f i)
theorem accF_b (f : Nat → Int) : ∀ i, 0 ≤ accF f i ∧ accF f i ≤ 4611686018427387906 := by
  intro i
  induction i with
  | zero => simp [accF]
  | succ i ih => exact add1_b ih _

set_option maxRecDepth 100000 in
set_option maxHeartbeats 2000000 in
theorem fold_calls {w : World} {A : Option Addr} {n c : Nat} {f : Nat → Int} (h : IntsF w A n f) (hn : n ≤ 140737488351232) :
    Calls Tryz.prog 188 #[.slice A n c, .int .i64 0, .func (.func 189) #[] #[]] w fun e w' => e = .returned (.int .i64 (accF f n)) ∧ Fr No w w' := by
  have H := hid h
  clear h
  go_enter Tryz.func188, Tryz.ntmps188
  go_wp2
  go_loopg [1, 11] n (fun g p q wr => ∃ i : Nat, p = .int .i64 (accF f i) ∧ q = .int .i64 i ∧ i ≤ n ∧ g = n - i ∧ Fr No w wr)
  case atStart => exact ⟨0, rfl, rfl, Nat.zero_le _, rfl, Fr.refl _ _⟩
  case round =>
    obtain ⟨i, rfl, rfl, hi, hg, hf⟩ := hrel
    have HG := hid hg
    have HF := hid hf
    clear hg hf
    by_cases hlt : i < n
    · obtain ⟨b, off, rfl, hc⟩ := H.out (by omega)
      have q0 := HF.out.cell_some (hc i hlt) (fun h => h)
      have HC := hid hc
      have hlt2 : (i : Int) < n := by omega
      have hb := accF_b f i
      clear hc
      go_wp2_with (go_at_call 189; refine (add1_calls (accF f i) (f i) hb _).mono ?_; rintro e w1 ⟨rfl, hf1⟩)
      go_roundg (n - (i + 1))
      case measure => have := HG.out; omega
      case rel => exact ⟨i + 1, rfl, by go_num, hlt, rfl, HF.out.trans hf1⟩
    · have e : i = n := by omega
      subst e
      go_wp2
      go_ret
      exact ⟨rfl, HF.out⟩

set_option maxRecDepth 100000 in
set_option maxHeartbeats 1000000 in
theorem add_calls {w : World} {A : Option Addr} {n c : Nat} {f : Nat → Int} (h : IntsF w A n f) (hn : n ≤ 140737488351232) :
    Calls Tryz.prog 133 #[.slice A n c] w fun e w' => e = .returned (.int .i64 (accF f n)) ∧ Fr No w w' := by
  have H := hid h
  clear h
  go_enter Tryz.func133, Tryz.ntmps133
  go_wp2_with (go_at_call 188; refine (fold_calls H.out hn).mono ?_; rintro e w1 ⟨rfl, hf1⟩)
  go_ret
  exact ⟨rfl, hf1⟩

theorem run_field0 (a b c : Int) (w : World) : (Instr.field 117 (.agg #[.int .i64 a, .int .i64 b, .int .i64 c]) 0).run Tryz.prog w = .ok (.int .i64 a) w := by kernel_rfl
attribute [local go_sem high] run_field0

/-- The best entry by way of one of the first k vertices, by rank. -/
def Ix.sum2 (x : Ix) (u v : Int) (k : Nat) : Int := add1 (add1 0 (x.at_ u (x.by_ k : Nat)).w) (x.at_ (x.by_ k : Nat) v).w
def Ix.bestTo (x : Ix) (u v : Int) (b : En) : Nat → En
  | 0 => b
  | k + 1 => if x.sum2 u v k < (x.bestTo u v b k).w then ⟨x.sum2 u v k, -1, (x.by_ k : Nat)⟩ else x.bestTo u v b k
def Ix.best (x : Ix) (u v : Int) (d : Int × Int) : En :=
  if x.two u v = true then x.bestTo u v (if 0 ≤ d.2 then ⟨d.1, d.2, -1⟩ else En.none) (min (x.rk u.toNat) (x.rk v.toNat)) else En.none

set_option maxRecDepth 100000 in
set_option maxHeartbeats 2000000 in
theorem best_no {x : Ix} {w : World} {L : IxLoc} (h : IxMem w L x) (gb : Nat) (u v : Int) (ht : x.two u v = false) :
    Calls Tryz.prog 92 #[.pointer (some ⟨L.b, 0, none⟩), .pointer (some ⟨gb, 0, none⟩), .int .i64 u, .int .i64 v] w fun e w' => e = .returned En.none.val ∧ Fr No w w' := by
  have g0 := h.gn.c0
  have g1 := h.gn.c1
  have g2 := h.gn.c2
  have gl := h.gn.lt
  have kl := h.lt
  have HT := hid ht
  clear ht
  go_enter Tryz.func92, Tryz.ntmps92
  go_wp2_with (go_at_call 116; refine (two_calls (h.alloc _) _ _).mono ?_; rintro e w' ⟨rfl, rfl⟩; rw [HT.out])
  have q := cell_of (heap_new w (Obj.cells #[.int .i64 4611686018427387906, .int .i64 (-1), .int .i64 (-1)] 117))
  exact bodyPost_ret (v := En.none.val) (by simp [results, Tryz.results92, go_sem, q 0, q 1, q 2, En.val, En.none]) rfl ⟨rfl, (Fr.refl _ _).alloc _⟩

theorem OutAt.fr {w w' : World} {b : Nat} {v : Int} {zs : List Id64} (h : OutAt w.heap.size w b v zs) (hf : Fr No w w') : OutAt w'.heap.size w' b v zs := by
  obtain ⟨h1, h2, A, nv, cv, h3, h4, h5⟩ := OutAt.below h hf.below
  have hs := hf.size
  refine ⟨by omega, h2, A, nv, cv, h3, h4, ?_⟩
  rcases h5 with h5 | ⟨ba, k, cap, S, rfl, e, hk, hba, hc, hI⟩
  · exact .inl h5
  · refine .inr ⟨ba, k, cap, S, rfl, e, hk, by omega, hc, ?_⟩
    rcases hI with hI | ⟨b', o', c', e', hb', hc'⟩
    · exact .inl hI
    · exact .inr ⟨b', o', c', e', by omega, hc'⟩
theorem ArcsAt.fr {w w' : World} {b : Nat} {arc : Nat → Arc4} (h : ArcsAt w b arc) (hf : Fr No w w') : ArcsAt w' b arc := fun i hi =>
  ⟨hf.cell_some (h i hi).1 (fun h => h), hf.cell_some (h i hi).2.1 (fun h => h), hf.cell_some (h i hi).2.2.1 (fun h => h), hf.cell_some (h i hi).2.2.2 (fun h => h)⟩

set_option maxRecDepth 100000 in
set_option maxHeartbeats 4000000 in
theorem best_yes {x : Ix} {w : World} {L : IxLoc} (h : IxMem w L x) (hcap : x.n ≤ L.cb) {gb : Nat} {u v : Nat} {zs : List Id64} {arc : Nat → Arc4} (ht : x.two u v = true) (ho : OutAt w.heap.size w gb u zs) (ha : ArcsAt w gb arc) :
    Calls Tryz.prog 92 #[.pointer (some ⟨L.b, 0, none⟩), .pointer (some ⟨gb, 0, none⟩), .int .i64 (u : Nat), .int .i64 (v : Nat)] w fun e w' => e = .returned (x.bestTo u v (if 0 ≤ (bestOf arc v zs).2 then ⟨(bestOf arc v zs).1, (bestOf arc v zs).2, -1⟩ else En.none) (min (x.rk u) (x.rk v))).val ∧ Fr No w w' := by
  have g0 := h.gn.c0
  have g1 := h.gn.c1
  have g2 := h.gn.c2
  have gl := h.gn.lt
  have kl := h.lt
  have HT := hid ht
  have HO := hid ho
  have HA := hid ha
  have HI := hid h
  obtain ⟨d, hd⟩ : ∃ d, bestOf arc v zs = d := ⟨_, rfl⟩
  have HD := hid hd
  rw [hd]
  obtain ⟨T, hTT⟩ : ∃ T, x.bestTo u v (if 0 ≤ d.2 then ⟨d.1, d.2, -1⟩ else En.none) (min (x.rk u) (x.rk v)) = T := ⟨_, rfl⟩
  rw [hTT]
  have HTT := hid hTT
  clear ht ho ha hd hTT
  go_enter Tryz.func92, Tryz.ntmps92
  go_wp2_with (go_at_call 116; refine (two_calls (h.alloc _) _ _).mono ?_; rintro e w' ⟨rfl, rfl⟩; rw [HT.out])
  have f1 : Fr No w ((w.alloc (Obj.cells #[.int .i64 0, .int .i64 0, .int .i64 0] 117)).alloc (Obj.cells #[.int .i64 4611686018427387906, .int .i64 (-1), .int .i64 (-1)] 117)) := ((Fr.refl No w).alloc _).alloc _
  refine (gbest_calls (OutAt.fr HO.out f1) (ArcsAt.fr HA.out f1)).mono ?_
  rintro e w1 ⟨rfl, hf1⟩
  rw [HD.out]
  obtain ⟨d1, d2⟩ := d
  have f2 := f1.trans hf1
  have O8 := hid (own_no hf1 w.heap.size (heap_alloc2 w _ _)).2.2.2
  have O9 := hid (own_no hf1 (w.heap.size + 1) (heap_alloc2' w _ _)).2.2.2
  have F2 := hid f2
  have hsz : w.heap.size + 1 < w1.heap.size := (own_no hf1 (w.heap.size + 1) (heap_alloc2' w _ _)).2.2.1
  clear hf1 f1 f2 HD g0 g1 g2
  by_cases hd : 0 ≤ d2
  · have q9 := cell_of O9.out
    have z9 := (own_no (Fr.refl No w1) (w.heap.size + 1) O9.out).2.1
    have y0 := q9 0
    have y1 := q9 1
    have y2 := q9 2
    clear q9
    go_wp2
    clear y0 y1 y2 z9
    have N9 := set3 O9.out (.int .i64 d1) (.int .i64 d2) (.int .i64 (-1))
    have N8 := (Below.heap_setCell _ ⟨w.heap.size + 1, 2, none⟩ (.int .i64 (-1)) w.heap.size (by show w.heap.size ≠ w.heap.size + 1; omega)).trans ((Below.heap_setCell _ ⟨w.heap.size + 1, 1, none⟩ (.int .i64 d2) w.heap.size (by show w.heap.size ≠ w.heap.size + 1; omega)).trans ((Below.heap_setCell w1 ⟨w.heap.size + 1, 0, none⟩ (.int .i64 d1) w.heap.size (by show w.heap.size ≠ w.heap.size + 1; omega)).trans O8.out))
    have NF := ((F2.out.setCell (p := ⟨w.heap.size + 1, 0, none⟩) (.inr (by show w.heap.size ≤ w.heap.size + 1; omega)) (.int .i64 d1)).setCell (p := ⟨w.heap.size + 1, 1, none⟩) (.inr (by show w.heap.size ≤ w.heap.size + 1; omega)) (.int .i64 d2)).setCell (p := ⟨w.heap.size + 1, 2, none⟩) (.inr (by show w.heap.size ≤ w.heap.size + 1; omega)) (.int .i64 (-1))
    obtain ⟨W2, hW2⟩ : ∃ W2, ((w1.setCell ⟨w.heap.size + 1, 0, none⟩ (.int .i64 d1)).setCell ⟨w.heap.size + 1, 1, none⟩ (.int .i64 d2)).setCell ⟨w.heap.size + 1, 2, none⟩ (.int .i64 (-1)) = W2 := ⟨_, rfl⟩
    rw [hW2]
    rw [hW2] at N8 N9 NF
    have HN8 := hid N8
    have HN9 := hid N9
    have HNF := hid NF
    have hI2 := HI.out.no NF
    obtain ⟨hne, hu0, hu1, hv0, hv1⟩ := two_iff HT.out
    have c0 := hI2.c0
    have c1 := hI2.c1
    have r1 := hI2.rk u (by omega)
    have r2 := hI2.rk v (by omega)
    have hru := (h.ok.rk u (by omega)).1
    have hrv := (h.ok.rk v (by omega)).1
    have hu2 : u < x.n := by omega
    have hv2 : v < x.n := by omega
    have hnn := h.ok.n2
    clear N8 N9 NF hI2 hW2 O8 O9 F2
    rcases Nat.lt_or_ge (x.rk v) (x.rk u) with hC | hC
    · go_quiet (fail)
      go_wp2
      clear c0 c1 r1 r2
      go_loopg [55] (x.rk v) (fun g p wr => ∃ (k : Nat) (e0 e1 e2 : Int), p = .int .i64 k ∧ k ≤ (x.rk v) ∧ g = (x.rk v) - k ∧ Fr No w wr ∧ wr.heap[w.heap.size]? = some (.cells #[.int .i64 0, .int .i64 0, .int .i64 0] 117) ∧
        x.bestTo u v ⟨d1, d2, -1⟩ k = ⟨e0, e1, e2⟩ ∧ wr.heap[w.heap.size + 1]? = some (.cells #[.int .i64 e0, .int .i64 e1, .int .i64 e2] 117))
      case atStart => exact ⟨0, _, _, _, rfl, Nat.zero_le _, rfl, HNF.out.drewN _, HN8.out, rfl, HN9.out⟩
      case round =>
        clear HN8 HN9 HNF
        obtain ⟨k, e0, e1, e2, rfl, hk, hg, hf, h8, hbt, h9⟩ := hrel
        have HG := hid hg
        have HF := hid hf
        have H8 := hid h8
        have H9 := hid h9
        have HBT := hid hbt
        clear hg hf h8 h9 hbt
        by_cases hlt : k < (x.rk v)
        · have q1 := (h.no HF.out).by_ k (by omega)
          have hk2 : (k : Int) < ((x.rk v) : Nat) := by omega
          go_wp2_with fail
          clear q1 hk2
          refine (at_calls (h.no HF.out) (u : Nat) (x.by_ k : Nat)).mono ?_
          rintro e w3 ⟨rfl, hf3⟩
          obtain ⟨p0, hp0⟩ : ∃ y, x.at_ (u : Nat) (x.by_ k : Nat) = y := ⟨_, rfl⟩
          rw [hp0]
          obtain ⟨a0, a1, a2⟩ := p0
          simp only [En.val]
          have HP0 := hid hp0
          have HF3 := hid (HF.out.trans hf3)
          have K8 := hid (own_no hf3 w.heap.size H8.out).2.2.2
          have K9 := hid (own_no hf3 (w.heap.size + 1) H9.out).2.2.2
          clear hf3 hp0 H8 H9 HF
          go_wp2_with fail
          refine (at_calls (h.no HF3.out) (x.by_ k : Nat) (v : Nat)).mono ?_
          rintro e w4 ⟨rfl, hf4⟩
          obtain ⟨p1, hp1⟩ : ∃ y, x.at_ (x.by_ k : Nat) (v : Nat) = y := ⟨_, rfl⟩
          rw [hp1]
          obtain ⟨b0, b1, b2⟩ := p1
          simp only [En.val]
          have HP1 := hid hp1
          have HF4 := hid (HF3.out.trans hf4)
          have K8' := hid (own_no hf4 w.heap.size K8.out).2.2.2
          have K9' := hid (own_no hf4 (w.heap.size + 1) K9.out).2.2.2
          clear hf4 hp1 K8 K9 HF3
          go_wp2_with fail
          have fa : Fr No w4 (w4.alloc (Obj.cells #[.int .i64 a0, .int .i64 b0] 3)) := (Fr.refl _ _).alloc _
          refine (add_calls (A := some ⟨w4.heap.size, 0, none⟩) (n := 2) (c := 2) (f := fun j => [a0, b0].getD j 0) (lit_ints 2 _ (by intro j hj; (have : j = 0 ∨ j = 1 := by omega); rcases this with rfl | rfl <;> rfl)) (by decide)).mono ?_
          rintro e w5 ⟨rfl, hf5⟩
          have hs : accF (fun j => [a0, b0].getD j 0) 2 = x.sum2 u v k := by rw [Ix.sum2, HP0.out, HP1.out]; rfl
          rw [hs]
          obtain ⟨sm, hsm⟩ : ∃ y, x.sum2 u v k = y := ⟨_, rfl⟩
          rw [hsm]
          have HSM := hid hsm
          have HF5 := hid (HF4.out.trans (fa.trans hf5))
          have L8 := hid (own_no (fa.trans hf5) w.heap.size K8'.out).2.2.2
          have L9 := hid (own_no (fa.trans hf5) (w.heap.size + 1) K9'.out).2.2.2
          have q9 := cell_of L9.out
          have z9 := (own_no (Fr.refl No w5) (w.heap.size + 1) L9.out).2.1
          have y0 := q9 0
          have y1 := q9 1
          have y2 := q9 2
          have hl9 : w.heap.size + 1 < w5.heap.size := some_lt L9.out
          clear hf5 fa hs hsm K8' K9' HF4 q9
          by_cases hcmp : sm < e0
          · go_wp2
            go_roundg ((x.rk v) - (k + 1))
            case measure => have := HG.out; omega
            case rel =>
              refine ⟨k + 1, sm, -1, (x.by_ k : Nat), by go_num, hlt, rfl, ((HF5.out.setCell (p := ⟨w.heap.size + 1, 0, none⟩) (.inr (by show w.heap.size ≤ w.heap.size + 1; omega)) _).setCell (p := ⟨w.heap.size + 1, 1, none⟩) (.inr (by show w.heap.size ≤ w.heap.size + 1; omega)) _).setCell (p := ⟨w.heap.size + 1, 2, none⟩) (.inr (by show w.heap.size ≤ w.heap.size + 1; omega)) _, ?_, ?_, set3 L9.out _ _ _⟩
              · exact (Below.heap_setCell _ ⟨w.heap.size + 1, 2, none⟩ _ w.heap.size (by show w.heap.size ≠ w.heap.size + 1; omega)).trans ((Below.heap_setCell _ ⟨w.heap.size + 1, 1, none⟩ _ w.heap.size (by show w.heap.size ≠ w.heap.size + 1; omega)).trans ((Below.heap_setCell _ ⟨w.heap.size + 1, 0, none⟩ _ w.heap.size (by show w.heap.size ≠ w.heap.size + 1; omega)).trans L8.out))
              · rw [Ix.bestTo, HBT.out, HSM.out, if_pos (show sm < (⟨e0, e1, e2⟩ : En).w by show sm < e0; omega)]
          · go_wp2
            go_roundg ((x.rk v) - (k + 1))
            case measure => have := HG.out; omega
            case rel => exact ⟨k + 1, e0, e1, e2, by go_num, hlt, rfl, HF5.out, L8.out, by rw [Ix.bestTo, HBT.out, HSM.out, if_neg (show ¬ sm < (⟨e0, e1, e2⟩ : En).w by show ¬ sm < e0; omega)], L9.out⟩
        · have e : k = (x.rk v) := by omega
          have q8 := cell_of H8.out
          have z8 := (own_no (Fr.refl No wr) w.heap.size H8.out).2.1
          have q9 := cell_of H9.out
          have y0 := q9 0
          have y1 := q9 1
          have y2 := q9 2
          have x0 := q8 0
          have x1 := q8 1
          have x2 := q8 2
          clear q9 q8
          have hk2 : ¬ ((k : Int) < ((x.rk v) : Nat)) := by omega
          go_wp2
          have q := cell_of (set3 H8.out (.int .i64 e0) (.int .i64 e1) (.int .i64 e2))
          refine bodyPost_ret (v := (⟨e0, e1, e2⟩ : En).val) (by simp [results, Tryz.results92, go_sem, q 0, q 1, q 2, En.val]) rfl ⟨?_, ((HF.out.setCell (p := ⟨w.heap.size, 0, none⟩) (.inr (Nat.le_refl _)) _).setCell (p := ⟨w.heap.size, 1, none⟩) (.inr (Nat.le_refl _)) _).setCell (p := ⟨w.heap.size, 2, none⟩) (.inr (Nat.le_refl _)) _⟩
          rw [← HTT.out, show min (x.rk u) (x.rk v) = x.rk v by omega, ← e, if_pos (show 0 ≤ (d1, d2).2 by show 0 ≤ d2; omega), HBT.out]
    · go_quiet (fail)
      go_wp2
      clear c0 c1 r1 r2
      go_loopg [55] (x.rk u) (fun g p wr => ∃ (k : Nat) (e0 e1 e2 : Int), p = .int .i64 k ∧ k ≤ (x.rk u) ∧ g = (x.rk u) - k ∧ Fr No w wr ∧ wr.heap[w.heap.size]? = some (.cells #[.int .i64 0, .int .i64 0, .int .i64 0] 117) ∧
        x.bestTo u v ⟨d1, d2, -1⟩ k = ⟨e0, e1, e2⟩ ∧ wr.heap[w.heap.size + 1]? = some (.cells #[.int .i64 e0, .int .i64 e1, .int .i64 e2] 117))
      case atStart => exact ⟨0, _, _, _, rfl, Nat.zero_le _, rfl, HNF.out.drewN _, HN8.out, rfl, HN9.out⟩
      case round =>
        clear HN8 HN9 HNF
        obtain ⟨k, e0, e1, e2, rfl, hk, hg, hf, h8, hbt, h9⟩ := hrel
        have HG := hid hg
        have HF := hid hf
        have H8 := hid h8
        have H9 := hid h9
        have HBT := hid hbt
        clear hg hf h8 h9 hbt
        by_cases hlt : k < (x.rk u)
        · have q1 := (h.no HF.out).by_ k (by omega)
          have hk2 : (k : Int) < ((x.rk u) : Nat) := by omega
          go_wp2_with fail
          clear q1 hk2
          refine (at_calls (h.no HF.out) (u : Nat) (x.by_ k : Nat)).mono ?_
          rintro e w3 ⟨rfl, hf3⟩
          obtain ⟨p0, hp0⟩ : ∃ y, x.at_ (u : Nat) (x.by_ k : Nat) = y := ⟨_, rfl⟩
          rw [hp0]
          obtain ⟨a0, a1, a2⟩ := p0
          simp only [En.val]
          have HP0 := hid hp0
          have HF3 := hid (HF.out.trans hf3)
          have K8 := hid (own_no hf3 w.heap.size H8.out).2.2.2
          have K9 := hid (own_no hf3 (w.heap.size + 1) H9.out).2.2.2
          clear hf3 hp0 H8 H9 HF
          go_wp2_with fail
          refine (at_calls (h.no HF3.out) (x.by_ k : Nat) (v : Nat)).mono ?_
          rintro e w4 ⟨rfl, hf4⟩
          obtain ⟨p1, hp1⟩ : ∃ y, x.at_ (x.by_ k : Nat) (v : Nat) = y := ⟨_, rfl⟩
          rw [hp1]
          obtain ⟨b0, b1, b2⟩ := p1
          simp only [En.val]
          have HP1 := hid hp1
          have HF4 := hid (HF3.out.trans hf4)
          have K8' := hid (own_no hf4 w.heap.size K8.out).2.2.2
          have K9' := hid (own_no hf4 (w.heap.size + 1) K9.out).2.2.2
          clear hf4 hp1 K8 K9 HF3
          go_wp2_with fail
          have fa : Fr No w4 (w4.alloc (Obj.cells #[.int .i64 a0, .int .i64 b0] 3)) := (Fr.refl _ _).alloc _
          refine (add_calls (A := some ⟨w4.heap.size, 0, none⟩) (n := 2) (c := 2) (f := fun j => [a0, b0].getD j 0) (lit_ints 2 _ (by intro j hj; (have : j = 0 ∨ j = 1 := by omega); rcases this with rfl | rfl <;> rfl)) (by decide)).mono ?_
          rintro e w5 ⟨rfl, hf5⟩
          have hs : accF (fun j => [a0, b0].getD j 0) 2 = x.sum2 u v k := by rw [Ix.sum2, HP0.out, HP1.out]; rfl
          rw [hs]
          obtain ⟨sm, hsm⟩ : ∃ y, x.sum2 u v k = y := ⟨_, rfl⟩
          rw [hsm]
          have HSM := hid hsm
          have HF5 := hid (HF4.out.trans (fa.trans hf5))
          have L8 := hid (own_no (fa.trans hf5) w.heap.size K8'.out).2.2.2
          have L9 := hid (own_no (fa.trans hf5) (w.heap.size + 1) K9'.out).2.2.2
          have q9 := cell_of L9.out
          have z9 := (own_no (Fr.refl No w5) (w.heap.size + 1) L9.out).2.1
          have y0 := q9 0
          have y1 := q9 1
          have y2 := q9 2
          have hl9 : w.heap.size + 1 < w5.heap.size := some_lt L9.out
          clear hf5 fa hs hsm K8' K9' HF4 q9
          by_cases hcmp : sm < e0
          · go_wp2
            go_roundg ((x.rk u) - (k + 1))
            case measure => have := HG.out; omega
            case rel =>
              refine ⟨k + 1, sm, -1, (x.by_ k : Nat), by go_num, hlt, rfl, ((HF5.out.setCell (p := ⟨w.heap.size + 1, 0, none⟩) (.inr (by show w.heap.size ≤ w.heap.size + 1; omega)) _).setCell (p := ⟨w.heap.size + 1, 1, none⟩) (.inr (by show w.heap.size ≤ w.heap.size + 1; omega)) _).setCell (p := ⟨w.heap.size + 1, 2, none⟩) (.inr (by show w.heap.size ≤ w.heap.size + 1; omega)) _, ?_, ?_, set3 L9.out _ _ _⟩
              · exact (Below.heap_setCell _ ⟨w.heap.size + 1, 2, none⟩ _ w.heap.size (by show w.heap.size ≠ w.heap.size + 1; omega)).trans ((Below.heap_setCell _ ⟨w.heap.size + 1, 1, none⟩ _ w.heap.size (by show w.heap.size ≠ w.heap.size + 1; omega)).trans ((Below.heap_setCell _ ⟨w.heap.size + 1, 0, none⟩ _ w.heap.size (by show w.heap.size ≠ w.heap.size + 1; omega)).trans L8.out))
              · rw [Ix.bestTo, HBT.out, HSM.out, if_pos (show sm < (⟨e0, e1, e2⟩ : En).w by show sm < e0; omega)]
          · go_wp2
            go_roundg ((x.rk u) - (k + 1))
            case measure => have := HG.out; omega
            case rel => exact ⟨k + 1, e0, e1, e2, by go_num, hlt, rfl, HF5.out, L8.out, by rw [Ix.bestTo, HBT.out, HSM.out, if_neg (show ¬ sm < (⟨e0, e1, e2⟩ : En).w by show ¬ sm < e0; omega)], L9.out⟩
        · have e : k = (x.rk u) := by omega
          have q8 := cell_of H8.out
          have z8 := (own_no (Fr.refl No wr) w.heap.size H8.out).2.1
          have q9 := cell_of H9.out
          have y0 := q9 0
          have y1 := q9 1
          have y2 := q9 2
          have x0 := q8 0
          have x1 := q8 1
          have x2 := q8 2
          clear q9 q8
          have hk2 : ¬ ((k : Int) < ((x.rk u) : Nat)) := by omega
          go_wp2
          have q := cell_of (set3 H8.out (.int .i64 e0) (.int .i64 e1) (.int .i64 e2))
          refine bodyPost_ret (v := (⟨e0, e1, e2⟩ : En).val) (by simp [results, Tryz.results92, go_sem, q 0, q 1, q 2, En.val]) rfl ⟨?_, ((HF.out.setCell (p := ⟨w.heap.size, 0, none⟩) (.inr (Nat.le_refl _)) _).setCell (p := ⟨w.heap.size, 1, none⟩) (.inr (Nat.le_refl _)) _).setCell (p := ⟨w.heap.size, 2, none⟩) (.inr (Nat.le_refl _)) _⟩
          rw [← HTT.out, show min (x.rk u) (x.rk v) = x.rk u by omega, ← e, if_pos (show 0 ≤ (d1, d2).2 by show 0 ≤ d2; omega), HBT.out]
  · go_wp2
    have N9 := O9.out
    have N8 := O8.out
    have NF := F2.out
    obtain ⟨W2, hW2⟩ : ∃ W2, w1 = W2 := ⟨_, rfl⟩
    rw [hW2]
    rw [hW2] at N8 N9 NF
    have HN8 := hid N8
    have HN9 := hid N9
    have HNF := hid NF
    have hI2 := HI.out.no NF
    obtain ⟨hne, hu0, hu1, hv0, hv1⟩ := two_iff HT.out
    have c0 := hI2.c0
    have c1 := hI2.c1
    have r1 := hI2.rk u (by omega)
    have r2 := hI2.rk v (by omega)
    have hru := (h.ok.rk u (by omega)).1
    have hrv := (h.ok.rk v (by omega)).1
    have hu2 : u < x.n := by omega
    have hv2 : v < x.n := by omega
    have hnn := h.ok.n2
    clear N8 N9 NF hI2 hW2 O8 O9 F2
    rcases Nat.lt_or_ge (x.rk v) (x.rk u) with hC | hC
    · go_quiet (fail)
      go_wp2
      clear c0 c1 r1 r2
      go_loopg [55] (x.rk v) (fun g p wr => ∃ (k : Nat) (e0 e1 e2 : Int), p = .int .i64 k ∧ k ≤ (x.rk v) ∧ g = (x.rk v) - k ∧ Fr No w wr ∧ wr.heap[w.heap.size]? = some (.cells #[.int .i64 0, .int .i64 0, .int .i64 0] 117) ∧
        x.bestTo u v En.none k = ⟨e0, e1, e2⟩ ∧ wr.heap[w.heap.size + 1]? = some (.cells #[.int .i64 e0, .int .i64 e1, .int .i64 e2] 117))
      case atStart => exact ⟨0, _, _, _, rfl, Nat.zero_le _, rfl, HNF.out.drewN _, HN8.out, rfl, HN9.out⟩
      case round =>
        clear HN8 HN9 HNF
        obtain ⟨k, e0, e1, e2, rfl, hk, hg, hf, h8, hbt, h9⟩ := hrel
        have HG := hid hg
        have HF := hid hf
        have H8 := hid h8
        have H9 := hid h9
        have HBT := hid hbt
        clear hg hf h8 h9 hbt
        by_cases hlt : k < (x.rk v)
        · have q1 := (h.no HF.out).by_ k (by omega)
          have hk2 : (k : Int) < ((x.rk v) : Nat) := by omega
          go_wp2_with fail
          clear q1 hk2
          refine (at_calls (h.no HF.out) (u : Nat) (x.by_ k : Nat)).mono ?_
          rintro e w3 ⟨rfl, hf3⟩
          obtain ⟨p0, hp0⟩ : ∃ y, x.at_ (u : Nat) (x.by_ k : Nat) = y := ⟨_, rfl⟩
          rw [hp0]
          obtain ⟨a0, a1, a2⟩ := p0
          simp only [En.val]
          have HP0 := hid hp0
          have HF3 := hid (HF.out.trans hf3)
          have K8 := hid (own_no hf3 w.heap.size H8.out).2.2.2
          have K9 := hid (own_no hf3 (w.heap.size + 1) H9.out).2.2.2
          clear hf3 hp0 H8 H9 HF
          go_wp2_with fail
          refine (at_calls (h.no HF3.out) (x.by_ k : Nat) (v : Nat)).mono ?_
          rintro e w4 ⟨rfl, hf4⟩
          obtain ⟨p1, hp1⟩ : ∃ y, x.at_ (x.by_ k : Nat) (v : Nat) = y := ⟨_, rfl⟩
          rw [hp1]
          obtain ⟨b0, b1, b2⟩ := p1
          simp only [En.val]
          have HP1 := hid hp1
          have HF4 := hid (HF3.out.trans hf4)
          have K8' := hid (own_no hf4 w.heap.size K8.out).2.2.2
          have K9' := hid (own_no hf4 (w.heap.size + 1) K9.out).2.2.2
          clear hf4 hp1 K8 K9 HF3
          go_wp2_with fail
          have fa : Fr No w4 (w4.alloc (Obj.cells #[.int .i64 a0, .int .i64 b0] 3)) := (Fr.refl _ _).alloc _
          refine (add_calls (A := some ⟨w4.heap.size, 0, none⟩) (n := 2) (c := 2) (f := fun j => [a0, b0].getD j 0) (lit_ints 2 _ (by intro j hj; (have : j = 0 ∨ j = 1 := by omega); rcases this with rfl | rfl <;> rfl)) (by decide)).mono ?_
          rintro e w5 ⟨rfl, hf5⟩
          have hs : accF (fun j => [a0, b0].getD j 0) 2 = x.sum2 u v k := by rw [Ix.sum2, HP0.out, HP1.out]; rfl
          rw [hs]
          obtain ⟨sm, hsm⟩ : ∃ y, x.sum2 u v k = y := ⟨_, rfl⟩
          rw [hsm]
          have HSM := hid hsm
          have HF5 := hid (HF4.out.trans (fa.trans hf5))
          have L8 := hid (own_no (fa.trans hf5) w.heap.size K8'.out).2.2.2
          have L9 := hid (own_no (fa.trans hf5) (w.heap.size + 1) K9'.out).2.2.2
          have q9 := cell_of L9.out
          have z9 := (own_no (Fr.refl No w5) (w.heap.size + 1) L9.out).2.1
          have y0 := q9 0
          have y1 := q9 1
          have y2 := q9 2
          have hl9 : w.heap.size + 1 < w5.heap.size := some_lt L9.out
          clear hf5 fa hs hsm K8' K9' HF4 q9
          by_cases hcmp : sm < e0
          · go_wp2
            go_roundg ((x.rk v) - (k + 1))
            case measure => have := HG.out; omega
            case rel =>
              refine ⟨k + 1, sm, -1, (x.by_ k : Nat), by go_num, hlt, rfl, ((HF5.out.setCell (p := ⟨w.heap.size + 1, 0, none⟩) (.inr (by show w.heap.size ≤ w.heap.size + 1; omega)) _).setCell (p := ⟨w.heap.size + 1, 1, none⟩) (.inr (by show w.heap.size ≤ w.heap.size + 1; omega)) _).setCell (p := ⟨w.heap.size + 1, 2, none⟩) (.inr (by show w.heap.size ≤ w.heap.size + 1; omega)) _, ?_, ?_, set3 L9.out _ _ _⟩
              · exact (Below.heap_setCell _ ⟨w.heap.size + 1, 2, none⟩ _ w.heap.size (by show w.heap.size ≠ w.heap.size + 1; omega)).trans ((Below.heap_setCell _ ⟨w.heap.size + 1, 1, none⟩ _ w.heap.size (by show w.heap.size ≠ w.heap.size + 1; omega)).trans ((Below.heap_setCell _ ⟨w.heap.size + 1, 0, none⟩ _ w.heap.size (by show w.heap.size ≠ w.heap.size + 1; omega)).trans L8.out))
              · rw [Ix.bestTo, HBT.out, HSM.out, if_pos (show sm < (⟨e0, e1, e2⟩ : En).w by show sm < e0; omega)]
          · go_wp2
            go_roundg ((x.rk v) - (k + 1))
            case measure => have := HG.out; omega
            case rel => exact ⟨k + 1, e0, e1, e2, by go_num, hlt, rfl, HF5.out, L8.out, by rw [Ix.bestTo, HBT.out, HSM.out, if_neg (show ¬ sm < (⟨e0, e1, e2⟩ : En).w by show ¬ sm < e0; omega)], L9.out⟩
        · have e : k = (x.rk v) := by omega
          have q8 := cell_of H8.out
          have z8 := (own_no (Fr.refl No wr) w.heap.size H8.out).2.1
          have q9 := cell_of H9.out
          have y0 := q9 0
          have y1 := q9 1
          have y2 := q9 2
          have x0 := q8 0
          have x1 := q8 1
          have x2 := q8 2
          clear q9 q8
          have hk2 : ¬ ((k : Int) < ((x.rk v) : Nat)) := by omega
          go_wp2
          have q := cell_of (set3 H8.out (.int .i64 e0) (.int .i64 e1) (.int .i64 e2))
          refine bodyPost_ret (v := (⟨e0, e1, e2⟩ : En).val) (by simp [results, Tryz.results92, go_sem, q 0, q 1, q 2, En.val]) rfl ⟨?_, ((HF.out.setCell (p := ⟨w.heap.size, 0, none⟩) (.inr (Nat.le_refl _)) _).setCell (p := ⟨w.heap.size, 1, none⟩) (.inr (Nat.le_refl _)) _).setCell (p := ⟨w.heap.size, 2, none⟩) (.inr (Nat.le_refl _)) _⟩
          rw [← HTT.out, show min (x.rk u) (x.rk v) = x.rk v by omega, ← e, if_neg (show ¬ 0 ≤ (d1, d2).2 by show ¬ 0 ≤ d2; omega), HBT.out]
    · go_quiet (fail)
      go_wp2
      clear c0 c1 r1 r2
      go_loopg [55] (x.rk u) (fun g p wr => ∃ (k : Nat) (e0 e1 e2 : Int), p = .int .i64 k ∧ k ≤ (x.rk u) ∧ g = (x.rk u) - k ∧ Fr No w wr ∧ wr.heap[w.heap.size]? = some (.cells #[.int .i64 0, .int .i64 0, .int .i64 0] 117) ∧
        x.bestTo u v En.none k = ⟨e0, e1, e2⟩ ∧ wr.heap[w.heap.size + 1]? = some (.cells #[.int .i64 e0, .int .i64 e1, .int .i64 e2] 117))
      case atStart => exact ⟨0, _, _, _, rfl, Nat.zero_le _, rfl, HNF.out.drewN _, HN8.out, rfl, HN9.out⟩
      case round =>
        clear HN8 HN9 HNF
        obtain ⟨k, e0, e1, e2, rfl, hk, hg, hf, h8, hbt, h9⟩ := hrel
        have HG := hid hg
        have HF := hid hf
        have H8 := hid h8
        have H9 := hid h9
        have HBT := hid hbt
        clear hg hf h8 h9 hbt
        by_cases hlt : k < (x.rk u)
        · have q1 := (h.no HF.out).by_ k (by omega)
          have hk2 : (k : Int) < ((x.rk u) : Nat) := by omega
          go_wp2_with fail
          clear q1 hk2
          refine (at_calls (h.no HF.out) (u : Nat) (x.by_ k : Nat)).mono ?_
          rintro e w3 ⟨rfl, hf3⟩
          obtain ⟨p0, hp0⟩ : ∃ y, x.at_ (u : Nat) (x.by_ k : Nat) = y := ⟨_, rfl⟩
          rw [hp0]
          obtain ⟨a0, a1, a2⟩ := p0
          simp only [En.val]
          have HP0 := hid hp0
          have HF3 := hid (HF.out.trans hf3)
          have K8 := hid (own_no hf3 w.heap.size H8.out).2.2.2
          have K9 := hid (own_no hf3 (w.heap.size + 1) H9.out).2.2.2
          clear hf3 hp0 H8 H9 HF
          go_wp2_with fail
          refine (at_calls (h.no HF3.out) (x.by_ k : Nat) (v : Nat)).mono ?_
          rintro e w4 ⟨rfl, hf4⟩
          obtain ⟨p1, hp1⟩ : ∃ y, x.at_ (x.by_ k : Nat) (v : Nat) = y := ⟨_, rfl⟩
          rw [hp1]
          obtain ⟨b0, b1, b2⟩ := p1
          simp only [En.val]
          have HP1 := hid hp1
          have HF4 := hid (HF3.out.trans hf4)
          have K8' := hid (own_no hf4 w.heap.size K8.out).2.2.2
          have K9' := hid (own_no hf4 (w.heap.size + 1) K9.out).2.2.2
          clear hf4 hp1 K8 K9 HF3
          go_wp2_with fail
          have fa : Fr No w4 (w4.alloc (Obj.cells #[.int .i64 a0, .int .i64 b0] 3)) := (Fr.refl _ _).alloc _
          refine (add_calls (A := some ⟨w4.heap.size, 0, none⟩) (n := 2) (c := 2) (f := fun j => [a0, b0].getD j 0) (lit_ints 2 _ (by intro j hj; (have : j = 0 ∨ j = 1 := by omega); rcases this with rfl | rfl <;> rfl)) (by decide)).mono ?_
          rintro e w5 ⟨rfl, hf5⟩
          have hs : accF (fun j => [a0, b0].getD j 0) 2 = x.sum2 u v k := by rw [Ix.sum2, HP0.out, HP1.out]; rfl
          rw [hs]
          obtain ⟨sm, hsm⟩ : ∃ y, x.sum2 u v k = y := ⟨_, rfl⟩
          rw [hsm]
          have HSM := hid hsm
          have HF5 := hid (HF4.out.trans (fa.trans hf5))
          have L8 := hid (own_no (fa.trans hf5) w.heap.size K8'.out).2.2.2
          have L9 := hid (own_no (fa.trans hf5) (w.heap.size + 1) K9'.out).2.2.2
          have q9 := cell_of L9.out
          have z9 := (own_no (Fr.refl No w5) (w.heap.size + 1) L9.out).2.1
          have y0 := q9 0
          have y1 := q9 1
          have y2 := q9 2
          have hl9 : w.heap.size + 1 < w5.heap.size := some_lt L9.out
          clear hf5 fa hs hsm K8' K9' HF4 q9
          by_cases hcmp : sm < e0
          · go_wp2
            go_roundg ((x.rk u) - (k + 1))
            case measure => have := HG.out; omega
            case rel =>
              refine ⟨k + 1, sm, -1, (x.by_ k : Nat), by go_num, hlt, rfl, ((HF5.out.setCell (p := ⟨w.heap.size + 1, 0, none⟩) (.inr (by show w.heap.size ≤ w.heap.size + 1; omega)) _).setCell (p := ⟨w.heap.size + 1, 1, none⟩) (.inr (by show w.heap.size ≤ w.heap.size + 1; omega)) _).setCell (p := ⟨w.heap.size + 1, 2, none⟩) (.inr (by show w.heap.size ≤ w.heap.size + 1; omega)) _, ?_, ?_, set3 L9.out _ _ _⟩
              · exact (Below.heap_setCell _ ⟨w.heap.size + 1, 2, none⟩ _ w.heap.size (by show w.heap.size ≠ w.heap.size + 1; omega)).trans ((Below.heap_setCell _ ⟨w.heap.size + 1, 1, none⟩ _ w.heap.size (by show w.heap.size ≠ w.heap.size + 1; omega)).trans ((Below.heap_setCell _ ⟨w.heap.size + 1, 0, none⟩ _ w.heap.size (by show w.heap.size ≠ w.heap.size + 1; omega)).trans L8.out))
              · rw [Ix.bestTo, HBT.out, HSM.out, if_pos (show sm < (⟨e0, e1, e2⟩ : En).w by show sm < e0; omega)]
          · go_wp2
            go_roundg ((x.rk u) - (k + 1))
            case measure => have := HG.out; omega
            case rel => exact ⟨k + 1, e0, e1, e2, by go_num, hlt, rfl, HF5.out, L8.out, by rw [Ix.bestTo, HBT.out, HSM.out, if_neg (show ¬ sm < (⟨e0, e1, e2⟩ : En).w by show ¬ sm < e0; omega)], L9.out⟩
        · have e : k = (x.rk u) := by omega
          have q8 := cell_of H8.out
          have z8 := (own_no (Fr.refl No wr) w.heap.size H8.out).2.1
          have q9 := cell_of H9.out
          have y0 := q9 0
          have y1 := q9 1
          have y2 := q9 2
          have x0 := q8 0
          have x1 := q8 1
          have x2 := q8 2
          clear q9 q8
          have hk2 : ¬ ((k : Int) < ((x.rk u) : Nat)) := by omega
          go_wp2
          have q := cell_of (set3 H8.out (.int .i64 e0) (.int .i64 e1) (.int .i64 e2))
          refine bodyPost_ret (v := (⟨e0, e1, e2⟩ : En).val) (by simp [results, Tryz.results92, go_sem, q 0, q 1, q 2, En.val]) rfl ⟨?_, ((HF.out.setCell (p := ⟨w.heap.size, 0, none⟩) (.inr (Nat.le_refl _)) _).setCell (p := ⟨w.heap.size, 1, none⟩) (.inr (Nat.le_refl _)) _).setCell (p := ⟨w.heap.size, 2, none⟩) (.inr (Nat.le_refl _)) _⟩
          rw [← HTT.out, show min (x.rk u) (x.rk v) = x.rk u by omega, ← e, if_neg (show ¬ 0 ≤ (d1, d2).2 by show ¬ 0 ≤ d2; omega), HBT.out]

end Go.Proofs.YtoepbhacpidcbaaGreatDoor
