/- ringroadref10.All: how far it is from each vertex to each other one, as the document says; walked. -/
import Derived.Laws.Rows
import Derived.Test.YtoepbhacpidcbaaGreatDoorQBase
import Derived.Test.YtoepbhacpidcbaaGreatDoorQIdx
import Derived.Test.YtoepbhacpidcbaaGreatDoorQIdxB
import Derived.Test.YtoepbhacpidcbaaGreatDoorQPerm
import Derived.Test.YtoepbhacpidcbaaGreatDoorQRef
import Derived.Test.YtoepbhacpidcbaaGreatDoorQBig
import Derived.Test.YtoepbhacpidcbaaGreatDoorQUnref
import Derived.Test.YtoepbhacpidcbaaGreatDoorQUnE
import Derived.Test.YtoepbhacpidcbaaGreatDoorQItr
import Derived.Test.YtoepbhacpidcbaaGreatDoorQDst
import Derived.Test.YtoepbhacpidcbaaGreatDoorQLnk
import Derived.Test.YtoepbhacpidcbaaGreatDoorQRow2
import Derived.Test.YtoepbhacpidcbaaGreatDoorQGr
import Derived.Test.YtoepbhacpidcbaaGreatDoorQGOps
import Derived.Test.YtoepbhacpidcbaaGreatDoorQBld
import Derived.Test.YtoepbhacpidcbaaGreatDoorQBW
import Derived.Test.YtoepbhacpidcbaaGreatDoorQHpK
import Derived.Test.YtoepbhacpidcbaaGreatDoorQG8
import Derived.Test.YtoepbhacpidcbaaGreatDoorQSqO
import Derived.Test.YtoepbhacpidcbaaGreatDoorQGoes
import Derived.Test.YtoepbhacpidcbaaGreatDoorQUp
import Derived.Test.YtoepbhacpidcbaaGreatDoorQSetP
import Derived.Test.YtoepbhacpidcbaaGreatDoorQWay
import Derived.Test.YtoepbhacpidcbaaGreatDoorQIn1

set_option linter.unusedVariables false
set_option linter.unusedSimpArgs false
namespace Go.Proofs.YtoepbhacpidcbaaGreatDoor
open Go.RowKit Go.Deep

/-- What is filled so far. -/
def fillN (s t : Nat) : Mat := fun i j => if i < s then (if i = j then 0 else 4611686018427387906) else if i = s ∧ j < t then 4611686018427387906 else 0
theorem fillN_set (s t : Nat) : upd2 (fillN s t) s t 4611686018427387906 = fillN s (t + 1) := by
  funext i j
  unfold upd2 fillN
  by_cases e : i = s ∧ j = t
  · obtain ⟨rfl, rfl⟩ := e
    rw [if_pos ⟨rfl, rfl⟩, if_neg (by omega), if_pos ⟨rfl, by omega⟩]
  · rw [if_neg e]
    by_cases h : i < s
    · rw [if_pos h, if_pos h]
    · rw [if_neg h, if_neg h]
      by_cases h2 : i = s ∧ j < t
      · rw [if_pos h2, if_pos (by omega)]
      · rw [if_neg h2, if_neg (by omega)]
theorem fillN_row (s : Nat) (i j : Nat) (hj : j < 24) : upd2 (fillN s 24) s s 0 i j = fillN (s + 1) 0 i j := by
  unfold upd2 fillN
  by_cases e : i = s ∧ j = s
  · obtain ⟨rfl, rfl⟩ := e
    rw [if_pos ⟨rfl, rfl⟩, if_pos (by omega), if_pos rfl]
  · rw [if_neg e]
    by_cases h : i < s
    · have h' : i < s + 1 := by omega
      rw [if_pos h, if_pos h']
    · rw [if_neg h]
      by_cases h2 : i = s
      · have h' : i < s + 1 := by omega
        have h3 : ¬ i = j := by omega
        rw [if_pos ⟨h2, hj⟩, if_pos h', if_neg h3]
      · have h' : ¬ i < s + 1 := by omega
        have h3 : ¬ (i = s ∧ j < 24) := fun h => h2 h.1
        have h4 : ¬ (i = s + 1 ∧ j < 0) := by omega
        rw [if_neg h3, if_neg h', if_neg h4]
/-- Behind some arcs. -/
def arcD (G : Gr) (k : Nat) : Mat := fun a b => if a = b then 0 else (((sel G.tk).take k).foldl (rstep G.arc (a : Nat) (b : Nat)) (4611686018427387906, -1)).1
theorem arcD_0 (G : Gr) (i j : Nat) (hi : i < 24) : fillN 24 0 i j = arcD G 0 i j := by
  unfold fillN arcD
  rw [if_pos hi]; rfl
theorem arcD_all (G : Gr) (i j : Nat) : arcD G (sel G.tk).length i j = G.d0 i j := by
  unfold arcD Gr.d0 Gr.bst Gr.best
  rw [List.take_length]
theorem arcD_step (G : Gr) (hw : G.Wt) {k : Nat} (hk : k < (sel G.tk).length) {z t h : Nat} (hz : (sel G.tk).getD k 0 = (z : Nat)) (ht : (G.arc z).t = (t : Nat)) (hh : (G.arc z).h = (h : Nat)) :
    arcD G (k + 1) = if (G.arc z).c = false ∧ (G.arc z).w < arcD G k t h then upd2 (arcD G k) t h (G.arc z).w else arcD G k := by
  have hmem : (sel G.tk).getD k 0 ∈ sel G.tk := by rw [List.getD, List.getElem?_eq_getElem hk]; exact List.getElem_mem hk
  obtain ⟨i, hi, htk, hzi⟩ := (sel_mem _ _).1 hmem
  obtain rfl : z = i := by omega
  have hwz := hw z hi htk
  have hst : ∀ a b : Nat, ((sel G.tk).take (k + 1)).foldl (rstep G.arc (a : Nat) (b : Nat)) (4611686018427387906, -1) = rstep G.arc (a : Nat) (b : Nat) (((sel G.tk).take k).foldl (rstep G.arc (a : Nat) (b : Nat)) (4611686018427387906, -1)) (z : Nat) := fun a b => by
    rw [List.take_succ_eq_append_getElem hk, List.foldl_append, ← hz, List.getD, List.getElem?_eq_getElem hk]; rfl
  funext a b
  have e1 : arcD G (k + 1) a b = if a = b then 0 else (rstep G.arc (a : Nat) (b : Nat) (((sel G.tk).take k).foldl (rstep G.arc (a : Nat) (b : Nat)) (4611686018427387906, -1)) (z : Nat)).1 := by
    unfold arcD; rw [hst]
  rw [e1]
  have e2 : arcD G k a b = if a = b then 0 else (((sel G.tk).take k).foldl (rstep G.arc (a : Nat) (b : Nat)) (4611686018427387906, -1)).1 := rfl
  by_cases hab : a = b
  · subst hab
    rw [if_pos rfl]
    rw [if_pos rfl] at e2
    split
    · next hc =>
      unfold upd2
      split
      · next h3 =>
        obtain ⟨rfl, rfl⟩ := h3
        rw [e2] at hc; omega
      · exact e2.symm
    · exact e2.symm
  · rw [if_neg hab]
    rw [if_neg hab] at e2
    obtain ⟨acc, hacc⟩ : ∃ acc, ((sel G.tk).take k).foldl (rstep G.arc (a : Nat) (b : Nat)) (4611686018427387906, -1) = acc := ⟨_, rfl⟩
    rw [hacc] at e2 ⊢
    unfold rstep
    rw [Int.toNat_natCast, ht, hh, ← e2]
    by_cases h3 : a = t ∧ b = h
    · obtain ⟨rfl, rfl⟩ := h3
      by_cases hc : (G.arc z).c = false ∧ (G.arc z).w < arcD G k a b
      · rw [if_pos ⟨rfl, rfl, hc⟩, if_pos hc]
        unfold upd2; rw [if_pos ⟨rfl, rfl⟩]
      · rw [if_neg (fun hh => hc hh.2.2), if_neg hc]; exact e2.symm
    · rw [if_neg (fun hh => h3 ⟨by omega, by omega⟩)]
      split
      · unfold upd2; rw [if_neg h3]; exact e2.symm
      · exact e2.symm

/-- A square as one value. -/
def sqV (D : Mat) : Array Value := ((List.range 576).map fun k => Value.int .i64 (D (k / 24) (k % 24))).toArray
theorem sqV_size (D : Mat) : (sqV D).size = 576 := by simp [sqV]
theorem sqV_get (D : Mat) {i j : Nat} (hi : i < 24) (hj : j < 24) : (sqV D)[i * 24 + j]? = some (.int .i64 (D i j)) := by
  unfold sqV
  rw [List.getElem?_toArray, List.getElem?_map, List.getElem?_range (by omega), Option.map_some, show (i * 24 + j) / 24 = i by omega, show (i * 24 + j) % 24 = j by omega]
theorem sqV_one (D : Mat) : (sqV D).all (·.oneCell') = true := by
  rw [Array.all_eq_true_iff_forall_mem]
  intro v hv
  unfold sqV at hv
  simp only [List.mem_toArray, List.mem_map] at hv
  obtain ⟨k, _, rfl⟩ := hv
  rfl
theorem Sq.heap {W : World} {B : Nat} {D : Mat} (h : Sq W B 24 D) : W.heap[B]? = some (.cells (sqV D) 103 (0, 0)) := by
  obtain ⟨M, ⟨C, hC, hn, hc⟩, hM⟩ := h
  rw [hC]
  have e : C = sqV D := by
    apply Array.ext_getElem?
    intro k
    by_cases hk : k < 576
    · have hk2 := hM (k / 24) (k % 24) (by omega) (Nat.mod_lt _ (by omega))
      have := sqV_get D (i := k / 24) (j := k % 24) (by omega) (Nat.mod_lt _ (by omega))
      rw [show k / 24 * 24 + k % 24 = k by omega] at this hk2
      rw [hc k hk, this]
      show some (Value.int .i64 (M k)) = _
      rw [hk2]
    · rw [Array.getElem?_eq_none (by omega), Array.getElem?_eq_none (by rw [sqV_size]; omega)]
  rw [e]
theorem Sq.of_heap {W : World} {B : Nat} {D : Mat} {T : TypeId} (hT : T = 103) (h : W.heap[B]? = some (.cells (sqV D) T (0, 0))) : Sq W B 24 D := by
  subst hT
  refine ⟨fun k => D (k / 24) (k % 24), ⟨_, h, sqV_size D, fun i hi => ?_⟩, fun i j hi hj => ?_⟩
  · have := sqV_get D (i := i / 24) (j := i % 24) (by omega) (Nat.mod_lt _ (by omega))
    rw [show i / 24 * 24 + i % 24 = i by omega] at this
    exact this
  · show D ((i * 24 + j) / 24) ((i * 24 + j) % 24) = D i j
    rw [show (i * 24 + j) / 24 = i by omega, show (i * 24 + j) % 24 = j by omega]
theorem sq_zeros : Tryz.zeroCells103 = sqV (fun _ _ => 0) := by
  apply Array.ext_getElem?
  intro k
  by_cases hk : k < 576
  · have := sqV_get (fun _ _ => 0) (i := k / 24) (j := k % 24) (by omega) (Nat.mod_lt _ (by omega))
    rw [show k / 24 * 24 + k % 24 = k by omega] at this
    rw [sq_zero k hk, this]
  · rw [Array.getElem?_eq_none (by rw [sq_size]; omega), Array.getElem?_eq_none (by rw [sqV_size]; omega)]

def AllR (w : World) (G : Gr) (e : Ending) (w' : World) : Prop := e = .returned (.agg (sqV G.far)) ∧ Fr No w w'

set_option maxRecDepth 100000 in
set_option maxHeartbeats 4000000 in
theorem all10_calls {w : World} {b : Nat} {G : Gr} (h : RGM w b G) (hok : G.Ok) (hw : G.Wt) :
    Calls Tryz.prog 50 #[.pointer (some ⟨b, 0, none⟩)] w (AllR w G) := by
  have hn := hok.n2
  have hn1 := hok.n1
  have H := hid h
  have HOK := hid hok
  have HW := hid hw
  have lb : b < w.heap.size := Blk.lt h
  clear h hok hw
  obtain ⟨W2, hW2⟩ : ∃ W2, (w.alloc (.cells Tryz.zeroCells103 103)).alloc (.cells Tryz.zeroCells103 103) = W2 := ⟨_, rfl⟩
  have g1 : W2.heap[w.heap.size]? = some (.cells (sqV (fun _ _ => 0)) 103 (0, 0)) := by rw [← hW2, sq_zeros]; exact heap_alloc2_old w _ _
  have g2 : W2.heap[w.heap.size + 1]? = some (.cells (sqV (fun _ _ => 0)) 103 (0, 0)) := by rw [← hW2, sq_zeros]; exact heap_alloc2_new w _ _
  have hz0 : Sq W2 (w.heap.size + 1) 24 (fillN 0 0) := (Sq.of_heap rfl g2).congr (fun i j _ _ => by unfold fillN; rw [if_neg (by omega), if_neg (by omega)])
  have hr0 : Sq W2 w.heap.size 24 (fun _ _ => 0) := Sq.of_heap rfl g1
  have f2 : Fr No w W2 := by rw [← hW2]; exact ((Fr.refl No w).alloc _).alloc _
  have HZ0 := hid hz0
  have HR0 := hid hr0
  have F2 := hid f2
  clear g1 g2 hz0 hr0 f2
  go_enter Tryz.func50, Tryz.ntmps50
  go_upto_region 2 with fail
  obtain ⟨B2, hB2⟩ : ∃ B2, w.heap.size = B2 := ⟨_, rfl⟩
  obtain ⟨B, hB⟩ : ∃ B, w.heap.size + 1 = B := ⟨_, rfl⟩
  have hB2' : w.heap.size ≤ B2 := by omega
  have hB' : w.heap.size ≤ B := by omega
  have hne : B2 ≠ B := by omega
  rw [hB2] at HR0 HZ0 ⊢
  rw [hB2] at hB
  rw [hB] at HZ0 ⊢
  clear hW2 hB
  go_wp2
  go_loopg [4] 25 (fun gk p wr => ∃ s : Nat, p = .int .i64 s ∧ s ≤ 24 ∧ gk = 25 - s ∧ Fr No w wr ∧ Sq wr B 24 (fillN s 0) ∧ Sq wr B2 24 (fun _ _ => 0))
  case atStart => exact ⟨0, rfl, by omega, rfl, F2.out, HZ0.out, HR0.out⟩
  case round =>
    clear HZ0 HR0 F2
    obtain ⟨s, rfl, hs24, hgk, hf, hs, hr2⟩ := hrel
    have HGK := hid hgk
    have HF := hid hf
    have HS := hid hs
    have HR := hid hr2
    clear hgk hf hs hr2
    by_cases hlt : s < 24
    · have hlt2 : (s : Int) < 24 := by omega
      go_wp2
      go_loopg [5] 25 (fun gk p wr => ∃ t : Nat, p = .int .i64 t ∧ t ≤ 24 ∧ gk = 25 - t ∧ Fr No w wr ∧ Sq wr B 24 (fillN s t) ∧ Sq wr B2 24 (fun _ _ => 0))
      case atStart => exact ⟨0, rfl, by omega, rfl, HF.out, HS.out, HR.out⟩
      case round =>
        clear HF HS HR
        obtain ⟨t, rfl, ht24, hgk2, hf, hs, hr2⟩ := hrel
        have HGK2 := hid hgk2
        have HF := hid hf
        have HS := hid hs
        have HR := hid hr2
        clear hgk2 hf hs hr2
        by_cases hlt3 : t < 24
        · have hlt4 : (t : Int) < 24 := by omega
          have s1 := HS.out.cell (by omega) hlt hlt3
          have s2 := HS.out.frozen (s * 24 + t)
          go_wp2
          go_roundg (25 - (t + 1))
          case measure => have := HGK2.out; omega
          case rel =>
            have hset := HS.out.set (by omega) hlt hlt3 4611686018427387906
            rw [fillN_set] at hset
            exact ⟨t + 1, by go_num, by omega, rfl, HF.out.setCell (p := ⟨B, s * 24 + t, none⟩) (.inr hB') _, hset, HR.out.fr ((Fr.refl (One B) wr).set1 _ _) hne⟩
        · obtain rfl : t = 24 := by omega
          have s1 := HS.out.cell (by omega) hlt hlt
          have s2 := HS.out.frozen (s * 24 + s)
          go_wp2
          go_roundg (25 - (s + 1))
          case measure => have := HGK.out; omega
          case rel =>
            have hset := (HS.out.set (by omega) hlt hlt 0).congr (fun i j _ hj => fillN_row s i j hj)
            exact ⟨s + 1, by go_num, by omega, rfl, HF.out.setCell (p := ⟨B, s * 24 + s, none⟩) (.inr hB') _, hset, HR.out.fr ((Fr.refl (One B) wr).set1 _ _) hne⟩
    · obtain rfl : s = 24 := by omega
      have HS0 := hid (HS.out.congr (fun i j hi _ => arcD_0 G i j hi))
      have hcnt := sel_len G.tk
      have hmem : ∀ i, i < (sel G.tk).length → ∃ k : Nat, k < 64 ∧ G.tk k = true ∧ (sel G.tk).getD i 0 = (k : Nat) := fun i hi => by
        have : (sel G.tk).getD i 0 ∈ sel G.tk := by rw [List.getD, List.getElem?_eq_getElem hi]; exact List.getElem_mem hi
        obtain ⟨k, h1, h2, h3⟩ := (sel_mem _ _).1 this
        exact ⟨k, h1, h2, h3⟩
      have hend : arcD G (sel G.tk).length = G.d0 := funext fun i => funext fun j => arcD_all G i j
      have hstep := fun k hk z t h hz ht hh => arcD_step G HW.out (k := k) hk (z := z) (t := t) (h := h) hz ht hh
      obtain ⟨N, hN⟩ : ∃ N, (sel G.tk).length = N := ⟨_, rfl⟩
      rw [hN] at hcnt hmem hend hstep
      have HN := hid hN
      have HMEM := hid hmem
      have HEND := hid hend
      have HSTEP := hid hstep
      clear hmem hend hN hstep HS
      have lB1 : B < wr.heap.size := HS0.out.lt
      go_wp2_with fail
      refine (rgids2_calls (H.out.no HF.out)).mono ?_
      rintro e w1 ⟨A, c, rfl, hf, hsl, hnew⟩
      rw [HN.out]
      have HI := hid (SlL.ints' hsl)
      rw [HN.out] at HI
      have HNEW : Hid (∀ a : Addr, A = some a → a.block ≠ B) := hid fun a ha e => by have := hnew a ha; omega
      have HF1 := hid (HF.out.trans hf)
      have HS1 := hid (HS0.out.fr hf (fun h => h))
      have HR1 := hid (HR.out.fr hf (fun h => h))
      clear hf hsl HF HS0 HR HGK hnew lB1
      go_wp2
      go_loopg [7] N (fun gk p wr => ∃ i : Nat, p = .int .i64 i ∧ i ≤ N ∧ gk = N - i ∧ Fr No w wr ∧ Fr (One B) w1 wr ∧ Sq wr B 24 (arcD G i) ∧ Sq wr B2 24 (fun _ _ => 0))
      case atStart => exact ⟨0, rfl, by omega, rfl, HF1.out, Fr.refl _ _, HS1.out, HR1.out⟩
      case round =>
        clear HF1 HS1 HR1
        obtain ⟨i, rfl, hi, hgk, hf, hf1, hs, hr2⟩ := hrel
        have HGK := hid hgk
        have HF := hid hf
        have HF1 := hid hf1
        have HS := hid hs
        have HR := hid hr2
        clear hgk hf hf1 hs hr2
        by_cases hlt : i < N
        · obtain ⟨k, hk, htk, hz⟩ := HMEM.out i hlt
          obtain ⟨bA, off, rfl, hc⟩ := HI.out (by omega)
          have hcB : bA ≠ B := HNEW.out _ rfl
          have q0 : wr.cell? ⟨bA, off + i, none⟩ = some (.int .i64 ((sel G.tk).getD i 0)) := HF1.out.cell_some (hc i hlt) hcB
          rw [hz] at q0
          have hbA : bA < wr.heap.size := cell_lt q0
          have HRG := hid (H.out.no HF.out)
          have z0 : wr.cell? ⟨b, 66 + k * 4, none⟩ = some (.int .i64 (G.arc k).t) := HRG.out.arc hk 0 (by omega)
          have z1 : wr.cell? ⟨b, 66 + k * 4 + 1, none⟩ = some (.int .i64 (G.arc k).h) := HRG.out.arc hk 1 (by omega)
          have z2 : wr.cell? ⟨b, 66 + k * 4 + 2, none⟩ = some (.int .i64 (G.arc k).w) := HRG.out.arc hk 2 (by omega)
          have z3 : wr.cell? ⟨b, 66 + k * 4 + 3, none⟩ = some (.bool (G.arc k).c) := HRG.out.arc hk 3 (by omega)
          have hbw : b < wr.heap.size := Blk.lt HRG.out
          have hk2 : (k : Int) < 64 := by omega
          have hlt2 : (i : Int) < N := by omega
          have hok4 := HOK.out.arc k hk htk
          have hst := HSTEP.out i hlt k
          obtain ⟨⟨at_, ah, aw, ac⟩, har⟩ : ∃ y, G.arc k = y := ⟨_, rfl⟩
          rw [har] at z0 z1 z2 z3 hok4 hst
          simp only at z0 z1 z2 z3 hok4 hst
          obtain ⟨t, rfl⟩ := Int.eq_ofNat_of_zero_le hok4.1
          obtain ⟨hh, rfl⟩ := Int.eq_ofNat_of_zero_le hok4.2.2.1
          have ht24 : t < 24 := by omega
          have hh24 : hh < 24 := by omega
          have ht24i : (t : Int) < 24 := by omega
          have hh24i : (hh : Int) < 24 := by omega
          have hst := hst t hh hz rfl rfl
          obtain ⟨dv, hdv⟩ : ∃ d, arcD G i t hh = d := ⟨_, rfl⟩
          rw [hdv] at hst
          have HST := hid hst
          have HDV := hid hdv
          clear hst har HRG hz hc hok4 htk hdv
          go_wp2_with fail
          go_region
          have O5 := heap_new wr (Obj.cells #[Value.int IntKind.i64 (t : Nat), Value.int IntKind.i64 (hh : Nat), Value.int IntKind.i64 aw, Value.bool ac] 49)
          have F5 : Fr No wr (wr.alloc (Obj.cells #[Value.int IntKind.i64 (t : Nat), Value.int IntKind.i64 (hh : Nat), Value.int IntKind.i64 aw, Value.bool ac] 49)).drew := ((Fr.refl No wr).alloc _).drew
          have y0 := cell_of O5 0
          have y1 := cell_of O5 1
          have y2 := cell_of O5 2
          have y3 := cell_of O5 3
          rw [← World.cell?_drew] at y0 y1 y2 y3
          generalize (wr.alloc (Obj.cells #[Value.int IntKind.i64 (t : Nat), Value.int IntKind.i64 (hh : Nat), Value.int IntKind.i64 aw, Value.bool ac] 49)).drew = W5 at y0 y1 y2 y3 F5 ⊢
          have HF5 := hid (HF.out.trans F5)
          have HF51 := hid (HF1.out.trans F5.no)
          have HS5 := hid (HS.out.fr F5 (fun h => h))
          have HR5 := hid (HR.out.fr F5 (fun h => h))
          have s1 := HS5.out.cell (by omega) ht24 hh24
          rw [HDV.out] at s1
          simp at y0 y1 y2 y3
          have kk0 : ∀ nn : Fam W5, nn.v.cell? ⟨wr.heap.size, 0, none⟩ = some (.int .i64 (t : Nat)) := Fam.cell y0
          have kk1 : ∀ nn : Fam W5, nn.v.cell? ⟨wr.heap.size, 1, none⟩ = some (.int .i64 (hh : Nat)) := Fam.cell y1
          have kk2 : ∀ nn : Fam W5, nn.v.cell? ⟨wr.heap.size, 2, none⟩ = some (.int .i64 aw) := Fam.cell y2
          have kk3 : ∀ nn : Fam W5, nn.v.cell? ⟨wr.heap.size, 3, none⟩ = some (.bool ac) := Fam.cell y3
          have kk4 : ∀ nn : Fam W5, nn.v.cell? ⟨B, t * 24 + hh, none⟩ = some (.int .i64 dv) := Fam.cell s1
          clear F5 O5 q0 z0 z1 z2 z3 HF HF1 HS HR
          cases ac with
          | true =>
            have hn : arcD G (i + 1) = arcD G i := by rw [HST.out, if_neg (fun h => by cases h.1)]
            have HN2 := hid hn
            clear hn
            go_wp2_with fail
            refine wp_region_fam (by kernel_rfl) (by kernel_rfl) ?_
            repeat (go_big_quiet_step (fail))
            refine wpQuiet_nil ?_
            rintro w6 ⟨⟨w6, hf6⟩, rfl⟩
            have HF6 := hid (HF5.out.trans hf6)
            have HF61 := hid (HF51.out.trans hf6.no)
            have HS6 := hid (HS5.out.fr hf6 (fun h => h))
            have HR6 := hid (HR5.out.fr hf6 (fun h => h))
            clear hf6 kk0 kk1 kk2 kk3 kk4 y0 y1 y2 y3 s1
            go_wp2
            go_roundg (N - (i + 1))
            case measure => have := HGK.out; omega
            case rel => exact ⟨i + 1, by go_num, by omega, rfl, HF6.out, HF61.out, by rw [HN2.out]; exact HS6.out, HR6.out⟩
          | false =>
            by_cases p3 : aw < dv
            · have g3 : decide (aw < dv) = true := by simp; exact p3
              have hn : arcD G (i + 1) = upd2 (arcD G i) t hh aw := by rw [HST.out, if_pos ⟨rfl, p3⟩]
              have HN2 := hid hn
              clear hn
              go_wp2_with fail
              refine wp_region_fam (by kernel_rfl) (by kernel_rfl) ?_
              repeat (go_big_quiet_step (fail))
              refine wpQuiet_nil ?_
              rintro w6 ⟨⟨w6, hf6⟩, rfl⟩
              have HF6 := hid (HF5.out.trans hf6)
              have HF61 := hid (HF51.out.trans hf6.no)
              have HS6 := hid (HS5.out.fr hf6 (fun h => h))
              have HR6 := hid (HR5.out.fr hf6 (fun h => h))
              have x0 := hf6.cell_some y0 (fun h => h)
              have x1 := hf6.cell_some y1 (fun h => h)
              have x2 := hf6.cell_some y2 (fun h => h)
              have x4 := hf6.cell_some s1 (fun h => h)
              have x5 := HS6.out.frozen (t * 24 + hh)
              have lx := cell_lt x0
              have lB := HS6.out.lt
              clear hf6 kk0 kk1 kk2 kk3 kk4 y0 y1 y2 y3 s1
              go_wp2_with fail
              go_region
              go_wp2
              go_roundg (N - (i + 1))
              case measure => have := HGK.out; omega
              case rel =>
                have hset := HS6.out.set (by omega) ht24 hh24 aw
                rw [← HN2.out] at hset
                exact ⟨i + 1, by go_num, by omega, rfl, (HF6.out.setCell (p := ⟨B, t * 24 + hh, none⟩) (.inr hB') _).drew, (HF61.out.set1 _ _).drew, hset.fr (Fr.refl No _).drew (fun h => h), (HR6.out.fr ((Fr.refl (One B) w6).set1 _ _) hne).fr (Fr.refl No _).drew (fun h => h)⟩
            · have g3 : decide (aw < dv) = false := by simp; omega
              have hn : arcD G (i + 1) = arcD G i := by rw [HST.out, if_neg (fun h => p3 h.2)]
              have HN2 := hid hn
              clear hn
              go_wp2_with fail
              refine wp_region_fam (by kernel_rfl) (by kernel_rfl) ?_
              repeat (go_big_quiet_step (fail))
              refine wpQuiet_nil ?_
              rintro w6 ⟨⟨w6, hf6⟩, rfl⟩
              have HF6 := hid (HF5.out.trans hf6)
              have HF61 := hid (HF51.out.trans hf6.no)
              have HS6 := hid (HS5.out.fr hf6 (fun h => h))
              have HR6 := hid (HR5.out.fr hf6 (fun h => h))
              clear hf6 kk0 kk1 kk2 kk3 kk4 y0 y1 y2 y3 s1
              go_wp2
              go_roundg (N - (i + 1))
              case measure => have := HGK.out; omega
              case rel => exact ⟨i + 1, by go_num, by omega, rfl, HF6.out, HF61.out, by rw [HN2.out]; exact HS6.out, HR6.out⟩
        · obtain rfl : i = N := by omega
          have HF0 := hid HF.out
          have HS0 := hid (show Sq wr B 24 (fwM (fun _ => true) G.n G.d0 0) by have := HS.out; rw [HEND.out] at this; exact this)
          have HR0 := hid HR.out
          have HBB := hid (G.d0_b HW.out)
          have c0 := (H.out.no HF.out).c0
          clear HF HS HR HF1 HGK HI HNEW HN HMEM HEND HSTEP hcnt
          go_wp2
          clear c0
          go_loopg [9] (G.n + 1) (fun gk p wr => ∃ m : Nat, p = .int .i64 m ∧ m ≤ G.n ∧ gk = G.n + 1 - m ∧ Fr No w wr ∧ Sq wr B 24 (fwM (fun _ => true) G.n G.d0 m) ∧ Sq wr B2 24 (fun _ _ => 0))
          case atStart => exact ⟨0, rfl, by omega, rfl, HF0.out, HS0.out, HR0.out⟩
          case round =>
            clear HF0 HS0 HR0
            obtain ⟨m, rfl, hm, hgk, hf, hs, hr2⟩ := hrel
            have HGK := hid hgk
            have HF := hid hf
            have HS := hid hs
            have HR := hid hr2
            have c0 := (H.out.no hf).c0
            clear hgk hf hs hr2
            by_cases hlt : m < G.n
            · have hlt2 : (m : Int) < G.n := by omega
              have hm24 : (m : Int) < 24 := by omega
              have hDm := fwM_b (L := fun _ => true) HBB.out m (by omega)
              obtain ⟨Dm, hDD⟩ : ∃ D, fwM (fun _ => true) G.n G.d0 m = D := ⟨_, rfl⟩
              have HDD := hid hDD
              rw [hDD] at HS hDm
              have HDM := hid hDm
              clear hDm hDD
              go_wp2
              clear c0
              go_loopg [10] (G.n + 1) (fun gk p wr => ∃ a : Nat, p = .int .i64 a ∧ a ≤ G.n ∧ gk = G.n + 1 - a ∧ Fr No w wr ∧ Sq wr B 24 (fwA (fun _ => true) G.n m Dm a) ∧ Sq wr B2 24 (fun _ _ => 0))
              case atStart => exact ⟨0, rfl, by omega, rfl, HF.out, HS.out, HR.out⟩
              case round =>
                clear HF HS HR
                obtain ⟨a, rfl, ha, hgk2, hf, hs, hr2⟩ := hrel
                have HGK2 := hid hgk2
                have HF := hid hf
                have HS := hid hs
                have HR := hid hr2
                have c0 := (H.out.no hf).c0
                clear hgk2 hf hs hr2
                by_cases hla : a < G.n
                · have hla2 : (a : Int) < G.n := by omega
                  have ha24 : (a : Int) < 24 := by omega
                  have hDa := fwA_b (L := fun _ => true) HDM.out hlt a (by omega)
                  obtain ⟨Da, hDE⟩ : ∃ D, fwA (fun _ => true) G.n m Dm a = D := ⟨_, rfl⟩
                  have HDE := hid hDE
                  rw [hDE] at HS hDa
                  have HDA := hid hDa
                  clear hDa hDE
                  go_wp2
                  clear c0
                  go_loopg [11] (G.n + 1) (fun gk p wr => ∃ q : Nat, p = .int .i64 q ∧ q ≤ G.n ∧ gk = G.n + 1 - q ∧ Fr No w wr ∧ Sq wr B 24 (fwB (fun _ => true) m a Da q) ∧ Sq wr B2 24 (fun _ _ => 0))
                  case atStart => exact ⟨0, rfl, by omega, rfl, HF.out, HS.out, HR.out⟩
                  case round =>
                    clear HF HS HR
                    obtain ⟨q, rfl, hq, hgk3, hf, hs, hr2⟩ := hrel
                    have HGK3 := hid hgk3
                    have HF := hid hf
                    have HS := hid hs
                    have HR := hid hr2
                    have c0 := (H.out.no hf).c0
                    clear hgk3 hf hs hr2
                    by_cases hlq : q < G.n
                    · have hlq2 : (q : Int) < G.n := by omega
                      have hq24 : (q : Int) < 24 := by omega
                      have hDq := fwB_b (L := fun _ => true) HDA.out hlt hla q (by omega)
                      have hstep : fwB (fun _ => true) m a Da (q + 1) = fw1 (fun _ => true) m a q (fwB (fun _ => true) m a Da q) := rfl
                      obtain ⟨Dq, hDF⟩ : ∃ D, fwB (fun _ => true) m a Da q = D := ⟨_, rfl⟩
                      rw [hDF] at HS hDq hstep
                      have HST := hid hstep
                      have t1 := HS.out.cell (by omega) (show a < 24 by omega) (show m < 24 by omega)
                      have t2 := HS.out.cell (by omega) (show m < 24 by omega) (show q < 24 by omega)
                      have t3 := HS.out.cell (by omega) (show a < 24 by omega) (show q < 24 by omega)
                      have t4 := HS.out.frozen (a * 24 + q)
                      have b1 := hDq a m hla hlt
                      have b2 := hDq m q hlt hlq
                      obtain ⟨x1, hx1⟩ : ∃ x, Dq a m = x := ⟨_, rfl⟩
                      obtain ⟨x2, hx2⟩ : ∃ x, Dq m q = x := ⟨_, rfl⟩
                      obtain ⟨x3, hx3⟩ : ∃ x, Dq a q = x := ⟨_, rfl⟩
                      rw [hx1] at t1 b1
                      rw [hx2] at t2 b2
                      rw [hx3] at t3
                      obtain ⟨by_, hby⟩ : ∃ x, tw x1 x2 = x := ⟨_, rfl⟩
                      have hfw : fw1 (fun _ => true) m a q Dq = if by_ < x3 then upd2 Dq a q by_ else Dq := by unfold fw1; rw [hx1, hx2, hx3, hby]; simp
                      have HFW := hid hfw
                      have htw : ∀ nn : Fam wr, Calls Tryz.prog 69 #[.int .i64 x1, .int .i64 x2] nn.v fun e w' => e = .returned (.int .i64 by_) ∧ Fr No nn.v w' := fun nn => by
                        have := tw_calls b1 b2 nn.v
                        rw [hby] at this
                        exact this
                      have kk1 : ∀ nn : Fam wr, nn.v.cell? ⟨B, a * 24 + m, none⟩ = some (.int .i64 x1) := Fam.cell t1
                      have kk2 : ∀ nn : Fam wr, nn.v.cell? ⟨B, m * 24 + q, none⟩ = some (.int .i64 x2) := Fam.cell t2
                      clear hDq hstep hDF hx1 hx2 hx3 hby hfw b1 b2
                      go_wp2_with fail
                      clear c0
                      refine wp_region_fam (by kernel_rfl) (by kernel_rfl) ?_
                      repeat (go_big_quiet_step (exact Calls.fam (htw _)))
                      refine wpQuiet_nil ?_
                      rintro w5 ⟨⟨w5, hf5⟩, rfl⟩
                      have HS5 := hid (HS.out.fr hf5 (fun h => h))
                      have HR5 := hid (HR.out.fr hf5 (fun h => h))
                      have HF5 := hid (HF.out.trans hf5)
                      have s3 := hf5.cell_some t3 (fun h => h)
                      have s4 := HS5.out.frozen (a * 24 + q)
                      have s5 := HS5.out.lt
                      clear hf5 kk1 kk2 htw t1 t2 t3 t4 HS HF HR
                      by_cases h4 : by_ < x3
                      · have g4 : decide (by_ < x3) = true := by simp; exact h4
                        have hset := HS5.out.set (by omega) (show a < 24 by omega) (show q < 24 by omega) by_
                        have heq : fwB (fun _ => true) m a Da (q + 1) = upd2 Dq a q by_ := by rw [HST.out, HFW.out, if_pos h4]
                        rw [← heq] at hset
                        have HSET := hid hset
                        clear hset heq
                        go_wp2
                        go_roundg (G.n + 1 - (q + 1))
                        case measure => have := HGK3.out; omega
                        case rel => exact ⟨q + 1, by go_num, by omega, rfl, HF5.out.setCell (p := ⟨B, a * 24 + q, none⟩) (.inr hB') _, HSET.out, HR5.out.fr ((Fr.refl (One B) w5).set1 _ _) hne⟩
                      · have g4 : decide (by_ < x3) = false := by simp; omega
                        go_wp2
                        go_roundg (G.n + 1 - (q + 1))
                        case measure => have := HGK3.out; omega
                        case rel => exact ⟨q + 1, by go_num, by omega, rfl, HF5.out, by rw [HST.out, HFW.out, if_neg (by omega)]; exact HS5.out, HR5.out⟩
                    · obtain rfl : q = G.n := by omega
                      go_wp2
                      go_roundg (G.n + 1 - (a + 1))
                      case measure => have := HGK2.out; omega
                      case rel =>
                        refine ⟨a + 1, by go_num, by omega, rfl, HF.out, ?_, HR.out⟩
                        show Sq _ B 24 (fwB (fun _ => true) m a (fwA (fun _ => true) G.n m Dm a) G.n)
                        rw [HDE.out]; exact HS.out
                · obtain rfl : a = G.n := by omega
                  go_wp2
                  go_roundg (G.n + 1 - (m + 1))
                  case measure => have := HGK.out; omega
                  case rel =>
                    refine ⟨m + 1, by go_num, by omega, rfl, HF.out, ?_, HR.out⟩
                    show Sq _ B 24 (fwA (fun _ => true) G.n m (fwM (fun _ => true) G.n G.d0 m) G.n)
                    rw [HDD.out]; exact HS.out
            · obtain rfl : m = G.n := by omega
              have hs : Sq wr B 24 G.far := HS.out
              have hh1 := hs.heap
              have hh2 := HR.out.heap
              have hsz := sqV_size G.far
              have hinf : (Tryz.prog.info? 103).map (·.size) = some 576 := by kernel_rfl
              go_wp2_with (first
                | (refine wpList_load_row rfl 103 (.tmp 3) rfl B rfl 103 (sqV G.far) (0, 0) _ hh1 Tryz.underlying103 rfl (by rw [hinf, hsz]) ?_)
                | (refine wpList_store_row rfl 103 (.tmp 2) (.tmp 116) rfl B2 (sqV G.far) rfl rfl 103 (sqV (fun _ _ => 0)) hh2 (by rw [hinf, hsz]) (by rw [sqV_size, sqV_size]) (sqV_one _) ?_))
              have hfs : Fr (One B2) wr (wr.setRow B2 (sqV G.far)) := ⟨rfl, rfl, rfl, by simp, fun k hk hk2 => by
                have hk2 : ¬ k = B2 := hk2
                simp only [World.setRow, Array.getElem?_modify]
                rw [if_neg (fun e => hk2 e.symm)]⟩
              have hff := HF.out.trans' hfs (fun k hk (e : k = B2) => by omega)
              exact bodyPost_ret (v := .agg (sqV G.far)) (results_cell_row rfl _ _ B2 103 (sqV G.far) (0, 0) _ rfl (setRow_heap wr B2 _ _ _ _ hh2) Tryz.underlying103 rfl (by rw [hinf, hsz])) rfl ⟨rfl, hff⟩

end Go.Proofs.YtoepbhacpidcbaaGreatDoor
