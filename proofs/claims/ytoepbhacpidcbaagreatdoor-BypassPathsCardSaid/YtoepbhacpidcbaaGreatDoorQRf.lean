/- The document's distances from one vertex, and what a path may be told as; walked. -/
import Derived.Deep.RegionHeldLaw
import Derived.Test.YtoepbhacpidcbaaGreatDoorQBase
import Derived.Test.YtoepbhacpidcbaaGreatDoorQIdx
import Derived.Test.YtoepbhacpidcbaaGreatDoorQIdxB
import Derived.Test.YtoepbhacpidcbaaGreatDoorQPerm
import Derived.Test.YtoepbhacpidcbaaGreatDoorQRef
import Derived.Test.YtoepbhacpidcbaaGreatDoorQBig
import Derived.Test.YtoepbhacpidcbaaGreatDoorQUnref
import Derived.Test.YtoepbhacpidcbaaGreatDoorQUnE
import Derived.Test.YtoepbhacpidcbaaGreatDoorQItr
import Derived.Test.YtoepbhacpidcbaaGreatDoorQDst
import Derived.Test.YtoepbhacpidcbaaGreatDoorQLnk
import Derived.Test.YtoepbhacpidcbaaGreatDoorQRow2
import Derived.Test.YtoepbhacpidcbaaGreatDoorQGr
import Derived.Test.YtoepbhacpidcbaaGreatDoorQGOps
import Derived.Test.YtoepbhacpidcbaaGreatDoorQBld
import Derived.Test.YtoepbhacpidcbaaGreatDoorQBW
import Derived.Test.YtoepbhacpidcbaaGreatDoorQHpK
import Derived.Test.YtoepbhacpidcbaaGreatDoorQG8
import Derived.Test.YtoepbhacpidcbaaGreatDoorQSqO
import Derived.Test.YtoepbhacpidcbaaGreatDoorQGoes
import Derived.Test.YtoepbhacpidcbaaGreatDoorQUp
import Derived.Test.YtoepbhacpidcbaaGreatDoorQSetP
import Derived.Test.YtoepbhacpidcbaaGreatDoorQWay
import Derived.Test.YtoepbhacpidcbaaGreatDoorQIn1
import Derived.Test.YtoepbhacpidcbaaGreatDoorQAll
import Derived.Test.YtoepbhacpidcbaaGreatDoorQR9

set_option linter.unusedVariables false
set_option linter.unusedSimpArgs false
namespace Go.Proofs.YtoepbhacpidcbaaGreatDoor
open Go.RowKit Go.Deep

theorem srow_frF (w : World) (g : Nat) (cs : Array Value) : Fr (One g) w (w.setRow g cs) := ⟨rfl, rfl, rfl, by simp, fun k hk hk2 => by
  have hk2 : ¬ k = g := hk2
  simp only [World.setRow, Array.getElem?_modify]
  rw [if_neg (fun e => hk2 e.symm)]⟩

set_option maxRecDepth 100000 in
set_option maxHeartbeats 4000000 in
theorem rfrom_calls {w : World} {b : Nat} {G : Gr} (h : RGM w b G) (ho : G.Ok) (hw : G.Wt) (s : Nat) (hs : s < G.n) :
    Calls Tryz.prog 25 #[.pointer (some ⟨b, 0, none⟩), .int .i64 (s : Nat)] w fun e w' => ∃ g c, e = .returned (.slice (some ⟨g, 0, none⟩) G.n c) ∧ Fr No w w' ∧ RwI w' g c G.n (fun v => G.far s v) := by
  have H := hid h
  have hn2 := ho.n2
  have hn1 : 0 < G.n := by omega
  have HALL := hid (all10_calls h ho hw)
  have hs24 : (s : Int) < 24 := by omega
  have hn24 : (G.n : Int) ≤ 24 := by omega
  clear h ho hw
  go_enter Tryz.func25, Tryz.ntmps25
  go_wp2_with fail
  refine HALL.out.mono ?_
  rintro e w6 ⟨rfl, hf⟩
  have Z6 := hid hf
  clear hf
  have hinf : (Tryz.prog.info? 103).map (·.size) = some 576 := by kernel_rfl
  go_wp2_with (refine wpList_store_row rfl 103 (.tmp 5) (.tmp 7) rfl w6.heap.size (sqV G.far) rfl rfl 103 Tryz.zeroCells103 (heap_alloc_new w6 _) (by rw [hinf, sqV_size]) (by rw [sqV_size, sq_size]) (sqV_one _) ?_)
  have hfs := srow_frF (w6.alloc (.cells Tryz.zeroCells103 103)) w6.heap.size (sqV G.far)
  have hsq : Sq ((w6.alloc (.cells Tryz.zeroCells103 103)).setRow w6.heap.size (sqV G.far)) w6.heap.size 24 G.far := Sq.of_heap rfl (setRow_heap _ w6.heap.size _ _ _ _ (heap_alloc_new w6 _))
  have f7 : Fr No w6 ((w6.alloc (.cells Tryz.zeroCells103 103)).setRow w6.heap.size (sqV G.far)) := ((Fr.refl No w6).alloc _).trans' hfs (fun k hk (e : k = w6.heap.size) => by omega)
  generalize (w6.alloc (.cells Tryz.zeroCells103 103)).setRow w6.heap.size (sqV G.far) = W7 at hsq f7 ⊢
  obtain ⟨B, hB⟩ : ∃ B, w6.heap.size = B := ⟨_, rfl⟩
  rw [hB] at hsq ⊢
  have HSQ := hid hsq
  have hsq' := hsq
  have Z7 := hid (Z6.out.trans f7)
  have c0 := (H.out.no Z7.out).c0
  have lb := cell_lt c0
  have lB := cell_lt (hsq.cell (by omega) (show s < 24 by omega) (show 0 < 24 by omega))
  clear hfs hsq f7 hinf hB Z6 HALL
  go_wp2
  have HC := hid (fun (j : Nat) (hj : j < G.n) => hsq'.cell (by omega) (show s < 24 by omega) (show j < 24 by omega))
  go_region_held_law (fun w' => w'.cell? ⟨b, 0, none⟩ = some (.int .i64 (G.n : Nat))) (first | go_keep | exact ((((Fr.refl No W7).alloc _).drew).grown hgrow (fun k e => by cases e; exact .inr (Nat.le_refl _))).cell_some c0 (fun h => h))
    ((refine step_app (.tmp 8) (.tmp 15) W7.heap.size 0 0 B (s * 24) G.n 24 [] (fun v => G.far s v) rfl rfl (by rfl) (by rfl) W7.heap.size (by exact own_of_heap (C := #[]) (by first | exact heap_new W7 _ | exact heap_newN W7 _ 1) (Nat.le_refl _) (Nat.le_refl _) (Nat.zero_le _) rfl rfl rfl) (by first | omega | (simp <;> omega)) (fun j hj => (((Fr.refl No W7).alloc _).drew).cell_some (HC.out j hj) (fun h => h)) hn1 (by omega) ?_; intro g cap w3 hown hgrow hat hlt; simp only [Nat.zero_add, List.nil_append] at hown))
  have hf3 : Fr No W7 w3 := (((Fr.refl No W7).alloc _).drew).grown hgrow (fun k e => by cases e; exact .inr (Nat.le_refl _))
  have HF3 := hid hf3
  have HOWN := hid hown
  clear hf3 hown hgrow hat
  go_wp2
  go_ret
  obtain ⟨g2, e1, h1, h2⟩ := own_rw (l := (List.range G.n).map (fun v => G.far s v)) (by simpa using HOWN.out) (by simpa using hn1)
  cases e1
  rw [List.length_map, List.length_range] at h2
  exact ⟨g, cap, by simp, Z7.out.trans HF3.out, h2.congr (fun i hi => by simp [List.getD, List.getElem?_map, List.getElem?_range hi])⟩

end Go.Proofs.YtoepbhacpidcbaaGreatDoor
