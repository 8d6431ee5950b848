/- Walks as the document has them: visits, checks, sums; walked. -/
import Derived.Laws.OwnMore
import Derived.Test.YtoepbhacpidcbaaGreatDoorQBase
import Derived.Test.YtoepbhacpidcbaaGreatDoorQIdx
import Derived.Test.YtoepbhacpidcbaaGreatDoorQIdxB
import Derived.Test.YtoepbhacpidcbaaGreatDoorQPerm
import Derived.Test.YtoepbhacpidcbaaGreatDoorQRef
import Derived.Test.YtoepbhacpidcbaaGreatDoorQBig
import Derived.Test.YtoepbhacpidcbaaGreatDoorQUnref
import Derived.Test.YtoepbhacpidcbaaGreatDoorQUnE
import Derived.Test.YtoepbhacpidcbaaGreatDoorQItr
import Derived.Test.YtoepbhacpidcbaaGreatDoorQDst
import Derived.Test.YtoepbhacpidcbaaGreatDoorQLnk
import Derived.Test.YtoepbhacpidcbaaGreatDoorQRow2
import Derived.Test.YtoepbhacpidcbaaGreatDoorQGr
import Derived.Test.YtoepbhacpidcbaaGreatDoorQGOps
import Derived.Test.YtoepbhacpidcbaaGreatDoorQBld
import Derived.Test.YtoepbhacpidcbaaGreatDoorQBW
import Derived.Test.YtoepbhacpidcbaaGreatDoorQG8
import Derived.Test.YtoepbhacpidcbaaGreatDoorQGoes
import Derived.Test.YtoepbhacpidcbaaGreatDoorQUp

set_option linter.unusedVariables false
set_option linter.unusedSimpArgs false
namespace Go.Proofs.YtoepbhacpidcbaaGreatDoor
open Go.RowKit Go.Deep

theorem Wk.step {G : Gr} : ∀ {l : List Nat} {u v : Nat}, Wk G u l v → ∀ i, i < l.length → l.getD i 0 < 64 ∧ G.tk (l.getD i 0) = true ∧ (G.arc (l.getD i 0)).c = false ∧ (G.arc (l.getD i 0)).t = (((u :: l.map G.hd).getD i 0 : Nat) : Int) := by
  intro l
  induction l with
  | nil => intro u v _ i hi; simp at hi
  | cons k l ih =>
    intro u v h i hi
    obtain ⟨p1, p2, p3, p4, p5⟩ := h
    match i with
    | 0 => exact ⟨p1, p2, p3, p4⟩
    | i + 1 => exact ih p5 i (by simpa using hi)
/-- The vertices of a walk. -/
def Gr.vis (G : Gr) (u : Nat) (l : List Nat) : List Int := (u :: l.map G.hd).map (fun z : Nat => (z : Int))
theorem Gr.vis_len (G : Gr) (u : Nat) (l : List Nat) : (G.vis u l).length = l.length + 1 := by simp [Gr.vis]
theorem Gr.vis_get (G : Gr) (u : Nat) (l : List Nat) (i : Nat) (hi : i < l.length + 1) : (G.vis u l).getD i 0 = (((u :: l.map G.hd).getD i 0 : Nat) : Int) := by
  unfold Gr.vis
  have h1 : i < (u :: l.map G.hd).length := by simpa using hi
  rw [List.getD, List.getElem?_map, List.getElem?_eq_getElem h1, List.getD, List.getElem?_eq_getElem h1]; rfl
theorem Gr.vis_next (G : Gr) (u : Nat) (l : List Nat) (i : Nat) (hi : i < l.length) : (G.vis u l).getD (i + 1) 0 = ((G.hd (l.getD i 0) : Nat) : Int) := by
  rw [G.vis_get u l (i + 1) (by omega)]
  congr 1
  show (l.map G.hd).getD i 0 = _
  rw [List.getD, List.getElem?_map, List.getElem?_eq_getElem hi, List.getD, List.getElem?_eq_getElem hi]; rfl
theorem take_next {l : List Int} {i : Nat} (hi : i < l.length) : l.take (i + 1) = l.take i ++ [l.getD i 0] := by
  rw [List.take_succ_eq_append_getElem hi, List.getD, List.getElem?_eq_getElem hi]; rfl

set_option maxRecDepth 100000 in
set_option maxHeartbeats 1000000 in
theorem rgarc_yes {w : World} {b : Nat} {G : Gr} (h : RGM w b G) (k : Nat) (hk : k < 64) (htk : G.tk k = true) :
    Calls Tryz.prog 43 #[.pointer (some ⟨b, 0, none⟩), .int .i64 (k : Nat)] w fun e w' => e = .returned (.tuple #[.agg #[.int .i64 (G.arc k).t, .int .i64 (G.arc k).h, .int .i64 (G.arc k).w, .bool (G.arc k).c], .bool true]) ∧ Fr No w w' := by
  have hcode : G.code (k : Nat) = 0 := by unfold Gr.code; rw [if_pos (by omega)]; simp [htk]
  have f0 := (Fr.refl No w).alloc (.cells #[.int .i64 0, .int .i64 0, .int .i64 0, .bool false] 49)
  have HR := hid (h.no f0)
  have o0 := heap_new w (.cells #[.int .i64 0, .int .i64 0, .int .i64 0, .bool false] 49)
  have O0 := hid o0
  have F0 := hid f0
  have z0 : (w.alloc (.cells #[.int .i64 0, .int .i64 0, .int .i64 0, .bool false] 49)).cell? ⟨b, 66 + k * 4, none⟩ = some (.int .i64 (G.arc k).t) := HR.out.arc hk 0 (by omega)
  have z1 : (w.alloc (.cells #[.int .i64 0, .int .i64 0, .int .i64 0, .bool false] 49)).cell? ⟨b, 66 + k * 4 + 1, none⟩ = some (.int .i64 (G.arc k).h) := HR.out.arc hk 1 (by omega)
  have z2 : (w.alloc (.cells #[.int .i64 0, .int .i64 0, .int .i64 0, .bool false] 49)).cell? ⟨b, 66 + k * 4 + 2, none⟩ = some (.int .i64 (G.arc k).w) := HR.out.arc hk 2 (by omega)
  have z3 : (w.alloc (.cells #[.int .i64 0, .int .i64 0, .int .i64 0, .bool false] 49)).cell? ⟨b, 66 + k * 4 + 3, none⟩ = some (.bool (G.arc k).c) := HR.out.arc hk 3 (by omega)
  have hk2 : (k : Int) < 64 := by omega
  clear h f0 o0
  go_enter Tryz.func43, Tryz.ntmps43
  go_wp2_with fail
  refine (rgcode_calls HR.out _).mono ?_
  rintro e w1 ⟨rfl, rfl⟩
  rw [hcode]
  have q8 := cell_of O0.out
  have zf := (own_no (Fr.refl No _) w.heap.size O0.out).2.1
  have x0 := q8 0
  have x1 := q8 1
  have x2 := q8 2
  have x3 := q8 3
  have hz : w.heap.size < (w.alloc (.cells #[.int .i64 0, .int .i64 0, .int .i64 0, .bool false] 49)).heap.size := some_lt O0.out
  clear q8
  generalize w.alloc (.cells #[.int .i64 0, .int .i64 0, .int .i64 0, .bool false] 49) = W1 at O0 F0 z0 z1 z2 z3 zf x0 x1 x2 x3 hz ⊢
  simp at x0 x1 x2 x3
  go_wp2
  have q := cell_of (heap_set (heap_set (heap_set (heap_set O0.out 0 (.int .i64 (G.arc k).t)) 1 (.int .i64 (G.arc k).h)) 2 (.int .i64 (G.arc k).w)) 3 (.bool (G.arc k).c))
  exact bodyPost_ret (v := .tuple #[.agg #[.int .i64 (G.arc k).t, .int .i64 (G.arc k).h, .int .i64 (G.arc k).w, .bool (G.arc k).c], .bool true]) (by simp [results, Tryz.results43, go_sem, q 0, q 1, q 2, q 3]) rfl
    ⟨rfl, (((F0.out.setCell (p := ⟨w.heap.size, 0, none⟩) (.inr (Nat.le_refl _)) _).setCell (p := ⟨w.heap.size, 1, none⟩) (.inr (Nat.le_refl _)) _).setCell (p := ⟨w.heap.size, 2, none⟩) (.inr (Nat.le_refl _)) _).setCell (p := ⟨w.heap.size, 3, none⟩) (.inr (Nat.le_refl _)) _⟩

set_option maxRecDepth 100000 in
set_option maxHeartbeats 4000000 in
theorem rvisits_calls {w : World} {b : Nat} {G : Gr} (h : RGM w b G) (ho : G.Ok) {u v : Nat} (hu : u < G.n) {l : List Nat} (hk : Wk G u l v) (hl : l.length ≤ 100) {A : Option Addr} {c : Nat} (hs : IntsF w A l.length (fun j => ((l.getD j 0 : Nat) : Int))) :
    Calls Tryz.prog 210 #[.pointer (some ⟨b, 0, none⟩), .int .i64 (u : Nat), .slice A l.length c] w fun e w' => ∃ A' c', e = .returned (.tuple #[.slice A' (G.vis u l).length c', .int .i64 0]) ∧ Fr No w w' ∧ SlL w' (.slice A' (G.vis u l).length c') (G.vis u l) := by
  have hvu : decide (0 ≤ (u : Int) ∧ (u : Int) < G.n) = true := by simp; omega
  have hlen := G.vis_len u l
  have hstep := fun i hi => hk.step (i := i) hi
  have hnext := fun i hi => G.vis_next u l i hi
  have hget := fun i hi => G.vis_get u l i hi
  have hhd : ∀ i, i < l.length → (G.arc (l.getD i 0)).h = ((G.hd (l.getD i 0) : Nat) : Int) := fun i hi => by
    obtain ⟨p1, p2, _⟩ := hk.step i hi
    have := ho.arc _ p1 p2
    unfold Gr.hd; omega
  have h1 : (G.vis u l).take 1 = [(u : Int)] := rfl
  obtain ⟨V, hV⟩ : ∃ V, G.vis u l = V := ⟨_, rfl⟩
  rw [hV] at hlen hnext hget h1 ⊢
  obtain ⟨N, hN⟩ : ∃ N, l.length = N := ⟨_, rfl⟩
  rw [hN] at hlen hl hs hstep hnext hget hhd ⊢
  have HR := hid h
  have HS := hid hs
  have HST := hid hstep
  have HNX := hid hnext
  have HGT := hid hget
  have HHD := hid hhd
  have HV1 := hid h1
  clear h hs hstep hnext hget hhd hV hN hk h1
  go_enter Tryz.func210, Tryz.ntmps210
  go_wp2_with fail
  refine (rgvertex_calls HR.out _).mono ?_
  rintro e w1 ⟨rfl, rfl⟩
  rw [hvu]
  have f1 : Fr No w (w.alloc (Obj.cells #[.int .i64 (u : Nat)] 3)) := (Fr.refl _ _).alloc _
  have own1 : (w.alloc (Obj.cells #[.int .i64 (u : Nat)] 3)).ownsRow w.heap.size 3 1 (.slice (some ⟨w.heap.size, 0, none⟩) ((V.take 1)).length 1) (V.take 1).length ((V.take 1).map (Value.int .i64)) := by
    rw [HV1.out]
    exact World.ownsRow_lit (size := 1) w #[.int .i64 (u : Nat)] 1 (Nat.le_refl _) (by decide) rfl
  have HO1 := hid own1
  have F1 := hid f1
  have hl1 : (V.take 1).length = 1 := by rw [HV1.out]; rfl
  rw [hl1] at HO1
  clear f1 own1
  go_wp2
  go_loopg [8, 9] N (fun gk p q wr => ∃ (i : Nat) (A' : Option Addr) (c' : Nat), q = .int .i64 i ∧ i ≤ N ∧ p = .slice A' (V.take (i + 1)).length c' ∧ wr.ownsRow w.heap.size 3 1 (.slice A' (V.take (i + 1)).length c') (V.take (i + 1)).length ((V.take (i + 1)).map (Value.int .i64)) ∧ gk = N - i ∧ Fr No w wr)
  case atStart => exact ⟨0, some ⟨w.heap.size, 0, none⟩, 1, rfl, by omega, by rw [hl1], by rw [hl1]; exact HO1.out, rfl, F1.out⟩
  case round =>
    obtain ⟨i, A', c', rfl, hi, rfl, hown, hgk, hf⟩ := hrel
    have HO := hid hown
    have HGK := hid hgk
    have HF := hid hf
    have hsz := hf.size
    have htl : (V.take (i + 1)).length = i + 1 := by rw [List.length_take, hlen]; omega
    clear hown hgk hf
    by_cases hlt : i < N
    · have hlt2 : (i : Int) < N := by omega
      obtain ⟨p1, p2, p3, p4⟩ := HST.out i hlt
      have hh := HHD.out i hlt
      have hnx := HNX.out i hlt
      have hgt := HGT.out i (by omega)
      obtain ⟨k, hkk⟩ : ∃ k, l.getD i 0 = k := ⟨_, rfl⟩
      rw [hkk] at p1 p2 p3 p4 hh hnx
      obtain ⟨bA, off, rfl, hc⟩ := HS.out (by omega)
      have q0 : wr.cell? ⟨bA, off + i, none⟩ = some (.int .i64 (k : Nat)) := by
        have := HF.out.cell_some (hc i hlt) (fun h => h)
        simp only [hkk] at this
        exact this
      have hnext2 : V.take (i + 1 + 1) = V.take (i + 1) ++ [((G.hd k : Nat) : Int)] := by rw [take_next (by rw [hlen]; omega), hnx]
      obtain ⟨M, hM⟩ : ∃ M, V.take (i + 1) = M := ⟨_, rfl⟩
      have hmi : M.getD i 0 = (((u :: l.map G.hd).getD i 0 : Nat) : Int) := by
        rw [← hM, ← hgt, List.getD, List.getElem?_take_of_lt (by omega), List.getD]
      rw [hM] at HO htl hnext2 ⊢
      rw [← hmi] at p4
      have HN2 := hid hnext2
      obtain ⟨aw, haw⟩ : ∃ aw, (G.arc k).w = aw := ⟨_, rfl⟩
      obtain ⟨z, hz⟩ : ∃ z, M.getD i 0 = z := ⟨_, rfl⟩
      obtain ⟨ah, hah⟩ : ∃ ah, ((G.hd k : Nat) : Int) = ah := ⟨_, rfl⟩
      rw [hz] at p4
      rw [hah] at hh HN2
      have HTL := hid htl
      have HZ := hid hz
      have hM100 : M.length ≤ 1000 := by omega
      have hiM : (i : Int) < M.length := by omega
      clear hc hkk hnx hgt hM hnext2 hmi htl hz hah
      go_wp2_with fail
      refine (rgarc_yes (HR.out.no HF.out) k p1 p2).mono ?_
      rintro e w3 ⟨rfl, hf3⟩
      rw [p3, p4, hh, haw]
      have HF3 := hid (HF.out.trans hf3)
      have HO3 := hid (own_fr HO.out hf3 (fun _ _ h => h))
      clear hf3 q0 HO HF p3 p4 hh haw
      go_wp2_with fail
      have O4 := heap_new w3 (Obj.cells #[.int .i64 z, .int .i64 ah, .int .i64 aw, .bool false] 49)
      have F4 : Fr No w3 (w3.alloc (Obj.cells #[.int .i64 z, .int .i64 ah, .int .i64 aw, .bool false] 49)) := (Fr.refl _ _).alloc _
      have y0 := cell_of O4 0
      have y1 := cell_of O4 1
      have hzl := some_lt O4
      generalize w3.alloc (Obj.cells #[.int .i64 z, .int .i64 ah, .int .i64 aw, .bool false] 49) = W4 at O4 F4 y0 y1 hzl ⊢
      simp at y0 y1
      have HF4 := hid (HF3.out.trans F4)
      have HO4 := hid (own_fr HO3.out F4 (fun _ _ h => h))
      obtain ⟨bo, oo, rfl, hco⟩ := (SlL.ints' (own_slL HO4.out (fun h => by have := HTL.out; rw [h] at this; simp at this))) (by have := HTL.out; omega)
      have q1 : W4.cell? ⟨bo, oo + i, none⟩ = some (.int .i64 z) := by
        have := hco i (by have := HTL.out; omega)
        simp only [HZ.out] at this
        exact this
      have kk0 : ∀ nn : Fam W4, nn.v.cell? ⟨w3.heap.size, 0, none⟩ = some (.int .i64 z) := Fam.cell y0
      have kk1 : ∀ nn : Fam W4, nn.v.cell? ⟨bo, oo + i, none⟩ = some (.int .i64 z) := Fam.cell q1
      have hzz : (z != z) = false := by simp
      clear hco F4 O4 HF3 HO3 y0 q1
      refine wp_region_fam (by kernel_rfl) (by kernel_rfl) ?_
      repeat (go_big_quiet_step (fail))
      refine wpQuiet_nil ?_
      rintro w5 ⟨⟨w5, hf5⟩, rfl⟩
      have HF5 := hid (HF4.out.trans hf5)
      have HO5 := hid (own_fr HO4.out hf5 (fun _ _ h => h))
      have y15 := hf5.cell_some y1 (fun h => h)
      have hs5 := HF5.out.size
      clear hf5 kk0 kk1 HF4 HO4 y1
      go_wp2_with (at_builtin; refine wpList_push (.tmp 44) (.tmp 47) (.slice (some ⟨bo, oo, none⟩) M.length c') M w5.heap.size 1 ah ?_ ?_ ?_ ?_ w.heap.size ?_ ?_ ?_ ?_ ?_; rfl; rfl; rfl; rfl; exact own_fr HO5.out ((Fr.refl No _).alloc _) (fun _ _ h => h); (simp; omega); exact cell_of (heap_new w5 _) 0; omega; intro g' cap' w6 hown4 hgrow4 hat4 hlt4; have HO6 := hid hown4; have HG6 := hid hgrow4; clear hown4 hgrow4 hat4)
      all_goals go_roundg (N - (i + 1))
      all_goals first
        | (have := HGK.out; omega)
        | exact ⟨i + 1, some ⟨g', 0, none⟩, cap', by go_num, by omega, by rw [HN2.out]; simp, by rw [HN2.out]; exact HO6.out, rfl, (HF5.out.alloc _).grown HG6.out (fun k e => .inr (own_block HO5.out k e).1)⟩
    · have e : i = N := by omega
      subst e
      go_wp2
      go_ret2
      have ht : V.take (i + 1) = V := List.take_of_length_le (by omega)
      rw [ht] at HO
      rw [ht]
      exact ⟨A', c', rfl, HF.out, own_slL HO.out (fun h => by rw [h] at hlen; simp at hlen)⟩

theorem Wk.endv {G : Gr} : ∀ {l : List Nat} {u v : Nat}, Wk G u l v → (u :: l.map G.hd).getD l.length 0 = v := by
  intro l
  induction l with
  | nil => intro u v h; exact h
  | cons k l ih => intro u v h; exact ih h.2.2.2.2

set_option maxRecDepth 100000 in
set_option maxHeartbeats 2000000 in
theorem rcheck_calls {w : World} {b : Nat} {G : Gr} (h : RGM w b G) (ho : G.Ok) {u v : Nat} (hu : u < G.n) (hv : v < G.n) {l : List Nat} (hk : Wk G u l v) (hl : l.length ≤ 100) {A : Option Addr} {c : Nat} (hs : IntsF w A l.length (fun j => ((l.getD j 0 : Nat) : Int))) :
    Calls Tryz.prog 170 #[.pointer (some ⟨b, 0, none⟩), .int .i64 (u : Nat), .int .i64 (v : Nat), .slice A l.length c] w fun e w' => e = .returned (.int .i64 0) ∧ Fr No w w' := by
  have hvu : decide (0 ≤ (u : Int) ∧ (u : Int) < G.n) = true := by simp; omega
  have hvv : decide (0 ≤ (v : Int) ∧ (v : Int) < G.n) = true := by simp; omega
  have hlen := G.vis_len u l
  have hend : (G.vis u l).getD l.length 0 = (v : Nat) := by rw [G.vis_get u l l.length (by omega), hk.endv]
  have HV := hid (rvisits_calls h ho hu hk hl hs (c := c))
  have HR := hid h
  obtain ⟨V, hV⟩ : ∃ V, G.vis u l = V := ⟨_, rfl⟩
  obtain ⟨N, hN⟩ : ∃ N, l.length = N := ⟨_, rfl⟩
  rw [hV] at HV hlen hend
  rw [hN] at HV hlen hend hl ⊢
  rw [hlen] at HV
  have HE := hid hend
  clear hs h hk hV hN hend
  go_enter Tryz.func170, Tryz.ntmps170
  go_wp2_with fail
  refine (rgvertex_calls HR.out _).mono ?_
  rintro e w1 ⟨rfl, rfl⟩
  rw [hvu]
  go_wp2_with fail
  refine (rgvertex_calls HR.out _).mono ?_
  rintro e w1 ⟨rfl, rfl⟩
  rw [hvv]
  go_wp2_with fail
  refine HV.out.mono ?_
  rintro e w1 ⟨A', c', rfl, hf, hsl⟩
  rw [← hlen] at hsl
  obtain ⟨bo, oo, rfl, hco⟩ := (SlL.ints' hsl) (by omega)
  have q1 : w1.cell? ⟨bo, oo + N, none⟩ = some (.int .i64 (v : Nat)) := by
    have := hco N (by omega)
    simp only [HE.out] at this
    exact this
  have HF := hid hf
  have e1 : (((N + 1 : Nat) : Int) - 1) = ((N : Nat) : Int) := by omega
  have e2 : (((N : Nat) : Int) + 1 - 1) = ((N : Nat) : Int) := by omega
  have e3 : (N : Int) < ((N + 1 : Nat) : Int) := by omega
  have e4 : (N : Int) < ((N : Nat) : Int) + 1 := by omega
  clear hco hsl hf hlen
  go_wp2
  go_ret
  exact ⟨rfl, HF.out⟩

theorem Gr.len_take_succ (G : Gr) (l : List Nat) (i : Nat) (hi : i < l.length) : G.len (l.take (i + 1)) = G.len (l.take i) + (G.arc (l.getD i 0)).w := by
  rw [List.take_succ_eq_append_getElem hi, Gr.len_app, Gr.len_cons, Gr.len_nil, Int.add_zero, List.getD, List.getElem?_eq_getElem hi]; rfl
theorem Wk.len_le {G : Gr} (hw : G.Wt) {l : List Nat} {u v : Nat} (h : Wk G u l v) (i : Nat) : 0 ≤ G.len (l.take i) ∧ G.len (l.take i) ≤ G.len l := by
  have h0 := h
  rw [← List.take_append_drop i l] at h0
  obtain ⟨m, h1, h2⟩ := Wk.split _ h0
  have p1 := Wk.pos hw h1
  have p2 := Wk.pos hw h2
  have e : G.len l = G.len (l.take i) + G.len (l.drop i) := by rw [← Gr.len_app, List.take_append_drop]
  omega

set_option maxRecDepth 100000 in
set_option maxHeartbeats 2000000 in
theorem rsum9_calls {w : World} {b : Nat} {G : Gr} (h : RGM w b G) (hw : G.Wt) {u v : Nat} {l : List Nat} (hk : Wk G u l v) (hl : l.length ≤ 100) (hmost : G.len l ≤ 4611686018427387904) {A : Option Addr} {c : Nat} (hs : IntsF w A l.length (fun j => ((l.getD j 0 : Nat) : Int))) :
    Calls Tryz.prog 171 #[.pointer (some ⟨b, 0, none⟩), .slice A l.length c] w fun e w' => e = .returned (.int .i64 (G.len l)) ∧ Fr No w w' := by
  have hstep := fun i hi => hk.step (i := i) hi
  have hb := fun i => hk.len_le hw i
  have hsucc := fun i hi => G.len_take_succ l i hi
  have hend : l.take l.length = l := List.take_length
  obtain ⟨N, hN⟩ : ∃ N, l.length = N := ⟨_, rfl⟩
  rw [hN] at hl hs hstep hsucc hend ⊢
  have HR := hid h
  have HS := hid hs
  have HST := hid hstep
  have HB := hid hb
  have HSC := hid hsucc
  have HE := hid hend
  have HM := hid hmost
  have HW := hid hw
  clear h hs hstep hb hsucc hend hmost hw hk hN
  go_enter Tryz.func171, Tryz.ntmps171
  go_wp2
  go_loopg [5, 6] N (fun gk p q wr => ∃ i : Nat, p = .int .i64 (G.len (l.take i)) ∧ q = .int .i64 i ∧ i ≤ N ∧ gk = N - i ∧ Fr No w wr)
  case atStart => exact ⟨0, rfl, rfl, by omega, rfl, Fr.refl _ _⟩
  case round =>
    obtain ⟨i, rfl, rfl, hi, hgk, hf⟩ := hrel
    have HGK := hid hgk
    have HF := hid hf
    clear hgk hf
    by_cases hlt : i < N
    · have hlt2 : (i : Int) < N := by omega
      obtain ⟨p1, p2, p3, p4⟩ := HST.out i hlt
      have hsc := HSC.out i hlt
      have hb0 := HB.out i
      have hb1 := HB.out (i + 1)
      have hmost := HM.out
      obtain ⟨k, hkk⟩ : ∃ k, l.getD i 0 = k := ⟨_, rfl⟩
      rw [hkk] at p1 p2 p3 p4 hsc
      have hwk := HW.out k p1 p2
      obtain ⟨bA, off, rfl, hc⟩ := HS.out (by omega)
      have q0 : wr.cell? ⟨bA, off + i, none⟩ = some (.int .i64 (k : Nat)) := by
        have := HF.out.cell_some (hc i hlt) (fun h => h)
        simp only [hkk] at this
        exact this
      obtain ⟨s, hse⟩ : ∃ s, G.len (l.take i) = s := ⟨_, rfl⟩
      rw [hse] at hsc hb0 ⊢
      obtain ⟨⟨a0, a1, a2, a3⟩, ha⟩ : ∃ a, G.arc k = a := ⟨_, rfl⟩
      have hr := rgarc_yes (HR.out.no HF.out) k p1 p2
      rw [ha] at hr hsc hwk
      simp only at hr hsc hwk
      have hadd : add1 (normI s) a2 = s + a2 := by
        rw [norm_id ⟨by omega, by omega⟩]
        have hn2 : normI a2 = a2 := norm_id ⟨by omega, by omega⟩
        unfold add1
        rw [hn2, if_neg (by omega), if_neg (by omega)]
      have HADD := hid hadd
      have HSC2 := hid hsc
      have HRR := hid hr
      clear hc hkk hsc hb0 hb1 hmost hwk p1 p2 p3 p4 ha hr hadd hse
      go_wp2_with fail
      refine HRR.out.mono ?_
      rintro e w3 ⟨rfl, hf3⟩
      have HF3 := hid (HF.out.trans hf3)
      clear hf3 q0 HF HRR
      go_wp2_with fail
      refine (rsum_calls s a2 _).mono ?_
      rintro e w4 ⟨rfl, hf4⟩
      rw [HADD.out, ← HSC2.out]
      have HF4 := hid ((HF3.out.alloc _).trans hf4)
      clear hf4
      go_wp2
      go_roundg (N - (i + 1))
      case measure => have := HGK.out; omega
      case rel => exact ⟨i + 1, rfl, by go_num, by omega, rfl, HF4.out⟩
    · have e : i = N := by omega
      subst e
      go_wp2
      go_ret
      exact ⟨by rw [HE.out]; rfl, HF.out⟩

set_option maxRecDepth 100000 in
set_option maxHeartbeats 2000000 in
theorem rsimple_calls {w : World} {b : Nat} {G : Gr} (h : RGM w b G) (ho : G.Ok) {u v : Nat} (hu : u < G.n) {l : List Nat} (hk : Wk G u l v) (hl : l.length ≤ 100) (hnd : (u :: l.map G.hd).Nodup) {A : Option Addr} {c : Nat} (hs : IntsF w A l.length (fun j => ((l.getD j 0 : Nat) : Int))) :
    Calls Tryz.prog 172 #[.pointer (some ⟨b, 0, none⟩), .int .i64 (u : Nat), .slice A l.length c] w fun e w' => e = .returned (.bool true) ∧ Fr No w w' := by
  have hlen := G.vis_len u l
  have HV := hid (rvisits_calls h ho hu hk hl hs (c := c))
  have hne : ∀ i k, k < i → i < (G.vis u l).length → (G.vis u l).getD k 0 ≠ (G.vis u l).getD i 0 := fun i k hki hi => by
    rw [hlen] at hi
    rw [G.vis_get u l k (by omega), G.vis_get u l i hi]
    have hp := List.pairwise_iff_getElem.1 hnd k i (by simp; omega) (by simp; omega) hki
    intro e
    apply hp
    have e' : (u :: l.map G.hd).getD k 0 = (u :: l.map G.hd).getD i 0 := by omega
    rw [List.getD, List.getElem?_eq_getElem (by simp; omega), List.getD, List.getElem?_eq_getElem (by simp; omega)] at e'
    exact e'
  obtain ⟨V, hV⟩ : ∃ V, G.vis u l = V := ⟨_, rfl⟩
  obtain ⟨N, hN⟩ : ∃ N, V.length = N := ⟨_, rfl⟩
  rw [hV] at HV hlen hne
  rw [hN] at HV hlen hne
  have HNE := hid hne
  have hN100 : N ≤ 101 := by omega
  have HN := hid hN
  clear hs h hk hV hN hne hnd
  go_enter Tryz.func172, Tryz.ntmps172
  go_wp2_with fail
  refine HV.out.mono ?_
  rintro e w1 ⟨A', c', rfl, hf, hsl⟩
  rw [← HN.out] at hsl
  obtain ⟨bo, oo, rfl, hco⟩ := (SlL.ints' hsl) (by have := HN.out; omega)
  rw [HN.out] at hco
  have HCO := hid hco
  have HF1 := hid hf
  clear hco hsl hf
  go_wp2
  go_loopg [9] (N + 1) (fun gk p wr => ∃ i : Nat, p = .int .i64 i ∧ i ≤ N ∧ gk = N + 1 - i ∧ Fr No w1 wr)
  case atStart => exact ⟨0, rfl, by omega, rfl, Fr.refl _ _⟩
  case round =>
    obtain ⟨i, rfl, hi, hgk, hf⟩ := hrel
    have HGK := hid hgk
    have HF := hid hf
    clear hgk hf
    obtain ⟨wo, rfl⟩ : ∃ wo : World, wo = wr := ⟨_, rfl⟩
    by_cases hlt : i < N
    · have hlt2 : (i : Int) < N := by omega
      go_wp2
      go_loopg [10] (N + 1) (fun gk p wr => ∃ k : Nat, p = .int .i64 k ∧ k ≤ i ∧ gk = N + 1 - k ∧ Fr No w1 wr)
      case atStart => exact ⟨0, rfl, by omega, rfl, HF.out⟩
      case round =>
        obtain ⟨k, rfl, hk, hgk2, hf⟩ := hrel
        clear HF
        have HGK2 := hid hgk2
        have HF := hid hf
        clear hgk2 hf
        by_cases hki : k < i
        · have hki2 : (k : Int) < i := by omega
          have hkN : (k : Int) < N := by omega
          have hne := HNE.out i k hki hlt
          have q0 : wr.cell? ⟨bo, oo + k, none⟩ = some (.int .i64 (V.getD k 0)) := HF.out.cell_some (HCO.out k (by omega)) (fun h => h)
          have q1 : wr.cell? ⟨bo, oo + i, none⟩ = some (.int .i64 (V.getD i 0)) := HF.out.cell_some (HCO.out i hlt) (fun h => h)
          obtain ⟨y, hy⟩ : ∃ y, V.getD k 0 = y := ⟨_, rfl⟩
          obtain ⟨z, hz⟩ : ∃ z, V.getD i 0 = z := ⟨_, rfl⟩
          rw [hy, hz] at hne
          rw [hy] at q0
          rw [hz] at q1
          have hyz : (y == z) = false := by simpa using hne
          have kk0 : ∀ nn : Fam wr, nn.v.cell? ⟨bo, oo + k, none⟩ = some (.int .i64 y) := Fam.cell q0
          have kk1 : ∀ nn : Fam wr, nn.v.cell? ⟨bo, oo + i, none⟩ = some (.int .i64 z) := Fam.cell q1
          clear hy hz q0 q1 hne
          go_wp2_with fail
          refine wp_region_fam (by kernel_rfl) (by kernel_rfl) ?_
          repeat (go_big_quiet_step (fail))
          refine wpQuiet_nil ?_
          rintro w5 ⟨⟨w5, hf5⟩, rfl⟩
          have HF5 := hid (HF.out.trans hf5)
          clear hf5 kk0 kk1
          go_wp2
          go_roundg (N + 1 - (k + 1))
          case measure => have := HGK2.out; omega
          case rel => exact ⟨k + 1, by go_num, by omega, rfl, HF5.out⟩
        · have e : k = i := by omega
          subst e
          go_wp2
          go_roundg (N + 1 - (k + 1))
          case measure => have := HGK.out; omega
          case rel => exact ⟨k + 1, by go_num, by omega, rfl, HF.out⟩
    · have hlt2 : ¬ (i : Int) < N := by omega
      go_wp2
      go_ret
      exact ⟨rfl, HF1.out.trans HF.out⟩

end Go.Proofs.YtoepbhacpidcbaaGreatDoor
