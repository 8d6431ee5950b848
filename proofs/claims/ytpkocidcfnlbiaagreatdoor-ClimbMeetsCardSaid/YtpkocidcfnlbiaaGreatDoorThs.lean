/- How far it is by way of those that may be in between; walked (under way). -/
import Derived.Test.YtpkocidcfnlbiaaGreatDoorThz
set_option linter.unusedVariables false
set_option linter.unusedSimpArgs false
namespace Go.Proofs.YtpkocidcfnlbiaaGreatDoor
open Go.RowKit Go.Shelf Go.Deep

attribute [local go_sem] Oper.semAt_some

def ThrR (w : World) (G : Gr) (may : Nat → Bool) (u : Nat) (e : Ending) (w' : World) : Prop :=
  ∃ (Bf : Nat) (far : Nat → Int), e = .returned (.slice (some ⟨Bf, 0, none⟩) G.n G.n) ∧ Blk w' Bf G.n 3 (fun i => .int .i64 (far i)) ∧ Fr No w w' ∧ w.heap.size ≤ Bf ∧ SFar G.n (edges G may) ((edges G may u).map fun e => (e.1, ad 0 e.2)) far

set_option maxRecDepth 100000 in
set_option maxHeartbeats 4000000 in
theorem through_calls {w : World} {Lg : GLoc} {G : Gr} (hg : GMem w Lg G) (hw : G.Wt) (hhd : G.Hd G.n) (u : Nat) (hu : u < G.n) (p10 p12 : Nat) (may : Nat → Bool)
    (hmay : ∀ W, Below w.heap.size w W → ∀ v, v < G.n → Calls Tryz.prog 107 #[.int .i64 (v : Nat), .pointer (some ⟨p10, 0, none⟩), .pointer (some ⟨p12, 0, none⟩)] W fun e w' => e = .returned (.bool (may v)) ∧ Fr No W w') :
    Calls Tryz.prog 106 #[.pointer (some ⟨Lg.b, 0, none⟩), .int .i64 (u : Nat), .func (.func 107) #[] #[.pointer (some ⟨p10, 0, none⟩), .pointer (some ⟨p12, 0, none⟩)]] w (ThrR w G may u) := by
  have hn := hg.ok.n2
  have hn1 := hg.ok.n1
  have HG := hid hg
  have HMAY := hid hmay
  clear hg hmay
  refine (callsIn_wide (n := 7)).1 ?_
  refine callsIn_of_wp_marks Tryz.func106 rfl trivial ?_ rfl
  refine wpIn_wide.2 ?_
  simp only [Tryz.ntmps106, List.size_toArray, List.length_cons, List.length_nil, Nat.reduceAdd, Nat.reduceSub, Array.replicate_succ, Array.replicate_zero, List.push_toArray, List.append_toArray, List.nil_append, List.cons_append]
  go_wp2_with fail
  refine (gverts_calls (HG.out.no ((((Fr.refl No w).alloc _).alloc _).alloc _))).mono ?_
  rintro e w1 ⟨rfl, hf1⟩
  have k3 := hf1.cell_some (p := ⟨w.heap.size, 0, none⟩) (v := .pointer (some ⟨Lg.b, 0, none⟩)) (by simp [go_sem]) (fun h => h)
  have k5 := hf1.cell_some (p := ⟨w.heap.size + 1, 0, none⟩) (v := .func (.func 107) #[] #[.pointer (some ⟨p10, 0, none⟩), .pointer (some ⟨p12, 0, none⟩)]) (by simp [go_sem]) (fun h => h)
  have k17 := hf1.cell_some (p := ⟨w.heap.size + 1 + 1, 0, none⟩) (v := .int .i64 4611686018427387906) (by simp [go_sem]) (fun h => h)
  have HF1 := hid (((((Fr.refl No w).alloc _).alloc _).alloc _).trans hf1)
  have HS12 : Hid (w.heap.size + 1 + 1 < w1.heap.size) := hid (by have := hf1.size; simp at this; omega)
  clear hf1
  go_wp2_with fail
  refine (repeat_calls 4611686018427387906 G.n hn1 (by omega) (w.heap.size + 1 + 1) w1 k17).mono ?_
  rintro e w2 ⟨Bf, rfl, hfar, hf2, hbf⟩
  have m3 := hf2.cell_some k3 (fun h => h)
  have m5 := hf2.cell_some k5 (fun h => h)
  have HF2 := hid (HF1.out.trans hf2)
  have HFAR := hid hfar
  have l3 := cell_lt m3
  have l5 := cell_lt m5
  have lf := hfar.lt
  have HBF := hid hbf
  have HBF2 := hid lf
  have HS24 : Hid (w1.heap.size ≤ w2.heap.size) := hid hf2.size
  clear hf2 k3 k5 k17 hfar hbf HF1
  go_wp2_with fail
  refine (gverts_calls (HG.out.no (HF2.out.alloc _))).mono ?_
  rintro e w3 ⟨rfl, hf3⟩
  have n3 := hf3.cell_some (((Fr.refl No w2).alloc _).cell_some m3 (fun h => h)) (fun h => h)
  have n5 := hf3.cell_some (((Fr.refl No w2).alloc _).cell_some m5 (fun h => h)) (fun h => h)
  have n7 := hf3.cell_some (p := ⟨w2.heap.size, 0, none⟩) (v := .slice (some ⟨Bf, 0, none⟩) G.n G.n) (by simp [go_sem]) (fun h => h)
  have HF3 := hid ((HF2.out.alloc _).trans hf3)
  have HS23 : Hid (w2.heap.size < w3.heap.size) := hid (by have := hf3.size; simp at this; omega)
  have HFAR3 := hid ((HFAR.out.alloc _).fr hf3 (fun h => h))
  clear hf3 m3 m5 HF2 HFAR l3 l5 lf
  go_wp2_with fail
  refine (hnew_calls G.n hn1 (by omega) w3).mono ?_
  rintro e w4 ⟨Lh, rfl, hbag, hf4, hown⟩
  have o3 := hf4.cell_some n3 (fun h => h)
  have o5 := hf4.cell_some n5 (fun h => h)
  have o7 := hf4.cell_some n7 (fun h => h)
  have HF4 := hid (HF3.out.trans hf4)
  have HS34 : Hid (w3.heap.size ≤ w4.heap.size) := hid hf4.size
  have HFAR4 := hid (HFAR3.out.fr hf4 (fun h => h))
  have HOWN := hid hown
  have HBAG := hid hbag
  have l3 := cell_lt o3
  have l5 := cell_lt o5
  have l7 := cell_lt o7
  clear hf4 n3 n5 n7 HF3 HFAR3 hown hbag
  go_wp2_with fail
  have hlt8 : ∀ j, Lh.own j → j < w4.heap.size := fun j hj => HBAG.out.own_lt hj
  have HLT8 := hid hlt8
  clear hlt8
  refine (hput_calls (HBAG.out.no ((Fr.refl No w4).alloc _)) u 0 hu (by omega)).mono ?_
  rintro e w5 ⟨c5, t5, rfl, hbag, hf5, ht5⟩
  have hth5 : ThM w [(w.heap.size, .pointer (some ⟨Lg.b, 0, none⟩)), (w.heap.size + 1, .func (.func 107) #[] #[.pointer (some ⟨p10, 0, none⟩), .pointer (some ⟨p12, 0, none⟩)]), (w2.heap.size, .slice (some ⟨Bf, 0, none⟩) G.n G.n), (w4.heap.size, .pointer (some ⟨Lh.b, 0, none⟩))] Lh Bf G.n ⟨fun _ => 4611686018427387906, setS (fun _ => false) u true, putP (fun _ => false) (fun _ => 0) u 0⟩ t5 w5 := by
    have hfa := hf5
    have hs24 : w2.heap.size < w3.heap.size := HS23.out
    have hs1 := HS12.out
    have hs2 := HS24.out
    have fr45 : Fr Lh.own w4 w5 := (((Fr.refl No w4).alloc _).no (F := Lh.own)).trans hfa
    have ho : ∀ j, Lh.own j → w3.heap.size ≤ j := HOWN.out
    have hbx : ∀ x : Nat, x < w3.heap.size → ¬ Lh.own x := fun x hx hj => by have := ho x hj; omega
    have hown5 : ∀ j, (Lh.at t5).own j → w3.heap.size ≤ j ∧ j ≠ w4.heap.size := fun j hj => by
      have hw34 := HS34.out
      rcases HLoc.own_at hj with e | e | e | e
      · have := HLT8.out j (.inl e); have := ho j (.inl e); omega
      · have := HLT8.out j (.inr (.inl e)); have := ho j (.inr (.inl e)); omega
      · have := HLT8.out j (.inr (.inr (.inl e))); have := ho j (.inr (.inr (.inl e))); omega
      · rcases ht5 j e with e | e
        · have := HLT8.out j (.inr (.inr (.inr e))); have := ho j (.inr (.inr (.inr e))); omega
        · rw [World.size_alloc] at e; omega
    have bfl : Bf < w2.heap.size := HBF2.out
    have bfg : w1.heap.size ≤ Bf := HBF.out
    refine ⟨?_, hbag, (HFAR4.out.alloc _).fr hfa (hbx Bf (by omega)), HF4.out.trans' fr45 (fun i hi hj => by have := ho i hj; omega), fun j hj => ?_, ⟨by omega, ?_⟩⟩
    · intro x hx
      simp only [List.mem_cons, List.not_mem_nil, or_false] at hx
      rcases hx with rfl | rfl | rfl | rfl
      · exact fr45.cell_some o3 (hbx _ (by show w.heap.size < _; omega))
      · exact fr45.cell_some o5 (hbx _ (by show w.heap.size + 1 < _; omega))
      · exact fr45.cell_some o7 (hbx _ (by show w2.heap.size < _; omega))
      · exact hfa.cell_some (by simp [go_sem]) (fun hj => by have := HLT8.out _ hj; have : w4.heap.size < w4.heap.size := this; omega)
    · have := hown5 j hj
      refine ⟨by omega, by omega, ?_⟩
      intro x hx
      simp only [List.mem_cons, List.not_mem_nil, or_false] at hx
      rcases hx with rfl | rfl | rfl | rfl
      · show j ≠ w.heap.size; omega
      · show j ≠ w.heap.size + 1; omega
      · show j ≠ w2.heap.size; omega
      · exact this.2
    · intro x hx
      simp only [List.mem_cons, List.not_mem_nil, or_false] at hx
      rcases hx with rfl | rfl | rfl | rfl
      · show Bf ≠ w.heap.size; omega
      · show Bf ≠ w.heap.size + 1; omega
      · show Bf ≠ w2.heap.size; omega
      · have := HS34.out; show Bf ≠ w4.heap.size; omega
  clear o3 o5 o7 HS12 HBF HBF2 HS24 HS23 HS34 HFAR4 HOWN HBAG l3 l5 l7 HLT8 HF4 hbag hf5 ht5
  have hok := HG.out.ok
  obtain ⟨bx, hbx⟩ : ∃ bx, [(w.heap.size, Value.pointer (some ⟨Lg.b, 0, none⟩)), (w.heap.size + 1, .func (.func 107) #[] #[.pointer (some ⟨p10, 0, none⟩), .pointer (some ⟨p12, 0, none⟩)]), (w2.heap.size, .slice (some ⟨Bf, 0, none⟩) G.n G.n), (w4.heap.size, .pointer (some ⟨Lh.b, 0, none⟩))] = bx := ⟨_, rfl⟩
  have m3 : (w.heap.size, Value.pointer (some ⟨Lg.b, 0, none⟩)) ∈ bx := by rw [← hbx]; simp
  have m5 : (w.heap.size + 1, Value.func (.func 107) #[] #[.pointer (some ⟨p10, 0, none⟩), .pointer (some ⟨p12, 0, none⟩)]) ∈ bx := by rw [← hbx]; simp
  have m7 : (w2.heap.size, Value.slice (some ⟨Bf, 0, none⟩) G.n G.n) ∈ bx := by rw [← hbx]; simp
  have m8 : (w4.heap.size, Value.pointer (some ⟨Lh.b, 0, none⟩)) ∈ bx := by rw [← hbx]; simp
  rw [hbx] at hth5
  have M3 := hid m3
  have M5 := hid m5
  have M7 := hid m7
  have M8 := hid m8
  have HT := hid hth5
  have HOK := hid hok
  have HHD := hid hhd
  have HW := hid hw
  clear hbx hth5 m3 m5 m7 m8 hok hhd hw
  obtain ⟨B7, hB7⟩ : ∃ B7, w2.heap.size = B7 := ⟨_, rfl⟩
  obtain ⟨B8, hB8⟩ : ∃ B8, w4.heap.size = B8 := ⟨_, rfl⟩
  rw [hB7] at M7 ⊢
  rw [hB8] at M8 ⊢
  clear hB7 hB8
  have k8 := HT.out.box _ M8.out
  simp only at k8
  go_wp2_with fail
  refine (hpop_calls (L := Lh.at t5) HT.out.bag (by omega)).mono ?_
  intro e w6 hr
  rcases HT.out.pop hr with ⟨hS, _⟩ | ⟨v, t6, hv, hS, rfl, hth, hf, hown⟩
  · exact absurd (hS u hu) (by simp [setS])
  obtain rfl : v = u := by
    have hS : setS (fun _ => false) u true v = true := hS
    unfold setS at hS
    by_cases e : v = u
    · exact e
    · rw [if_neg e] at hS; cases hS
  have hpr : putP (fun _ => false) (fun _ => 0) v 0 v = 0 := by simp [putP, updI]
  obtain ⟨s0, hs0⟩ : ∃ s0 : SpS, (⟨fun _ => 4611686018427387906, setS (setS (fun _ => false) v true) v false, putP (fun _ => false) (fun _ => 0) v 0⟩ : SpS) = s0 := ⟨_, rfl⟩
  have hth : ThM w bx Lh Bf G.n s0 t6 w6 := by rw [← hs0]; exact hth
  have hpr : ((⟨fun _ => 4611686018427387906, setS (fun _ => false) v true, putP (fun _ => false) (fun _ => 0) v 0⟩ : SpS).pr v) = 0 := hpr
  rw [hpr]
  have hinv : SInv G.n (edges G may) ((edges G may v).map fun e => (e.1, ad 0 e.2)) ((edges G may v).foldl (relax 0) s0) := SInv.first hu (fun x _ => edges_ok HOK.out HW.out may x) s0 (fun x _ => by rw [← hs0]) (fun x _ => by
    rw [← hs0]
    show setS (setS (fun _ => false) v true) v false x = false
    unfold setS
    by_cases e : x = v
    · rw [if_pos e]
    · rw [if_neg e, if_neg e])
  obtain ⟨I, hI⟩ : ∃ I, (edges G may v).map (fun e => (e.1, ad 0 e.2)) = I := ⟨_, rfl⟩
  have hIn : ∀ e ∈ I, e.1 < G.n := fun e he => by
    rw [← hI] at he
    obtain ⟨e', he', rfl⟩ := List.mem_map.1 he
    exact (edges_ok HOK.out HW.out may v e' he').1
  rw [hI] at hinv
  have HI := hid hI
  have HIN := hid hIn
  have HRDY := hid (show Rdy G.n (edges G may) I (mu G.n ((edges G may v).foldl (relax 0) s0) + 1) s0 v 0 true from ⟨fun h => absurd h (by decide), fun _ => ⟨hu, hinv, Nat.lt_succ_self _⟩⟩)
  obtain ⟨g0, hg0⟩ : ∃ g0, mu G.n ((edges G may v).foldl (relax 0) s0) + 1 = g0 := ⟨_, rfl⟩
  rw [hg0] at HRDY
  have HT6 := hid hth
  clear hpr hs0 hinv hI hIn hg0 hth hf hown hS hr HT k8
  go_wp2
  obtain ⟨ht7, hb7⟩ := HT6.out.box_new 0 3
  have HT7 := hid ht7
  have HB7 := hid hb7
  clear ht7 hb7
  refine wp_loop_ghost_k (fun k a' W => ∃ (s : SpS) (t : Value) (x : Nat) (d : Int) (b : Nat) (ok : Bool) (ds : List Nat) (u36 u37 u38 u39 u40 u41 u42 u43 u44 u45 u86 : Value), (ThM w bx Lh Bf G.n s t W ∧ Bx w bx Lh Bf t b d W ∧ Rdy G.n (edges G may) I k s x d ok ∧ Marks w.heap.size ds W) ∧
    a' = { tmps := #[.pointer (some ⟨Lg.b, 0, none⟩), .int .i64 (v : Nat), .func (.func 107) #[] #[.pointer (some ⟨p10, 0, none⟩), .pointer (some ⟨p12, 0, none⟩)], .pointer (some ⟨w.heap.size, 0, none⟩), undef, .pointer (some ⟨w.heap.size + 1, 0, none⟩), .slice none 0 0, .pointer (some ⟨B7, 0, none⟩), .pointer (some ⟨B8, 0, none⟩), .int .i64 0, .int .i64 (x : Nat), .pointer (some ⟨b, 0, none⟩), .bool ok, undef, undef, undef, undef, .slice (some ⟨w.heap.size + 1 + 1, 0, none⟩) 1 1, .pointer (some ⟨Lg.b, 0, none⟩), .int .i64 (G.n : Nat), .slice (some ⟨Bf, 0, none⟩) G.n G.n, .tuple #[.pointer (some ⟨Lh.b, 0, none⟩), .int .i64 0], .pointer (some ⟨Lg.b, 0, none⟩), .int .i64 (G.n : Nat), .tuple #[.pointer (some ⟨Lh.b, 0, none⟩), .int .i64 0], .pointer (some ⟨Lh.b, 0, none⟩), .int .i64 0, .pointer (some ⟨Lh.b, 0, none⟩), .int .i64 (v : Nat), .int .i64 c5, .tuple #[.int .i64 (v : Nat), .int .i64 0, .bool true], .pointer (some ⟨Lh.b, 0, none⟩), .tuple #[.int .i64 (v : Nat), .int .i64 0, .bool true], .int .i64 (v : Nat), .int .i64 0, .bool true, u36, u37, u38, u39, u40, u41, u42, u43, u44, u45, undef, undef, undef, undef, undef, undef, undef, undef, undef, undef, undef, undef, undef, undef, undef, undef, undef, undef, undef, undef, undef, undef, undef, undef, undef, undef, undef, undef, undef, undef, undef, undef, undef, undef, undef, undef, undef, undef, undef, undef, u86, undef], defers := ds.map mark }) g0 ?_ ?_
  · exact ⟨s0, t6, v, 0, _, true, [], _, _, _, _, _, _, _, _, _, _, _, ⟨HT7.out, HB7.out, HRDY.out, Marks.nil _ _⟩, rfl⟩
  intro gk a' wr hI J K hJ hK
  clear HT7 HB7 HRDY HT6
  obtain ⟨s, t, x, d, b, ok, ds, u36, u37, u38, u39, u40, u41, u42, u43, u44, u45, u86, ⟨hth, hbx, hrdy, hmk⟩, rfl⟩ := hI
  have HTH := hid hth
  have HBX := hid hbx
  have HRD := hid hrdy
  have HMK := hid hmk
  have k3 := hth.box _ M3.out
  have k7 := hth.box _ M7.out
  have k8 := hth.box _ M8.out
  have kb := hbx.c
  simp only at k3 k7 k8
  clear hth hbx hrdy hmk
  cases ok with
  | false =>
    go_wp2
    refine leaves_marks ds wr HMK.out fun W' hW' => ?_
    have hWn : Fr No w W' := HTH.out.fr.trans' hW' (fun i hi hk => by have := (HMK.out.2 i hk).1; omega)
    refine ⟨.slice (some ⟨Bf, 0, none⟩) G.n G.n, by simp [results, Tryz.results106, go_sem], Bf, s.far, rfl, HTH.out.far.fr hW' (fun hk => by
      have := HTH.out.far.is_cells (HMK.out.2 Bf hk).2
      cases this), hWn, HTH.out.sep.1, by rw [HI.out]; exact HRD.out.1 rfl⟩
  | true =>
    go_wp2_with fail
    refine (out_calls _ _ _).mono ?_
    rintro e W0 ⟨rfl, hW0⟩
    have f0 : Fr No wr W0 := by rw [hW0]; exact ((Fr.refl No wr).alloc _).alloc _
    have cg : W0.cell? ⟨wr.heap.size, 0, none⟩ = some (.pointer (some ⟨Lg.b, 0, none⟩)) := by rw [hW0]; simp [go_sem]
    have cv : W0.cell? ⟨wr.heap.size + 1, 0, none⟩ = some (.int .i64 (x : Nat)) := by rw [hW0]; simp [go_sem]
    have hsz : W0.heap.size = wr.heap.size + 1 + 1 := by rw [hW0]; simp
    have HT0 := hid (HTH.out.no f0)
    have HB0 := hid (HBX.out.no f0)
    have HM0 := hid (HMK.out.no f0)
    have hmlt : ∀ y ∈ ds, y < W0.heap.size := fun y hy => HM0.out.lt hy
    have HML := hid hmlt
    have hw0 := HT0.out.fr.size
    have hout : OutAt w.heap.size W0 Lg.b (x : Nat) (selI (G.outs (x : Nat))) := (HG.out.out (x : Nat)).below HT0.out.fr.below
    clear hW0 k3 k7 k8 kb HTH HBX HMK f0 hmlt
    go_wp2
    refine (wpIn_wide (n := 7)).1 ?_
    refine wpIn_rangeFunc_ownS rfl (by omega) (gf := 156) (lb := #[.pointer (some ⟨wr.heap.size, 0, none⟩), .pointer (some ⟨wr.heap.size + 1, 0, none⟩)]) rfl trivial (enters_of Tryz.func156 (by kernel_rfl) rfl)
      (out1_any 6 (by omega) wr.heap.size (wr.heap.size + 1) Lg.b w.heap.size (x : Nat) (selI (G.outs (x : Nat))) W0 cg cv hout ⟨by omega, by omega⟩ (by omega)) belowK_t (belowK_b (by omega)) (fun W => Below.refl _ W) (Below.refl _ _) (fun _ => rfl)
      (fun pre W => ∃ t', ThM w bx Lh Bf G.n (rst G may d s pre) t' W ∧ Bx w bx Lh Bf t' b d W ∧ Marks w.heap.size ds W)
      (fun _ _ _ => False)
      (fun pre A B row hs hg hr => by
        obtain ⟨t', h1, h2, h3⟩ := hs
        exact ⟨t', h1.grown hg (fun r e => ⟨by have := (hr r e).1; omega, (hr r e).2⟩), h2.grown hg (fun r e => (hr r e).2), h3.grown HML.out hg (fun r e => (hr r e).1)⟩)
      (fun _ _ _ _ _ hs _ _ => hs.elim)
      ⟨t, HT0.out, HB0.out, HM0.out⟩
      (fun z T => T.setIfInBounds 13 (.int .i64 z.1)) ?assign ?body ?done ?stop
    case assign =>
      intro l z W K hK
      gi_wp2
      simpa using hK
    case stop =>
      rintro D c pre W _ _ h _
      exact h.elim
    case done =>
      rintro D ys W hD rfl ⟨t', h1, h2, h3⟩ hKD
      rw [rst_all] at h1
      obtain ⟨hxn, hinv, hmu⟩ := HRD.out.2 rfl
      obtain ⟨s', hs'⟩ : ∃ s', (edges G may x).foldl (relax d) s = s' := ⟨_, rfl⟩
      rw [hs'] at h1 hinv hmu
      have hM : Marks w.heap.size (D :: ds) W := h3.cons HML.out hD (by omega) hKD
      have kb := h2.c
      have k8 := h1.box _ M8.out
      simp only at k8
      have H1 := hid h1
      have HM := hid hM
      have HINV := hid hinv
      have HMU := hid hmu
      have hbW := cell_lt kb
      have hb8W := cell_lt k8
      clear h1 h2 h3 hM hinv hmu hs' cg cv hout HT0 HB0 HM0 hKD HRD
      go_wp2_with fail
      have hbn := H1.out.box_new d 3
      have HT8 := hid hbn.1
      have HB8 := hid hbn.2
      clear hbn
      refine (hpop_calls (L := Lh.at t') HT8.out.bag (by omega)).mono ?_
      intro e W7 hr
      rcases HT8.out.pop hr with ⟨hS, rfl, hf, hth⟩ | ⟨v', t7, hv', hS, rfl, hth, hf, hown⟩
      · have hb7 := HB8.out.no hf
        have hm7 : Marks w.heap.size (D :: ds) W7 := HM.out.no (((Fr.refl No W).alloc _).trans hf)
        have hset := hth.box_set hb7 0
        have hm8 := hm7.fr ((Fr.refl (One W.heap.size) W7).set1 0 (.int .i64 0)) (fun k o (e : k = W.heap.size) ho => cell_is_cells hb7.c (by rw [e] at ho; exact ho))
        have e7 := hb7.c
        have z7 := hb7.z
        have l7 := cell_lt e7
        have HSET := hid hset
        have HM8 := hid hm8
        have HS := hid hS
        clear hset hm8 hr hS hth hf hb7 hm7 kb k8
        go_wp2
        refine Handed.intro (mu G.n s') HMU.out (hJ _ _ _ ⟨s', t', 0, 0, W.heap.size, false, D :: ds, _, _, _, _, _, _, _, _, _, _, _, ⟨HSET.out.1, HSET.out.2, ⟨fun _ => HINV.out.last HS.out, fun h => absurd h (by decide)⟩, HM8.out⟩, rfl⟩)
      · have hb7 := HB8.out.fr hf (fun ho => HB8.out.own _ ho rfl) (fun j hj => .inl (hown j hj))
        have hm7 : Marks w.heap.size (D :: ds) W7 := (HM.out.no ((Fr.refl No W).alloc _)).fr hf (fun k o hk ho => HT8.out.bag.own_cells hk ho)
        obtain ⟨pv, hpv⟩ : ∃ pv, s'.pr v' = pv := ⟨_, rfl⟩
        have hset := hth.box_set hb7 pv
        have hm8 := hm7.fr ((Fr.refl (One W.heap.size) W7).set1 0 (.int .i64 pv)) (fun k o (e : k = W.heap.size) ho => cell_is_cells hb7.c (by rw [e] at ho; exact ho))
        have hstep := HINV.out.step (fun y _ => edges_ok HOK.out HW.out may y) HIN.out hv' hS
        rw [hpv] at hstep ⊢
        have e7 := hb7.c
        have z7 := hb7.z
        have l7 := cell_lt e7
        have HSET := hid hset
        have HM8 := hid hm8
        have HSTEP := hid hstep
        clear hset hm8 hr hS hth hf hb7 hm7 kb k8 hstep hown hpv
        go_wp2
        refine Handed.intro (mu G.n s') HMU.out (hJ _ _ _ ⟨⟨s'.far, setS s'.S v' false, s'.pr⟩, t7, v', pv, W.heap.size, true, D :: ds, _, _, _, _, _, _, _, _, _, _, _, ⟨HSET.out.1, HSET.out.2, ⟨fun h => absurd h (by decide), fun _ => ⟨hv', HSTEP.out.1, HSTEP.out.2⟩⟩, HM8.out⟩, rfl⟩)
    case body =>
      rintro l pre ⟨xv, hx0, hx1⟩ W hl hloop ⟨t', h1, h2, h3⟩ _
      obtain ⟨i, rfl⟩ := Int.eq_ofNat_of_zero_le hx0
      have hi : i < 64 := by omega
      have k3 := h1.box _ M3.out
      have k5 := h1.box _ M5.out
      have k7 := h1.box _ M7.out
      have k8 := h1.box _ M8.out
      have kb := h2.c
      simp only at k3 k5 k7 k8
      have H1 := hid h1
      have H2 := hid h2
      have H3 := hid h3
      clear h1 h2 h3 hloop cg cv hout HT0 HB0 HM0 hJ hK hpr hth HRD HI HIN
      obtain ⟨hh0, hh1⟩ := HHD.out.2 i hi
      obtain ⟨⟨at_, ah, aw, ac⟩, har⟩ : ∃ y, G.arc i = y := ⟨_, rfl⟩
      rw [har] at hh0 hh1
      simp only at hh0 hh1
      obtain ⟨hd, rfl⟩ := Int.eq_ofNat_of_zero_le hh0
      have hhd : hd < G.n := by omega
      have HAR := hid har
      clear har hh0 hh1
      gi_wp2_with fail
      refine ⟨trivial, CallsIn.inRound l (callsIn_wide.2 ((garc_calls (HG.out.no H1.out.fr) i hi).mono ?_))⟩
      rw [HAR.out]
      rintro e W1 ⟨rfl, hf1⟩
      have j3 := hf1.cell_some k3 (fun h => h)
      have j5 := hf1.cell_some k5 (fun h => h)
      have j7 := hf1.cell_some k7 (fun h => h)
      have j8 := hf1.cell_some k8 (fun h => h)
      have jb := hf1.cell_some kb (fun h => h)
      have lb := cell_lt jb
      have F1 := hid hf1
      have HF1 : Hid (W.heap.size ≤ W1.heap.size) := hid hf1.size
      clear k3 k5 k7 k8 kb hf1
      gi_wp2_with fail
      obtain ⟨sm, hsm⟩ : ∃ sm, ad d aw = sm := ⟨_, rfl⟩
      have HSM := hid hsm
      refine ⟨trivial, CallsIn.inRound l (callsIn_wide.2 ((adl_calls d aw (some ⟨W1.heap.size + 1, 0, none⟩) 2 _ (fun _ => ⟨_, 0, rfl, by intro j hj; (have : j = 0 ∨ j = 1 := by omega); rcases this with rfl | rfl <;> simp [go_sem, pfM]⟩)).mono ?_))⟩
      rw [hsm]
      clear hsm
      rintro e W2 ⟨rfl, hf2⟩
      have f12 : Fr No W1 W2 := (((Fr.refl No W1).alloc _).alloc _).trans hf2
      have a1 : W2.cell? ⟨W1.heap.size, 1, none⟩ = some (.int .i64 (hd : Nat)) := hf2.cell_some (by simp [go_sem]) (fun h => h)
      have a3 : W2.cell? ⟨W1.heap.size, 3, none⟩ = some (.bool ac) := hf2.cell_some (by simp [go_sem]) (fun h => h)
      have k5 := f12.cell_some j5 (fun h => h)
      have k7 := f12.cell_some j7 (fun h => h)
      have k8 := f12.cell_some j8 (fun h => h)
      have F2 := hid (F1.out.trans f12)
      clear j3 j5 j7 j8 jb f12 hf2 F1
      cases ac with
      | true =>
        gi_wp2
        refine ⟨(fun f hf => by cases hf), ?_⟩
        gi_wp2
        have hfin := F2.out
        exact ⟨keepsFrom_cells hfin (fun _ _ h => h.elim), below_fr hfin (fun _ h => h.elim) H1.out.fr.size, t', by rw [rst_closed (by show (G.arc ((i : Nat) : Int).toNat).c = true; rw [Int.toNat_natCast, HAR.out])]; exact H1.out.no hfin, H2.out.no hfin, H3.out.no hfin⟩
      | false =>
        gi_wp2_with fail
        obtain ⟨mb, hmb⟩ : ∃ mb, may hd = mb := ⟨_, rfl⟩
        have HMB := hid hmb
        refine ⟨trivial, CallsIn.inRound l (callsIn_wide.2 ((HMAY.out W2 (H1.out.fr.trans F2.out).below hd hhd).mono ?_))⟩
        rw [hmb]
        clear hmb
        rintro e W3 ⟨rfl, hf3⟩
        have b1 := hf3.cell_some a1 (fun h => h)
        have b7 := hf3.cell_some k7 (fun h => h)
        have b8 := hf3.cell_some k8 (fun h => h)
        have F3 := hid (F2.out.trans hf3)
        clear a1 a3 k5 k7 k8 F2 hf3
        cases mb with
        | false =>
          gi_wp2
          have hfin := F3.out
          exact ⟨keepsFrom_cells hfin (fun _ _ h => h.elim), below_fr hfin (fun _ h => h.elim) H1.out.fr.size, t', by rw [rst_not (by show may (G.arc ((i : Nat) : Int).toNat).h.toNat = false; rw [Int.toNat_natCast, HAR.out]; exact HMB.out)]; exact H1.out.no hfin, H2.out.no hfin, H3.out.no hfin⟩
        | true =>
          have HT3 := hid (H1.out.no F3.out)
          have hone := rst_one (G := G) (may := may) (d := d) (s := s) (pre := pre) (x := ⟨((i : Nat) : Int), hx0, hx1⟩) (by show (G.arc ((i : Nat) : Int).toNat).c = false; rw [Int.toNat_natCast, HAR.out]) (by show may (G.arc ((i : Nat) : Int).toNat).h.toNat = true; rw [Int.toNat_natCast, HAR.out]; exact HMB.out)
          have hone2 : rst G may d s (pre ++ [⟨((i : Nat) : Int), hx0, hx1⟩]) = relax d (rst G may d s pre) (hd, aw) := by
            rw [hone]
            show relax d (rst G may d s pre) ((G.arc ((i : Nat) : Int).toNat).h.toNat, (G.arc ((i : Nat) : Int).toNat).w) = _
            rw [Int.toNat_natCast, HAR.out, Int.toNat_natCast]
          have HONE := hid hone2
          have bf := HT3.out.far.cell hhd
          have bfz := HT3.out.far.frozen hd
          obtain ⟨fv, hfv⟩ : ∃ fv, (rst G may d s pre).far hd = fv := ⟨_, rfl⟩
          rw [hfv] at bf
          have HFV := hid hfv
          clear hone hone2 hfv
          by_cases hlt : sm < fv
          · have HLT := hid hlt
            have hge : decide (fv ≤ sm) = false := by simp; omega
            have n1 : Bf ≠ B8 := H1.out.sep.2 _ M8.out
            have n2 : B8 ≠ Bf := fun e => n1 e.symm
            have n3 : Bf < W1.heap.size := Nat.lt_of_lt_of_le H1.out.far.lt HF1.out
            have n4 : W1.heap.size ≠ Bf := by omega
            have n5 : Bf ≠ W1.heap.size := by omega
            gi_wp2_with fail
            have hset := HT3.out.set hd sm
            have HS4 := hid hset.1
            have HF4 := hid hset.2
            clear hset
            refine ⟨trivial, CallsIn.inRound l (callsIn_wide.2 ((hput_calls (L := Lh.at t') HS4.out.bag hd sm hhd (by omega)).mono ?_))⟩
            intro e W5 hr
            obtain ⟨t5', c', rfl, hth5, hf5, ho5⟩ := HS4.out.put hr
            have hfin : Fr (fun k => k = Bf ∨ (Lh.at t').own k) W W5 := (F3.out.no).trans ((HF4.out.mono (fun k _ (e : k = Bf) => .inl e)).trans (hf5.mono (fun k _ hk => .inr hk)))
            have hcl : ∀ k o, (k = Bf ∨ (Lh.at t').own k) → W.heap[k]? = some o → o.isCells = true := fun k o hk ho => by
              rcases hk with rfl | hk
              · exact H1.out.far.is_cells ho
              · exact H1.out.bag.own_cells hk ho
            have hsz4 := F3.out.size
            have hsz5 := HF4.out.size
            have hb5 : Bx w bx Lh Bf t5' b d W5 := H2.out.fr hfin (fun hk => by
              rcases hk with e | hk
              · exact H2.out.ne.1 e
              · exact H2.out.own _ hk rfl) (fun j hj => by
              rcases ho5 j hj with e | e
              · exact .inl e
              · exact .inr (by omega))
            have hm5 := H3.out.fr hfin hcl
            have hr5 : ThM w bx Lh Bf G.n (rst G may d s (pre ++ [⟨((i : Nat) : Int), hx0, hx1⟩])) t5' W5 := by
              rw [HONE.out, relax_near (by rw [HSM.out, HFV.out]; have := HLT.out; omega), HSM.out]
              exact hth5
            have HFIN := hid hfin
            have HCL := hid hcl
            have HB5 := hid hb5
            have HM5 := hid hm5
            have HR5 := hid hr5
            clear hfin hcl hb5 hm5 hr5 hth5 hf5 ho5 hr hsz4 hsz5
            gi_wp2
            exact ⟨keepsFrom_cells HFIN.out HCL.out, below_fr HFIN.out (fun k hk => by
              rcases hk with rfl | hk
              · exact H1.out.sep.1
              · exact (H1.out.own _ hk).1) H1.out.fr.size, t5', HR5.out, HB5.out, HM5.out⟩
          · have HLT := hid hlt
            have hge : decide (fv ≤ sm) = true := by simp; omega
            gi_wp2
            have hfin := F3.out
            exact ⟨keepsFrom_cells hfin (fun _ _ h => h.elim), below_fr hfin (fun _ h => h.elim) H1.out.fr.size, t', by rw [HONE.out, relax_far (by rw [HSM.out, HFV.out]; have := HLT.out; omega)]; exact H1.out.no hfin, H2.out.no hfin, H3.out.no hfin⟩

end Go.Proofs.YtpkocidcfnlbiaaGreatDoor
