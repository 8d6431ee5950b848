/- build.Between: how far it is between two by way of lower ones; walked. -/
import Derived.Test.YtpkocidcfnlbiaaGreatDoorBtz
import Derived.Deep.CutRange
import Derived.Deep.RegionHeld3
set_option linter.unusedVariables false
set_option linter.unusedSimpArgs false
namespace Go.Proofs.YtpkocidcfnlbiaaGreatDoor
open Go.RowKit Go.Shelf Go.Deep

attribute [local go_sem] Oper.semAt_some

def Ix.below (x : Ix) (u v z : Nat) : Bool := decide (x.rk z < min (x.rk u) (x.rk v))
def BtwR (w : World) (d : Int) (e : Ending) (w' : World) : Prop := e = .returned (.tuple #[.int .i64 d, .int .i64 0]) ∧ Fr No w w'
theorem Ix.Ok.low_rank {x : Ix} (h : x.Ok) {u v : Nat} (hu : u < x.n) (hv : v < x.n) (hne : u ≠ v) : ∃ lo : Nat, lo < x.n ∧ x.low (u : Nat) (v : Nat) = (lo : Nat) ∧ x.rank (lo : Nat) = (min (x.rk u) (x.rk v) : Nat) := by
  rw [Ix.low_eq hu hv hne]
  by_cases hlt : x.rk u < x.rk v
  · refine ⟨u, hu, by rw [if_pos hlt], ?_⟩
    unfold Ix.rank
    rw [if_pos (by omega), Int.toNat_natCast, Nat.min_eq_left (by omega)]
  · refine ⟨v, hv, by rw [if_neg hlt], ?_⟩
    unfold Ix.rank
    rw [if_pos (by omega), Int.toNat_natCast, Nat.min_eq_right (by omega)]

/-- Between two rounds: the box of the least, the marks. -/
structure BtM (w5 : World) (B14 n0 : Nat) (ds : List Nat) (acc : Int) (W : World) : Prop where
  f : Fr (One B14) w5 W
  c : W.cell? ⟨B14, 0, none⟩ = some (.int .i64 acc)
  z : W.frozen? ⟨B14, 0, none⟩ = false
  m : Marks n0 ds W
theorem BtM.no {w5 : World} {B14 n0 : Nat} {ds : List Nat} {acc : Int} {W W' : World} (h : BtM w5 B14 n0 ds acc W) (hf : Fr No W W') : BtM w5 B14 n0 ds acc W' :=
  ⟨h.f.trans hf.no, hf.cell_some h.c (fun h => h), (hf.frozen (p := ⟨B14, 0, none⟩) (cell_lt h.c) (fun h => h)).trans h.z, h.m.no hf⟩
theorem BtM.grown {w5 : World} {B14 n0 N : Nat} {ds : List Nat} {acc : Int} {A B : World} (h : BtM w5 B14 n0 ds acc A) (hN : ∀ x ∈ ds, x < N) (h5 : w5.heap.size ≤ N) {row : Option Nat} (hg : A.grownBy B row) (hr : ∀ r, row = some r → N ≤ r ∧ ∃ o : Obj, A.heap[r]? = some o ∧ o.isCells = false) : BtM w5 B14 n0 ds acc B :=
  ⟨h.f.grown hg (fun k e => .inr (by have := (hr k e).1; omega)), cell_kept h.c hg (fun r e => (hr r e).2), (frozen_kept h.c hg (fun r e => (hr r e).2)).trans h.z, h.m.grown hN hg (fun r e => (hr r e).1)⟩
theorem BtM.set {w5 : World} {B14 n0 : Nat} {ds : List Nat} {acc : Int} {W : World} (h : BtM w5 B14 n0 ds acc W) (x : Int) : BtM w5 B14 n0 ds x (W.setCell ⟨B14, 0, none⟩ (.int .i64 x)) :=
  ⟨h.f.set1 0 _, World.cell?_setCell_same' _ _ _ (by rw [h.c]; rfl), by rw [World.frozen?_setCell]; exact h.z, h.m.fr ((Fr.refl (One B14) W).set1 0 _) (fun k o (e : k = B14) ho => cell_is_cells h.c (by rw [e] at ho; exact ho))⟩

set_option maxRecDepth 100000 in
set_option maxHeartbeats 4000000 in
theorem between_calls {Lg : GLoc} {G : Gr} {w : World} (hg : GMem w Lg G) (hwt : G.Wt) (hhd : G.Hd G.n) (A : Option Addr) (c : Nat) (f : Nat → Int) (ha : IntsF w A G.n f) (hd : PermF G.n f) (g : Nat → Nat) (hg1 : ∀ i, i < G.n → g (f i).toNat = i) (hg2 : ∀ r, r < G.n → g r < G.n ∧ f (g r) = r) (hN : NoneVar w)
    (u v : Nat) (hu : u < G.n) (hv : v < G.n) (hne : u ≠ v) :
    Calls Tryz.prog 51 #[.pointer (some ⟨Lg.b, 0, none⟩), .slice A G.n c, .int .i64 (u : Nat), .int .i64 (v : Nat)] w (BtwR w (G.btw ((Ix.new G.n f g).below u v) u v)) := by
  have hok := hg.ok
  have hn24 := hok.n2
  have hn1 := hok.n1
  have fb : Fr No w ((w.alloc (.cells #[.pointer (some ⟨Lg.b, 0, none⟩)] 25)).alloc (.cells #[.int .i64 (v : Nat)] 3)) := ((Fr.refl No w).alloc _).alloc _
  obtain ⟨x0, hx0⟩ : ∃ x0, Ix.new G.n f g = x0 := ⟨_, rfl⟩
  have hxn : x0.n = G.n := by rw [← hx0]; rfl
  have HX0 := hid hx0
  rw [hx0]
  have HG := hid hg
  have HA := hid (ha.fr fb)
  have HN := hid (hN.fr fb (fun h => h))
  have FB := hid fb
  have HD := hid hd
  have HG1 := hid hg1
  have HG2 := hid hg2
  have HWT := hid hwt
  have HHD := hid hhd
  have HOK := hid hok
  clear hg ha hN fb hd hg1 hg2 hx0 hwt hhd hok
  refine (callsIn_wide (n := 7)).1 ?_
  refine callsIn_of_wp_marks Tryz.func51 rfl trivial ?_ rfl
  refine wpIn_wide.2 ?_
  simp only [Tryz.ntmps51, List.size_toArray, List.length_cons, List.length_nil, Nat.reduceAdd, Nat.reduceSub, Array.replicate_succ, Array.replicate_zero, List.push_toArray, List.append_toArray, List.nil_append, List.cons_append]
  go_wp2_with fail
  refine (new_yes A G.n c f _ HA.out hn1 HD.out g HG1.out HG2.out HN.out).mono ?_
  rintro e w1 ⟨L, rfl, hf, hx, hl1, hl2, hl3, hcb⟩
  rw [HX0.out] at hx
  have a4 := hf.cell_some (p := ⟨w.heap.size, 0, none⟩) (v := .pointer (some ⟨Lg.b, 0, none⟩)) (by simp [go_sem]) (fun h => h)
  have a7 := hf.cell_some (p := ⟨w.heap.size + 1, 0, none⟩) (v := .int .i64 (v : Nat)) (by simp [go_sem]) (fun h => h)
  have HX1 := hid hx
  have F1 := hid (FB.out.trans hf)
  clear hf hx HA HN FB hl1 hl2 hl3 hcb HD HG1 HG2 HX0
  go_wp2_with fail
  have f2 := (Fr.refl No w1).alloc (.cells #[.pointer (some ⟨L.b, 0, none⟩)] 29)
  have c10 : (w1.alloc (.cells #[.pointer (some ⟨L.b, 0, none⟩)] 29)).cell? ⟨w1.heap.size, 0, none⟩ = some (.pointer (some ⟨L.b, 0, none⟩)) := by simp [go_sem]
  have c4 := f2.cell_some a4 (fun h => h)
  have c7 := f2.cell_some a7 (fun h => h)
  have HX2 := hid (HX1.out.no f2)
  have F2 := hid (F1.out.trans f2)
  obtain ⟨W2, hW2⟩ : ∃ W2, w1.alloc (.cells #[.pointer (some ⟨L.b, 0, none⟩)] 29) = W2 := ⟨_, rfl⟩
  rw [hW2] at f2 c10 c4 c7 HX2 F2 ⊢
  obtain ⟨B10, hB10⟩ : ∃ B, w1.heap.size = B := ⟨_, rfl⟩
  rw [hB10] at c10 ⊢
  clear hW2 f2 a4 a7 HX1 F1 hB10
  obtain ⟨lo, hlo, hlow, hrank⟩ := HX2.out.ok.low_rank (u := u) (v := v) (by omega) (by omega) hne
  have hv1 : ∀ nn : Fam W2, Calls Tryz.prog 57 #[.pointer (some ⟨L.b, 0, none⟩)] nn.v fun e w' => e = .returned (.int .i64 (G.n : Nat)) ∧ Fr No nn.v w' := fun nn => by rw [← hxn]; exact vertices_calls (HX2.out.no nn.h)
  have hv2 : ∀ nn : Fam W2, Calls Tryz.prog 58 #[.pointer (some ⟨Lg.b, 0, none⟩)] nn.v fun e w' => e = .returned (.int .i64 (G.n : Nat)) ∧ Fr No nn.v w' := fun nn => gverts_calls ((HG.out.no F2.out).no nn.h)
  have hv3 : ∀ nn : Fam W2, Calls Tryz.prog 64 #[.pointer (some ⟨L.b, 0, none⟩), .int .i64 (u : Nat), .int .i64 (v : Nat)] nn.v fun e w' => e = .returned (.int .i64 (lo : Nat)) ∧ Fr No nn.v w' := fun nn => (low_calls (HX2.out.no nn.h) (u : Nat) (v : Nat)).mono fun e w' ⟨h1, k, h2⟩ => ⟨by rw [h1, hlow], by rw [h2]; exact Fr.of_drewN k⟩
  have kk10 : ∀ nn : Fam W2, nn.v.cell? ⟨B10, 0, none⟩ = some (.pointer (some ⟨L.b, 0, none⟩)) := Fam.cell c10
  have kk4 : ∀ nn : Fam W2, nn.v.cell? ⟨w.heap.size, 0, none⟩ = some (.pointer (some ⟨Lg.b, 0, none⟩)) := Fam.cell c4
  have kk7 : ∀ nn : Fam W2, nn.v.cell? ⟨w.heap.size + 1, 0, none⟩ = some (.int .i64 (v : Nat)) := Fam.cell c7
  have hneq : ((G.n : Int) != (G.n : Int)) = false := by simp
  have hlt0 : decide ((lo : Int) < 0) = false := by simp
  have HLOW := hid hlow
  have HRANK := hid hrank
  clear hlow hrank
  refine wp_region_fam (by kernel_rfl) (by kernel_rfl) ?_
  iterate 5 (go_big_quiet_step (exact Calls.fam (hv1 _)))
  iterate 2 (go_big_quiet_step (exact Calls.fam (hv2 _)))
  repeat (go_big_quiet_step (exact Calls.fam (hv3 _)))
  refine wpQuiet_nil ?_
  rintro w3 ⟨⟨w3, hf3⟩, rfl⟩
  have d10 := hf3.cell_some c10 (fun h => h)
  have d4 := hf3.cell_some c4 (fun h => h)
  have d7 := hf3.cell_some c7 (fun h => h)
  have HX3 := hid (HX2.out.no hf3)
  have F3 := hid (F2.out.trans hf3)
  clear hf3 hv1 hv2 hv3 kk10 kk4 kk7 c10 c4 c7 HX2 F2
  obtain ⟨ed, hed⟩ : ∃ ed : Nat, min (x0.rk u) (x0.rk v) = ed := ⟨_, rfl⟩
  have hrank := HRANK.out
  rw [hed] at hrank
  have HRANK2 := hid hrank
  have HED := hid hed
  clear hrank hed HRANK
  have hss : ∀ w', Fr No w3 w' → (Fr No w3 w' ∧ w'.cell? ⟨B10, 0, none⟩ = some (.pointer (some ⟨L.b, 0, none⟩)) ∧ w'.cell? ⟨w.heap.size + 1, 0, none⟩ = some (.int .i64 (v : Nat))) := fun w' hf => ⟨hf, hf.cell_some d10 (fun h => h), hf.cell_some d7 (fun h => h)⟩
  have HSS := hid hss
  clear hss
  go_wp2_with fail
  go_cut [12] from 41 to 46 (fun s12 wx => ∃ B : Nat, s12 = .pointer (some ⟨B, 0, none⟩) ∧ Fr No w3 wx ∧ wx.cell? ⟨B, 0, none⟩ = some (.int .i64 (ed : Nat)) ∧ w3.heap.size ≤ B)
  case first =>
    clear HG HWT HHD HOK d4 F3
    have q1 : ∀ (n : Nat) (o : Value), ((w3.drewN n).alloc (.cells #[o] 3)).cell? ⟨w3.heap.size, 0, none⟩ = some o := fun n o => cell_of (heap_new (w3.drewN n) (.cells #[o] 3)) 0
    have q2 : ∀ (n : Nat) (o : Value), ((w3.drewN n).alloc (.cells #[o] 3)).frozen? ⟨w3.heap.size, 0, none⟩ = false := fun n o => (own_no (Fr.refl No _) w3.heap.size (heap_new (w3.drewN n) (.cells #[o] 3))).2.1 0
    have q3 : ∀ (n m : Nat) (o : Value), (((w3.drewN n).alloc (.cells #[o] 3)).drewN m).cell? ⟨w3.heap.size, 0, none⟩ = some o := fun n m o => q1 n o
    have q4 : ∀ (n m : Nat) (o : Value), (((w3.drewN n).alloc (.cells #[o] 3)).drewN m).frozen? ⟨w3.heap.size, 0, none⟩ = false := fun n m o => q2 n o
    have q13 : ∀ (m : Nat) (o : Value), ((w3.alloc (.cells #[o] 3)).drewN m).cell? ⟨w3.heap.size, 0, none⟩ = some o := fun m o => q3 0 m o
    have q5 : ∀ (m : Nat) (o : Value), ((w3.drew.alloc (.cells #[o] 3)).drewN m).cell? ⟨w3.heap.size, 0, none⟩ = some o := fun m o => q1 1 o
    have q6 : ∀ (m : Nat) (o : Value), ((w3.drew.alloc (.cells #[o] 3)).drewN m).frozen? ⟨w3.heap.size, 0, none⟩ = false := fun m o => q2 1 o
    go_region_held3 (fun w' => Fr No w3 w' ∧ w'.cell? ⟨B10, 0, none⟩ = some (.pointer (some ⟨L.b, 0, none⟩)) ∧ w'.cell? ⟨w.heap.size + 1, 0, none⟩ = some (.int .i64 (v : Nat)))
      (first | assumption | exact HSS.out _ (by repeat (first | exact Fr.refl _ _ | apply Fr.drewN | apply Fr.drew | apply Fr.alloc | (refine Fr.setCell ?_ (.inr (Nat.le_refl _)) _))))
      (first
        | (go_at_call 64
           refine (low_calls (HX3.out.no (by (repeat (first | exact Fr.refl _ _ | apply Fr.drewN | apply Fr.drew | apply Fr.alloc)))) (u : Nat) (v : Nat)).mono ?_
           rintro e w8 ⟨rfl, kq, rfl⟩
           rw [HLOW.out])
        | (go_at_call 67
           refine (rank_calls (HX3.out.no (by (repeat (first | exact Fr.refl _ _ | apply Fr.drewN | apply Fr.drew | apply Fr.alloc)))) (lo : Nat)).mono ?_
           rintro e w8 ⟨rfl, rfl⟩
           rw [HRANK2.out]))
    all_goals
      go_wp2_with fail
      go_meet
      exact ⟨_, rfl, by (repeat (first | exact Fr.refl _ _ | apply Fr.drewN | apply Fr.drew | apply Fr.alloc | (refine Fr.setCell ?_ (.inr (Nat.le_refl _)) _))), World.cell?_setCell_same' _ _ _ (by first | (rw [q1]; rfl) | (rw [q13]; rfl) | (rw [q5]; rfl) | (rw [q3]; rfl) | simp [q1, q3, q5, q13]), Nat.le_refl _⟩
  case rest =>
    obtain ⟨B12, rfl, hfc, c12, hb12⟩ := hcut
    have c4 := hfc.cell_some d4 (fun h => h)
    have c7 := hfc.cell_some d7 (fun h => h)
    have c10 := hfc.cell_some d10 (fun h => h)
    have HXc := hid (HX3.out.no hfc)
    have Fc := hid (F3.out.trans hfc)
    clear hfc d4 d7 d10 HX3 F3 hb12 HSS HLOW HRANK2
    obtain ⟨may, hmy⟩ : ∃ may, x0.below u v = may := ⟨_, rfl⟩
    have hmay : ∀ W, Below wc.heap.size wc W → ∀ z, z < G.n → Calls Tryz.prog 107 #[.int .i64 (z : Nat), .pointer (some ⟨B10, 0, none⟩), .pointer (some ⟨B12, 0, none⟩)] W fun e w' => e = .returned (.bool (may z)) ∧ Fr No W w' := fun W hB z hz => by
      have hf := Fr.of_below hB
      refine (btn1_calls (HXc.out.no hf) B10 B12 (ed : Nat) (hf.cell_some c10 (fun h => h)) (hf.cell_some c12 (fun h => h)) (z : Nat)).mono ?_
      rintro e w' ⟨rfl, h2⟩
      refine ⟨?_, h2⟩
      have e1 : x0.rank (z : Nat) = (x0.rk z : Nat) := by unfold Ix.rank; rw [if_pos (by omega), Int.toNat_natCast]
      have e2 : may z = decide (x0.rk z < ed) := by rw [← hmy, ← HED.out]; rfl
      rw [e1, e2]
      simp
    have HMAY := hid hmay
    have HMY := hid hmy
    clear hmay hmy
    have l4 := cell_lt c4
    have l7 := cell_lt c7
    have l10 := cell_lt c10
    have l12 := cell_lt c12
    go_wp2_with fail
    refine (through_calls (HG.out.no Fc.out) HWT.out HHD.out u hu B10 B12 may HMAY.out).mono ?_
    intro e w4 hres
    obtain ⟨Bf, far, rfl, hfar, hf4, hbf, hsf⟩ := hres
    have k4 := hf4.cell_some c4 (fun h => h)
    have k7 := hf4.cell_some c7 (fun h => h)
    have k10 := hf4.cell_some c10 (fun h => h)
    have k12 := hf4.cell_some c12 (fun h => h)
    have HX4 := hid (HXc.out.no hf4)
    have F4 := hid (Fc.out.trans hf4)
    have HFAR := hid hfar
    have HSF := hid hsf
    have l4 := cell_lt k4
    have l7 := cell_lt k7
    have l10 := cell_lt k10
    have l12 := cell_lt k12
    clear c4 c7 c10 c12 hf4 hfar hbf hsf HXc Fc HMAY
    go_wp2
    have hn5 : w4.heap.size < (w4.alloc (.cells #[.int .i64 4611686018427387906] 3)).heap.size := by simp
    have fa := (Fr.refl No w4).alloc (.cells #[.int .i64 4611686018427387906] 3)
    have m4 := fa.cell_some k4 (fun h => h)
    have m7 := fa.cell_some k7 (fun h => h)
    have m10 := fa.cell_some k10 (fun h => h)
    have m12 := fa.cell_some k12 (fun h => h)
    have HX5 := hid (HX4.out.no fa)
    have F5 := hid (F4.out.trans fa)
    have HFAR5 := hid (HFAR.out.alloc (.cells #[.int .i64 4611686018427387906] 3))
    have lf := HFAR.out.lt
    have lL : L.b < w4.heap.size ∧ L.br < w4.heap.size ∧ L.bb < w4.heap.size ∧ 0 < w4.heap.size := ⟨HX4.out.lt, HX4.out.hr.1, HX4.out.hb.1, HX4.out.gn.lt⟩
    have HL := hid lL
    have hw4 := F4.out.size
    have HB0 : Hid (BtM (w4.alloc (.cells #[.int .i64 4611686018427387906] 3)) w4.heap.size w.heap.size [] (lall G may far v 0) (w4.alloc (.cells #[.int .i64 4611686018427387906] 3))) := hid ⟨Fr.refl _ _, by simp [go_sem, lall], by simp [go_sem], Marks.nil _ _⟩
    obtain ⟨w5, hw5⟩ : ∃ w5, w4.alloc (.cells #[.int .i64 4611686018427387906] 3) = w5 := ⟨_, rfl⟩
    rw [hw5] at hn5 fa m4 m7 m10 m12 HX5 F5 HFAR5 HB0 ⊢
    obtain ⟨B14, hB14⟩ : ∃ B, w4.heap.size = B := ⟨_, rfl⟩
    rw [hB14] at hn5 HB0 l4 l7 l10 l12 lf HL hw4 ⊢
    have hn7 : w.heap.size ≤ B14 := hw4
    clear hw5 fa k4 k7 k10 k12 HX4 F4 HFAR lL hw4
    refine wp_loop_ghost_k (fun gk a' W => ∃ (k : Nat) (ds : List Nat) (u15 u16 u54 u55 u56 u57 u58 u59 u60 u92 : Value), (k ≤ G.n ∧ gk = G.n - k ∧ BtM w5 B14 w.heap.size ds (lall G may far v k) W) ∧
      a' = { tmps := #[.pointer (some ⟨Lg.b, 0, none⟩), .slice A G.n c, .int .i64 (u : Nat), .int .i64 (v : Nat), .pointer (some ⟨w.heap.size, 0, none⟩), undef, undef, .pointer (some ⟨w.heap.size + 1, 0, none⟩), .int .i64 0, .int .i64 0, .pointer (some ⟨B10, 0, none⟩), .int .i64 0, .pointer (some ⟨B12, 0, none⟩), .slice (some ⟨Bf, 0, none⟩) G.n G.n, .pointer (some ⟨B14, 0, none⟩), u15, u16, undef, undef, undef, .tuple #[.pointer (some ⟨L.b, 0, none⟩), .int .i64 0], .slice A G.n c, .tuple #[.pointer (some ⟨L.b, 0, none⟩), .int .i64 0], .pointer (some ⟨L.b, 0, none⟩), .int .i64 0, .int .i64 0, .bool false, .bool false, .pointer (some ⟨L.b, 0, none⟩), .int .i64 (G.n : Nat), .pointer (some ⟨Lg.b, 0, none⟩), .int .i64 (G.n : Nat), .bool false, .bool false, .bool false, .pointer (some ⟨L.b, 0, none⟩), .int .i64 (u : Nat), .int .i64 (v : Nat), .int .i64 (lo : Nat), .bool false, .bool false, u41, u42, u43, u44, u45, u46, .pointer (some ⟨Lg.b, 0, none⟩), .int .i64 (u : Nat), .func (.func 107) #[] #[.pointer (some ⟨B10, 0, none⟩), .pointer (some ⟨B12, 0, none⟩)], .slice (some ⟨Bf, 0, none⟩) G.n G.n, .slice (some ⟨Bf, 0, none⟩) G.n G.n, .int .i64 (G.n : Nat), .int .i64 (k : Nat), u54, u55, u56, u57, u58, u59, u60, undef, undef, undef, undef, undef, undef, undef, undef, undef, undef, undef, undef, undef, undef, undef, undef, undef, undef, undef, undef, undef, undef, undef, undef, undef, undef, undef, undef, undef, undef, undef, u92, undef], defers := ds.map mark }) G.n ?_ ?_
    · exact ⟨0, [], _, _, _, _, _, _, _, _, _, _, ⟨Nat.zero_le _, rfl, HB0.out⟩, rfl⟩
    intro gk a' wr hI J K hJ hK
    clear HB0
    obtain ⟨k, ds, u15, u16, u54, u55, u56, u57, u58, u59, u60, u92, ⟨hk, hgk, hbt⟩, rfl⟩ := hI
    have HBT := hid hbt
    have HGK := hid hgk
    have HF := hid hbt.f
    clear hbt hgk
    have b4 := HF.out.cell_some m4 (fun (e : w.heap.size = B14) => by have : w.heap.size < B14 := l4; omega)
    by_cases hlt : k < G.n
    · have hlt2 : (k : Int) < G.n := by omega
      have bf := (HFAR5.out.fr HF.out (fun (e : Bf = B14) => by omega)).cell hlt
      have lf2 : Bf < wr.heap.size := Nat.lt_of_lt_of_le (by omega) HF.out.size
      have l42 : w.heap.size < wr.heap.size := Nat.lt_of_lt_of_le (show w.heap.size < w5.heap.size by have : w.heap.size < B14 := l4; omega) HF.out.size
      obtain ⟨fk, hfk⟩ : ∃ fk, far k = fk := ⟨_, rfl⟩
      rw [hfk] at bf
      have HFK := hid hfk
      clear hfk
      go_wp2_with fail
      refine (out_calls _ _ _).mono ?_
      rintro e W0 ⟨rfl, hW0⟩
      have f0 : Fr No wr W0 := by rw [hW0]; exact ((((Fr.refl No wr).alloc _).alloc _).alloc _).alloc _
      have c15 : W0.cell? ⟨wr.heap.size, 0, none⟩ = some (.int .i64 (k : Nat)) := by rw [hW0]; simp [go_sem]
      have c16 : W0.cell? ⟨wr.heap.size + 1, 0, none⟩ = some (.int .i64 fk) := by rw [hW0]; simp [go_sem]
      have cg : W0.cell? ⟨wr.heap.size + 1 + 1, 0, none⟩ = some (.pointer (some ⟨Lg.b, 0, none⟩)) := by rw [hW0]; simp [go_sem]
      have cv : W0.cell? ⟨wr.heap.size + 1 + 1 + 1, 0, none⟩ = some (.int .i64 (k : Nat)) := by rw [hW0]; simp [go_sem]
      have hsz : W0.heap.size = wr.heap.size + 1 + 1 + 1 + 1 := by rw [hW0]; simp
      have HB0 := hid (HBT.out.no f0)
      have hmlt : ∀ y ∈ ds, y < W0.heap.size := fun y hy => HB0.out.m.lt hy
      have HML := hid hmlt
      have hw5W : w5.heap.size ≤ W0.heap.size := HB0.out.f.size
      have hBw : B14 < wr.heap.size := cell_lt HBT.out.c
      have hww : w.heap.size ≤ W0.heap.size := by omega
      have fwW : Fr No w W0 := F5.out.trans' HB0.out.f (fun i hi (e : i = B14) => by omega)
      have hout : OutAt w.heap.size W0 Lg.b (k : Nat) (selI (G.outs (k : Nat))) := (HG.out.out (k : Nat)).below fwW.below
      clear hW0 b4 bf HBT HF f0 hmlt fwW
      go_wp2
      refine (wpIn_wide (n := 7)).1 ?_
      refine wpIn_rangeFunc_ownS rfl (by omega) (gf := 156) (lb := #[.pointer (some ⟨wr.heap.size + 1 + 1, 0, none⟩), .pointer (some ⟨wr.heap.size + 1 + 1 + 1, 0, none⟩)]) rfl trivial (enters_of Tryz.func156 (by kernel_rfl) rfl)
        (out1_any 6 (by omega) (wr.heap.size + 1 + 1) (wr.heap.size + 1 + 1 + 1) Lg.b w.heap.size (k : Nat) (selI (G.outs (k : Nat))) W0 cg cv hout ⟨by omega, by omega⟩ (by omega)) belowK_t (belowK_b (by omega)) (fun W => Below.refl _ W) (Below.refl _ _) (fun _ => rfl)
        (fun pre W => BtM w5 B14 w.heap.size ds (lrow G may far v k (lall G may far v k) pre) W ∧ W.cell? ⟨wr.heap.size, 0, none⟩ = some (.int .i64 (k : Nat)) ∧ W.cell? ⟨wr.heap.size + 1, 0, none⟩ = some (.int .i64 fk))
        (fun _ _ _ => False)
        (fun pre A B row hs hg hr => ⟨hs.1.grown HML.out hw5W hg hr, cell_kept hs.2.1 hg (fun r e => (hr r e).2), cell_kept hs.2.2 hg (fun r e => (hr r e).2)⟩)
        (fun _ _ _ _ _ hs _ _ => hs.elim)
        ⟨HB0.out, c15, c16⟩
        (fun z T => T.setIfInBounds 17 (.int .i64 z.1)) ?assign ?body ?done ?stop
      case assign =>
        intro l z W K hK
        gi_wp2
        simpa using hK
      case stop =>
        rintro D c pre W _ _ h _
        exact h.elim
      case done =>
        rintro D ys W hD rfl ⟨h1, _, _⟩ hKD
        have hM : Marks w.heap.size (D :: ds) W := h1.m.cons HML.out hD (by omega) hKD
        have H1 : Hid (BtM w5 B14 w.heap.size (D :: ds) (lall G may far v (k + 1)) W) := hid ⟨h1.f, h1.c, h1.z, hM⟩
        clear h1 hM cg cv hout HB0 hKD c15 c16
        go_wp2
        refine Handed.intro (G.n - (k + 1)) (by have := HGK.out; omega) (hJ _ _ _ ⟨k + 1, D :: ds, _, _, _, _, _, _, _, _, _, _, ⟨by omega, rfl, H1.out⟩, rfl⟩)
      case body =>
        rintro l pre ⟨xv, hx0, hx1⟩ W hl hloop ⟨h1, b15, b16⟩ _
        obtain ⟨i, rfl⟩ := Int.eq_ofNat_of_zero_le hx0
        have hi : i < 64 := by omega
        have hf := h1.f
        have b4 := hf.cell_some m4 (fun (e : w.heap.size = B14) => by have : w.heap.size < B14 := l4; omega)
        have b7 := hf.cell_some m7 (fun (e : w.heap.size + 1 = B14) => by have : w.heap.size + 1 < B14 := l7; omega)
        have b10 := hf.cell_some m10 (fun (e : B10 = B14) => by have : B10 < B14 := l10; omega)
        have b12 := hf.cell_some m12 (fun (e : B12 = B14) => by have : B12 < B14 := l12; omega)
        have HXW := hid (HX5.out.fr hf (fun (e : L.b = B14) => by have := HL.out; omega) (fun (e : L.br = B14) => by have := HL.out; omega) (fun (e : L.bb = B14) => by have := HL.out; omega) (fun (e : 0 = B14) => by have := HL.out; omega))
        have FW := hid (F5.out.trans' hf (fun i hi (e : i = B14) => by omega))
        have H1 := hid h1
        obtain ⟨hh0, hh1⟩ := HHD.out.2 i hi
        obtain ⟨⟨at_, ah, aw, ac⟩, har⟩ : ∃ y, G.arc i = y := ⟨_, rfl⟩
        rw [har] at hh0 hh1
        simp only at hh0 hh1
        obtain ⟨hd, rfl⟩ := Int.eq_ofNat_of_zero_le hh0
        have HAR := hid har
        clear h1 hf hloop cg cv hout HB0 hJ hK har hh0 hh1 m4 m7 m10 m12 HX5 HFAR5 HSF HGK c15 c16
        gi_wp2_with fail
        refine ⟨trivial, CallsIn.inRound l (callsIn_wide.2 ((garc_calls (HG.out.no FW.out) i hi).mono ?_))⟩
        rw [HAR.out]
        rintro e W1 ⟨rfl, hf1⟩
        have FW1 := hid (Fr.no (F := One B14) hf1)
        have d15 := hf1.cell_some b15 (fun h => h)
        have d16 := hf1.cell_some b16 (fun h => h)
        have d4 := hf1.cell_some b4 (fun h => h)
        have d7 := hf1.cell_some b7 (fun h => h)
        have d10 := hf1.cell_some b10 (fun h => h)
        have d12 := hf1.cell_some b12 (fun h => h)
        have HX6 := hid (HXW.out.no hf1)
        have HB6 := hid (H1.out.no hf1)
        clear b4 b7 b10 b12 hf1 HXW
        gi_wp2_with fail
        have fa := (Fr.refl No W1).alloc (.cells #[.int .i64 at_, .int .i64 (hd : Nat), .int .i64 aw, .bool ac] 48)
        have a1 : (W1.alloc (.cells #[.int .i64 at_, .int .i64 (hd : Nat), .int .i64 aw, .bool ac] 48)).cell? ⟨W1.heap.size, 1, none⟩ = some (.int .i64 (hd : Nat)) := by simp [go_sem]
        have a2 : (W1.alloc (.cells #[.int .i64 at_, .int .i64 (hd : Nat), .int .i64 aw, .bool ac] 48)).cell? ⟨W1.heap.size, 2, none⟩ = some (.int .i64 aw) := by simp [go_sem]
        have a3 : (W1.alloc (.cells #[.int .i64 at_, .int .i64 (hd : Nat), .int .i64 aw, .bool ac] 48)).cell? ⟨W1.heap.size, 3, none⟩ = some (.bool ac) := by simp [go_sem]
        have e15 := fa.cell_some d15 (fun h => h)
        have e16 := fa.cell_some d16 (fun h => h)
        have e7 := fa.cell_some d7 (fun h => h)
        have e10 := fa.cell_some d10 (fun h => h)
        have e12 := fa.cell_some d12 (fun h => h)
        have HX7 := hid (HX6.out.no fa)
        have HB7 := hid (HB6.out.no fa)
        have FW2 := hid (FW1.out.trans (fa.no (F := One B14)))
        obtain ⟨A18, hA18⟩ : ∃ B, W1.heap.size = B := ⟨_, rfl⟩
        obtain ⟨W2, hW2⟩ : ∃ w2, W1.alloc (.cells #[.int .i64 at_, .int .i64 (hd : Nat), .int .i64 aw, .bool ac] 48) = w2 := ⟨_, rfl⟩
        rw [hW2, hA18] at a1 a2 a3
        rw [hW2] at e15 e16 e7 e10 e12 HX7 HB7 FW2 ⊢
        rw [hA18]
        clear fa hW2 hA18 d15 d16 d4 d7 d10 d12 HX6 HB6 FW1 b15 b16
        have kk1 : ∀ nn : Fam W2, nn.v.cell? ⟨A18, 1, none⟩ = some (.int .i64 (hd : Nat)) := Fam.cell a1
        have kk3 : ∀ nn : Fam W2, nn.v.cell? ⟨A18, 3, none⟩ = some (.bool ac) := Fam.cell a3
        have kk7 : ∀ nn : Fam W2, nn.v.cell? ⟨w.heap.size + 1, 0, none⟩ = some (.int .i64 (v : Nat)) := Fam.cell e7
        have kk10 : ∀ nn : Fam W2, nn.v.cell? ⟨B10, 0, none⟩ = some (.pointer (some ⟨L.b, 0, none⟩)) := Fam.cell e10
        have kk12 : ∀ nn : Fam W2, nn.v.cell? ⟨B12, 0, none⟩ = some (.int .i64 (ed : Nat)) := Fam.cell e12
        have kk15 : ∀ nn : Fam W2, nn.v.cell? ⟨wr.heap.size, 0, none⟩ = some (.int .i64 (k : Nat)) := Fam.cell e15
        have hb : ∀ nn : Fam W2, Calls Tryz.prog 67 #[.pointer (some ⟨L.b, 0, none⟩), .int .i64 (k : Nat)] nn.v fun e w' => e = .returned (.int .i64 (x0.rk k : Nat)) ∧ Fr No nn.v w' := fun nn => (rank_calls (HX7.out.no nn.h) (k : Nat)).mono fun e w' ⟨h1, h2⟩ => ⟨by rw [h1]; unfold Ix.rank; rw [if_pos (by omega), Int.toNat_natCast], by rw [← h2]; exact Fr.refl _ _⟩
        have hmk : may k = decide (x0.rk k < ed) := by rw [← HMY.out, ← HED.out]; rfl
        have hstep : lrow G may far v k (lall G may far v k) (pre ++ [⟨((i : Nat) : Int), hx0, hx1⟩]) = if hd = v ∧ ac = false ∧ x0.rk k < ed then mi2 (lrow G may far v k (lall G may far v k) pre) (ad fk aw) else lrow G may far v k (lall G may far v k) pre := by
          rw [lrow_snoc]
          unfold lstep
          show (if (G.arc ((i : Nat) : Int).toNat).h = (v : Nat) ∧ (G.arc ((i : Nat) : Int).toNat).c = false ∧ may k = true then mi2 _ (ad (far k) (G.arc ((i : Nat) : Int).toNat).w) else _) = _
          rw [Int.toNat_natCast, HAR.out, HFK.out, hmk]
          simp only [decide_eq_true_eq, Int.natCast_inj]
        have HSTEP := hid hstep
        obtain ⟨acc, hacc⟩ : ∃ acc, lrow G may far v k (lall G may far v k) pre = acc := ⟨_, rfl⟩
        rw [hacc] at HSTEP HB7
        obtain ⟨rk, hrk⟩ : ∃ rk, x0.rk k = rk := ⟨_, rfl⟩
        rw [hrk] at HSTEP hb
        clear hmk hstep hacc hrk
        by_cases hq : hd = v
        · subst hq
          cases ac with
          | true =>
            have hs := HSTEP.out
            rw [if_neg (fun h => absurd h.2.1 (by decide))] at hs
            have HS := hid hs
            clear hs
            refine wpIn_region_fam (by kernel_rfl) (by kernel_rfl) (by kernel_rfl) ?_
            repeat (go_big_quiet_step (exact Calls.fam (hb _)))
            refine wpQuiet_nil ?_
            rintro w8 ⟨⟨w8, hf8⟩, rfl⟩
            have q15 := hf8.cell_some e15 (fun h => h)
            have q16 := hf8.cell_some e16 (fun h => h)
            have HB8 := hid (HB7.out.no hf8)
            have FW8 := hid (FW2.out.trans hf8.no)
            clear kk1 kk3 kk7 kk10 kk12 kk15 hb a1 a2 a3 e15 e16 e7 e10 e12 hf8 HB7 FW2
            gi_wp2
            exact ⟨keepsFrom_fr FW8.out (fun k (e : k = B14) => by omega), below_fr FW8.out (fun k (e : k = B14) => by omega) FW.out.size, by rw [HS.out]; exact HB8.out, q15, q16⟩
          | false =>
            by_cases hrk : rk < ed
            · have g1 : decide ((rk : Int) < (ed : Int)) = true := by simp; exact hrk
              have hs := HSTEP.out
              rw [if_pos ⟨rfl, rfl, hrk⟩] at hs
              have HS := hid hs
              clear hs
              refine wpIn_region_fam (by kernel_rfl) (by kernel_rfl) (by kernel_rfl) ?_
              repeat (go_big_quiet_step (exact Calls.fam (hb _)))
              refine wpQuiet_nil ?_
              rintro w8 ⟨⟨w8, hf8⟩, rfl⟩
              have q15 := hf8.cell_some e15 (fun h => h)
              have q16 := hf8.cell_some e16 (fun h => h)
              have qa2 := hf8.cell_some a2 (fun h => h)
              have HB8 := hid (HB7.out.no hf8)
              have FW8 := hid (FW2.out.trans hf8.no)
              have q14 := HB8.out.c
              have z14 := HB8.out.z
              have l14 := cell_lt q14
              clear kk1 kk3 kk7 kk10 kk12 kk15 hb a1 a2 a3 e15 e16 e7 e10 e12 hf8 HB7 FW2
              gi_wp2_with fail
              gi_region_with (first
                | (refine ⟨trivial, ?_⟩; gi_at_call 80
                   refine CallsIn.inRound l (callsIn_wide.2 ((adl_calls fk aw _ 2 _ (fun _ => ⟨_, 0, rfl, by intro j hj; (have : j = 0 ∨ j = 1 := by omega); rcases this with rfl | rfl <;> exact (cell_of (heap_new _ _) _).trans rfl⟩)).mono ?_))
                   rintro e w9 ⟨rfl, hf9⟩
                   have HF9 : Hid (Fr No w8 w9) := hid ((((Fr.refl No w8).drew).alloc _).trans hf9)
                   have y14 := HF9.out.cell_some q14 (fun h => h)
                   clear hf9)
                | (refine ⟨trivial, ?_⟩; gi_at_call 79
                   refine CallsIn.inRound l (callsIn_wide.2 ((mil_calls acc (ad fk aw) _ 2 _ (fun _ => ⟨_, 0, rfl, by intro j hj; (have : j = 0 ∨ j = 1 := by omega); rcases this with rfl | rfl <;> exact (cell_of (heap_new _ _) _).trans rfl⟩)).mono ?_))
                   rintro e w10 ⟨rfl, hf10⟩
                   have HF10 : Hid (Fr No w8 w10) := hid ((HF9.out.alloc _).trans hf10)
                   have x14 := HF10.out.cell_some q14 (fun h => h)
                   have xz : w10.frozen? ⟨B14, 0, none⟩ = false := (HF10.out.frozen (p := ⟨B14, 0, none⟩) l14 (fun h => h)).trans z14
                   clear hf10))
              all_goals
                gi_wp2
                have f11 : Fr (One B14) w8 (w10.setCell ⟨B14, 0, none⟩ (.int .i64 (mi2 acc (ad fk aw)))) := (HF10.out.no (F := One B14)).set1 0 _
                have f12 := FW8.out.trans f11
                exact ⟨keepsFrom_fr f12 (fun k (e : k = B14) => by omega), below_fr f12 (fun k (e : k = B14) => by omega) FW.out.size, by rw [HS.out]; exact (HB8.out.no HF10.out).set _, f11.cell_some q15 (fun (e : wr.heap.size = B14) => by omega), f11.cell_some q16 (fun (e : wr.heap.size + 1 = B14) => by omega)⟩
            · have g1 : decide ((rk : Int) < (ed : Int)) = false := by simp; omega
              have hs := HSTEP.out
              rw [if_neg (fun h => hrk h.2.2)] at hs
              have HS := hid hs
              clear hs
              refine wpIn_region_fam (by kernel_rfl) (by kernel_rfl) (by kernel_rfl) ?_
              repeat (go_big_quiet_step (exact Calls.fam (hb _)))
              refine wpQuiet_nil ?_
              rintro w8 ⟨⟨w8, hf8⟩, rfl⟩
              have q15 := hf8.cell_some e15 (fun h => h)
              have q16 := hf8.cell_some e16 (fun h => h)
              have HB8 := hid (HB7.out.no hf8)
              have FW8 := hid (FW2.out.trans hf8.no)
              clear kk1 kk3 kk7 kk10 kk12 kk15 hb a1 a2 a3 e15 e16 e7 e10 e12 hf8 HB7 FW2
              gi_wp2
              exact ⟨keepsFrom_fr FW8.out (fun k (e : k = B14) => by omega), below_fr FW8.out (fun k (e : k = B14) => by omega) FW.out.size, by rw [HS.out]; exact HB8.out, q15, q16⟩
        · have g1 : ((hd : Int) == (v : Int)) = false := by simp; omega
          have g2 : decide ((hd : Int) = (v : Int)) = false := by simp; omega
          have g3 : ((hd : Int) = (v : Int)) = False := by simp; omega
          have hs := HSTEP.out
          rw [if_neg (fun h => hq h.1)] at hs
          have HS := hid hs
          clear hs
          refine wpIn_region_fam (by kernel_rfl) (by kernel_rfl) (by kernel_rfl) ?_
          repeat (go_big_quiet_step (exact Calls.fam (hb _)))
          refine wpQuiet_nil ?_
          rintro w8 ⟨⟨w8, hf8⟩, rfl⟩
          have q15 := hf8.cell_some e15 (fun h => h)
          have q16 := hf8.cell_some e16 (fun h => h)
          have HB8 := hid (HB7.out.no hf8)
          have FW8 := hid (FW2.out.trans hf8.no)
          clear kk1 kk3 kk7 kk10 kk12 kk15 hb a1 a2 a3 e15 e16 e7 e10 e12 hf8 HB7 FW2
          gi_wp2
          exact ⟨keepsFrom_fr FW8.out (fun k (e : k = B14) => by omega), below_fr FW8.out (fun k (e : k = B14) => by omega) FW.out.size, by rw [HS.out]; exact HB8.out, q15, q16⟩
    · obtain rfl : k = G.n := by omega
      have k14 := HBT.out.c
      go_wp2
      refine leaves_marks ds wr HBT.out.m fun W' hW' => ?_
      have hWn : Fr No w W' := (F5.out.trans' HF.out (fun i hi (e : i = B14) => by omega)).trans' hW' (fun i hi hk => by have := (HBT.out.m.2 i hk).1; omega)
      refine ⟨.tuple #[.int .i64 (lall G may far v G.n), .int .i64 0], by simp [results, Tryz.results51, go_sem], ?_, hWn⟩
      rw [HMY.out, lall_btw HOK.out HWT.out hu hv HSF.out]

end Go.Proofs.YtpkocidcfnlbiaaGreatDoor
