/- The law of layer 17 of what moves; walked. -/
import Derived.Test.YtlncmnphjdeeoaaDoorRMov
import Derived.Test.YtlncmnphjdeeoaaDoorAwk17
set_option linter.unusedVariables false
set_option linter.unusedSimpArgs false
namespace Go.Proofs.YtlncmnphjdeeoaaDoor
open Go.RowKit Go.Deep

set_option maxRecDepth 100000 in
theorem run_build_star (C : Nat → Int) (w : World) : (Instr.build 71 #[(0, .agg (cellsR 72 fun j => C (0 + j)).toArray), (1, .agg (cellsR 72 fun j => C (72 + j)).toArray)]).run Tryd.prog w = .ok (starV C) w := by kernel_rfl

theorem quiet_build {P : Program} {C : World → Prop} {o : Oper} {a : Act} {K : Act → Prop} (ty : TypeId) (x y : Operand) (ho : o.op = .build ty #[(0, x), (1, y)]) (u v r : Value) (hx : a.eval x = u) (hy : a.eval y = v) (hl : ∀ w, (Instr.build ty #[(0, u), (1, v)]).run P w = .ok r w) (hk : K (a.put o.dst r)) : o.quiet P a C K :=
  ⟨r, fun w hw => by
    have h := hl w
    unfold Oper.quietAt execOp
    simp only [ho, List.map_toArray, List.map_cons, List.map_nil, hx, hy, Sem.run_bind, h, Result.andThen_ok, Sem.run_pure]
    exact ⟨rfl, rfl⟩, hk⟩

theorem exists_setOf (p : Nat → Prop) (hp : ∀ i, p i → i < 24) : ∃ s, SetOf s p := by
  have key : ∀ k, k ≤ 24 → ∃ s, SetOf s (fun i => p i ∧ i < k) := by
    intro k
    induction k with
    | zero => intro _; exact ⟨0, SetOf.nil fun i h => by omega⟩
    | succ k ih =>
      intro hk
      obtain ⟨s, hs⟩ := ih (by omega)
      by_cases h : p k
      · exact ⟨s ||| 2 ^ k, hs.or (by omega) fun i => ⟨fun ⟨h1, h2⟩ => by by_cases e : i = k; exact .inr e; exact .inl ⟨h1, by omega⟩, fun h1 => h1.elim (fun h1 => ⟨h1.1, by omega⟩) (fun e => by subst e; exact ⟨h, by omega⟩)⟩⟩
      · exact ⟨s, hs.congr fun i => ⟨fun ⟨h1, h2⟩ => ⟨h1, by omega⟩, fun ⟨h1, h2⟩ => ⟨h1, by by_cases e : i = k; (subst e; exact absurd h1 h); omega⟩⟩⟩
  obtain ⟨s, hs⟩ := key 24 (Nat.le_refl _)
  exact ⟨s, hs.congr fun i => ⟨fun h => h.1, fun h => ⟨h, hp i h⟩⟩⟩
theorem Ix.Ok.mv_lt {x : Ix} (h : x.Ok) (v : Int) (C D : Nat → Int) (i : Nat) (hm : x.Mv v C D i) : i < 24 := by
  obtain ⟨_, u, w, hu, hw, _, _, _, _, hl⟩ := hm
  have hn := h.n2
  unfold Ix.low at hl
  split at hl
  · split at hl <;> omega
  · omega
theorem moves_canon {x : Ix} {w : World} {L : IxLoc} (h : IxMem w L x) (v : Int) (C D : Nat → Int) (hC : Wf C) (hD : Wf D) {s : Nat} (hs : SetOf s (x.Mv v C D)) :
    Calls Tryd.prog 50 #[.pointer (some ⟨L.b, 0, none⟩), .int .i64 v, starV C, starV D] w fun e w' => e = .returned (.int .u64 (s : Nat)) ∧ Fr No w w' :=
  (moves_calls h v C D hC hD).mono fun e w' ⟨t, he, ht, hf⟩ => ⟨by rw [he, SetOf.eq ht hs (fun _ => Iff.rfl)], hf⟩
theorem rmoves_canon {x : Ix} {w : World} {R : RxLoc} (h : RxMem w R x) (v : Int) (C D : Nat → Int) {s : Nat} (hs : SetOf s (x.Mv v C D)) :
    Calls Tryd.prog 52 #[.pointer (some ⟨R.b, 0, none⟩), .int .i64 v, starV C, starV D] w fun e w' => e = .returned (boolsV s.testBit) ∧ Fr No w w' :=
  (rmoves_calls h v C D).mono fun e w' ⟨m, he, hm, hf⟩ => ⟨by rw [he, show m = s.testBit from funext fun i => by rw [Bool.eq_iff_iff, hm, hs.bit]], hf⟩

theorem StarAt.load144 {W : World} {b : Nat} {C : Nat → Int} (h : StarAt W b 73 C) (n : Fam W) :
    (Instr.loadAt 73 (.pointer (some ⟨b, 0, none⟩))).run Tryd.prog n.v = .ok (.agg (cellsR 144 C).toArray) n.v := by
  have hd1 : Tryd.prog.underlying 73 = some _ := Tryd.underlying73
  have hi1 : (Tryd.prog.info? 73).map (·.size) = some 144 := by kernel_rfl
  exact run_loadAt_mid n.v b 0 73 _ _ (h.fr n.h (fun h => h)).range hd1 rfl (by rw [hi1, cellsR_len])

theorem StarAt.alloc' {w : World} {b : Nat} {T : TypeId} {C : Nat → Int} (h : StarAt w b T C) (o : Obj) : StarAt (w.alloc o) b T C := Blk.alloc h o
theorem BoolAt.lit (W : World) (m : Nat → Bool) : BoolAt (W.alloc (.cells (cellsB m).toArray 82)) W.heap.size m := by
  have := Blk.new W (cellsB m).toArray 82 (fun i => .bool (m i)) (fun i hi => by
    have hi' : i < 24 := by simpa [cellsB] using hi
    simp [cellsB, hi'])
  have e : (cellsB m).toArray.size = 24 := by simp [cellsB]
  rw [e] at this
  exact this

set_option maxRecDepth 100000 in
set_option maxHeartbeats 2000000 in
theorem moved_calls (s : Nat) (m : Nat → Bool) (p : Nat → Prop) (hs : SetOf s p) (hm : ∀ i, m i = true ↔ p i) (w : World) :
    Calls Tryd.prog 51 #[.int .u64 (s : Nat), boolsV m] w fun e w' => e = .returned (.bool true) ∧ Fr No w w' := by
  have b1 := BoolAt.lit w m
  have f1 : Fr No w (w.alloc (.cells (cellsB m).toArray 82)) := (Fr.refl No w).alloc _
  have hsl := hs.lt
  have hs16 : (s : Int) < 16777216 := by omega
  have htb : ∀ i, s.testBit i = m i := fun i => by rw [Bool.eq_iff_iff, hs.bit, hm]
  have HTB := hid htb
  unfold boolsV
  obtain ⟨Z, hZ⟩ : ∃ Z, (cellsB m).toArray = Z := ⟨_, rfl⟩
  rw [hZ] at b1 f1 ⊢
  have HB := hid b1
  have HF := hid f1
  clear b1 f1 hZ hs hm htb
  go_enter Tryd.func51, Tryd.ntmps51
  go_upto_region 1 with fail
  generalize w.alloc (.cells Z 82) = W1 at HB HF ⊢
  go_wp2
  go_loopw [5] (fun i wr => ∃ k : Nat, k ≤ 24 ∧ i = .int .i64 k ∧ Fr No W1 wr) (fun i _ => 24 - (intOf i).toNat)
  case atStart => exact ⟨0, Nat.zero_le _, rfl, Fr.refl _ _⟩
  case round =>
    obtain ⟨k, hk, rfl, hf⟩ := hrel
    have HFK := hid hf
    clear hf
    by_cases hlt : k < 24
    · have hltI : (k : Int) < 24 := by omega
      have hhas : ∀ n : Fam wr, Calls Tryd.prog 53 #[.int .u64 (s : Nat), .int .i64 (k : Nat)] n.v fun e w' => e = .returned (.bool (m k)) ∧ Fr No n.v w' := fun n => by
        rw [← HTB.out k]; exact has_calls s k hsl hlt n.v
      have kk0 : ∀ n : Fam wr, n.v.cell? ⟨w.heap.size, k, none⟩ = some (.bool (m k)) := Fam.cell (HFK.out.cell_some (Blk.cell HB.out hlt) (fun h => h))
      obtain ⟨bb, hbb⟩ : ∃ bb, m k = bb := ⟨_, rfl⟩
      rw [hbb] at hhas kk0
      clear hbb
      go_wp2_with fail
      refine wp_region_fam (by kernel_rfl) (by kernel_rfl) ?_
      repeat (go_big_quiet_step (exact Calls.fam (hhas _)))
      refine wpQuiet_nil ?_
      rintro w3 ⟨⟨w3, hf3⟩, rfl⟩
      have HF3 := hid (HFK.out.trans hf3)
      clear hf3 hhas kk0
      go_wp2
      go_roundw
      case rel => exact ⟨k + 1, hlt, by go_num, HF3.out⟩
      case measure => simp [intOf]; omega
    · have e : k = 24 := by omega
      subst e
      go_wp2
      go_ret
      exact ⟨rfl, HF.out.trans HFK.out⟩

set_option maxRecDepth 100000 in
set_option maxHeartbeats 4000000 in
theorem dmoves_law (n num : Nat) (A : Option Addr) (ln cp : Nat) (lk : Nat → Lk) (v : Int) (C D : Nat → Int) (w : World) (hn : n ≤ 255) (hnum : (num : Int) ≤ 18446744073709551615) (hl : LinksF w A ln lk) (hln : ln ≤ 140737488351232) (hC : Wf C) (hD : Wf D) (hN : NoneVar w) :
    Calls Tryd.prog 11 #[.int .u8 (n : Nat), .int .u64 (num : Nat), .slice A ln cp, .int .i64 v, starV C, starV D] w fun e w' => e = .returned (.bool true) ∧ Fr No w w' := by
  have hd1 : Tryd.prog.underlying 73 = some _ := Tryd.underlying73
  have hi1 : (Tryd.prog.info? 73).map (·.size) = some 144 := by kernel_rfl
  have hd2 : Tryd.prog.underlying 42 = some _ := Tryd.underlying42
  have hi2 : (Tryd.prog.info? 42).map (·.size) = some 72 := by kernel_rfl
  have s1 := StarAt.lit w 73 C
  have s2 := StarAt.lit (w.alloc (.cells (cellsR 144 C).toArray 73)) 73 D
  rw [World.size_alloc] at s2
  have f1 : Fr No w (w.alloc (.cells (cellsR 144 C).toArray 73)) := (Fr.refl No w).alloc _
  have HN := hid hN
  have HL := hid hl
  have HC := hid hC
  have HD := hid hD
  clear hN hl hC hD
  unfold starV
  obtain ⟨X, hX⟩ : ∃ X, (cellsR 144 C).toArray = X := ⟨_, rfl⟩
  obtain ⟨Y, hY⟩ : ∃ Y, (cellsR 144 D).toArray = Y := ⟨_, rfl⟩
  rw [hX] at s1 s2 f1 ⊢
  rw [hY] at s2 ⊢
  have s3 := s1.alloc' (.cells Y 73)
  have f2 : Fr No w ((w.alloc (.cells X 73)).alloc (.cells Y 73)) := f1.alloc _
  have HX := hid hX
  have HY := hid hY
  clear hX hY s1 f1
  go_enter Tryd.func11, Tryd.ntmps11
  go_upto_region 1 with fail
  generalize (w.alloc (.cells X 73)).alloc (.cells Y 73) = W1 at s2 s3 f2 ⊢
  have HSC := hid s3
  have HSD := hid s2
  have G0 := hid f2
  clear s2 s3 f2
  go_wp2_with fail
  refine (awake17_calls _ (HN.out.fr G0.out (fun h => h))).mono ?_
  rintro e w1 ⟨rfl, hf⟩
  have G1 := hid (G0.out.trans hf)
  have HSC1 := hid (HSC.out.fr hf (fun h => h))
  have HSD1 := hid (HSD.out.fr hf (fun h => h))
  have HN1 := hid (HN.out.fr G1.out (fun h => h))
  have HL1 := hid (LinksF.fr HL.out G1.out)
  clear hf
  go_wp2_with fail
  refine (made_calls n num A ln cp lk w1 hn hnum HL1.out hln HN1.out).mono ?_
  rintro e w2 ⟨L, R, rfl, hf, hm, hr, _⟩
  obtain ⟨x, hx⟩ : ∃ x, (Ix.start (1 + n % 24) num).sets lk (min ln 300) = x := ⟨_, rfl⟩
  rw [hx] at hm hr
  have HM := hid hm
  have HR := hid hr
  have G2 := hid (G1.out.trans hf)
  have HSC2 := hid (HSC1.out.fr hf (fun h => h))
  have HSD2 := hid (HSD1.out.fr hf (fun h => h))
  clear hf hm hr hx
  go_upto_region 6 with fail
  have a0 := HSC2.out.load 0 (by omega)
  have a1 := HSC2.out.load 72 (by omega)
  have b0 := HSD2.out.load 0 (by omega)
  have b1 := HSD2.out.load 72 (by omega)
  have hbX := run_build_star C
  have hbY := run_build_star D
  unfold starV at hbX hbY
  rw [HX.out] at hbX
  rw [HY.out] at hbY
  obtain ⟨s, hs⟩ := exists_setOf _ (HM.out.ok.mv_lt v C D)
  have hmv : ∀ n : Fam w2, Calls Tryd.prog 50 #[.pointer (some ⟨L.b, 0, none⟩), .int .i64 v, .agg X, .agg Y] n.v fun e w' => e = .returned (.int .u64 (s : Nat)) ∧ Fr No n.v w' := fun n => by
    rw [← HX.out, ← HY.out]; exact moves_canon (HM.out.no n.h) v C D HC.out HD.out hs
  obtain ⟨X0, hX0⟩ : ∃ Z, (cellsR 72 (fun j => C (0 + j))).toArray = Z := ⟨_, rfl⟩
  obtain ⟨X1, hX1⟩ : ∃ Z, (cellsR 72 (fun j => C (72 + j))).toArray = Z := ⟨_, rfl⟩
  obtain ⟨Y0, hY0⟩ : ∃ Z, (cellsR 72 (fun j => D (0 + j))).toArray = Z := ⟨_, rfl⟩
  obtain ⟨Y1, hY1⟩ : ∃ Z, (cellsR 72 (fun j => D (72 + j))).toArray = Z := ⟨_, rfl⟩
  rw [hX0] at a0 hbX
  rw [hX1] at a1 hbX
  rw [hY0] at b0 hbY
  rw [hY1] at b1 hbY
  have HS := hid hs
  have hX0' := hid hX0
  clear hX0 hX1 hY0 hY1 hs
  refine wp_region_plainfam ?_
  go_big_quiet_step (fail)
  go_big_quiet_step (fail)
  go_big_quiet_step (fail)
  go_big_quiet_want
  refine quiet_load 42 (.tmp 29) rfl (.pointer (some ⟨w.heap.size, 0, none⟩)) (.agg X0) rfl (by rintro w' ⟨n, rfl⟩; exact a0 n) ?_
  simp only [Act.put, List.setIfInBounds_toArray, List.set_cons_zero, List.set_cons_succ]
  go_big_quiet_on
  go_big_quiet_step (fail)
  go_big_quiet_want
  refine quiet_load 42 (.tmp 31) rfl (.pointer (some ⟨w.heap.size, 72, none⟩)) (.agg X1) rfl (by rintro w' ⟨n, rfl⟩; exact a1 n) ?_
  simp only [Act.put, List.setIfInBounds_toArray, List.set_cons_zero, List.set_cons_succ]
  go_big_quiet_on
  go_big_quiet_want
  refine quiet_build 71 (.tmp 30) (.tmp 32) rfl (.agg X0) (.agg X1) (.agg X) rfl rfl hbX ?_
  simp only [Act.put, List.setIfInBounds_toArray, List.set_cons_zero, List.set_cons_succ]
  go_big_quiet_on
  go_big_quiet_step (fail)
  go_big_quiet_want
  refine quiet_load 42 (.tmp 34) rfl (.pointer (some ⟨w.heap.size + 1, 0, none⟩)) (.agg Y0) rfl (by rintro w' ⟨n, rfl⟩; exact b0 n) ?_
  simp only [Act.put, List.setIfInBounds_toArray, List.set_cons_zero, List.set_cons_succ]
  go_big_quiet_on
  go_big_quiet_step (fail)
  go_big_quiet_want
  refine quiet_load 42 (.tmp 36) rfl (.pointer (some ⟨w.heap.size + 1, 72, none⟩)) (.agg Y1) rfl (by rintro w' ⟨n, rfl⟩; exact b1 n) ?_
  simp only [Act.put, List.setIfInBounds_toArray, List.set_cons_zero, List.set_cons_succ]
  go_big_quiet_on
  go_big_quiet_want
  refine quiet_build 71 (.tmp 35) (.tmp 37) rfl (.agg Y0) (.agg Y1) (.agg Y) rfl rfl hbY ?_
  simp only [Act.put, List.setIfInBounds_toArray, List.set_cons_zero, List.set_cons_succ]
  go_big_quiet_on
  clear a0 a1 b0 b1 hbX hbY
  repeat (go_big_quiet_step (exact Calls.fam (hmv _)))
  refine wpQuiet_nil ?_
  rintro w3 ⟨⟨w3, hf3⟩, rfl⟩
  have HM3 := hid (HM.out.no hf3)
  have HR3 := hid (HR.out.no hf3)
  have G3 := hid (G2.out.trans hf3)
  have hlc := (HSC2.out.fr hf3 (fun h => h)).load144
  have hld := (HSD2.out.fr hf3 (fun h => h)).load144
  rw [HX.out] at hlc
  rw [HY.out] at hld
  clear hf3 hmv
  have hrm : ∀ n : Fam w3, Calls Tryd.prog 52 #[.pointer (some ⟨R.b, 0, none⟩), .int .i64 v, .agg X, .agg Y] n.v fun e w' => e = .returned (boolsV s.testBit) ∧ Fr No n.v w' := fun n => by
    rw [← HX.out, ← HY.out]; exact rmoves_canon (HR3.out.no n.h) v C D HS.out
  have hmd : ∀ n : Fam w3, Calls Tryd.prog 51 #[.int .u64 (s : Nat), boolsV s.testBit] n.v fun e w' => e = .returned (.bool true) ∧ Fr No n.v w' := fun n =>
    moved_calls s _ _ HS.out (fun i => HS.out.bit i) n.v
  obtain ⟨BV, hBV⟩ : ∃ Z, boolsV s.testBit = Z := ⟨_, rfl⟩
  rw [hBV] at hrm hmd
  obtain ⟨S, hS⟩ : ∃ Z, (cellsR 144 (starC (x.star v false) (x.star v true))).toArray = Z := ⟨_, rfl⟩
  have hof : ∀ n : Fam w3, Calls Tryd.prog 44 #[.pointer (some ⟨L.b, 0, none⟩), .int .i64 v] n.v fun e w' => e = .returned (.agg S) ∧ Fr No n.v w' := fun n => by
    rw [← hS]; exact star_calls (HM3.out.no n.h) v
  have hmo : ∀ n : Fam w3, Calls Tryd.prog 50 #[.pointer (some ⟨L.b, 0, none⟩), .int .i64 v, .agg S, .agg S] n.v fun e w' => e = .returned (.int .u64 0) ∧ Fr No n.v w' := fun n => by
    rw [← hS]; exact moves_canon (s := 0) (HM3.out.no n.h) v _ _ (HM3.out.ok.starWf v) (HM3.out.ok.starWf v) (SetOf.nil (Ix.Mv_same HM3.out.ok v _ _ (fun _ _ => rfl)))
  clear hBV hS
  go_upto_region 7 with fail
  refine wp_region_plainfam ?_
  go_big_quiet_step (fail)
  go_big_quiet_step (fail)
  go_big_quiet_step (fail)
  go_big_quiet_want
  refine quiet_load 73 (.tmp 10) rfl (.pointer (some ⟨w.heap.size, 0, none⟩)) (.agg X) rfl (by rintro w' ⟨n, rfl⟩; exact hlc n) ?_
  simp only [Act.put, List.setIfInBounds_toArray, List.set_cons_zero, List.set_cons_succ]
  go_big_quiet_on
  go_big_quiet_want
  refine quiet_load 73 (.tmp 11) rfl (.pointer (some ⟨w.heap.size + 1, 0, none⟩)) (.agg Y) rfl (by rintro w' ⟨n, rfl⟩; exact hld n) ?_
  simp only [Act.put, List.setIfInBounds_toArray, List.set_cons_zero, List.set_cons_succ]
  go_big_quiet_on
  clear hlc hld
  repeat (go_big_quiet_step (first | exact Calls.fam (hrm _) | exact Calls.fam (hmd _) | exact Calls.fam (hof _) | exact Calls.fam (hmo _)))
  refine wpQuiet_nil ?_
  rintro w4 ⟨⟨w4, hf4⟩, rfl⟩
  go_wp2
  go_ret
  exact ⟨rfl, G3.out.trans hf4⟩

end Go.Proofs.YtlncmnphjdeeoaaDoor

/- The law of layer 17 that what moves moves back; walked. -/
set_option linter.unusedVariables false
set_option linter.unusedSimpArgs false
namespace Go.Proofs.YtlncmnphjdeeoaaDoor
open Go.RowKit Go.Deep

theorem Ix.Mv_sym (x : Ix) (v : Int) (C D : Nat → Int) (i : Nat) : x.Mv v C D i ↔ x.Mv v D C i := by
  have hh : ∀ C D u w, x.Hot C D u w → x.Hot D C u w := fun C D u w h => ⟨fun e => h.1 e.symm, by have := h.2; omega⟩
  constructor
  · rintro ⟨h0, u, w, h1, h2, h3, h4, h5, h6, h7⟩; exact ⟨h0, u, w, h1, h2, h3, h4, h5, hh _ _ _ _ h6, h7⟩
  · rintro ⟨h0, u, w, h1, h2, h3, h4, h5, h6, h7⟩; exact ⟨h0, u, w, h1, h2, h3, h4, h5, hh _ _ _ _ h6, h7⟩
theorem Ix.Ok.mv_rk {x : Ix} (h : x.Ok) {v : Int} {C D : Nat → Int} {i : Nat} (hm : x.Mv v C D i) : x.vertex v = true ∧ x.rk v.toNat < x.rk i := by
  obtain ⟨h0, u, w, hu, hw, hne, h1, h2, _, hl⟩ := hm
  refine ⟨h0, ?_⟩
  have ht : x.two (u : Nat) (w : Nat) = true := by unfold Ix.two; simp; omega
  unfold Ix.low at hl
  rw [if_pos ht] at hl
  split at hl
  · have : u = i := by omega
    rw [← this]; exact h1
  · have : w = i := by omega
    rw [← this]; exact h2

set_option maxRecDepth 100000 in
set_option maxHeartbeats 4000000 in
theorem both_law (n num : Nat) (A : Option Addr) (ln cp : Nat) (lk : Nat → Lk) (v : Int) (C D : Nat → Int) (w : World) (hn : n ≤ 255) (hnum : (num : Int) ≤ 18446744073709551615) (hl : LinksF w A ln lk) (hln : ln ≤ 140737488351232) (hC : Wf C) (hD : Wf D) (hN : NoneVar w) :
    Calls Tryd.prog 12 #[.int .u8 (n : Nat), .int .u64 (num : Nat), .slice A ln cp, .int .i64 v, starV C, starV D] w fun e w' => e = .returned (.bool true) ∧ Fr No w w' := by
  have hd1 : Tryd.prog.underlying 73 = some _ := Tryd.underlying73
  have hi1 : (Tryd.prog.info? 73).map (·.size) = some 144 := by kernel_rfl
  have hd2 : Tryd.prog.underlying 42 = some _ := Tryd.underlying42
  have hi2 : (Tryd.prog.info? 42).map (·.size) = some 72 := by kernel_rfl
  have s1 := StarAt.lit w 73 C
  have s2 := StarAt.lit (w.alloc (.cells (cellsR 144 C).toArray 73)) 73 D
  rw [World.size_alloc] at s2
  have f1 : Fr No w (w.alloc (.cells (cellsR 144 C).toArray 73)) := (Fr.refl No w).alloc _
  have HN := hid hN
  have HL := hid hl
  have HC := hid hC
  have HD := hid hD
  clear hN hl hC hD
  unfold starV
  obtain ⟨X, hX⟩ : ∃ X, (cellsR 144 C).toArray = X := ⟨_, rfl⟩
  obtain ⟨Y, hY⟩ : ∃ Y, (cellsR 144 D).toArray = Y := ⟨_, rfl⟩
  rw [hX] at s1 s2 f1 ⊢
  rw [hY] at s2 ⊢
  have s3 := s1.alloc' (.cells Y 73)
  have f2 : Fr No w ((w.alloc (.cells X 73)).alloc (.cells Y 73)) := f1.alloc _
  have HX := hid hX
  have HY := hid hY
  clear hX hY s1 f1
  go_enter Tryd.func12, Tryd.ntmps12
  go_upto_region 1 with fail
  generalize (w.alloc (.cells X 73)).alloc (.cells Y 73) = W1 at s2 s3 f2 ⊢
  have HSC := hid s3
  have HSD := hid s2
  have G0 := hid f2
  clear s2 s3 f2
  go_wp2_with fail
  refine (awake17_calls _ (HN.out.fr G0.out (fun h => h))).mono ?_
  rintro e w1 ⟨rfl, hf⟩
  have G1 := hid (G0.out.trans hf)
  have HSC1 := hid (HSC.out.fr hf (fun h => h))
  have HSD1 := hid (HSD.out.fr hf (fun h => h))
  have HN1 := hid (HN.out.fr G1.out (fun h => h))
  have HL1 := hid (LinksF.fr HL.out G1.out)
  clear hf
  go_wp2_with fail
  refine (made_calls n num A ln cp lk w1 hn hnum HL1.out hln HN1.out).mono ?_
  rintro e w2 ⟨L, R, rfl, hf, hm, hr, _⟩
  obtain ⟨x, hx⟩ : ∃ x, (Ix.start (1 + n % 24) num).sets lk (min ln 300) = x := ⟨_, rfl⟩
  rw [hx] at hm hr
  have HM := hid hm
  have HR := hid hr
  have G2 := hid (G1.out.trans hf)
  have HSC2 := hid (HSC1.out.fr hf (fun h => h))
  have HSD2 := hid (HSD1.out.fr hf (fun h => h))
  clear hf hm hr hx
  go_upto_region 6 with fail
  have hbX := run_build_star C
  have hbY := run_build_star D
  unfold starV at hbX hbY
  rw [HX.out] at hbX
  rw [HY.out] at hbY
  obtain ⟨s, hs⟩ := exists_setOf _ (HM.out.ok.mv_lt v C D)
  have HS := hid hs
  obtain ⟨X0, hX0⟩ : ∃ Z, (cellsR 72 (fun j => C (0 + j))).toArray = Z := ⟨_, rfl⟩
  obtain ⟨X1, hX1⟩ : ∃ Z, (cellsR 72 (fun j => C (72 + j))).toArray = Z := ⟨_, rfl⟩
  obtain ⟨Y0, hY0⟩ : ∃ Z, (cellsR 72 (fun j => D (0 + j))).toArray = Z := ⟨_, rfl⟩
  obtain ⟨Y1, hY1⟩ : ∃ Z, (cellsR 72 (fun j => D (72 + j))).toArray = Z := ⟨_, rfl⟩
  rw [hX0, hX1] at hbX
  rw [hY0, hY1] at hbY
  have hla : ∀ (W : World), StarAt W w.heap.size 73 C → (∀ n : Fam W, (Instr.loadAt 42 (.pointer (some ⟨w.heap.size, 0, none⟩))).run Tryd.prog n.v = .ok (.agg X0) n.v) ∧ (∀ n : Fam W, (Instr.loadAt 42 (.pointer (some ⟨w.heap.size, 72, none⟩))).run Tryd.prog n.v = .ok (.agg X1) n.v) := fun W h => by
    rw [← hX0, ← hX1]; exact ⟨h.load 0 (by omega), h.load 72 (by omega)⟩
  have hlb : ∀ (W : World), StarAt W (w.heap.size + 1) 73 D → (∀ n : Fam W, (Instr.loadAt 42 (.pointer (some ⟨w.heap.size + 1, 0, none⟩))).run Tryd.prog n.v = .ok (.agg Y0) n.v) ∧ (∀ n : Fam W, (Instr.loadAt 42 (.pointer (some ⟨w.heap.size + 1, 72, none⟩))).run Tryd.prog n.v = .ok (.agg Y1) n.v) := fun W h => by
    rw [← hY0, ← hY1]; exact ⟨h.load 0 (by omega), h.load 72 (by omega)⟩
  have hmv : ∀ n : Fam w2, Calls Tryd.prog 50 #[.pointer (some ⟨L.b, 0, none⟩), .int .i64 v, .agg X, .agg Y] n.v fun e w' => e = .returned (.int .u64 (s : Nat)) ∧ Fr No n.v w' := fun n => by
    rw [← HX.out, ← HY.out]; exact moves_canon (HM.out.no n.h) v C D HC.out HD.out HS.out
  obtain ⟨a0, a1⟩ := hla _ HSC2.out
  obtain ⟨b0, b1⟩ := hlb _ HSD2.out
  have HBX := hid hbX
  have HBY := hid hbY
  have HLA := hid hla
  have HLB := hid hlb
  clear hX0 hX1 hY0 hY1 hs hla hlb
  refine wp_region_plainfam ?_
  go_big_quiet_step (fail)
  go_big_quiet_step (fail)
  go_big_quiet_step (fail)
  go_big_quiet_want
  refine quiet_load 42 (.tmp 31) rfl (.pointer (some ⟨w.heap.size, 0, none⟩)) (.agg X0) rfl (by rintro w' ⟨n, rfl⟩; exact a0 n) ?_
  simp only [Act.put, List.setIfInBounds_toArray, List.set_cons_zero, List.set_cons_succ]
  go_big_quiet_on
  go_big_quiet_step (fail)
  go_big_quiet_want
  refine quiet_load 42 (.tmp 33) rfl (.pointer (some ⟨w.heap.size, 72, none⟩)) (.agg X1) rfl (by rintro w' ⟨n, rfl⟩; exact a1 n) ?_
  simp only [Act.put, List.setIfInBounds_toArray, List.set_cons_zero, List.set_cons_succ]
  go_big_quiet_on
  go_big_quiet_want
  refine quiet_build 71 (.tmp 32) (.tmp 34) rfl (.agg X0) (.agg X1) (.agg X) rfl rfl hbX ?_
  simp only [Act.put, List.setIfInBounds_toArray, List.set_cons_zero, List.set_cons_succ]
  go_big_quiet_on
  go_big_quiet_step (fail)
  go_big_quiet_want
  refine quiet_load 42 (.tmp 36) rfl (.pointer (some ⟨w.heap.size + 1, 0, none⟩)) (.agg Y0) rfl (by rintro w' ⟨n, rfl⟩; exact b0 n) ?_
  simp only [Act.put, List.setIfInBounds_toArray, List.set_cons_zero, List.set_cons_succ]
  go_big_quiet_on
  go_big_quiet_step (fail)
  go_big_quiet_want
  refine quiet_load 42 (.tmp 38) rfl (.pointer (some ⟨w.heap.size + 1, 72, none⟩)) (.agg Y1) rfl (by rintro w' ⟨n, rfl⟩; exact b1 n) ?_
  simp only [Act.put, List.setIfInBounds_toArray, List.set_cons_zero, List.set_cons_succ]
  go_big_quiet_on
  go_big_quiet_want
  refine quiet_build 71 (.tmp 37) (.tmp 39) rfl (.agg Y0) (.agg Y1) (.agg Y) rfl rfl hbY ?_
  simp only [Act.put, List.setIfInBounds_toArray, List.set_cons_zero, List.set_cons_succ]
  go_big_quiet_on
  clear a0 a1 b0 b1
  repeat (go_big_quiet_step (exact Calls.fam (hmv _)))
  refine wpQuiet_nil ?_
  rintro w3 ⟨⟨w3, hf3⟩, rfl⟩
  have HM3 := hid (HM.out.no hf3)
  have HR3 := hid (HR.out.no hf3)
  have G3 := hid (G2.out.trans hf3)
  have HSC3 := hid (HSC2.out.fr hf3 (fun h => h))
  have HSD3 := hid (HSD2.out.fr hf3 (fun h => h))
  clear hf3 hmv
  go_upto_region 7 with fail
  have hmv : ∀ n : Fam w3, Calls Tryd.prog 50 #[.pointer (some ⟨L.b, 0, none⟩), .int .i64 v, .agg Y, .agg X] n.v fun e w' => e = .returned (.int .u64 (s : Nat)) ∧ Fr No n.v w' := fun n => by
    rw [← HX.out, ← HY.out]; exact moves_canon (HM3.out.no n.h) v D C HD.out HC.out (HS.out.congr fun i => x.Mv_sym v C D i)
  obtain ⟨a0, a1⟩ := HLA.out _ HSC3.out
  obtain ⟨b0, b1⟩ := HLB.out _ HSD3.out
  refine wp_region_plainfam ?_
  go_big_quiet_step (fail)
  go_big_quiet_step (fail)
  go_big_quiet_step (fail)
  go_big_quiet_want
  refine quiet_load 42 (.tmp 44) rfl (.pointer (some ⟨w.heap.size + 1, 0, none⟩)) (.agg Y0) rfl (by rintro w' ⟨n, rfl⟩; exact b0 n) ?_
  simp only [Act.put, List.setIfInBounds_toArray, List.set_cons_zero, List.set_cons_succ]
  go_big_quiet_on
  go_big_quiet_step (fail)
  go_big_quiet_want
  refine quiet_load 42 (.tmp 46) rfl (.pointer (some ⟨w.heap.size + 1, 72, none⟩)) (.agg Y1) rfl (by rintro w' ⟨n, rfl⟩; exact b1 n) ?_
  simp only [Act.put, List.setIfInBounds_toArray, List.set_cons_zero, List.set_cons_succ]
  go_big_quiet_on
  go_big_quiet_want
  refine quiet_build 71 (.tmp 45) (.tmp 47) rfl (.agg Y0) (.agg Y1) (.agg Y) rfl rfl HBY.out ?_
  simp only [Act.put, List.setIfInBounds_toArray, List.set_cons_zero, List.set_cons_succ]
  go_big_quiet_on
  go_big_quiet_step (fail)
  go_big_quiet_want
  refine quiet_load 42 (.tmp 49) rfl (.pointer (some ⟨w.heap.size, 0, none⟩)) (.agg X0) rfl (by rintro w' ⟨n, rfl⟩; exact a0 n) ?_
  simp only [Act.put, List.setIfInBounds_toArray, List.set_cons_zero, List.set_cons_succ]
  go_big_quiet_on
  go_big_quiet_step (fail)
  go_big_quiet_want
  refine quiet_load 42 (.tmp 51) rfl (.pointer (some ⟨w.heap.size, 72, none⟩)) (.agg X1) rfl (by rintro w' ⟨n, rfl⟩; exact a1 n) ?_
  simp only [Act.put, List.setIfInBounds_toArray, List.set_cons_zero, List.set_cons_succ]
  go_big_quiet_on
  go_big_quiet_want
  refine quiet_build 71 (.tmp 50) (.tmp 52) rfl (.agg X0) (.agg X1) (.agg X) rfl rfl HBX.out ?_
  simp only [Act.put, List.setIfInBounds_toArray, List.set_cons_zero, List.set_cons_succ]
  go_big_quiet_on
  clear a0 a1 b0 b1 hbX hbY
  repeat (go_big_quiet_step (exact Calls.fam (hmv _)))
  refine wpQuiet_nil ?_
  rintro w4 ⟨⟨w4, hf4⟩, rfl⟩
  have HR4 := hid (HR3.out.no hf4)
  have G4 := hid (G3.out.trans hf4)
  have hn2 := HM.out.ok.n2
  clear hf4 hmv
  go_wp2
  go_loopw [17] (fun i wr => ∃ k : Nat, k ≤ x.n ∧ i = .int .i64 k ∧ Fr No w4 wr) (fun i _ => 24 - (intOf i).toNat)
  case atStart => exact ⟨0, Nat.zero_le _, rfl, Fr.refl _ _⟩
  case round =>
    obtain ⟨k, hk, rfl, hf⟩ := hrel
    have HFK := hid hf
    have c0 := (HR4.out.no hf).c0
    clear hf
    by_cases hlt : k < x.n
    · have hltI : (k : Int) < x.n := by omega
      have hhas : ∀ n : Fam wr, Calls Tryd.prog 53 #[.int .u64 (s : Nat), .int .i64 (k : Nat)] n.v fun e w' => e = .returned (.bool (s.testBit k)) ∧ Fr No n.v w' := fun n =>
        has_calls s k HS.out.lt (by omega) n.v
      obtain ⟨bb, hbb⟩ : ∃ bb, s.testBit k = bb := ⟨_, rfl⟩
      rw [hbb] at hhas
      cases bb with
      | false =>
        clear hbb
        go_wp2_with fail
        clear c0
        refine wp_region_fam (by kernel_rfl) (by kernel_rfl) ?_
        repeat (go_big_quiet_step (exact Calls.fam (hhas _)))
        refine wpQuiet_nil ?_
        rintro w5 ⟨⟨w5, hf5⟩, rfl⟩
        have HF5 := hid (HFK.out.trans hf5)
        clear hf5 hhas
        go_wp2
        go_roundw
        case rel => exact ⟨k + 1, hlt, by go_num, HF5.out⟩
        case measure => simp [intOf]; omega
      | true =>
        obtain ⟨hvx, hrk⟩ := HM.out.ok.mv_rk ((HS.out.bit k).1 hbb)
        have hv2 : 0 ≤ v ∧ v < x.n := by unfold Ix.vertex at hvx; simpa using hvx
        obtain ⟨p, rfl⟩ := Int.eq_ofNat_of_zero_le hv2.1
        have hp2 : (p : Int) < x.n := hv2.2
        have hp : p < x.n := by omega
        have hvt : ∀ n : Fam wr, Calls Tryd.prog 54 #[.pointer (some ⟨R.b, 0, none⟩), .int .i64 (p : Nat)] n.v fun e w' => e = .returned (.bool true) ∧ Fr No n.v w' := fun n =>
          (rvertex_calls ((HR4.out.no HFK.out).no n.h) (p : Nat)).mono fun e w' ⟨h1, h2⟩ => ⟨by rw [h1, hvx], by subst h2; exact Fr.refl _ _⟩
        have kkc : ∀ n : Fam wr, n.v.cell? ⟨R.b, 0, none⟩ = some (.slice (some ⟨R.br, 0, none⟩) x.n R.cr) := Fam.cell c0
        have kka : ∀ n : Fam wr, n.v.cell? ⟨R.br, k, none⟩ = some (.int .i64 (x.rk k : Nat)) := Fam.cell ((HR4.out.no HFK.out).rk k hlt)
        have kkp : ∀ n : Fam wr, n.v.cell? ⟨R.br, p, none⟩ = some (.int .i64 (x.rk p : Nat)) := Fam.cell ((HR4.out.no HFK.out).rk p hp)
        simp only [Int.toNat_natCast] at hrk
        have h1a : decide ((x.rk k : Int) ≤ (x.rk p : Nat)) = false := by simpa using hrk
        have h1b : ((x.rk k : Int) ≤ (x.rk p : Nat)) = False := by simpa using hrk
        clear hbb hvx hv2 hrk
        go_wp2_with fail
        clear c0
        refine wp_region_fam (by kernel_rfl) (by kernel_rfl) ?_
        repeat (go_big_quiet_step (first | exact Calls.fam (hhas _) | exact Calls.fam (hvt _)))
        refine wpQuiet_nil ?_
        rintro w5 ⟨⟨w5, hf5⟩, rfl⟩
        have HF5 := hid (HFK.out.trans hf5)
        clear hf5 hhas hvt kkc kka kkp h1a h1b
        go_wp2
        go_roundw
        case rel => exact ⟨k + 1, hlt, by go_num, HF5.out⟩
        case measure => simp [intOf]; omega
    · have e : k = x.n := by omega
      subst e
      go_wp2
      go_ret
      exact ⟨rfl, G4.out.trans HFK.out⟩

end Go.Proofs.YtlncmnphjdeeoaaDoor
