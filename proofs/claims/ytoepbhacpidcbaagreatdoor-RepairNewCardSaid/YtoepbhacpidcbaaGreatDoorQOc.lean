/- The queue of dirty vertices: how it lies in memory, and its functions; walked. -/

import Derived.Test.YtoepbhacpidcbaaGreatDoorQBase
import Derived.Test.YtoepbhacpidcbaaGreatDoorQIdx
import Derived.Test.YtoepbhacpidcbaaGreatDoorQPerm
import Derived.Test.YtoepbhacpidcbaaGreatDoorQIdxB
import Derived.Test.YtoepbhacpidcbaaGreatDoorQRef
import Derived.Test.YtoepbhacpidcbaaGreatDoorQUnref
import Derived.Test.YtoepbhacpidcbaaGreatDoorQItr
import Derived.Test.YtoepbhacpidcbaaGreatDoorQUnE
import Derived.Test.YtoepbhacpidcbaaGreatDoorQDst
import Derived.Test.YtoepbhacpidcbaaGreatDoorQLnk
import Derived.Test.YtoepbhacpidcbaaGreatDoorQLks
import Derived.Test.YtoepbhacpidcbaaGreatDoorQMid
import Derived.Test.YtoepbhacpidcbaaGreatDoorQBig
import Derived.Test.YtoepbhacpidcbaaGreatDoorQCp2
import Derived.Test.YtoepbhacpidcbaaGreatDoorQGoes
import Derived.Test.YtoepbhacpidcbaaGreatDoorQGOps
import Derived.Test.YtoepbhacpidcbaaGreatDoorQGB
import Derived.Test.YtoepbhacpidcbaaGreatDoorQG8
import Derived.Test.YtoepbhacpidcbaaGreatDoorQWh
import Derived.Test.YtoepbhacpidcbaaGreatDoorQDMov
import Derived.Test.YtoepbhacpidcbaaGreatDoorQWk
import Derived.Test.YtoepbhacpidcbaaGreatDoorQBt1
import Derived.Test.YtoepbhacpidcbaaGreatDoorQHpK

set_option linter.unusedVariables false
set_option linter.unusedSimpArgs false
namespace Go.Proofs.YtoepbhacpidcbaaGreatDoor
open Go.RowKit Go.Shelf Go.Deep

/-- Ranks, and whose each is. -/
structure Od (n : Nat) (rf bf : Nat → Nat) : Prop where
  n1 : 1 ≤ n
  n2 : n ≤ 24
  rk : ∀ v, v < n → rf v < n ∧ bf (rf v) = v
  by_ : ∀ r, r < n → bf r < n ∧ rf (bf r) = r
theorem Ix.Ok.od {x : Ix} (h : x.Ok) : Od x.n x.rk x.by_ := ⟨h.n1, h.n2, h.rk, h.by_⟩

structure QLoc where
  b : Nat
  qr : Nat
  qy : Nat
  cr : Nat
  cy : Nat
def qV (Q : QLoc) (n s : Nat) (i : Nat) : Value :=
  if i = 0 then .slice (some ⟨Q.qr, 0, none⟩) n Q.cr else if i = 1 then .slice (some ⟨Q.qy, 0, none⟩) n Q.cy else .int .u64 (s : Nat)
structure QMem (w : World) (Q : QLoc) (n : Nat) (rk by_ : Nat → Nat) (d : Nat → Bool) : Prop where
  s : ∃ s, Blk w Q.b 3 164 (qV Q n s) ∧ SetOf s (fun r => r < n ∧ d (by_ r) = true)
  nr : Nums w Q.qr n rk
  ny : Nums w Q.qy n by_
  hr : Q.qr < w.heap.size ∧ Q.qr ≠ Q.b
  hy : Q.qy < w.heap.size ∧ Q.qy ≠ Q.b
  tz : TzVar w
  nz : Q.b ≠ 1
theorem QMem.fr {w w' : World} {Q : QLoc} {n : Nat} {rk by_ : Nat → Nat} {d : Nat → Bool} (h : QMem w Q n rk by_ d) {F : Nat → Prop} (hf : Fr F w w') (h1 : ¬ F Q.b) (h2 : ¬ F Q.qr) (h3 : ¬ F Q.qy) (h4 : ¬ F 1) : QMem w' Q n rk by_ d := by
  obtain ⟨s, hs1, hs2⟩ := h.s
  exact ⟨⟨s, hs1.fr hf h1, hs2⟩, h.nr.of_fr hf h.hr.1 h2, h.ny.of_fr hf h.hy.1 h3, ⟨Nat.lt_of_lt_of_le h.hr.1 hf.size, h.hr.2⟩, ⟨Nat.lt_of_lt_of_le h.hy.1 hf.size, h.hy.2⟩, h.tz.fr hf h4, h.nz⟩
theorem QMem.no {w w' : World} {Q : QLoc} {n : Nat} {rk by_ : Nat → Nat} {d : Nat → Bool} (h : QMem w Q n rk by_ d) (hf : Fr No w w') : QMem w' Q n rk by_ d := h.fr hf (fun h => h) (fun h => h) (fun h => h) (fun h => h)
theorem QMem.lt {w : World} {Q : QLoc} {n : Nat} {rk by_ : Nat → Nat} {d : Nat → Bool} (h : QMem w Q n rk by_ d) : Q.b < w.heap.size := by
  obtain ⟨s, hs1, _⟩ := h.s
  exact hs1.lt
/-- Another set in the same queue. -/
theorem QMem.put {w : World} {Q : QLoc} {n : Nat} {rk by_ : Nat → Nat} {d d' : Nat → Bool} (h : QMem w Q n rk by_ d) {t : Nat} (ht : SetOf t (fun r => r < n ∧ d' (by_ r) = true)) : QMem (w.setCell ⟨Q.b, 2, none⟩ (.int .u64 (t : Nat))) Q n rk by_ d' := by
  have hf : Fr (One Q.b) w (w.setCell ⟨Q.b, 2, none⟩ (.int .u64 (t : Nat))) := (Fr.refl _ w).set1 2 _
  obtain ⟨s, hs1, _⟩ := h.s
  refine ⟨⟨t, (hs1.setCell 2 _).congr fun i hi => ?_, ht⟩, h.nr.of_fr hf h.hr.1 h.hr.2, h.ny.of_fr hf h.hy.1 h.hy.2, ⟨Nat.lt_of_lt_of_le h.hr.1 hf.size, h.hr.2⟩, ⟨Nat.lt_of_lt_of_le h.hy.1 hf.size, h.hy.2⟩, h.tz.fr hf (fun e => h.nz e.symm), h.nz⟩
  unfold upd qV
  match i, hi with
  | 0, _ => rfl
  | 1, _ => rfl
  | 2, _ => rfl
theorem QMem.congr {w : World} {Q : QLoc} {n : Nat} {rk by_ : Nat → Nat} {d d' : Nat → Bool} (h : QMem w Q n rk by_ d) (he : ∀ r, r < n → d (by_ r) = d' (by_ r)) : QMem w Q n rk by_ d' := by
  obtain ⟨s, hs1, hs2⟩ := h.s
  exact ⟨⟨s, hs1, hs2.congr fun i => ⟨fun hh => ⟨hh.1, by rw [← he i hh.1]; exact hh.2⟩, fun hh => ⟨hh.1, by rw [he i hh.1]; exact hh.2⟩⟩⟩, h.nr, h.ny, h.hr, h.hy, h.tz, h.nz⟩

attribute [local go_sem] Oper.semAt_some

section
variable {w : World} {Q : QLoc} {n : Nat} {rk by_ : Nat → Nat} {d : Nat → Bool}

set_option maxRecDepth 100000 in
set_option maxHeartbeats 2000000 in
theorem qfloor_calls (ho : Od n rk by_) (h : QMem w Q n rk by_ d) : Calls Tryz.prog 34 #[.pointer (some ⟨Q.b, 0, none⟩)] w fun e w' => e = .returned (.int .i64 (flo (fun r => d (by_ r)) n : Nat)) ∧ Fr No w w' := by
  obtain ⟨s, hs1, hs2⟩ := h.s
  have c0 : w.cell? ⟨Q.b, 0, none⟩ = some (.slice (some ⟨Q.qr, 0, none⟩) n Q.cr) := hs1.cell (i := 0) (by omega)
  have c2 : w.cell? ⟨Q.b, 2, none⟩ = some (.int .u64 (s : Nat)) := hs1.cell (i := 2) (by omega)
  have hfc := first_calls hs2 w h.tz
  have hle := flo_le (fun r => d (by_ r)) n
  have HFC := hid hfc
  obtain ⟨f, hf⟩ : ∃ f, flo (fun r => d (by_ r)) n = f := ⟨_, rfl⟩
  rw [hf] at HFC hle ⊢
  clear h hs1 hs2 hfc hf
  go_enter Tryz.func34, Tryz.ntmps34
  go_wp2_with fail
  refine HFC.out.mono ?_
  rintro e w1 ⟨rfl, hf⟩
  have c01 := hf.cell_some c0 (fun h => h)
  by_cases hlt : f < n
  · rw [if_pos hlt, decide_eq_true hlt]
    go_wp2
    go_ret
    exact ⟨rfl, hf⟩
  · rw [decide_eq_false hlt]
    have e : f = n := by omega
    subst e
    go_wp2
    go_ret
    exact ⟨rfl, hf⟩

set_option maxRecDepth 100000 in
set_option maxHeartbeats 2000000 in
theorem qfirst_yes (ho : Od n rk by_) (h : QMem w Q n rk by_ d) (hlt : flo (fun r => d (by_ r)) n < n) : Calls Tryz.prog 199 #[.pointer (some ⟨Q.b, 0, none⟩)] w fun e w' => e = .returned (.tuple #[.int .i64 (by_ (flo (fun r => d (by_ r)) n) : Nat), .bool true]) ∧ Fr No w w' := by
  obtain ⟨s, hs1, hs2⟩ := h.s
  have c1 : w.cell? ⟨Q.b, 1, none⟩ = some (.slice (some ⟨Q.qy, 0, none⟩) n Q.cy) := hs1.cell (i := 1) (by omega)
  have c2 : w.cell? ⟨Q.b, 2, none⟩ = some (.int .u64 (s : Nat)) := hs1.cell (i := 2) (by omega)
  have hfc := first_calls hs2 w h.tz
  rw [if_pos hlt, decide_eq_true hlt] at hfc
  have HFC := hid hfc
  have HNY := hid h.ny
  obtain ⟨f, hf⟩ : ∃ f, flo (fun r => d (by_ r)) n = f := ⟨_, rfl⟩
  rw [hf] at HFC hlt ⊢
  have hlt2 : (f : Int) < n := by omega
  clear h hs1 hs2 hfc hf
  go_enter Tryz.func199, Tryz.ntmps199
  go_wp2_with fail
  refine HFC.out.mono ?_
  rintro e w1 ⟨rfl, hf⟩
  have c11 := hf.cell_some c1 (fun h => h)
  have k := hf.cell_some (HNY.out f hlt) (fun h => h)
  go_wp2
  go_ret2
  exact ⟨rfl, hf⟩

set_option maxRecDepth 100000 in
set_option maxHeartbeats 4000000 in
theorem qtake_yes (ho : Od n rk by_) (h : QMem w Q n rk by_ d) (hlt : flo (fun r => d (by_ r)) n < n) : Calls Tryz.prog 146 #[.pointer (some ⟨Q.b, 0, none⟩)] w fun e w' => e = .returned (.tuple #[.int .i64 (by_ (flo (fun r => d (by_ r)) n) : Nat), .bool true]) ∧ Fr (One Q.b) w w' ∧ QMem w' Q n rk by_ (fun z => d z && !decide (z = by_ (flo (fun r => d (by_ r)) n))) := by
  have H := hid h
  have HO := hid ho
  have HL := hid hlt
  have hn2 := ho.n2
  go_enter Tryz.func146, Tryz.ntmps146
  go_wp2_with fail
  refine (qfirst_yes HO.out H.out HL.out).mono ?_
  rintro e w1 ⟨rfl, hf⟩
  have hq := H.out.no hf
  have HQ := hid hq
  obtain ⟨s, hs1, hs2⟩ := hq.s
  have c2 : w1.cell? ⟨Q.b, 2, none⟩ = some (.int .u64 (s : Nat)) := hs1.cell (i := 2) (by omega)
  have hfl : ∀ nn : Fam w1, Calls Tryz.prog 34 #[.pointer (some ⟨Q.b, 0, none⟩)] nn.v fun e w' => e = .returned (.int .i64 (flo (fun r => d (by_ r)) n : Nat)) ∧ Fr No nn.v w' := fun nn => qfloor_calls HO.out (HQ.out.no nn.h)
  have hby := HO.out.by_ _ HL.out
  obtain ⟨f, hfe⟩ : ∃ f, flo (fun r => d (by_ r)) n = f := ⟨_, rfl⟩
  have HFE := hid hfe
  rw [hfe] at hfl hlt hby ⊢
  obtain ⟨t, ht, hS⟩ := hs2.without (x := f) (q := fun r => r < n ∧ (fun z => d z && !decide (z = by_ f)) (by_ r) = true) (by omega) (fun i => by
    simp only [Bool.and_eq_true, Bool.not_eq_true', decide_eq_false_iff_not]
    constructor
    · rintro ⟨h1, h2, h3⟩
      exact ⟨⟨h1, h2⟩, fun e => h3 (by rw [e])⟩
    · rintro ⟨⟨h1, h2⟩, h3⟩
      exact ⟨h1, h2, fun e => h3 (by rw [← (HO.out.by_ i h1).2, e, hby.2])⟩)
  have hwo : ∀ nn : Fam w1, Calls Tryz.prog 200 #[.int .u64 (s : Nat), .int .i64 (f : Nat)] nn.v fun e w' => e = .returned (.int .u64 (t : Nat)) ∧ Fr No nn.v w' := fun nn => without_calls2 ht (by omega) nn.v
  have kk2 : ∀ nn : Fam w1, nn.v.cell? ⟨Q.b, 2, none⟩ = some (.int .u64 (s : Nat)) := Fam.cell c2
  have HF := hid hf
  have HS := hid hS
  clear hf hq hs1 hs2 hfe hS ht h ho hlt
  go_wp2_with fail
  refine wp_region_fam_tail 10 (by kernel_rfl) (by kernel_rfl) ?_
  simp only [List.take_succ_cons, List.take_zero, List.drop_succ_cons, List.drop_zero]
  iterate 7 (go_big_quiet_step (exact Calls.fam (hfl _)))
  repeat (go_big_quiet_step (exact Calls.fam (hwo _)))
  refine wpQuiet_nil ?_
  rintro w5 ⟨⟨w5, hf5⟩, rfl⟩
  have HF5 := hid hf5
  have hq5 := HQ.out.no hf5
  have HQ5 := hid hq5
  obtain ⟨s5, hs5, _⟩ := hq5.s
  have k5 : w5.cell? ⟨Q.b, 2, none⟩ = some (.int .u64 (s5 : Nat)) := hs5.cell (i := 2) (by omega)
  have z5 := hs5.frozen 2
  clear hf5 hq5 hs5 hfl hwo kk2 c2
  go_wp2
  go_ret2
  rw [HFE.out]
  exact ⟨rfl, (HF.out.no (F := One Q.b)).trans ((HF5.out.no (F := One Q.b)).trans ((Fr.refl _ w5).set1 2 _)), HQ5.out.put HS.out⟩

set_option maxRecDepth 100000 in
set_option maxHeartbeats 2000000 in
theorem qfill_calls (ho : Od n rk by_) (h : QMem w Q n rk by_ d) : Calls Tryz.prog 75 #[.pointer (some ⟨Q.b, 0, none⟩)] w fun e w' => (∃ v, e = .returned v) ∧ Fr (One Q.b) w w' ∧ QMem w' Q n rk by_ (fun z => decide (z < n)) := by
  have H := hid h
  have hn1 := ho.n1
  have hn2 := ho.n2
  obtain ⟨s, hs1, hs2⟩ := h.s
  have c0 : w.cell? ⟨Q.b, 0, none⟩ = some (.slice (some ⟨Q.qr, 0, none⟩) n Q.cr) := hs1.cell (i := 0) (by omega)
  have hS : SetOf (2 ^ n - 1) (fun r => r < n ∧ (fun z => decide (z < n)) (by_ r) = true) := ⟨by have : 2 ^ n ≤ 2 ^ 24 := Nat.pow_le_pow_right (by decide) hn2; have := Nat.two_pow_pos n; omega, fun i => by
    rw [below_bits hn2]
    exact ⟨fun hi => ⟨hi, decide_eq_true (ho.by_ i hi).1⟩, fun hh => hh.1⟩⟩
  have HS := hid hS
  have hb := below_calls n hn1 hn2
  have HB := hid hb
  obtain ⟨t, ht⟩ : ∃ t, 2 ^ n - 1 = t := ⟨_, rfl⟩
  rw [ht] at HS HB
  clear h ho hs1 hs2 hS hb ht
  go_enter Tryz.func75, Tryz.ntmps75
  go_wp2_with fail
  refine (HB.out _).mono ?_
  rintro e w1 ⟨rfl, hf⟩
  have hq := H.out.no hf
  have HQ := hid hq
  obtain ⟨s5, hs5, _⟩ := hq.s
  have k5 : w1.cell? ⟨Q.b, 2, none⟩ = some (.int .u64 (s5 : Nat)) := hs5.cell (i := 2) (by omega)
  have z5 := hs5.frozen 2
  have HF := hid hf
  clear hf hq hs5
  go_wp2
  go_end0
  exact ⟨⟨_, rfl⟩, (HF.out.no (F := One Q.b)).trans ((Fr.refl _ w1).set1 2 _), HQ.out.put HS.out⟩

set_option maxRecDepth 100000 in
set_option maxHeartbeats 4000000 in
theorem put1_yes (ho : Od n rk by_) (h : QMem w Q n rk by_ d) (Bq : Nat) (hB : w.cell? ⟨Bq, 0, none⟩ = some (.pointer (some ⟨Q.b, 0, none⟩))) (r : Nat) (hr : r < n) (hd : d (by_ r) = false) :
    Calls Tryz.prog 198 #[.int .i64 (r : Nat), .pointer (some ⟨Bq, 0, none⟩)] w fun e w' => e = .returned (.int .i64 0) ∧ Fr (One Q.b) w w' ∧ QMem w' Q n rk by_ (fun z => d z || decide (z = by_ r)) := by
  have H := hid h
  have hn2 := ho.n2
  obtain ⟨s, hs1, hs2⟩ := h.s
  have c2 : w.cell? ⟨Q.b, 2, none⟩ = some (.int .u64 (s : Nat)) := hs1.cell (i := 2) (by omega)
  have hbit : s.testBit r = false := by
    rw [← Bool.not_eq_true, hs2.bit]
    intro hh; rw [hd] at hh; cases hh.2
  have hS : SetOf (s ||| 2 ^ r) (fun i => i < n ∧ (fun z => d z || decide (z = by_ r)) (by_ i) = true) := hs2.or (by omega) (fun i => by
    simp only [Bool.or_eq_true, decide_eq_true_eq]
    constructor
    · rintro ⟨h1, h2 | h2⟩
      · exact .inl ⟨h1, h2⟩
      · exact .inr (by rw [← (ho.by_ i h1).2, h2, (ho.by_ r hr).2])
    · rintro (⟨h1, h2⟩ | rfl)
      · exact ⟨h1, .inl h2⟩
      · exact ⟨hr, .inr rfl⟩)
  have HS := hid hS
  have hhas := has_calls s r hs2.lt (by omega) w
  rw [hbit] at hhas
  have HHAS := hid hhas
  have HB := hid hB
  have hslt := hs2.lt
  have hr24 : r < 24 := by omega
  clear h ho hs1 hs2 hbit hS hhas hd
  go_enter Tryz.func198, Tryz.ntmps198
  go_wp2_with fail
  refine HHAS.out.mono ?_
  rintro e w1 ⟨rfl, hf⟩
  have hq := H.out.no hf
  have HQ := hid hq
  have HF := hid hf
  have hwi : ∀ nn : Fam w1, Calls Tryz.prog 152 #[.int .u64 (s : Nat), .int .i64 (r : Nat)] nn.v fun e w' => e = .returned (.int .u64 ((s ||| 2 ^ r : Nat) : Int)) ∧ Fr No nn.v w' := fun nn => with_calls s r hslt hr24 nn.v
  have kk2 : ∀ nn : Fam w1, nn.v.cell? ⟨Q.b, 2, none⟩ = some (.int .u64 (s : Nat)) := Fam.cell (hf.cell_some c2 (fun h => h))
  have kkB : ∀ nn : Fam w1, nn.v.cell? ⟨Bq, 0, none⟩ = some (.pointer (some ⟨Q.b, 0, none⟩)) := Fam.cell (hf.cell_some hB (fun h => h))
  obtain ⟨t, ht⟩ : ∃ t, s ||| 2 ^ r = t := ⟨_, rfl⟩
  rw [ht] at hwi HS
  clear hf hq ht c2 hB
  go_wp2_with fail
  refine wp_region_fam_tail 9 (by kernel_rfl) (by kernel_rfl) ?_
  simp only [List.take_succ_cons, List.take_zero, List.drop_succ_cons, List.drop_zero]
  repeat (go_big_quiet_step (exact Calls.fam (hwi _)))
  refine wpQuiet_nil ?_
  rintro w5 ⟨⟨w5, hf5⟩, rfl⟩
  have HF5 := hid hf5
  have hq5 := HQ.out.no hf5
  have HQ5 := hid hq5
  obtain ⟨s5, hs5, _⟩ := hq5.s
  have k5 : w5.cell? ⟨Q.b, 2, none⟩ = some (.int .u64 (s5 : Nat)) := hs5.cell (i := 2) (by omega)
  have z5 := hs5.frozen 2
  clear hf5 hq5 hs5 hwi kk2 kkB
  go_wp2
  go_ret
  exact ⟨rfl, (HF.out.no (F := One Q.b)).trans ((HF5.out.no (F := One Q.b)).trans ((Fr.refl _ w5).set1 2 _)), HQ5.out.put HS.out⟩

set_option maxRecDepth 100000 in
set_option maxHeartbeats 4000000 in
theorem put1_no (ho : Od n rk by_) (h : QMem w Q n rk by_ d) (Bq : Nat) (hB : w.cell? ⟨Bq, 0, none⟩ = some (.pointer (some ⟨Q.b, 0, none⟩))) (r : Nat) (hr : r < n) (hd : d (by_ r) = true) :
    Calls Tryz.prog 198 #[.int .i64 (r : Nat), .pointer (some ⟨Bq, 0, none⟩)] w fun e w' => e = .returned (.int .i64 5) ∧ Fr No w w' := by
  have hn2 := ho.n2
  obtain ⟨s, hs1, hs2⟩ := h.s
  have c2 : w.cell? ⟨Q.b, 2, none⟩ = some (.int .u64 (s : Nat)) := hs1.cell (i := 2) (by omega)
  have hbit : s.testBit r = true := (hs2.bit r).2 ⟨hr, hd⟩
  have hhas := has_calls s r hs2.lt (by omega) w
  rw [hbit] at hhas
  have HHAS := hid hhas
  clear h ho hs1 hs2 hbit hhas hd
  go_enter Tryz.func198, Tryz.ntmps198
  go_wp2_with fail
  refine HHAS.out.mono ?_
  rintro e w1 ⟨rfl, hf⟩
  go_wp2
  go_ret
  exact ⟨rfl, hf⟩

set_option maxRecDepth 100000 in
set_option maxHeartbeats 4000000 in
theorem qof_calls (h : QMem w Q n rk by_ d) (v : Nat) (hv : v < n) (Bc : Nat) (z : Int) (P : World → Prop)
    (hc : Calls Tryz.prog 198 #[.int .i64 (rk v : Nat), .pointer (some ⟨Bc, 0, none⟩)] w fun e w' => e = .returned (.int .i64 z) ∧ P w') :
    Calls Tryz.prog 197 #[.pointer (some ⟨Q.b, 0, none⟩), .int .i64 (v : Nat), .func (.func 198) #[] #[.pointer (some ⟨Bc, 0, none⟩)]] w fun e w' => e = .returned (.int .i64 z) ∧ P w' := by
  obtain ⟨s, hs1, hs2⟩ := h.s
  have c0 : w.cell? ⟨Q.b, 0, none⟩ = some (.slice (some ⟨Q.qr, 0, none⟩) n Q.cr) := hs1.cell (i := 0) (by omega)
  have k0 := h.nr v hv
  have hv2 : (v : Int) < n := by omega
  have HC := hid hc
  clear h hs1 hs2 hc
  go_enter Tryz.func197, Tryz.ntmps197
  go_wp2_with fail
  refine HC.out.mono ?_
  rintro e w1 ⟨rfl, hp⟩
  go_wp2
  go_ret
  exact ⟨rfl, hp⟩

set_option maxRecDepth 100000 in
set_option maxHeartbeats 4000000 in
theorem qput_yes (ho : Od n rk by_) (h : QMem w Q n rk by_ d) (v : Nat) (hv : v < n) (hd : d v = false) :
    Calls Tryz.prog 142 #[.pointer (some ⟨Q.b, 0, none⟩), .int .i64 (v : Nat)] w fun e w' => e = .returned (.int .i64 0) ∧ Fr (One Q.b) w w' ∧ QMem w' Q n rk by_ (fun z => d z || decide (z = v)) := by
  have H := hid h
  obtain ⟨s, hs1, hs2⟩ := h.s
  have c0 : w.cell? ⟨Q.b, 0, none⟩ = some (.slice (some ⟨Q.qr, 0, none⟩) n Q.cr) := hs1.cell (i := 0) (by omega)
  have hv2 : (v : Int) < n := by omega
  have hrk := ho.rk v hv
  have f0 := (Fr.refl No w).alloc (.cells #[.pointer (some ⟨Q.b, 0, none⟩)] 73)
  have cB : (w.alloc (.cells #[.pointer (some ⟨Q.b, 0, none⟩)] 73)).cell? ⟨w.heap.size, 0, none⟩ = some (.pointer (some ⟨Q.b, 0, none⟩)) := by simp [go_sem]
  have hp := put1_yes ho (h.no f0) w.heap.size cB (rk v) hrk.1 (by rw [hrk.2]; exact hd)
  rw [hrk.2] at hp
  have HP := hid (qof_calls (h.no f0) v hv w.heap.size 0 _ hp)
  have F0 := hid f0
  have lq := h.lt
  clear h ho hs1 hs2 hd hp f0 hrk cB
  go_enter Tryz.func142, Tryz.ntmps142
  go_wp2_with fail
  refine HP.out.mono ?_
  rintro e w1 ⟨rfl, hf, hq⟩
  go_wp2
  go_ret
  exact ⟨rfl, (F0.out.no (F := One Q.b)).trans hf, hq⟩

set_option maxRecDepth 100000 in
set_option maxHeartbeats 4000000 in
theorem qput_no (ho : Od n rk by_) (h : QMem w Q n rk by_ d) (v : Nat) (hv : v < n) (hd : d v = true) :
    Calls Tryz.prog 142 #[.pointer (some ⟨Q.b, 0, none⟩), .int .i64 (v : Nat)] w fun e w' => e = .returned (.int .i64 5) ∧ Fr No w w' := by
  have H := hid h
  obtain ⟨s, hs1, hs2⟩ := h.s
  have c0 : w.cell? ⟨Q.b, 0, none⟩ = some (.slice (some ⟨Q.qr, 0, none⟩) n Q.cr) := hs1.cell (i := 0) (by omega)
  have hv2 : (v : Int) < n := by omega
  have hrk := ho.rk v hv
  have f0 := (Fr.refl No w).alloc (.cells #[.pointer (some ⟨Q.b, 0, none⟩)] 73)
  have cB : (w.alloc (.cells #[.pointer (some ⟨Q.b, 0, none⟩)] 73)).cell? ⟨w.heap.size, 0, none⟩ = some (.pointer (some ⟨Q.b, 0, none⟩)) := by simp [go_sem]
  have hp := put1_no ho (h.no f0) w.heap.size cB (rk v) hrk.1 (by rw [hrk.2]; exact hd)
  have HP := hid (qof_calls (h.no f0) v hv w.heap.size 5 _ hp)
  have F0 := hid f0
  have lq := h.lt
  clear h ho hs1 hs2 hd hp f0 hrk cB
  go_enter Tryz.func142, Tryz.ntmps142
  go_wp2_with fail
  refine HP.out.mono ?_
  rintro e w1 ⟨rfl, hf⟩
  go_wp2
  go_ret
  exact ⟨rfl, F0.out.trans hf⟩

/-- Whatever waits. -/
theorem qput_calls (ho : Od n rk by_) (h : QMem w Q n rk by_ d) (v : Nat) (hv : v < n) :
    Calls Tryz.prog 142 #[.pointer (some ⟨Q.b, 0, none⟩), .int .i64 (v : Nat)] w fun e w' => e = .returned (.int .i64 (if d v = true then 5 else 0)) ∧ Fr (One Q.b) w w' ∧ QMem w' Q n rk by_ (fun z => d z || decide (z = v)) := by
  cases hd : d v with
  | false => rw [if_neg (by simp)]; exact qput_yes ho h v hv hd
  | true =>
    rw [if_pos rfl]
    refine (qput_no ho h v hv hd).mono ?_
    rintro e w1 ⟨rfl, hf⟩
    refine ⟨rfl, hf.no, (h.no hf).congr fun r hr => ?_⟩
    by_cases e : by_ r = v
    · rw [e, hd]; rfl
    · simp [e]

set_option maxRecDepth 100000 in
set_option maxHeartbeats 4000000 in
theorem qnew_calls {w : World} (A : Option Addr) (n c : Nat) (f : Nat → Int) (h : IntsF w A n f) (h0 : 0 < n) (hd : PermF n f) (g : Nat → Nat) (hg1 : ∀ i, i < n → g (f i).toNat = i) (hg2 : ∀ r, r < n → g r < n ∧ f (g r) = r) (hT : TzVar w) :
    Calls Tryz.prog 144 #[.slice A n c] w fun e w' => ∃ Q : QLoc, e = .returned (.tuple #[.pointer (some ⟨Q.b, 0, none⟩), .int .i64 0]) ∧ Fr No w w' ∧ QMem w' Q n (fun i => (f i).toNat) g (fun _ => false) ∧ w.heap.size ≤ Q.b ∧ w.heap.size ≤ Q.qr ∧ w.heap.size ≤ Q.qy := by
  obtain ⟨bA, off, rfl, hc⟩ := h h0
  have hn := hd.1
  have hnn : (n : Int) ≠ 0 := by omega
  have hnb : ((n : Int) == 0) = false := by simp; omega
  have H := hid h
  have HC := hid hc
  have HP := hid hd
  have HG1 := hid hg1
  have HG2 := hid hg2
  have HT := hid hT
  clear h hc hd hg1 hg2 hT
  go_enter Tryz.func144, Tryz.ntmps144
  go_wp2_with fail
  refine (inverse_yes _ n c f w H.out HP.out g HG1.out HG2.out).mono ?_
  rintro e w1 ⟨b1, rfl, hf1, hb1, hblk⟩
  have HB := hid hblk
  have HF1 := hid hf1
  clear hf1 hblk
  go_wp2_with fail
  refine (clone_calls bA off n c f w1 (fun j hj => HF1.out.cell_some (HC.out j hj) (fun h => h)) h0 (by omega)).mono ?_
  rintro e w2 ⟨g2, cap, rfl, hf2, hg2, hg3, hcl⟩
  have HF2 := hid (HF1.out.trans hf2)
  have HB2 := hid (HB.out.fr hf2 (fun h => h))
  have HCL := hid hcl
  have hs1 := HF1.out.size
  have hs2 := hf2.size
  clear hf2 hcl
  go_wp2
  go_ret2
  refine ⟨⟨w2.heap.size, g2, b1, cap, n⟩, rfl, HF2.out.alloc _, ?_, (by show w.heap.size ≤ w2.heap.size; omega), (by show w.heap.size ≤ g2; omega), (by show w.heap.size ≤ b1; omega)⟩
  have hfa : Fr No w2 (w2.alloc (.cells #[.slice (some ⟨g2, 0, none⟩) n cap, .slice (some ⟨b1, 0, none⟩) n n, .int .u64 0] 164)) := (Fr.refl No w2).alloc _
  have hlt : b1 < w2.heap.size := HB2.out.lt
  have hT2 := (HT.out.no HF2.out)
  have hTl := hT2.lt
  refine ⟨⟨0, ⟨_, heap_new _ _, rfl, fun i hi => ?_⟩, SetOf.nil fun i h => by cases h.2⟩, fun j hj => ?_, fun j hj => ?_, ⟨by simp; omega, by show g2 ≠ w2.heap.size; omega⟩, ⟨by simp; omega, by show b1 ≠ w2.heap.size; omega⟩, hT2.no hfa, by show w2.heap.size ≠ _; omega⟩
  · match i, hi with
    | 0, _ => rfl
    | 1, _ => rfl
    | 2, _ => rfl
  · have hf := HP.out.2.1 j hj
    rw [hfa.cell_some (HCL.out j hj) (fun h => h)]
    rw [Int.toNat_of_nonneg (by omega)]
  · exact hfa.cell_some (HB2.out.cell hj) (fun h => h)

end

end Go.Proofs.YtoepbhacpidcbaaGreatDoor
/- How many are in a set; walked. -/
set_option linter.unusedVariables false
set_option linter.unusedSimpArgs false
namespace Go.Proofs.YtoepbhacpidcbaaGreatDoor
open Go.RowKit Go.Shelf Go.Deep

attribute [local go_sem] Oper.semAt_some

theorem and_split {x u : Nat} (hx : x < 256) (hu : u < 256) (y v : Nat) : (x + 256 * y) &&& (u + 256 * v) = (x &&& u) + 256 * (y &&& v) := by
  refine Nat.eq_of_testBit_eq fun i => ?_
  have e1 := Nat.testBit_two_pow_mul_add y (i := 8) (b := x) hx i
  have e2 := Nat.testBit_two_pow_mul_add v (i := 8) (b := u) hu i
  have e3 := Nat.testBit_two_pow_mul_add (y &&& v) (i := 8) (b := x &&& u) (Nat.lt_of_le_of_lt Nat.and_le_left hx) i
  rw [Nat.testBit_and, Nat.add_comm x, Nat.add_comm u, Nat.add_comm (x &&& u), show (256 : Nat) = 2 ^ 8 from rfl, e1, e2, e3]
  split <;> rw [Nat.testBit_and]
theorem and3 {a b c u R : Nat} (ha : a < 256) (hb : b < 256) (hc : c < 256) (hu : u < 256) : (a + 256 * (b + 256 * c)) &&& (u + 256 * (u + 256 * (u + 256 * R))) = (a &&& u) + 256 * ((b &&& u) + 256 * (c &&& u)) := by
  have h0 := and_split hc hu 0 R
  rw [Nat.mul_zero, Nat.add_zero, Nat.zero_and, Nat.mul_zero, Nat.add_zero] at h0
  rw [and_split ha hu, and_split hb hu, h0]
theorem ones_fold {A B C x3 x4 x5 : Nat} (hA : A ≤ 8) (hB : B ≤ 8) (hC : C ≤ 8) (h3 : A + 256 * (B + 256 * C) = x3) (h4 : x3 + x3 / 256 = x4) (h5 : x4 + x4 / 65536 = x5) : x5 = A + B + C + 256 * (B + C) + 65536 * C := by
  have e : x3 / 256 = B + 256 * C := by omega
  have e4 : x4 = A + B + 256 * (B + C) + 65536 * C := by omega
  have e5 : x4 / 65536 = C := by omega
  omega
def p1 (a : Nat) : Nat := ((a / 2) &&& 85) + (a &&& 85)
def p2 (a : Nat) : Nat := ((p1 a / 4) &&& 51) + (p1 a &&& 51)
def p3 (a : Nat) : Nat := ((p2 a / 16) + p2 a) &&& 15
theorem p1_le : ∀ a, a < 256 → p1 a ≤ 170 := by decide +kernel
theorem p2_le : ∀ a, a < 256 → p2 a ≤ 68 ∧ p2 a % 16 ≤ 4 := by decide +kernel
theorem p3_le : ∀ a, a < 256 → p3 a ≤ 8 ∧ (p3 a = 0 ↔ a = 0) := by decide +kernel
theorem sh2 : ∀ a, a < 256 → ∀ e, e < 2 → (a / 2 + 128 * e) &&& 85 = (a / 2) &&& 85 := by decide +kernel
theorem sh4 : ∀ a, a < 171 → ∀ e, e < 4 → (a / 4 + 64 * e) &&& 51 = (a / 4) &&& 51 := by decide +kernel
theorem sh16 : ∀ a, a < 69 → ∀ e, e < 5 → (a / 16 + 16 * e + a) &&& 15 = (a / 16 + a) &&& 15 := by decide +kernel
theorem ones_sum {s a b c : Nat} (hs : s = a + 256 * (b + 256 * c)) (ha : a < 256) (hb : b < 256) (hc : c < 256) :
    ((s / 2) &&& 6148914691236517205) + (s &&& 6148914691236517205) = p1 a + 256 * (p1 b + 256 * p1 c) := by
  have m : 6148914691236517205 = 85 + 256 * (85 + 256 * (85 + 256 * 366503875925)) := by decide
  have e1 : s &&& 6148914691236517205 = (a &&& 85) + 256 * ((b &&& 85) + 256 * (c &&& 85)) := by rw [hs, m]; exact and3 ha hb hc (by omega)
  have e2 : (s / 2) &&& 6148914691236517205 = ((a / 2) &&& 85) + 256 * (((b / 2) &&& 85) + 256 * ((c / 2) &&& 85)) := by
    rw [show s / 2 = (a / 2 + 128 * (b % 2)) + 256 * ((b / 2 + 128 * (c % 2)) + 256 * (c / 2)) by omega, m, and3 (by omega) (by omega) (by omega) (by omega), sh2 a ha _ (by omega), sh2 b hb _ (by omega)]
  rw [e1, e2]; unfold p1; omega
theorem ones_sum2 {s a b c : Nat} (hs : s = p1 a + 256 * (p1 b + 256 * p1 c)) (ha : a < 256) (hb : b < 256) (hc : c < 256) :
    ((s / 4) &&& 3689348814741910323) + (s &&& 3689348814741910323) = p2 a + 256 * (p2 b + 256 * p2 c) := by
  have m : 3689348814741910323 = 51 + 256 * (51 + 256 * (51 + 256 * 219902325555)) := by decide
  have la := p1_le a ha
  have lb := p1_le b hb
  have lc := p1_le c hc
  have e1 : s &&& 3689348814741910323 = (p1 a &&& 51) + 256 * ((p1 b &&& 51) + 256 * (p1 c &&& 51)) := by rw [hs, m]; exact and3 (by omega) (by omega) (by omega) (by omega)
  have e2 : (s / 4) &&& 3689348814741910323 = ((p1 a / 4) &&& 51) + 256 * (((p1 b / 4) &&& 51) + 256 * ((p1 c / 4) &&& 51)) := by
    rw [show s / 4 = (p1 a / 4 + 64 * (p1 b % 4)) + 256 * ((p1 b / 4 + 64 * (p1 c % 4)) + 256 * (p1 c / 4)) by omega, m, and3 (by omega) (by omega) (by omega) (by omega), sh4 _ (by omega) _ (by omega), sh4 _ (by omega) _ (by omega)]
  rw [e1, e2]; unfold p2; omega
theorem ones_sum3 {s a b c : Nat} (hs : s = p2 a + 256 * (p2 b + 256 * p2 c)) (ha : a < 256) (hb : b < 256) (hc : c < 256) :
    (s / 16 + s) &&& 1085102592571150095 = p3 a + 256 * (p3 b + 256 * p3 c) := by
  have m : 1085102592571150095 = 15 + 256 * (15 + 256 * (15 + 256 * 64677154575)) := by decide
  have la := p2_le a ha
  have lb := p2_le b hb
  have lc := p2_le c hc
  rw [show s / 16 + s = (p2 a / 16 + 16 * (p2 b % 16) + p2 a) + 256 * ((p2 b / 16 + 16 * (p2 c % 16) + p2 b) + 256 * (p2 c / 16 + p2 c)) by omega, m, and3 (by omega) (by omega) (by omega) (by omega), sh16 _ (by omega) _ (by omega), sh16 _ (by omega) _ (by omega)]
  rfl

set_option maxRecDepth 100000 in
set_option maxHeartbeats 4000000 in
theorem ones_calls (s : Nat) (hs : s < 2 ^ 24) (w : World) : Calls Tryz.prog 224 #[.int .u64 (s : Nat)] w fun e w' => ∃ r : Nat, e = .returned (.int .i64 (r : Nat)) ∧ (0 < r ↔ s ≠ 0) ∧ Fr No w w' := by
  obtain ⟨a, b, c, ha, hb, hc, hE⟩ : ∃ a b c, a < 256 ∧ b < 256 ∧ c < 256 ∧ s = a + 256 * (b + 256 * c) := ⟨s % 256, s / 256 % 256, s / 65536, by omega, by omega, by omega, by omega⟩
  have o1 := ones_sum hE ha hb hc
  have o2 := ones_sum2 rfl ha hb hc
  have o3 := ones_sum3 rfl ha hb hc
  have l1 := p1_le a ha
  have l2 := p1_le b hb
  have l3 := p1_le c hc
  have m1 := p2_le a ha
  have m2 := p2_le b hb
  have m3 := p2_le c hc
  have n1 := p3_le a ha
  have n2 := p3_le b hb
  have n3 := p3_le c hc
  obtain ⟨x1, h1⟩ : ∃ x, p1 a + 256 * (p1 b + 256 * p1 c) = x := ⟨_, rfl⟩
  obtain ⟨x2, h2⟩ : ∃ x, p2 a + 256 * (p2 b + 256 * p2 c) = x := ⟨_, rfl⟩
  obtain ⟨x3, h3⟩ : ∃ x, p3 a + 256 * (p3 b + 256 * p3 c) = x := ⟨_, rfl⟩
  rw [h1] at o1 o2
  rw [h2] at o2 o3
  rw [h3] at o3
  have E1 : IntKind.u64.wrap (bits .and .u64 ((s : Nat) / 2 : Int) 6148914691236517205 + bits .and .u64 ((s : Nat) : Int) 6148914691236517205) = (x1 : Nat) := by
    rw [show ((s : Nat) / 2 : Int) = ((s / 2 : Nat) : Int) by omega, show (6148914691236517205 : Int) = ((6148914691236517205 : Nat) : Int) from rfl, bits_and_u64_nat _ _ (by omega) (by omega), bits_and_u64_nat _ _ (by omega) (by omega), ← Int.natCast_add, o1, IntKind.wrap_u64]
    omega
  have E2 : IntKind.u64.wrap (bits .and .u64 ((x1 : Nat) / 4 : Int) 3689348814741910323 + bits .and .u64 ((x1 : Nat) : Int) 3689348814741910323) = (x2 : Nat) := by
    rw [show ((x1 : Nat) / 4 : Int) = ((x1 / 4 : Nat) : Int) by omega, show (3689348814741910323 : Int) = ((3689348814741910323 : Nat) : Int) from rfl, bits_and_u64_nat _ _ (by omega) (by omega), bits_and_u64_nat _ _ (by omega) (by omega), ← Int.natCast_add, o2, IntKind.wrap_u64]
    omega
  have E3 : bits .and .u64 (IntKind.u64.wrap ((x2 : Nat) / 16 + (x2 : Nat))) 1085102592571150095 = (x3 : Nat) := by
    rw [IntKind.wrap_u64, show ((x2 : Nat) / 16 + (x2 : Nat) : Int) % 18446744073709551616 = ((x2 / 16 + x2 : Nat) : Int) by omega, show (1085102592571150095 : Int) = ((1085102592571150095 : Nat) : Int) from rfl, bits_and_u64_nat _ _ (by omega) (by omega), o3]
  have E4 : IntKind.u64.wrap ((x3 : Nat) + (x3 : Nat) / 256) = ((x3 + x3 / 256 : Nat) : Int) := by rw [IntKind.wrap_u64]; omega
  obtain ⟨x4, h4⟩ : ∃ x, x3 + x3 / 256 = x := ⟨_, rfl⟩
  rw [h4] at E4
  have E5 : IntKind.u64.wrap ((x4 : Nat) + (x4 : Nat) / 65536) = ((x4 + x4 / 65536 : Nat) : Int) := by rw [IntKind.wrap_u64]; omega
  obtain ⟨x5, h5⟩ : ∃ x, x4 + x4 / 65536 = x := ⟨_, rfl⟩
  rw [h5] at E5
  have hf := ones_fold n1.1 n2.1 n3.1 h3 h4 h5
  obtain ⟨r, hr⟩ : ∃ r, p3 a + p3 b + p3 c = r := ⟨_, rfl⟩
  have hr2 : r ≤ 24 ∧ (0 < r ↔ s ≠ 0) ∧ x5 = r + 256 * (p3 b + p3 c) + 65536 * p3 c := by omega
  have hx5 : x5 < 4294967296 ∧ x5 % 128 = r := by
    have hB2 := n2.1
    have hB3 := n3.1
    obtain ⟨k1, _, k2⟩ := hr2
    clear h1 h2 h3 h4 h5 o1 o2 o3 E1 E2 E3 E4 E5 hf hr n1 n2 n3 m1 m2 m3 l1 l2 l3 hE
    omega
  obtain ⟨hx5, hx6⟩ := hx5
  have E6 : IntKind.u64.wrap ((x5 : Nat) + (x5 : Nat) / 4294967296) = (x5 : Nat) := by
    clear h1 h2 h3 h4 h5 o1 o2 o3 E1 E2 E3 E4 E5 hf hr n1 n2 n3 m1 m2 m3 l1 l2 l3 hE hr2
    rw [IntKind.wrap_u64]; omega
  obtain ⟨hr24, hr3, -⟩ := hr2
  have E7 : bits .and .i64 ((x5 : Nat) : Int) 127 = (r : Nat) := by
    show IntKind.i64.wrap ((BitVec.ofInt 64 ((x5 : Nat) : Int) &&& BitVec.ofInt 64 127).toNat : Int) = _
    rw [BitVec.ofInt_natCast, show BitVec.ofInt 64 127 = BitVec.ofNat 64 127 from rfl, BitVec.toNat_and, BitVec.toNat_ofNat, BitVec.toNat_ofNat, Nat.mod_eq_of_lt (by omega), show (127 % 2 ^ 64 : Nat) = 2 ^ 7 - 1 from rfl, Nat.and_two_pow_sub_one_eq_mod, show x5 % 2 ^ 7 = r from hx6]
    rw [IntKind.wrap_i64]
    clear hr3 hx6 E1 E2 E3 E4 E5 E6 h1 h2 h3 h4 h5 hf hr n1 n2 n3 m1 m2 m3 l1 l2 l3 hE o1 o2 o3
    omega
  clear h1 h2 h3 h4 h5 hf hr n1 n2 n3 m1 m2 m3 l1 l2 l3 hE
  clear o1 o2 o3
  go_enter Tryz.func224, Tryz.ntmps224
  go_wp2_with (simp only [E1, E2, E3, E4, E5, E6, E7])
  go_ret
  exact ⟨r, rfl, hr3, Fr.refl _ _⟩

set_option maxRecDepth 100000 in
set_option maxHeartbeats 4000000 in
theorem slen_calls (s : Nat) (hs : s < 2 ^ 24) (w : World) : Calls Tryz.prog 208 #[.int .u64 (s : Nat)] w fun e w' => ∃ r : Nat, e = .returned (.int .i64 (r : Nat)) ∧ (0 < r ↔ s ≠ 0) ∧ Fr No w w' := by
  go_enter Tryz.func208, Tryz.ntmps208
  go_wp2_with fail
  refine (ones_calls s hs _).mono ?_
  rintro e w1 ⟨r, rfl, h1, h2⟩
  go_wp2
  go_ret
  exact ⟨r, rfl, h1, h2⟩

end Go.Proofs.YtoepbhacpidcbaaGreatDoor
