/- The entries of a vertex's row, as a range over a function goes through them (index.all): what its closure hands out. -/
import Derived.Test.YtpkocidcfnlbiaaDoorItr
import Derived.Test.YtpkocidcfnlbiaaDoorFam
set_option linter.unusedVariables false
set_option linter.unusedSimpArgs false
namespace Go.Proofs.YtpkocidcfnlbiaaDoor
open Go.RowKit Go.Shelf

attribute [local go_sem] Oper.semAt_some
attribute [local go_sem high] run_eql_kept run_neq_kept

/-- The entry at a rank's place of a vertex's row. -/
def Ix.rowE (x : Ix) (a : Nat) (back : Bool) (r : Nat) : En := if x.rk a < r ∧ r < x.n then (if back then x.ent (x.by_ r) a else x.ent a (x.by_ r)) else En.none
abbrev Ix.RowEl (x : Ix) (a : Nat) (back : Bool) := { r : Nat // x.rk a < r ∧ r < x.n ∧ x.rowE a back r ≠ En.none }
def Ix.rowTo (x : Ix) (a : Nat) (back : Bool) : Nat → List (x.RowEl a back)
  | 0 => []
  | r + 1 => if h : x.rk a < r ∧ r < x.n ∧ x.rowE a back r ≠ En.none then x.rowTo a back r ++ [⟨r, h⟩] else x.rowTo a back r
def Ix.rowEnc (x : Ix) (a : Nat) (back : Bool) (el : x.RowEl a back) : Array Value := #[.int .i64 (x.by_ el.1 : Nat), (x.rowE a back el.1).val]
theorem Ix.rowTo_succ (x : Ix) (a : Nat) (back : Bool) (r : Nat) : x.rowTo a back (r + 1) = if h : x.rk a < r ∧ r < x.n ∧ x.rowE a back r ≠ En.none then x.rowTo a back r ++ [⟨r, h⟩] else x.rowTo a back r := rfl
theorem Ix.rowTo_pre (x : Ix) (a : Nat) (back : Bool) (k : Nat) : ∀ d, x.rowTo a back k <+: x.rowTo a back (k + d)
  | 0 => List.prefix_refl _
  | d + 1 => by
    have := x.rowTo_pre a back k d
    show x.rowTo a back k <+: x.rowTo a back ((k + d) + 1)
    rw [Ix.rowTo_succ]
    split
    · exact this.trans (List.prefix_append _ _)
    · exact this
theorem Ix.Ok.K_row {x : Ix} (h : x.Ok) {a r c : Nat} (back : Bool) (ha : a < x.n) (hr : r < 24) (hc : c < 3) : x.K (x.rk a * 144 + (if back then 72 else 0) + r * 3 + c) = (x.rowE a back r).kf c := by
  have gu := h.rk a ha
  have h2 := h.n2
  have hz : En.none.kf c = 0 := by
    have : c = 0 ∨ c = 1 ∨ c = 2 := by omega
    rcases this with rfl | rfl | rfl <;> rfl
  cases back with
  | false =>
    have e1 : (x.rk a * 144 + 0 + r * 3 + c) / 144 = x.rk a := by omega
    have e2 : (x.rk a * 144 + 0 + r * 3 + c) % 72 / 3 = r := by omega
    have e3 : (x.rk a * 144 + 0 + r * 3 + c) % 144 < 72 := by omega
    have e4 : (x.rk a * 144 + 0 + r * 3 + c) % 3 = c := by omega
    simp only [Bool.false_eq_true, if_false]
    rw [Ix.K, e1, e2, e4, if_pos e3, gu.2, Ix.rowE]
    by_cases hh : x.rk a < r ∧ r < x.n
    · rw [if_pos hh, if_pos hh]; rfl
    · rw [if_neg hh, if_neg hh, hz]
  | true =>
    have e1 : (x.rk a * 144 + 72 + r * 3 + c) / 144 = x.rk a := by omega
    have e2 : (x.rk a * 144 + 72 + r * 3 + c) % 72 / 3 = r := by omega
    have e3 : ¬ (x.rk a * 144 + 72 + r * 3 + c) % 144 < 72 := by omega
    have e4 : (x.rk a * 144 + 72 + r * 3 + c) % 3 = c := by omega
    simp only [if_true]
    rw [Ix.K, e1, e2, e4, if_neg e3, gu.2, Ix.rowE]
    by_cases hh : x.rk a < r ∧ r < x.n
    · rw [if_pos hh, if_pos hh]; rfl
    · rw [if_neg hh, if_neg hh, hz]
theorem Ix.Ok.rowE_ok {x : Ix} (h : x.Ok) (a : Nat) (back : Bool) (r : Nat) : (x.rowE a back r).Ok := by
  unfold Ix.rowE
  split
  · split <;> exact h.ent _ _
  · constructor <;> decide
theorem En.kf_eq (e : En) : eq3 (e.kf 0) (e.kf 1) (e.kf 2) 0 0 0 = decide (e = En.none) := by
  obtain ⟨p, q, r⟩ := e
  simp only [eq3, En.kf, if_true, En.none, En.mk.injEq, Nat.one_ne_zero, if_false, Nat.reduceEqDiff]
  rw [Bool.eq_iff_iff]
  simp
  omega
theorem IxMem.at_row {w : World} {L : IxLoc} {x : Ix} (h : IxMem w L x) {a r c : Nat} (back : Bool) (ha : a < x.n) (hr : r < 24) (hc : c < 3) :
    w.cell? ⟨L.b, 2 + x.rk a * 144 + (if back then 72 else 0) + r * 3 + c, none⟩ = some (.int .i64 ((x.rowE a back r).kf c)) := by
  have := (h.ok.rk a ha).1
  have := h.ok.n2
  have hb : (if back = true then 72 else 0) ≤ 72 := by split <;> omega
  rw [h.blk.cell (by omega), Ix.V, if_neg (by omega), if_neg (by omega), show 2 + x.rk a * 144 + (if back = true then 72 else 0) + r * 3 + c - 2 = x.rk a * 144 + (if back then 72 else 0) + r * 3 + c by omega, h.ok.K_row back ha hr hc]

set_option maxRecDepth 100000 in
set_option maxHeartbeats 400000 in
theorem upf_calls (b o : Nat) (w : World) : Calls Tryd.prog 56 #[.pointer (some ⟨b, o, none⟩)] w fun e w' => e = .returned (.pointer (some ⟨b, o, none⟩)) ∧ w = w' := by
  go_enter Tryd.func56, Tryd.ntmps56
  go_wp2
  go_ret
  exact ⟨by simp, rfl⟩
set_option maxRecDepth 100000 in
set_option maxHeartbeats 400000 in
theorem downf_calls (b o : Nat) (w : World) : Calls Tryd.prog 57 #[.pointer (some ⟨b, o, none⟩)] w fun e w' => e = .returned (.pointer (some ⟨b, o + 72, none⟩)) ∧ w = w' := by
  go_enter Tryd.func57, Tryd.ntmps57
  go_wp2
  go_ret
  exact ⟨by simp, rfl⟩
theorem upf_fr (b o : Nat) (w : World) : Calls Tryd.prog 56 #[.pointer (some ⟨b, o, none⟩)] w fun e w' => e = .returned (.pointer (some ⟨b, o, none⟩)) ∧ Fr No w w' :=
  (upf_calls b o w).mono fun _ _ ⟨he, hw⟩ => ⟨he, hw ▸ Fr.refl No w⟩
theorem downf_fr (b o : Nat) (w : World) : Calls Tryd.prog 57 #[.pointer (some ⟨b, o, none⟩)] w fun e w' => e = .returned (.pointer (some ⟨b, o + 72, none⟩)) ∧ Fr No w w' :=
  (downf_calls b o w).mono fun _ _ ⟨he, hw⟩ => ⟨he, hw ▸ Fr.refl No w⟩
theorem En.kf_bounds {e : En} (h : e.Ok) : 0 ≤ e.kf 0 ∧ e.kf 0 ≤ 4611686018427387906 ∧ 0 ≤ e.kf 1 ∧ e.kf 1 ≤ 64 ∧ 0 ≤ e.kf 2 ∧ e.kf 2 ≤ 24 := by
  obtain ⟨h1, h2, h3, h4, h5, h6⟩ := h
  simp only [En.kf, if_true, Nat.one_ne_zero, if_false, Nat.reduceEqDiff]
  omega
theorem En.kf_back (e : En) : e.val = .agg #[.int .i64 (4611686018427387906 - e.kf 0), .int .i64 (e.kf 1 - 1), .int .i64 (e.kf 2 - 1)] := by
  obtain ⟨p, q, r⟩ := e
  simp only [En.val, En.kf, if_true, Nat.one_ne_zero, if_false, Nat.reduceEqDiff]
  rw [show (4611686018427387906 : Int) - (4611686018427387906 - p) = p by omega, show q + 1 - 1 = q by omega, show r + 1 - 1 = r by omega]

set_option maxRecDepth 100000 in
set_option maxHeartbeats 1000000 in
theorem all1_up {x : Ix} {L : IxLoc} (n : Nat) (hn : 1 ≤ n) (Bx Bv Br a : Nat) (ha : a < x.n) (F : Nat → Prop) (f1 : ¬ F L.b) (f2 : ¬ F L.br) (f3 : ¬ F L.bb) (f4 : ¬ F 0) (f5 : ¬ F Bx) (f6 : ¬ F Bv) (w : World) (h : IxMem w L x)
    (hx : w.cell? ⟨Bx, 0, none⟩ = some (.pointer (some ⟨L.b, 0, none⟩))) (hv : w.cell? ⟨Bv, 0, none⟩ = some (.int .i64 (a : Nat))) (hr : w.cell? ⟨Br, 0, none⟩ = some (.func (.func 56) #[] #[])) :
    SeqStopsK Fence.wide n Tryd.prog 77 #[.pointer (some ⟨Bx, 0, none⟩), .pointer (some ⟨Bv, 0, none⟩), .pointer (some ⟨Br, 0, none⟩)] (x.rowEnc a false) (Fr F) (fun ys => ys = x.rowTo a false 24) (fun pre => pre <+: x.rowTo a false 24) (x.rowTo a false 24).length w := fun l J Jx W hW hJ hJx hY h0 => by
  have hf0 := Fr.of_below hW
  have HM := hid (h.no hf0)
  have hx' := hf0.cell_some hx (fun h => h)
  have hv' := hf0.cell_some hv (fun h => h)
  have hr' := hf0.cell_some hr (fun h => h)
  have HBX := hid hx'
  have HBV := hid hv'
  have HJ := hid hJ
  have HJX := hid hJx
  have HY := hid hY
  have H0 := hid h0
  have hra : x.rank (a : Nat) = x.rk a := by unfold Ix.rank; rw [if_pos ⟨by omega, by omega⟩]; simp
  have HRA := hid hra
  have hrk := (h.ok.rk a ha).1
  have hn2 := h.ok.n2
  clear hW hJ hJx hY h0 h hx hv hr hra hf0
  have c0 := HM.out.c0
  have r1 := HM.out.rk a ha
  have ha2 : (a : Int) < x.n := by omega
  have hrk2 : (x.rk a : Int) < 24 := by omega
  refine callsIn_of_wp Tryd.func77 rfl trivial ?_ rfl
  simp only [Tryd.ntmps77, List.size_toArray, List.length_cons, List.length_nil, Nat.reduceAdd, Nat.reduceSub, Array.replicate_succ, Array.replicate_zero, List.push_toArray, List.append_toArray, List.nil_append, List.cons_append]
  gi_wp2
  refine ⟨trivial, callsIn_wide.2 ((rank_calls HM.out (a : Nat)).mono ?_)⟩
  rintro e w1 ⟨rfl, rfl⟩
  rw [HRA.out]
  gi_wp2
  have kk1 : ∀ m : Fam W, m.v.cell? ⟨Bx, 0, none⟩ = some (.pointer (some ⟨L.b, 0, none⟩)) := Fam.cell HBX.out
  have kk2 : ∀ m : Fam W, m.v.cell? ⟨Bv, 0, none⟩ = some (.int .i64 (a : Nat)) := Fam.cell HBV.out
  have kk3 : ∀ m : Fam W, m.v.cell? ⟨Br, 0, none⟩ = some (.func (.func 56) #[] #[]) := Fam.cell hr'
  have kk4 : ∀ m : Fam W, m.v.cell? ⟨L.b, 0, none⟩ = some (.slice (some ⟨L.br, 0, none⟩) x.n L.cr) := Fam.cell c0
  have kk5 : ∀ m : Fam W, m.v.cell? ⟨L.br, a, none⟩ = some (.int .i64 (x.rk a : Nat)) := Fam.cell r1
  refine wpIn_wide.2 (wp_region_fam (by kernel_rfl) (by kernel_rfl) ?_)
  repeat (go_big_quiet_step (exact Calls.fam (upf_fr _ _ _)))
  refine wpQuiet_nil ?_
  rintro w2 ⟨⟨w2, hf2⟩, rfl⟩
  have HF2 := hid hf2
  clear kk1 kk2 kk3 kk4 kk5 hf2 hx' hv' hr' c0 r1
  gi_wp2
  gi_loopw [25] (fun i wr => ∃ k : Nat, k ≤ 24 ∧ i = .int .i64 k ∧ J (x.rowTo a false k) wr ∧ Fr F W wr) (fun i _ => 24 - (intOf i).toNat)
  case atStart => exact ⟨0, Nat.zero_le _, rfl, HJ.out _ _ _ none H0.out (fr_grownBy HF2.out) (fun r h => by cases h), HF2.out.no⟩
  case round =>
    obtain ⟨k, hk, rfl, hj, hf⟩ := hrel
    have HJK := hid hj
    have HF := hid hf
    clear hj hf
    by_cases hlt : k < 24
    · have hlt2 : (k : Int) < 24 := by omega
      have HMr := hid (HM.out.fr HF.out f1 f2 f3 f4)
      have b0 := HMr.out.at_row (r := k) (c := 0) false ha hlt (by omega)
      have b1 := HMr.out.at_row (r := k) (c := 1) false ha hlt (by omega)
      have b2 := HMr.out.at_row (r := k) (c := 2) false ha hlt (by omega)
      have hbd := En.kf_bounds (HMr.out.ok.rowE_ok a false k)
      have hkq := En.kf_eq (x.rowE a false k)
      have hst := x.rowTo_succ a false k
      simp only [Bool.false_eq_true, if_false, if_true, Nat.add_zero] at b0 b1 b2
      obtain ⟨p0, hp0⟩ : ∃ p, (x.rowE a false k).kf 0 = p := ⟨_, rfl⟩
      obtain ⟨p1, hp1⟩ : ∃ p, (x.rowE a false k).kf 1 = p := ⟨_, rfl⟩
      obtain ⟨p2, hp2⟩ : ∃ p, (x.rowE a false k).kf 2 = p := ⟨_, rfl⟩
      have hback := En.kf_back (x.rowE a false k)
      rw [hp0, hp1, hp2] at hback hkq hbd
      rw [hp0] at b0
      rw [hp1] at b1
      rw [hp2] at b2
      obtain ⟨s0, s1, s2, s3, s4, s5⟩ := hbd
      have HST := hid hst
      have HBK := hid hback
      have HKQ := hid hkq
      have kl := HMr.out.lt
      clear hst hback hkq hp0 hp1 hp2
      gi_wp2
      gi_region
      have O3 := heap_new wr (Obj.cells #[Value.int IntKind.i64 p0, Value.int IntKind.i64 p1, Value.int IntKind.i64 p2] 88)
      have f3' : Fr No wr (wr.alloc (Obj.cells #[Value.int IntKind.i64 p0, Value.int IntKind.i64 p1, Value.int IntKind.i64 p2] 88)).drew := ((Fr.refl No wr).alloc _).drew
      have q3 : ∀ i, (wr.alloc (Obj.cells #[Value.int IntKind.i64 p0, Value.int IntKind.i64 p1, Value.int IntKind.i64 p2] 88)).drew.cell? ⟨wr.heap.size, i, none⟩ = #[Value.int IntKind.i64 p0, Value.int IntKind.i64 p1, Value.int IntKind.i64 p2][i]? := cell_of O3
      obtain ⟨W3, hW3⟩ : ∃ W3, (wr.alloc (Obj.cells #[Value.int IntKind.i64 p0, Value.int IntKind.i64 p1, Value.int IntKind.i64 p2] 88)).drew = W3 := ⟨_, rfl⟩
      rw [hW3] at f3' q3 ⊢
      have HF3 := hid f3'
      have kk0 : ∀ m : Fam W3, m.v.cell? ⟨wr.heap.size, 0, none⟩ = some (.int .i64 p0) := Fam.cell (q3 0)
      have kk1 : ∀ m : Fam W3, m.v.cell? ⟨wr.heap.size, 1, none⟩ = some (.int .i64 p1) := Fam.cell (q3 1)
      have kk2 : ∀ m : Fam W3, m.v.cell? ⟨wr.heap.size, 2, none⟩ = some (.int .i64 p2) := Fam.cell (q3 2)
      clear O3 f3' hW3 b0 b1 b2
      cases hE : eq3 p0 p1 p2 0 0 0 with
      | true =>
        have hn := HKQ.out
        rw [hE] at hn
        have HN := hid (of_decide_eq_true hn.symm)
        clear hn q3
        gi_wp2_with fail
        refine wpIn_wide.2 (wp_region_fam (by kernel_rfl) (by kernel_rfl) ?_)
        repeat (go_big_quiet_step (fail))
        refine wpQuiet_nil ?_
        rintro w4 ⟨⟨w4, hf4⟩, rfl⟩
        have HF4 := hid hf4
        clear kk0 kk1 kk2 hf4
        gi_wp2
        go_roundw
        case rel => exact ⟨k + 1, by omega, by go_num, by rw [HST.out, dif_neg (fun h => h.2.2 HN.out)]; exact HJ.out _ _ _ none HJK.out (fr_grownBy (HF3.out.trans HF4.out)) (fun r h => by cases h), HF.out.trans (HF3.out.trans HF4.out).no⟩
        case measure => simp [intOf]; omega
      | false =>
        have hn := HKQ.out
        rw [hE] at hn
        have hne := of_decide_eq_false hn.symm
        have hrg : x.rk a < k ∧ k < x.n := by
          by_cases hh : x.rk a < k ∧ k < x.n
          · exact hh
          · exact absurd (by unfold Ix.rowE; rw [if_neg hh]) hne
        have hel : x.rk a < k ∧ k < x.n ∧ x.rowE a false k ≠ En.none := ⟨hrg.1, hrg.2, hne⟩
        have hkn : (k : Int) < x.n := by omega
        have hst := HST.out
        rw [dif_pos hel] at hst
        have hpre := x.rowTo_pre a false (k + 1) (23 - k)
        rw [show k + 1 + (23 - k) = 24 by omega, hst] at hpre
        have hlen : (x.rowTo a false k).length < (x.rowTo a false 24).length := by
          have := hpre.length_le
          simp at this; omega
        have HYK : Hid (∀ w4, Fr No W3 w4 → YieldAt Fence.wide (n - 1) Tryd.prog l #[.int .i64 (x.by_ k : Nat), .agg #[.int .i64 (4611686018427387906 - p0), .int .i64 (p1 - 1), .int .i64 (p2 - 1)]] w4 fun e W' => ∃ b : Bool, e = .returned (.bool b) ∧ ((b = true ∧ J (x.rowTo a false (k + 1)) W' ∧ Fr F w4 W') ∨ (b = false ∧ Jx (x.rowTo a false (k + 1)) W'))) := hid fun w4 h4 => by
          have := HY.out (x.rowTo a false k) ⟨k, hel⟩ w4 (HJ.out _ _ _ none HJK.out (fr_grownBy (HF3.out.trans h4)) (fun r h => by cases h)) hlen
          rw [Ix.rowEnc, HBK.out, ← hst] at this
          refine this.mono ?_
          rintro e W' (⟨rfl, h1, h2⟩ | ⟨rfl, h1⟩)
          · exact ⟨true, rfl, .inl ⟨rfl, h1, h2⟩⟩
          · exact ⟨false, rfl, .inr ⟨rfl, h1⟩⟩
        have HPRE := hid hpre
        have HST2 := hid hst
        have hb3 := HM.out.no (Fr.refl No W)
        have c1 := (HMr.out.no HF3.out).c1
        have by1 := (HMr.out.no HF3.out).by_ k hrg.2
        have bx3 := HF3.out.cell_some (HF.out.cell_some HBX.out f5) (fun h => h)
        have hzl : wr.heap.size < W3.heap.size := cell_lt (q3 0)
        have t0 := q3 0
        have t1 := q3 1
        have t2 := q3 2
        simp at t0 t1 t2
        clear hn hst hpre hlen kk0 kk1 kk2 hb3 q3
        gi_wp2_with fail
        gi_region_with (first
          | (refine ⟨trivial, ?_⟩; gi_at_call 78; refine callsIn_wide.2 ((told_calls p0 p1 p2 _ s0 s1 s2 s3 s4 s5).mono ?_); rintro e w4 ⟨rfl, hf4⟩; (have HF4 := hid ((Fr.refl No W3).drew.trans hf4)); (have d1 := HF4.out.cell_some c1 (fun h => h)); (have d2 := HF4.out.cell_some by1 (fun h => h)); (have d3 := HF4.out.cell_some bx3 (fun h => h)); (obtain ⟨fn, tmps, assign, body, hy, hR⟩ := HYK.out w4 HF4.out); clear hf4)
          | (refine hR.mono ?_; rintro e W5 ⟨b, rfl, hres⟩; (have HRES := hid hres); clear hres))
        all_goals rcases HRES.out with ⟨rfl, hj5, hf5⟩ | ⟨rfl, hj5⟩
        all_goals (clear HRES hR hy HYK)
        all_goals gi_wp2
        all_goals first
          | (refine bodyPost_ret (results_none rfl _ _ _) rfl ?_
             exact ⟨⟨_, rfl⟩, .inr ⟨_, by rw [HST2.out]; exact HPRE.out, hj5⟩⟩)
          | go_roundw
        all_goals first
          | exact ⟨k + 1, by omega, by go_num, hj5, HF.out.trans ((HF3.out.trans HF4.out).no.trans hf5)⟩
          | (simp [intOf]; omega)
    · obtain rfl : k = 24 := by omega
      gi_wp2
      go_end0
      exact ⟨⟨_, rfl⟩, .inl ⟨_, rfl, HJK.out⟩⟩

end Go.Proofs.YtpkocidcfnlbiaaDoor
