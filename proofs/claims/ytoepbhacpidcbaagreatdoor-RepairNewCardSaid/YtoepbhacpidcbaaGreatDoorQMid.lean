/- The entries of a vertex's row, as a range over a function goes through them (index.all): what its closure hands out. -/

import Derived.Test.YtoepbhacpidcbaaGreatDoorQBase
import Derived.Test.YtoepbhacpidcbaaGreatDoorQIdx
import Derived.Test.YtoepbhacpidcbaaGreatDoorQPerm
import Derived.Test.YtoepbhacpidcbaaGreatDoorQIdxB
import Derived.Test.YtoepbhacpidcbaaGreatDoorQRef
import Derived.Test.YtoepbhacpidcbaaGreatDoorQUnref
import Derived.Test.YtoepbhacpidcbaaGreatDoorQItr
import Derived.Test.YtoepbhacpidcbaaGreatDoorQUnE
import Derived.Test.YtoepbhacpidcbaaGreatDoorQDst
import Derived.Test.YtoepbhacpidcbaaGreatDoorQLnk
import Derived.Test.YtoepbhacpidcbaaGreatDoorQLks

set_option linter.unusedVariables false
set_option linter.unusedSimpArgs false
namespace Go.Proofs.YtoepbhacpidcbaaGreatDoor
open Go.RowKit Go.Shelf

attribute [local go_sem] Oper.semAt_some
attribute [local go_sem high] run_eql_kept run_neq_kept


set_option maxRecDepth 100000 in
set_option maxHeartbeats 1000000 in
theorem all1_down {x : Ix} {L : IxLoc} (n : Nat) (hn : 1 ≤ n) (Bx Bv Br a : Nat) (ha : a < x.n) (F : Nat → Prop) (f1 : ¬ F L.b) (f2 : ¬ F L.br) (f3 : ¬ F L.bb) (f4 : ¬ F 0) (f5 : ¬ F Bx) (f6 : ¬ F Bv) (w : World) (h : IxMem w L x)
    (hx : w.cell? ⟨Bx, 0, none⟩ = some (.pointer (some ⟨L.b, 0, none⟩))) (hv : w.cell? ⟨Bv, 0, none⟩ = some (.int .i64 (a : Nat))) (hr : w.cell? ⟨Br, 0, none⟩ = some (.func (.func 196) #[] #[])) :
    SeqStopsK Fence.wide n Tryz.prog 220 #[.pointer (some ⟨Bx, 0, none⟩), .pointer (some ⟨Bv, 0, none⟩), .pointer (some ⟨Br, 0, none⟩)] (x.rowEnc a true) (Fr F) (fun ys => ys = x.rowTo a true 24) (fun pre => pre <+: x.rowTo a true 24) (x.rowTo a true 24).length w := fun l J Jx W hW hJ hJx hY h0 => by
  have hf0 := Fr.of_below hW
  have HM := hid (h.no hf0)
  have hx' := hf0.cell_some hx (fun h => h)
  have hv' := hf0.cell_some hv (fun h => h)
  have hr' := hf0.cell_some hr (fun h => h)
  have HBX := hid hx'
  have HBV := hid hv'
  have HJ := hid hJ
  have HJX := hid hJx
  have HY := hid hY
  have H0 := hid h0
  have hra : x.rank (a : Nat) = x.rk a := by unfold Ix.rank; rw [if_pos ⟨by omega, by omega⟩]; simp
  have HRA := hid hra
  have hrk := (h.ok.rk a ha).1
  have hn2 := h.ok.n2
  clear hW hJ hJx hY h0 h hx hv hr hra hf0
  have c0 := HM.out.c0
  have r1 := HM.out.rk a ha
  have ha2 : (a : Int) < x.n := by omega
  have hrk2 : (x.rk a : Int) < 24 := by omega
  refine callsIn_of_wp Tryz.func220 rfl trivial ?_ rfl
  simp only [Tryz.ntmps220, List.size_toArray, List.length_cons, List.length_nil, Nat.reduceAdd, Nat.reduceSub, Array.replicate_succ, Array.replicate_zero, List.push_toArray, List.append_toArray, List.nil_append, List.cons_append]
  gi_wp2
  refine ⟨trivial, callsIn_wide.2 ((rank_calls HM.out (a : Nat)).mono ?_)⟩
  rintro e w1 ⟨rfl, rfl⟩
  rw [HRA.out]
  gi_wp2
  have kk1 : ∀ m : Fam W, m.v.cell? ⟨Bx, 0, none⟩ = some (.pointer (some ⟨L.b, 0, none⟩)) := Fam.cell HBX.out
  have kk2 : ∀ m : Fam W, m.v.cell? ⟨Bv, 0, none⟩ = some (.int .i64 (a : Nat)) := Fam.cell HBV.out
  have kk3 : ∀ m : Fam W, m.v.cell? ⟨Br, 0, none⟩ = some (.func (.func 196) #[] #[]) := Fam.cell hr'
  have kk4 : ∀ m : Fam W, m.v.cell? ⟨L.b, 0, none⟩ = some (.slice (some ⟨L.br, 0, none⟩) x.n L.cr) := Fam.cell c0
  have kk5 : ∀ m : Fam W, m.v.cell? ⟨L.br, a, none⟩ = some (.int .i64 (x.rk a : Nat)) := Fam.cell r1
  refine wpIn_wide.2 (wp_region_fam (by kernel_rfl) (by kernel_rfl) ?_)
  repeat (go_big_quiet_step (exact Calls.fam (downf_fr _ _ _)))
  refine wpQuiet_nil ?_
  rintro w2 ⟨⟨w2, hf2⟩, rfl⟩
  have HF2 := hid hf2
  clear kk1 kk2 kk3 kk4 kk5 hf2 hx' hv' hr' c0 r1
  gi_wp2
  gi_loopw [25] (fun i wr => ∃ k : Nat, k ≤ 24 ∧ i = .int .i64 k ∧ J (x.rowTo a true k) wr ∧ Fr F W wr) (fun i _ => 24 - (intOf i).toNat)
  case atStart => exact ⟨0, Nat.zero_le _, rfl, HJ.out _ _ _ none H0.out (fr_grownBy HF2.out) (fun r h => by cases h), HF2.out.no⟩
  case round =>
    obtain ⟨k, hk, rfl, hj, hf⟩ := hrel
    have HJK := hid hj
    have HF := hid hf
    clear hj hf
    by_cases hlt : k < 24
    · have hlt2 : (k : Int) < 24 := by omega
      have HMr := hid (HM.out.fr HF.out f1 f2 f3 f4)
      have b0 := HMr.out.at_row (r := k) (c := 0) true ha hlt (by omega)
      have b1 := HMr.out.at_row (r := k) (c := 1) true ha hlt (by omega)
      have b2 := HMr.out.at_row (r := k) (c := 2) true ha hlt (by omega)
      have hbd := En.kf_bounds (HMr.out.ok.rowE_ok a true k)
      have hkq := En.kf_eq (x.rowE a true k)
      have hst := x.rowTo_succ a true k
      simp only [Bool.false_eq_true, if_false, if_true, Nat.add_zero] at b0 b1 b2
      obtain ⟨p0, hp0⟩ : ∃ p, (x.rowE a true k).kf 0 = p := ⟨_, rfl⟩
      obtain ⟨p1, hp1⟩ : ∃ p, (x.rowE a true k).kf 1 = p := ⟨_, rfl⟩
      obtain ⟨p2, hp2⟩ : ∃ p, (x.rowE a true k).kf 2 = p := ⟨_, rfl⟩
      have hback := En.kf_back (x.rowE a true k)
      rw [hp0, hp1, hp2] at hback hkq hbd
      rw [hp0] at b0
      rw [hp1] at b1
      rw [hp2] at b2
      obtain ⟨s0, s1, s2, s3, s4, s5⟩ := hbd
      have HST := hid hst
      have HBK := hid hback
      have HKQ := hid hkq
      have kl := HMr.out.lt
      clear hst hback hkq hp0 hp1 hp2
      gi_wp2
      gi_region
      have O3 := heap_new wr (Obj.cells #[Value.int IntKind.i64 p0, Value.int IntKind.i64 p1, Value.int IntKind.i64 p2] 176)
      have f3' : Fr No wr (wr.alloc (Obj.cells #[Value.int IntKind.i64 p0, Value.int IntKind.i64 p1, Value.int IntKind.i64 p2] 176)).drew := ((Fr.refl No wr).alloc _).drew
      have q3 : ∀ i, (wr.alloc (Obj.cells #[Value.int IntKind.i64 p0, Value.int IntKind.i64 p1, Value.int IntKind.i64 p2] 176)).drew.cell? ⟨wr.heap.size, i, none⟩ = #[Value.int IntKind.i64 p0, Value.int IntKind.i64 p1, Value.int IntKind.i64 p2][i]? := cell_of O3
      obtain ⟨W3, hW3⟩ : ∃ W3, (wr.alloc (Obj.cells #[Value.int IntKind.i64 p0, Value.int IntKind.i64 p1, Value.int IntKind.i64 p2] 176)).drew = W3 := ⟨_, rfl⟩
      rw [hW3] at f3' q3 ⊢
      have HF3 := hid f3'
      have kk0 : ∀ m : Fam W3, m.v.cell? ⟨wr.heap.size, 0, none⟩ = some (.int .i64 p0) := Fam.cell (q3 0)
      have kk1 : ∀ m : Fam W3, m.v.cell? ⟨wr.heap.size, 1, none⟩ = some (.int .i64 p1) := Fam.cell (q3 1)
      have kk2 : ∀ m : Fam W3, m.v.cell? ⟨wr.heap.size, 2, none⟩ = some (.int .i64 p2) := Fam.cell (q3 2)
      clear O3 f3' hW3 b0 b1 b2
      cases hE : eq3 p0 p1 p2 0 0 0 with
      | true =>
        have hn := HKQ.out
        rw [hE] at hn
        have HN := hid (of_decide_eq_true hn.symm)
        clear hn q3
        gi_wp2_with fail
        refine wpIn_wide.2 (wp_region_fam (by kernel_rfl) (by kernel_rfl) ?_)
        repeat (go_big_quiet_step (fail))
        refine wpQuiet_nil ?_
        rintro w4 ⟨⟨w4, hf4⟩, rfl⟩
        have HF4 := hid hf4
        clear kk0 kk1 kk2 hf4
        gi_wp2
        go_roundw
        case rel => exact ⟨k + 1, by omega, by go_num, by rw [HST.out, dif_neg (fun h => h.2.2 HN.out)]; exact HJ.out _ _ _ none HJK.out (fr_grownBy (HF3.out.trans HF4.out)) (fun r h => by cases h), HF.out.trans (HF3.out.trans HF4.out).no⟩
        case measure => simp [intOf]; omega
      | false =>
        have hn := HKQ.out
        rw [hE] at hn
        have hne := of_decide_eq_false hn.symm
        have hrg : x.rk a < k ∧ k < x.n := by
          by_cases hh : x.rk a < k ∧ k < x.n
          · exact hh
          · exact absurd (by unfold Ix.rowE; rw [if_neg hh]) hne
        have hel : x.rk a < k ∧ k < x.n ∧ x.rowE a true k ≠ En.none := ⟨hrg.1, hrg.2, hne⟩
        have hkn : (k : Int) < x.n := by omega
        have hst := HST.out
        rw [dif_pos hel] at hst
        have hpre := x.rowTo_pre a true (k + 1) (23 - k)
        rw [show k + 1 + (23 - k) = 24 by omega, hst] at hpre
        have hlen : (x.rowTo a true k).length < (x.rowTo a true 24).length := by
          have := hpre.length_le
          simp at this; omega
        have HYK : Hid (∀ w4, Fr No W3 w4 → YieldAt Fence.wide (n - 1) Tryz.prog l #[.int .i64 (x.by_ k : Nat), .agg #[.int .i64 (4611686018427387906 - p0), .int .i64 (p1 - 1), .int .i64 (p2 - 1)]] w4 fun e W' => ∃ b : Bool, e = .returned (.bool b) ∧ ((b = true ∧ J (x.rowTo a true (k + 1)) W' ∧ Fr F w4 W') ∨ (b = false ∧ Jx (x.rowTo a true (k + 1)) W'))) := hid fun w4 h4 => by
          have := HY.out (x.rowTo a true k) ⟨k, hel⟩ w4 (HJ.out _ _ _ none HJK.out (fr_grownBy (HF3.out.trans h4)) (fun r h => by cases h)) hlen
          rw [Ix.rowEnc, HBK.out, ← hst] at this
          refine this.mono ?_
          rintro e W' (⟨rfl, h1, h2⟩ | ⟨rfl, h1⟩)
          · exact ⟨true, rfl, .inl ⟨rfl, h1, h2⟩⟩
          · exact ⟨false, rfl, .inr ⟨rfl, h1⟩⟩
        have HPRE := hid hpre
        have HST2 := hid hst
        have hb3 := HM.out.no (Fr.refl No W)
        have c1 := (HMr.out.no HF3.out).c1
        have by1 := (HMr.out.no HF3.out).by_ k hrg.2
        have bx3 := HF3.out.cell_some (HF.out.cell_some HBX.out f5) (fun h => h)
        have hzl : wr.heap.size < W3.heap.size := cell_lt (q3 0)
        have t0 := q3 0
        have t1 := q3 1
        have t2 := q3 2
        simp at t0 t1 t2
        clear hn hst hpre hlen kk0 kk1 kk2 hb3 q3
        gi_wp2_with fail
        gi_region_with (first
          | (refine ⟨trivial, ?_⟩; gi_at_call 159; refine callsIn_wide.2 ((told_calls p0 p1 p2 _ s0 s1 s2 s3 s4 s5).mono ?_); rintro e w4 ⟨rfl, hf4⟩; (have HF4 := hid ((Fr.refl No W3).drew.trans hf4)); (have d1 := HF4.out.cell_some c1 (fun h => h)); (have d2 := HF4.out.cell_some by1 (fun h => h)); (have d3 := HF4.out.cell_some bx3 (fun h => h)); (obtain ⟨fn, tmps, assign, body, hy, hR⟩ := HYK.out w4 HF4.out); clear hf4)
          | (refine hR.mono ?_; rintro e W5 ⟨b, rfl, hres⟩; (have HRES := hid hres); clear hres))
        all_goals rcases HRES.out with ⟨rfl, hj5, hf5⟩ | ⟨rfl, hj5⟩
        all_goals (clear HRES hR hy HYK)
        all_goals gi_wp2
        all_goals first
          | (refine bodyPost_ret (results_none rfl _ _ _) rfl ?_
             exact ⟨⟨_, rfl⟩, .inr ⟨_, by rw [HST2.out]; exact HPRE.out, hj5⟩⟩)
          | go_roundw
        all_goals first
          | exact ⟨k + 1, by omega, by go_num, hj5, HF.out.trans ((HF3.out.trans HF4.out).no.trans hf5)⟩
          | (simp [intOf]; omega)
    · obtain rfl : k = 24 := by omega
      gi_wp2
      go_end0
      exact ⟨⟨_, rfl⟩, .inl ⟨_, rfl, HJK.out⟩⟩

end Go.Proofs.YtoepbhacpidcbaaGreatDoor

/- A region that draws its order, in a round of a range over a function: one walk serves every order. -/
set_option linter.unusedVariables false
set_option linter.unusedSimpArgs false
namespace Go.Proofs.YtoepbhacpidcbaaGreatDoor
open Go.RowKit Go.Deep

def noDefer : Op → Bool
  | .defer _ => false
  | _ => true
section
variable {P : Program} {ops : Array Oper} {md : Region.Mode} {C : World → Prop}
theorem wpInR_of_quiet {o : Oper} {a : Act} {K : Act → Prop} {K' : Act → World → Prop} {Q' : Exit → Act → World → Prop} {w : World} {l n : Nat} (hnd : noDefer o.op = true) (hw : C w) (h : ∀ a w', C w' → K a → K' a w') (hh : o.quiet P a C K) :
    o.wpIn (Fence.wide.inRound l) n P a w K' Q' := by
  obtain ⟨v, h1, h2⟩ := hh
  have h3 := h1 w hw
  unfold Oper.quietAt at h3
  unfold Oper.wpIn
  refine ⟨fun _ _ => trivial, ?_⟩
  rw [Oper.semAt_eq _ _ _ (by intro c e; rw [e] at hnd; cases hnd)]
  generalize (execOp a.eval o).run P w = r at *
  cases r with
  | ok nx w' =>
    cases nx <;> simp only [Oper.quietUpon] at h3 <;> simp only [Oper.uponIn]
    case value u =>
      obtain ⟨e1, e2⟩ := h3
      rw [e1, e2]
      exact h _ _ hw h2
    case skip =>
      obtain ⟨e1, e2⟩ := h3
      rw [e1, ← e2]
      exact h _ _ hw h2
    case enter f args =>
      obtain ⟨e1, hc⟩ := h3
      rw [e1]
      exact ⟨(fun h => by cases h), CallsIn.inRound l (callsIn_wide.2 (hc.mono fun e w'' ⟨he, hw''⟩ => by subst he; exact h _ _ hw'' h2))⟩
  | halt x w' => simp only [Oper.quietUpon] at h3

theorem wpOpInR_of_qOp {i l n : Nat} {a : Act} {K : Act → Prop} {K' : Act → World → Prop} {Q' : Exit → Act → World → Prop} {w : World} (hnd : ∀ (i : Nat) (o : Oper), ops[i]? = some o → noDefer o.op = true) (hC : C w) (h : ∀ a w', C w' → K a → K' a w') (hh : qOp P ops C i K a) :
    wpOpIn (Fence.wide.inRound l) n P ops Q' i K' a w := by
  unfold qOp at hh
  unfold wpOpIn
  split
  · rename_i ho; simp only [ho] at hh; exact h _ _ hC hh
  · rename_i o ho
    simp only [ho] at hh
    split
    · rename_i hw; simp only [hw, if_true] at hh; exact wpInR_of_quiet (hnd _ _ ho) hC h hh
    · rename_i hw; simp only [hw] at hh; exact ⟨fun _ _ => trivial, h _ _ hC hh⟩

theorem wpAnyInR_of_quiet {l n : Nat} {Q : Act → Prop} {Q' : Exit → Act → World → Prop} (hnd : ∀ (i : Nat) (o : Oper), ops[i]? = some o → noDefer o.op = true) (hQ : ∀ a w, C w → Q a → Q' .normal a w) : ∀ (fuel : Nat) (listed : Array Bool) (a : Act) (w : World), C w →
    wpAnyQ P md ops C Q fuel listed a → wpAnyIn (Fence.wide.inRound l) n P md ops Q' fuel listed a w
  | 0, _, _, _, hw, h => ⟨h.1, hQ _ _ hw h.2⟩
  | fuel + 1, _, _, _, hw, h => ⟨fun h0 => hQ _ _ hw (h.1 h0), fun i hi => wpOpInR_of_qOp hnd hw (fun a' w' hw' => wpAnyInR_of_quiet hnd hQ fuel _ a' w' hw') (h.2 i hi)⟩
end

theorem wpIn_region_fam {P : Program} {id lp n : Nat} {Q : Exit → Act → World → Prop} {a : Act} {w : World} {l : List Oper} (hm : P.follows .mixedOrders = true) (hB : Region.lexB .any l.toArray = true) (hd : l.all (fun o => noDefer o.op) = true)
    (h : wpQuiet P l.toArray (fun w' => ∃ n : Fam w, w' = n.v) (fun a' => ∀ w', (∃ n : Fam w, w' = n.v) → Q .normal a' w') l a) : (Code.region id l.toArray true).wpIn (Fence.wide.inRound lp) n P Q a w := by
  have hnd : ∀ (i : Nat) o, l.toArray[i]? = some o → noDefer o.op = true := fun i o ho => by
    rw [List.all_eq_true] at hd
    exact hd o (List.mem_of_getElem? (by simpa using ho))
  simp only [Region.lexB, Bool.and_eq_true] at hB
  refine wpIn_region_any hm (wpAnyInR_of_quiet hnd (Q := fun a' => ∀ w', (∃ n : Fam w, w' = n.v) → Q .normal a' w') (fun _ w' hw' h => h w' hw') _ _ _ _ ⟨⟨w.drew, (Fr.refl No w).drew⟩, rfl⟩ ?_)
  have := wpAnyQ_lex (C := fun w' => ∃ n : Fam w, w' = n.v) (md := .any) hB.1 l 0 (Array.replicate l.toArray.size false) a (by simp) (by simpa using hB.2) (by simpa using h)
  simpa using this

/-- What lies below the loop's start, but for some blocks, is as it was: whatever the loop's own records do. -/
theorem ownFrom_fr {β : Type} (F : Nat → Prop) (W0 : World) : OwnFrom W0.heap.size (fun (_ : β) W => Fr F W0 W) := fun s W W' row hs hg hr => by
  have h2 : Fr (fun k => W0.heap.size ≤ k) W W' := ⟨hg.os, hg.tape, hg.output, hg.size, fun k hk hnk => hg.block k hk (fun e => hnk (hr k e.symm).1)⟩
  exact hs.trans' h2 (fun k hk h => by omega)

theorem keepsFrom_fr {B : Nat} {F : Nat → Prop} {W W' : World} (h : Fr F W W') (hF : ∀ k, F k → k < B) : KeepsFrom B W W' :=
  ⟨h.size, fun k o hB hk _ => (h.block k (Array.getElem?_eq_some_iff.1 hk).1 (fun hf => by have := hF k hf; omega)).trans hk⟩
theorem fr_putObj {F : Nat → Prop} (W : World) (l : Nat) (o' : Obj) (hF : F l) : Fr F W (W.putObj l o') := by
  have hg := grownBy_putObj' W l o'
  exact ⟨hg.os, hg.tape, hg.output, hg.size, fun k hk hnk => hg.block k hk (fun e => by cases e; exact hnk hF)⟩

end Go.Proofs.YtoepbhacpidcbaaGreatDoor

/- What a range over a vertex's row hands out, beside the document's list; 'Up' and 'Down' of the program. -/
set_option linter.unusedVariables false
set_option linter.unusedSimpArgs false
namespace Go.Proofs.YtoepbhacpidcbaaGreatDoor
open Go.RowKit Go.Shelf

attribute [local go_sem] Oper.semAt_some

theorem Ix.Ok.rowE_dir {x : Ix} (h : x.Ok) {a r : Nat} (back : Bool) (ha : a < x.n) (h1 : x.rk a < r) (h2 : r < x.n) : x.rowE a back r = x.dirE (a : Nat) back (x.by_ r : Nat) := by
  have hb := h.by_ r h2
  have hne : a ≠ x.by_ r := fun e => by rw [← e] at hb; omega
  have e1 : x.at_ (a : Nat) (x.by_ r : Nat) = x.ent a (x.by_ r) := by unfold Ix.at_ Ix.two; rw [if_pos (by simp; omega)]; rfl
  have e2 : x.at_ (x.by_ r : Nat) (a : Nat) = x.ent (x.by_ r) a := by unfold Ix.at_ Ix.two; rw [if_pos (by simp; omega)]; rfl
  unfold Ix.rowE Ix.dirE
  rw [if_pos ⟨h1, h2⟩]
  cases back
  · simp [e1]
  · simp [e2]
theorem Ix.Ok.row_ups {x : Ix} (h : x.Ok) {a : Nat} (back : Bool) (ha : a < x.n) : ∀ k, k ≤ x.n → (x.rowTo a back k).map (fun el => ((x.by_ el.1 : Nat) : Int)) = x.upsTo (a : Nat) back k
  | 0, _ => rfl
  | k + 1, hk => by
    have ih := h.row_ups back ha k (by omega)
    have hra : x.rank (a : Nat) = x.rk a := by unfold Ix.rank; rw [if_pos ⟨by omega, by omega⟩]; simp
    rw [Ix.rowTo_succ]
    unfold Ix.upsTo
    rw [← ih, hra]
    by_cases h1 : x.rk a < k
    · rw [← h.rowE_dir back ha h1 (by omega)]
      by_cases h2 : x.rowE a back k ≠ En.none
      · rw [dif_pos ⟨h1, by omega, h2⟩, if_pos ⟨by omega, h2⟩]; simp
      · rw [dif_neg (fun h => h2 h.2.2), if_neg (fun h => h2 h.2)]
    · rw [dif_neg (fun h => h1 h.1), if_neg (fun h => h1 (by omega))]
theorem Ix.rowTo_n (x : Ix) (a : Nat) (back : Bool) : ∀ d, x.rowTo a back (x.n + d) = x.rowTo a back x.n
  | 0 => rfl
  | d + 1 => by
    have ih := x.rowTo_n a back d
    show x.rowTo a back ((x.n + d) + 1) = _
    rw [Ix.rowTo_succ, dif_neg (fun h => by omega), ih]
theorem Ix.Ok.row_all {x : Ix} (h : x.Ok) {a : Nat} (back : Bool) (ha : a < x.n) : (x.rowTo a back 24).map (fun el => ((x.by_ el.1 : Nat) : Int)) = x.ups (a : Nat) back := by
  have h2 := h.n2
  have e := x.rowTo_n a back (24 - x.n)
  rw [show x.n + (24 - x.n) = 24 by omega] at e
  rw [e, h.row_ups back ha x.n (Nat.le_refl _)]
  unfold Ix.ups Ix.vertex
  rw [if_pos (by simp; omega)]

/-- What a range over a vertex's row hands out. -/
def Ix.row (x : Ix) (v : Int) (back : Bool) : List (x.RowEl v.toNat back) := if x.vertex v then x.rowTo v.toNat back 24 else []
theorem Ix.Ok.row_el {x : Ix} (h : x.Ok) {v : Int} {back : Bool} (hv : x.vertex v = true) (el : x.RowEl v.toNat back) : x.by_ el.1 < x.n ∧ x.rowE v.toNat back el.1 = x.dirE v back (x.by_ el.1 : Nat) := by
  have hv2 : 0 ≤ v ∧ v < x.n := by unfold Ix.vertex at hv; simpa using hv
  obtain ⟨a, rfl⟩ := Int.eq_ofNat_of_zero_le hv2.1
  exact ⟨(h.by_ el.1 el.2.2.1).1, h.rowE_dir back (by omega) el.2.1 el.2.2.1⟩

set_option maxRecDepth 100000 in
set_option maxHeartbeats 1000000 in
theorem all1_no {x : Ix} {L : IxLoc} {α : Type} {enc : α → Array Value} (n : Nat) (hn : 1 ≤ n) (Bx Bv Br : Nat) (v : Int) (hvx : x.vertex v = false) (Kp : World → World → Prop) (w : World) (h : IxMem w L x)
    (hx : w.cell? ⟨Bx, 0, none⟩ = some (.pointer (some ⟨L.b, 0, none⟩))) (hv : w.cell? ⟨Bv, 0, none⟩ = some (.int .i64 v)) :
    SeqStopsK Fence.wide n Tryz.prog 220 #[.pointer (some ⟨Bx, 0, none⟩), .pointer (some ⟨Bv, 0, none⟩), .pointer (some ⟨Br, 0, none⟩)] enc Kp (fun ys => ys = []) (fun pre => pre <+: []) 0 w := fun l J Jx W hW hJ hJx hY h0 => by
  have hf0 := Fr.of_below hW
  have HM := hid (h.no hf0)
  have hx' := hf0.cell_some hx (fun h => h)
  have hv' := hf0.cell_some hv (fun h => h)
  have H0 := hid h0
  have hra : x.rank v = -1 := by
    unfold Ix.rank; rw [if_neg]
    unfold Ix.vertex at hvx; simpa using hvx
  have HRA := hid hra
  clear hW hJ hJx hY h0 h hx hv hra hf0 hvx
  refine callsIn_of_wp Tryz.func220 rfl trivial ?_ rfl
  simp only [Tryz.ntmps220, List.size_toArray, List.length_cons, List.length_nil, Nat.reduceAdd, Nat.reduceSub, Array.replicate_succ, Array.replicate_zero, List.push_toArray, List.append_toArray, List.nil_append, List.cons_append]
  gi_wp2
  refine ⟨trivial, callsIn_wide.2 ((rank_calls HM.out v).mono ?_)⟩
  rintro e w1 ⟨rfl, rfl⟩
  rw [HRA.out]
  gi_wp2
  refine bodyPost_ret (results_none rfl _ _ _) rfl ?_
  exact ⟨⟨_, rfl⟩, .inl ⟨_, rfl, H0.out⟩⟩

/-- The row's function, one way or the other. -/
theorem all1_any_up {x : Ix} {L : IxLoc} (n : Nat) (hn : 1 ≤ n) (Bx Bv Br : Nat) (v : Int) (F : Nat → Prop) (f1 : ¬ F L.b) (f2 : ¬ F L.br) (f3 : ¬ F L.bb) (f4 : ¬ F 0) (f5 : ¬ F Bx) (f6 : ¬ F Bv) (w : World) (h : IxMem w L x)
    (hx : w.cell? ⟨Bx, 0, none⟩ = some (.pointer (some ⟨L.b, 0, none⟩))) (hv : w.cell? ⟨Bv, 0, none⟩ = some (.int .i64 v)) (hr : w.cell? ⟨Br, 0, none⟩ = some (.func (.func 192) #[] #[])) :
    SeqStopsK Fence.wide n Tryz.prog 220 #[.pointer (some ⟨Bx, 0, none⟩), .pointer (some ⟨Bv, 0, none⟩), .pointer (some ⟨Br, 0, none⟩)] (x.rowEnc v.toNat false) (Fr F) (fun ys => ys = x.row v false) (fun pre => pre <+: x.row v false) (x.row v false).length w := by
  unfold Ix.row
  cases hvx : x.vertex v with
  | false => exact all1_no n hn Bx Bv Br v hvx (Fr F) w h hx hv
  | true =>
    have hv2 : 0 ≤ v ∧ v < x.n := by unfold Ix.vertex at hvx; simpa using hvx
    obtain ⟨a, rfl⟩ := Int.eq_ofNat_of_zero_le hv2.1
    exact all1_up n hn Bx Bv Br a (by omega) F f1 f2 f3 f4 f5 f6 w h hx hv hr
theorem all1_any_down {x : Ix} {L : IxLoc} (n : Nat) (hn : 1 ≤ n) (Bx Bv Br : Nat) (v : Int) (F : Nat → Prop) (f1 : ¬ F L.b) (f2 : ¬ F L.br) (f3 : ¬ F L.bb) (f4 : ¬ F 0) (f5 : ¬ F Bx) (f6 : ¬ F Bv) (w : World) (h : IxMem w L x)
    (hx : w.cell? ⟨Bx, 0, none⟩ = some (.pointer (some ⟨L.b, 0, none⟩))) (hv : w.cell? ⟨Bv, 0, none⟩ = some (.int .i64 v)) (hr : w.cell? ⟨Br, 0, none⟩ = some (.func (.func 196) #[] #[])) :
    SeqStopsK Fence.wide n Tryz.prog 220 #[.pointer (some ⟨Bx, 0, none⟩), .pointer (some ⟨Bv, 0, none⟩), .pointer (some ⟨Br, 0, none⟩)] (x.rowEnc v.toNat true) (Fr F) (fun ys => ys = x.row v true) (fun pre => pre <+: x.row v true) (x.row v true).length w := by
  unfold Ix.row
  cases hvx : x.vertex v with
  | false => exact all1_no n hn Bx Bv Br v hvx (Fr F) w h hx hv
  | true =>
    have hv2 : 0 ≤ v ∧ v < x.n := by unfold Ix.vertex at hvx; simpa using hvx
    obtain ⟨a, rfl⟩ := Int.eq_ofNat_of_zero_le hv2.1
    exact all1_down n hn Bx Bv Br a (by omega) F f1 f2 f3 f4 f5 f6 w h hx hv hr

set_option maxRecDepth 100000 in
set_option maxHeartbeats 1000000 in
theorem all_calls (b fr : Nat) (v : Int) (w : World) :
    Calls Tryz.prog 191 #[.pointer (some ⟨b, 0, none⟩), .int .i64 v, .func (.func fr) #[] #[]] w fun e w' => e = .returned (.func (.func 220) #[] #[.pointer (some ⟨w.heap.size, 0, none⟩), .pointer (some ⟨w.heap.size + 1, 0, none⟩), .pointer (some ⟨w.heap.size + 1 + 1, 0, none⟩)]) ∧
      w' = ((w.alloc (.cells #[.pointer (some ⟨b, 0, none⟩)] 26)).alloc (.cells #[.int .i64 v] 3)).alloc (.cells #[.func (.func fr) #[] #[]] 270) := by
  go_enter Tryz.func191, Tryz.ntmps191
  go_wp2
  go_ret
  exact ⟨by simp, rfl⟩
set_option maxRecDepth 100000 in
set_option maxHeartbeats 1000000 in
theorem up_calls (b : Nat) (v : Int) (w : World) :
    Calls Tryz.prog 136 #[.pointer (some ⟨b, 0, none⟩), .int .i64 v] w fun e w' => e = .returned (.func (.func 220) #[] #[.pointer (some ⟨w.heap.size, 0, none⟩), .pointer (some ⟨w.heap.size + 1, 0, none⟩), .pointer (some ⟨w.heap.size + 1 + 1, 0, none⟩)]) ∧
      w' = ((w.alloc (.cells #[.pointer (some ⟨b, 0, none⟩)] 26)).alloc (.cells #[.int .i64 v] 3)).alloc (.cells #[.func (.func 192) #[] #[]] 270) := by
  go_enter Tryz.func136, Tryz.ntmps136
  go_wp2_with fail
  refine (all_calls b 192 v w).mono ?_
  rintro e w1 ⟨rfl, rfl⟩
  go_wp2
  go_ret
  exact ⟨rfl, rfl⟩
set_option maxRecDepth 100000 in
set_option maxHeartbeats 1000000 in
theorem down_calls (b : Nat) (v : Int) (w : World) :
    Calls Tryz.prog 140 #[.pointer (some ⟨b, 0, none⟩), .int .i64 v] w fun e w' => e = .returned (.func (.func 220) #[] #[.pointer (some ⟨w.heap.size, 0, none⟩), .pointer (some ⟨w.heap.size + 1, 0, none⟩), .pointer (some ⟨w.heap.size + 1 + 1, 0, none⟩)]) ∧
      w' = ((w.alloc (.cells #[.pointer (some ⟨b, 0, none⟩)] 26)).alloc (.cells #[.int .i64 v] 3)).alloc (.cells #[.func (.func 196) #[] #[]] 270) := by
  go_enter Tryz.func140, Tryz.ntmps140
  go_wp2_with fail
  refine (all_calls b 196 v w).mono ?_
  rintro e w1 ⟨rfl, rfl⟩
  go_wp2
  go_ret
  exact ⟨rfl, rfl⟩

end Go.Proofs.YtoepbhacpidcbaaGreatDoor
/- The document's sum of two distances; walked. -/
set_option linter.unusedVariables false
set_option linter.unusedSimpArgs false
namespace Go.Proofs.YtoepbhacpidcbaaGreatDoor
open Go.RowKit

set_option maxRecDepth 100000 in
set_option maxHeartbeats 1000000 in
theorem rnorm_calls (x : Int) (w : World) : Calls Tryz.prog 141 #[.int .i64 x] w fun e w' => e = .returned (.int .i64 (normI x)) ∧ Fr No w w' := by
  rcases (show x < 0 ∨ (0 ≤ x ∧ 4611686018427387906 < x) ∨ (0 ≤ x ∧ x ≤ 4611686018427387906) by omega) with h | ⟨h1, h2⟩ | ⟨h1, h2⟩
  · have e : normI x = 0 := by unfold normI; rw [if_pos h]
    go_enter Tryz.func141, Tryz.ntmps141
    go_wp2
    go_ret
    exact ⟨ret_int (by rw [e]), Fr.refl _ _⟩
  · have e : normI x = 4611686018427387906 := by unfold normI; rw [if_neg (by omega), if_pos h2]
    go_enter Tryz.func141, Tryz.ntmps141
    go_wp2
    go_ret
    exact ⟨ret_int (by rw [e]), Fr.refl _ _⟩
  · have e : normI x = x := by unfold normI; rw [if_neg (by omega), if_neg (by omega)]
    go_enter Tryz.func141, Tryz.ntmps141
    go_wp2
    go_ret
    exact ⟨ret_int (by rw [e]), Fr.refl _ _⟩

set_option maxRecDepth 100000 in
set_option maxHeartbeats 2000000 in
theorem rsum_calls (q x : Int) (w : World) : Calls Tryz.prog 69 #[.int .i64 q, .int .i64 x] w fun e w' => e = .returned (.int .i64 (add1 (normI q) x)) ∧ Fr No w w' := by
  have hb := normI_b x
  have hs := normI_b q
  obtain ⟨s, hsq⟩ : ∃ s, normI q = s := ⟨_, rfl⟩
  have HS := hid hsq
  rw [hsq] at hs ⊢
  clear hsq
  obtain ⟨y, hy⟩ : ∃ y, normI x = y := ⟨_, rfl⟩
  have HY := hid hy
  have hadd : add1 s x = if s = 4611686018427387906 ∨ y = 4611686018427387906 then 4611686018427387906 else if 4611686018427387904 < s ∨ 4611686018427387904 - s < y then 4611686018427387905 else s + y := by rw [add1, hy]
  have HADD := hid hadd
  rw [hy] at hb
  clear hadd hy
  by_cases c1 : s = 4611686018427387906
  · subst c1
    go_enter Tryz.func69, Tryz.ntmps69
    go_wp2_with (go_at_call 141; (first | (refine (rnorm_calls q _).mono ?_; rintro e w1 ⟨rfl, hf⟩; rw [HS.out]; have HF := hid hf; clear hf) | (refine (rnorm_calls x _).mono ?_; rintro e w2 ⟨rfl, hf⟩; rw [HY.out])))
    go_ret
    exact ⟨by rw [HADD.out]; simp, HF.out.trans hf⟩
  · have d1 : (s == 4611686018427387906) = false := by simpa using c1
    by_cases c2 : y = 4611686018427387906
    · subst c2
      go_enter Tryz.func69, Tryz.ntmps69
      go_wp2_with fail
      refine (rnorm_calls q _).mono ?_
      rintro e w1 ⟨rfl, hf⟩
      rw [HS.out]
      have HF := hid hf
      clear hf
      go_wp2_with fail
      refine (rnorm_calls x _).mono ?_
      rintro e w2 ⟨rfl, hf⟩
      rw [HY.out]
      go_wp2
      all_goals go_ret
      all_goals exact ⟨by rw [HADD.out]; simp, HF.out.trans hf⟩
    · have d2 : (y == 4611686018427387906) = false := by simpa using c2
      by_cases c3 : s = 4611686018427387905
      · subst c3
        go_enter Tryz.func69, Tryz.ntmps69
        go_wp2_with fail
        refine (rnorm_calls q _).mono ?_
        rintro e w1 ⟨rfl, hf⟩
        rw [HS.out]
        have HF := hid hf
        clear hf
        go_wp2_with fail
        refine (rnorm_calls x _).mono ?_
        rintro e w2 ⟨rfl, hf⟩
        rw [HY.out]
        go_wp2
        all_goals go_ret
        all_goals exact ⟨ret_int (by rw [HADD.out, if_neg (by omega), if_pos (.inl (by omega))]), HF.out.trans hf⟩
      · have d3 : (s == 4611686018427387905) = false := by simpa using c3
        by_cases c4 : 4611686018427387904 - s < y
        · go_enter Tryz.func69, Tryz.ntmps69
          go_wp2_with fail
          refine (rnorm_calls q _).mono ?_
          rintro e w1 ⟨rfl, hf⟩
          rw [HS.out]
          have HF := hid hf
          clear hf
          go_wp2_with fail
          refine (rnorm_calls x _).mono ?_
          rintro e w2 ⟨rfl, hf⟩
          rw [HY.out]
          go_wp2
          all_goals go_ret
          all_goals exact ⟨ret_int (by rw [HADD.out, if_neg (by omega), if_pos (.inr c4)]), HF.out.trans hf⟩
        · have d4 : (y == 4611686018427387905) = false := by simp; omega
          go_enter Tryz.func69, Tryz.ntmps69
          go_wp2_with fail
          refine (rnorm_calls q _).mono ?_
          rintro e w1 ⟨rfl, hf⟩
          rw [HS.out]
          have HF := hid hf
          clear hf
          go_wp2_with fail
          refine (rnorm_calls x _).mono ?_
          rintro e w2 ⟨rfl, hf⟩
          rw [HY.out]
          go_wp2
          all_goals go_ret
          all_goals exact ⟨ret_int (by rw [HADD.out, if_neg (by omega), if_neg (by omega)]), HF.out.trans hf⟩

theorem add1_zero (a : Int) : add1 0 a = normI a := by
  have h := normI_b a
  have h0 : normI 0 = 0 := by decide
  unfold add1
  repeat' split
  all_goals omega
theorem norm_id {s : Int} (hs : 0 ≤ s ∧ s ≤ 4611686018427387906) : normI s = s := by unfold normI; rw [if_neg (by omega), if_neg (by omega)]

end Go.Proofs.YtoepbhacpidcbaaGreatDoor

/- The middles of two vertices: the program's; walked. -/
set_option linter.unusedVariables false
set_option linter.unusedSimpArgs false
namespace Go.Proofs.YtoepbhacpidcbaaGreatDoor
open Go.RowKit Go.Deep
attribute [local go_sem high] run_field0

theorem Ix.Ok.byr_nat {x : Ix} (h : x.Ok) {r : Nat} (hr : r < x.n) : x.byr (r : Nat) = (x.by_ r : Nat) := by
  unfold Ix.byr; rw [if_pos ⟨by omega, by omega⟩]; simp

end Go.Proofs.YtoepbhacpidcbaaGreatDoor

/- The middles of two vertices: the document's; walked. -/
set_option linter.unusedVariables false
set_option linter.unusedSimpArgs false
namespace Go.Proofs.YtoepbhacpidcbaaGreatDoor
open Go.RowKit Go.Deep

theorem at_nat {x : Ix} {u v : Nat} (h : x.two (u : Nat) (v : Nat) = true) : x.at_ (u : Nat) (v : Nat) = x.ent u v := by
  unfold Ix.at_; rw [if_pos h]; rfl

end Go.Proofs.YtoepbhacpidcbaaGreatDoor
