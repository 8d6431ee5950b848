/- A region that draws its order, in a round of a range over a function: one walk serves every order. -/
import Derived.Test.YtakgjihhgpnnfaaDoorPrD
import Derived.Test.YtakgjihhgpnnfaaDoorUps
set_option linter.unusedVariables false
set_option linter.unusedSimpArgs false
namespace Go.Proofs.YtakgjihhgpnnfaaDoor
open Go.RowKit Go.Deep

def noDefer : Op → Bool
  | .defer _ => false
  | _ => true
section
variable {P : Program} {ops : Array Oper} {md : Region.Mode} {C : World → Prop}
theorem wpInR_of_quiet {o : Oper} {a : Act} {K : Act → Prop} {K' : Act → World → Prop} {Q' : Exit → Act → World → Prop} {w : World} {l n : Nat} (hnd : noDefer o.op = true) (hw : C w) (h : ∀ a w', C w' → K a → K' a w') (hh : o.quiet P a C K) :
    o.wpIn (Fence.wide.inRound l) n P a w K' Q' := by
  obtain ⟨v, h1, h2⟩ := hh
  have h3 := h1 w hw
  unfold Oper.quietAt at h3
  unfold Oper.wpIn
  refine ⟨fun _ _ => trivial, ?_⟩
  rw [Oper.semAt_eq _ _ _ (by intro c e; rw [e] at hnd; cases hnd)]
  generalize (execOp a.eval o).run P w = r at *
  cases r with
  | ok nx w' =>
    cases nx <;> simp only [Oper.quietUpon] at h3 <;> simp only [Oper.uponIn]
    case value u =>
      obtain ⟨e1, e2⟩ := h3
      rw [e1, e2]
      exact h _ _ hw h2
    case skip =>
      obtain ⟨e1, e2⟩ := h3
      rw [e1, ← e2]
      exact h _ _ hw h2
    case enter f args =>
      obtain ⟨e1, hc⟩ := h3
      rw [e1]
      exact ⟨(fun h => by cases h), CallsIn.inRound l (callsIn_wide.2 (hc.mono fun e w'' ⟨he, hw''⟩ => by subst he; exact h _ _ hw'' h2))⟩
  | halt x w' => simp only [Oper.quietUpon] at h3

theorem wpOpInR_of_qOp {i l n : Nat} {a : Act} {K : Act → Prop} {K' : Act → World → Prop} {Q' : Exit → Act → World → Prop} {w : World} (hnd : ∀ (i : Nat) (o : Oper), ops[i]? = some o → noDefer o.op = true) (hC : C w) (h : ∀ a w', C w' → K a → K' a w') (hh : qOp P ops C i K a) :
    wpOpIn (Fence.wide.inRound l) n P ops Q' i K' a w := by
  unfold qOp at hh
  unfold wpOpIn
  split
  · rename_i ho; simp only [ho] at hh; exact h _ _ hC hh
  · rename_i o ho
    simp only [ho] at hh
    split
    · rename_i hw; simp only [hw, if_true] at hh; exact wpInR_of_quiet (hnd _ _ ho) hC h hh
    · rename_i hw; simp only [hw] at hh; exact ⟨fun _ _ => trivial, h _ _ hC hh⟩

theorem wpAnyInR_of_quiet {l n : Nat} {Q : Act → Prop} {Q' : Exit → Act → World → Prop} (hnd : ∀ (i : Nat) (o : Oper), ops[i]? = some o → noDefer o.op = true) (hQ : ∀ a w, C w → Q a → Q' .normal a w) : ∀ (fuel : Nat) (listed : Array Bool) (a : Act) (w : World), C w →
    wpAnyQ P md ops C Q fuel listed a → wpAnyIn (Fence.wide.inRound l) n P md ops Q' fuel listed a w
  | 0, _, _, _, hw, h => ⟨h.1, hQ _ _ hw h.2⟩
  | fuel + 1, _, _, _, hw, h => ⟨fun h0 => hQ _ _ hw (h.1 h0), fun i hi => wpOpInR_of_qOp hnd hw (fun a' w' hw' => wpAnyInR_of_quiet hnd hQ fuel _ a' w' hw') (h.2 i hi)⟩
end

theorem wpIn_region_fam {P : Program} {id lp n : Nat} {Q : Exit → Act → World → Prop} {a : Act} {w : World} {l : List Oper} (hm : P.follows .mixedOrders = true) (hB : Region.lexB .any l.toArray = true) (hd : l.all (fun o => noDefer o.op) = true)
    (h : wpQuiet P l.toArray (fun w' => ∃ n : Fam w, w' = n.v) (fun a' => ∀ w', (∃ n : Fam w, w' = n.v) → Q .normal a' w') l a) : (Code.region id l.toArray true).wpIn (Fence.wide.inRound lp) n P Q a w := by
  have hnd : ∀ (i : Nat) o, l.toArray[i]? = some o → noDefer o.op = true := fun i o ho => by
    rw [List.all_eq_true] at hd
    exact hd o (List.mem_of_getElem? (by simpa using ho))
  simp only [Region.lexB, Bool.and_eq_true] at hB
  refine wpIn_region_any hm (wpAnyInR_of_quiet hnd (Q := fun a' => ∀ w', (∃ n : Fam w, w' = n.v) → Q .normal a' w') (fun _ w' hw' h => h w' hw') _ _ _ _ ⟨⟨w.drew, (Fr.refl No w).drew⟩, rfl⟩ ?_)
  have := wpAnyQ_lex (C := fun w' => ∃ n : Fam w, w' = n.v) (md := .any) hB.1 l 0 (Array.replicate l.toArray.size false) a (by simp) (by simpa using hB.2) (by simpa using h)
  simpa using this

/-- What lies below the loop's start, but for some blocks, is as it was: whatever the loop's own records do. -/
theorem ownFrom_fr {β : Type} (F : Nat → Prop) (W0 : World) : OwnFrom W0.heap.size (fun (_ : β) W => Fr F W0 W) := fun s W W' row hs hg hr => by
  have h2 : Fr (fun k => W0.heap.size ≤ k) W W' := ⟨hg.os, hg.tape, hg.output, hg.size, fun k hk hnk => hg.block k hk (fun e => hnk (hr k e.symm).1)⟩
  exact hs.trans' h2 (fun k hk h => by omega)

theorem keepsFrom_fr {B : Nat} {F : Nat → Prop} {W W' : World} (h : Fr F W W') (hF : ∀ k, F k → k < B) : KeepsFrom B W W' :=
  ⟨h.size, fun k o hB hk _ => (h.block k (Array.getElem?_eq_some_iff.1 hk).1 (fun hf => by have := hF k hf; omega)).trans hk⟩
theorem fr_putObj {F : Nat → Prop} (W : World) (l : Nat) (o' : Obj) (hF : F l) : Fr F W (W.putObj l o') := by
  have hg := grownBy_putObj' W l o'
  exact ⟨hg.os, hg.tape, hg.output, hg.size, fun k hk hnk => hg.block k hk (fun e => by cases e; exact hnk hF)⟩

end Go.Proofs.YtakgjihhgpnnfaaDoor

/- What a range over a vertex's row hands out, beside the document's list; 'Up' and 'Down' of the program. -/
set_option linter.unusedVariables false
set_option linter.unusedSimpArgs false
namespace Go.Proofs.YtakgjihhgpnnfaaDoor
open Go.RowKit Go.Shelf

attribute [local go_sem] Oper.semAt_some

theorem Ix.Ok.rowE_dir {x : Ix} (h : x.Ok) {a r : Nat} (back : Bool) (ha : a < x.n) (h1 : x.rk a < r) (h2 : r < x.n) : x.rowE a back r = x.dirE (a : Nat) back (x.by_ r : Nat) := by
  have hb := h.by_ r h2
  have hne : a ≠ x.by_ r := fun e => by rw [← e] at hb; omega
  have e1 : x.at_ (a : Nat) (x.by_ r : Nat) = x.ent a (x.by_ r) := by unfold Ix.at_ Ix.two; rw [if_pos (by simp; omega)]; rfl
  have e2 : x.at_ (x.by_ r : Nat) (a : Nat) = x.ent (x.by_ r) a := by unfold Ix.at_ Ix.two; rw [if_pos (by simp; omega)]; rfl
  unfold Ix.rowE Ix.dirE
  rw [if_pos ⟨h1, h2⟩]
  cases back
  · simp [e1]
  · simp [e2]
theorem Ix.Ok.row_ups {x : Ix} (h : x.Ok) {a : Nat} (back : Bool) (ha : a < x.n) : ∀ k, k ≤ x.n → (x.rowTo a back k).map (fun el => ((x.by_ el.1 : Nat) : Int)) = x.upsTo (a : Nat) back k
  | 0, _ => rfl
  | k + 1, hk => by
    have ih := h.row_ups back ha k (by omega)
    have hra : x.rank (a : Nat) = x.rk a := by unfold Ix.rank; rw [if_pos ⟨by omega, by omega⟩]; simp
    rw [Ix.rowTo_succ]
    unfold Ix.upsTo
    rw [← ih, hra]
    by_cases h1 : x.rk a < k
    · rw [← h.rowE_dir back ha h1 (by omega)]
      by_cases h2 : x.rowE a back k ≠ En.none
      · rw [dif_pos ⟨h1, by omega, h2⟩, if_pos ⟨by omega, h2⟩]; simp
      · rw [dif_neg (fun h => h2 h.2.2), if_neg (fun h => h2 h.2)]
    · rw [dif_neg (fun h => h1 h.1), if_neg (fun h => h1 (by omega))]
theorem Ix.rowTo_n (x : Ix) (a : Nat) (back : Bool) : ∀ d, x.rowTo a back (x.n + d) = x.rowTo a back x.n
  | 0 => rfl
  | d + 1 => by
    have ih := x.rowTo_n a back d
    show x.rowTo a back ((x.n + d) + 1) = _
    rw [Ix.rowTo_succ, dif_neg (fun h => by omega), ih]
theorem Ix.Ok.row_all {x : Ix} (h : x.Ok) {a : Nat} (back : Bool) (ha : a < x.n) : (x.rowTo a back 24).map (fun el => ((x.by_ el.1 : Nat) : Int)) = x.ups (a : Nat) back := by
  have h2 := h.n2
  have e := x.rowTo_n a back (24 - x.n)
  rw [show x.n + (24 - x.n) = 24 by omega] at e
  rw [e, h.row_ups back ha x.n (Nat.le_refl _)]
  unfold Ix.ups Ix.vertex
  rw [if_pos (by simp; omega)]

/-- What a range over a vertex's row hands out. -/
def Ix.row (x : Ix) (v : Int) (back : Bool) : List (x.RowEl v.toNat back) := if x.vertex v then x.rowTo v.toNat back 24 else []
theorem Ix.Ok.row_eq {x : Ix} (h : x.Ok) (v : Int) (back : Bool) : (x.row v back).map (fun el => ((x.by_ el.1 : Nat) : Int)) = x.ups v back := by
  unfold Ix.row
  cases hv : x.vertex v with
  | false => unfold Ix.ups; rw [hv]; rfl
  | true =>
    have hv2 : 0 ≤ v ∧ v < x.n := by unfold Ix.vertex at hv; simpa using hv
    obtain ⟨a, rfl⟩ := Int.eq_ofNat_of_zero_le hv2.1
    exact h.row_all back (by omega)
theorem Ix.Ok.row_el {x : Ix} (h : x.Ok) {v : Int} {back : Bool} (hv : x.vertex v = true) (el : x.RowEl v.toNat back) : x.by_ el.1 < x.n ∧ x.rowE v.toNat back el.1 = x.dirE v back (x.by_ el.1 : Nat) := by
  have hv2 : 0 ≤ v ∧ v < x.n := by unfold Ix.vertex at hv; simpa using hv
  obtain ⟨a, rfl⟩ := Int.eq_ofNat_of_zero_le hv2.1
  exact ⟨(h.by_ el.1 el.2.2.1).1, h.rowE_dir back (by omega) el.2.1 el.2.2.1⟩

set_option maxRecDepth 100000 in
set_option maxHeartbeats 1000000 in
theorem all1_no {x : Ix} {L : IxLoc} {α : Type} {enc : α → Array Value} (n : Nat) (hn : 1 ≤ n) (Bx Bv Br : Nat) (v : Int) (hvx : x.vertex v = false) (Kp : World → World → Prop) (w : World) (h : IxMem w L x)
    (hx : w.cell? ⟨Bx, 0, none⟩ = some (.pointer (some ⟨L.b, 0, none⟩))) (hv : w.cell? ⟨Bv, 0, none⟩ = some (.int .i64 v)) :
    SeqStopsK Fence.wide n Tryd.prog 99 #[.pointer (some ⟨Bx, 0, none⟩), .pointer (some ⟨Bv, 0, none⟩), .pointer (some ⟨Br, 0, none⟩)] enc Kp (fun ys => ys = []) (fun pre => pre <+: []) 0 w := fun l J Jx W hW hJ hJx hY h0 => by
  have hf0 := Fr.of_below hW
  have HM := hid (h.no hf0)
  have hx' := hf0.cell_some hx (fun h => h)
  have hv' := hf0.cell_some hv (fun h => h)
  have H0 := hid h0
  have hra : x.rank v = -1 := by
    unfold Ix.rank; rw [if_neg]
    unfold Ix.vertex at hvx; simpa using hvx
  have HRA := hid hra
  clear hW hJ hJx hY h0 h hx hv hra hf0 hvx
  refine callsIn_of_wp Tryd.func99 rfl trivial ?_ rfl
  simp only [Tryd.ntmps99, List.size_toArray, List.length_cons, List.length_nil, Nat.reduceAdd, Nat.reduceSub, Array.replicate_succ, Array.replicate_zero, List.push_toArray, List.append_toArray, List.nil_append, List.cons_append]
  gi_wp2
  refine ⟨trivial, callsIn_wide.2 ((rank_calls HM.out v).mono ?_)⟩
  rintro e w1 ⟨rfl, rfl⟩
  rw [HRA.out]
  gi_wp2
  refine bodyPost_ret (results_none rfl _ _ _) rfl ?_
  exact ⟨⟨_, rfl⟩, .inl ⟨_, rfl, H0.out⟩⟩

/-- The row's function, one way or the other. -/
theorem all1_any_up {x : Ix} {L : IxLoc} (n : Nat) (hn : 1 ≤ n) (Bx Bv Br : Nat) (v : Int) (F : Nat → Prop) (f1 : ¬ F L.b) (f2 : ¬ F L.br) (f3 : ¬ F L.bb) (f4 : ¬ F 0) (f5 : ¬ F Bx) (f6 : ¬ F Bv) (w : World) (h : IxMem w L x)
    (hx : w.cell? ⟨Bx, 0, none⟩ = some (.pointer (some ⟨L.b, 0, none⟩))) (hv : w.cell? ⟨Bv, 0, none⟩ = some (.int .i64 v)) (hr : w.cell? ⟨Br, 0, none⟩ = some (.func (.func 83) #[] #[])) :
    SeqStopsK Fence.wide n Tryd.prog 99 #[.pointer (some ⟨Bx, 0, none⟩), .pointer (some ⟨Bv, 0, none⟩), .pointer (some ⟨Br, 0, none⟩)] (x.rowEnc v.toNat false) (Fr F) (fun ys => ys = x.row v false) (fun pre => pre <+: x.row v false) (x.row v false).length w := by
  unfold Ix.row
  cases hvx : x.vertex v with
  | false => exact all1_no n hn Bx Bv Br v hvx (Fr F) w h hx hv
  | true =>
    have hv2 : 0 ≤ v ∧ v < x.n := by unfold Ix.vertex at hvx; simpa using hvx
    obtain ⟨a, rfl⟩ := Int.eq_ofNat_of_zero_le hv2.1
    exact all1_up n hn Bx Bv Br a (by omega) F f1 f2 f3 f4 f5 f6 w h hx hv hr
theorem all1_any_down {x : Ix} {L : IxLoc} (n : Nat) (hn : 1 ≤ n) (Bx Bv Br : Nat) (v : Int) (F : Nat → Prop) (f1 : ¬ F L.b) (f2 : ¬ F L.br) (f3 : ¬ F L.bb) (f4 : ¬ F 0) (f5 : ¬ F Bx) (f6 : ¬ F Bv) (w : World) (h : IxMem w L x)
    (hx : w.cell? ⟨Bx, 0, none⟩ = some (.pointer (some ⟨L.b, 0, none⟩))) (hv : w.cell? ⟨Bv, 0, none⟩ = some (.int .i64 v)) (hr : w.cell? ⟨Br, 0, none⟩ = some (.func (.func 84) #[] #[])) :
    SeqStopsK Fence.wide n Tryd.prog 99 #[.pointer (some ⟨Bx, 0, none⟩), .pointer (some ⟨Bv, 0, none⟩), .pointer (some ⟨Br, 0, none⟩)] (x.rowEnc v.toNat true) (Fr F) (fun ys => ys = x.row v true) (fun pre => pre <+: x.row v true) (x.row v true).length w := by
  unfold Ix.row
  cases hvx : x.vertex v with
  | false => exact all1_no n hn Bx Bv Br v hvx (Fr F) w h hx hv
  | true =>
    have hv2 : 0 ≤ v ∧ v < x.n := by unfold Ix.vertex at hvx; simpa using hvx
    obtain ⟨a, rfl⟩ := Int.eq_ofNat_of_zero_le hv2.1
    exact all1_down n hn Bx Bv Br a (by omega) F f1 f2 f3 f4 f5 f6 w h hx hv hr

set_option maxRecDepth 100000 in
set_option maxHeartbeats 1000000 in
theorem all_calls (b fr : Nat) (v : Int) (w : World) :
    Calls Tryd.prog 82 #[.pointer (some ⟨b, 0, none⟩), .int .i64 v, .func (.func fr) #[] #[]] w fun e w' => e = .returned (.func (.func 99) #[] #[.pointer (some ⟨w.heap.size, 0, none⟩), .pointer (some ⟨w.heap.size + 1, 0, none⟩), .pointer (some ⟨w.heap.size + 1 + 1, 0, none⟩)]) ∧
      w' = ((w.alloc (.cells #[.pointer (some ⟨b, 0, none⟩)] 31)).alloc (.cells #[.int .i64 v] 3)).alloc (.cells #[.func (.func fr) #[] #[]] 135) := by
  go_enter Tryd.func82, Tryd.ntmps82
  go_wp2
  go_ret
  exact ⟨by simp, rfl⟩
set_option maxRecDepth 100000 in
set_option maxHeartbeats 1000000 in
theorem up_calls (b : Nat) (v : Int) (w : World) :
    Calls Tryd.prog 53 #[.pointer (some ⟨b, 0, none⟩), .int .i64 v] w fun e w' => e = .returned (.func (.func 99) #[] #[.pointer (some ⟨w.heap.size, 0, none⟩), .pointer (some ⟨w.heap.size + 1, 0, none⟩), .pointer (some ⟨w.heap.size + 1 + 1, 0, none⟩)]) ∧
      w' = ((w.alloc (.cells #[.pointer (some ⟨b, 0, none⟩)] 31)).alloc (.cells #[.int .i64 v] 3)).alloc (.cells #[.func (.func 83) #[] #[]] 135) := by
  go_enter Tryd.func53, Tryd.ntmps53
  go_wp2_with fail
  refine (all_calls b 83 v w).mono ?_
  rintro e w1 ⟨rfl, rfl⟩
  go_wp2
  go_ret
  exact ⟨rfl, rfl⟩
set_option maxRecDepth 100000 in
set_option maxHeartbeats 1000000 in
theorem down_calls (b : Nat) (v : Int) (w : World) :
    Calls Tryd.prog 54 #[.pointer (some ⟨b, 0, none⟩), .int .i64 v] w fun e w' => e = .returned (.func (.func 99) #[] #[.pointer (some ⟨w.heap.size, 0, none⟩), .pointer (some ⟨w.heap.size + 1, 0, none⟩), .pointer (some ⟨w.heap.size + 1 + 1, 0, none⟩)]) ∧
      w' = ((w.alloc (.cells #[.pointer (some ⟨b, 0, none⟩)] 31)).alloc (.cells #[.int .i64 v] 3)).alloc (.cells #[.func (.func 84) #[] #[]] 135) := by
  go_enter Tryd.func54, Tryd.ntmps54
  go_wp2_with fail
  refine (all_calls b 84 v w).mono ?_
  rintro e w1 ⟨rfl, rfl⟩
  go_wp2
  go_ret
  exact ⟨rfl, rfl⟩

end Go.Proofs.YtakgjihhgpnnfaaDoor
