/- A region that draws its order, in a round of a range over a function, where some operations may be taken first. -/
import Derived.Deep.RegionHeld3
import Derived.WalkMore
import Derived.Test.YtoepbhacpidcbaaGreatDoorQBase
import Derived.Test.YtoepbhacpidcbaaGreatDoorQIdx
import Derived.Test.YtoepbhacpidcbaaGreatDoorQIdxB
import Derived.Test.YtoepbhacpidcbaaGreatDoorQPerm
import Derived.Test.YtoepbhacpidcbaaGreatDoorQRef
import Derived.Test.YtoepbhacpidcbaaGreatDoorQBig
import Derived.Test.YtoepbhacpidcbaaGreatDoorQUnref
import Derived.Test.YtoepbhacpidcbaaGreatDoorQUnE
import Derived.Test.YtoepbhacpidcbaaGreatDoorQItr
import Derived.Test.YtoepbhacpidcbaaGreatDoorQDst
import Derived.Test.YtoepbhacpidcbaaGreatDoorQLnk
import Derived.Test.YtoepbhacpidcbaaGreatDoorQRow2
import Derived.Test.YtoepbhacpidcbaaGreatDoorQGr
import Derived.Test.YtoepbhacpidcbaaGreatDoorQGOps
import Derived.Test.YtoepbhacpidcbaaGreatDoorQBld
import Derived.Test.YtoepbhacpidcbaaGreatDoorQBW
import Derived.Test.YtoepbhacpidcbaaGreatDoorQHpK
import Derived.Test.YtoepbhacpidcbaaGreatDoorQG8
import Derived.Test.YtoepbhacpidcbaaGreatDoorQSqO
import Derived.Test.YtoepbhacpidcbaaGreatDoorQGoes
import Derived.Test.YtoepbhacpidcbaaGreatDoorQUp
import Derived.Test.YtoepbhacpidcbaaGreatDoorQSetP
import Derived.Test.YtoepbhacpidcbaaGreatDoorQWay
import Derived.Test.YtoepbhacpidcbaaGreatDoorQIn1
import Derived.Test.YtoepbhacpidcbaaGreatDoorQAll
import Derived.Test.YtoepbhacpidcbaaGreatDoorQAw6
import Derived.Test.YtoepbhacpidcbaaGreatDoorQMe

set_option linter.unusedVariables false
set_option linter.unusedSimpArgs false
namespace Go.Proofs.YtoepbhacpidcbaaGreatDoor
open Go.RowKit Go.Deep

section
variable {P : Program} {ops : Array Oper} {md : Region.Mode}
theorem wpInR_of_wp {o : Oper} {a : Act} {K : Act → World → Prop} {K' : Act → World → Prop} {X : Act → World → Prop} {Q' : Exit → Act → World → Prop} {w : World} {l n : Nat} (hnd : noDefer o.op = true) (h : ∀ a w, K a w → K' a w) (hh : o.wp P a w K (sureQ X)) :
    o.wpIn (Fence.wide.inRound l) n P a w K' Q' := by
  unfold Oper.wp at hh
  unfold Oper.wpIn
  refine ⟨fun _ _ => trivial, ?_⟩
  rw [Oper.semAt_eq _ _ _ (by intro c e; rw [e] at hnd; cases hnd)]
  generalize (execOp a.eval o).run P w = r at *
  cases r with
  | ok nx w' =>
    cases nx <;> simp only [Oper.upon] at hh <;> simp only [Oper.uponIn]
    case value u => exact h _ _ hh
    case skip => exact h _ _ hh
    case defer d => exact h _ _ hh
    case enter f args =>
      refine ⟨(fun h => by cases h), CallsIn.inRound l (callsIn_wide.2 (hh.mono fun e w'' he => ?_))⟩
      cases e with
      | returned v => exact h _ _ he
      | panicked c => exact he.elim
      | outgrown => exact (letsOut_sure he).elim
    case row f args => exact ⟨(fun h => by cases h), fun c cs hr => by
      obtain ⟨v, w3, h1, h2⟩ := hh c cs
      exact ⟨v, w3, h _ _ h1, stepsIn_wide.2 h2⟩⟩
  | halt x w' =>
    cases x <;> simp only [Oper.upon] at hh
    all_goals first
      | exact hh.elim
      | (exact (hh : False).elim)
theorem wpOpInR_of_wpOp {i l n : Nat} {a : Act} {K : Act → World → Prop} {K' : Act → World → Prop} {X : Act → World → Prop} {Q' : Exit → Act → World → Prop} {w : World} (hnd : ∀ (i : Nat) (o : Oper), ops[i]? = some o → noDefer o.op = true) (h : ∀ a w, K a w → K' a w) (hh : wpOp P ops (sureQ X) i K a w) :
    wpOpIn (Fence.wide.inRound l) n P ops Q' i K' a w := by
  unfold wpOp at hh
  unfold wpOpIn
  split
  · rename_i ho; simp only [ho] at hh; exact h _ _ hh
  · rename_i o ho
    simp only [ho] at hh
    split
    · rename_i hw
      simp only [hw, if_true] at hh
      rcases hh with h3 | ⟨_, h3⟩
      · exact wpInR_of_wp (hnd _ _ ho) h h3
      · exact (letsOut_sure h3).elim
    · rename_i hw; simp only [hw] at hh; exact ⟨fun _ _ => trivial, h _ _ hh⟩
theorem wpAnyInR_of_wpAny {l n : Nat} {X : Act → World → Prop} {Q' : Exit → Act → World → Prop} (hnd : ∀ (i : Nat) (o : Oper), ops[i]? = some o → noDefer o.op = true) (hQ : ∀ a w, X a w → Q' .normal a w) : ∀ (fuel : Nat) (listed : Array Bool) (a : Act) (w : World),
    wpAny P md ops (sureQ X) fuel listed a w → wpAnyIn (Fence.wide.inRound l) n P md ops Q' fuel listed a w
  | 0, _, _, _, h => ⟨h.1, hQ _ _ h.2⟩
  | fuel + 1, _, _, _, h => ⟨fun h0 => hQ _ _ (h.1 h0), fun i hi => wpOpInR_of_wpOp hnd (fun a' w' hh => wpAnyInR_of_wpAny hnd hQ fuel _ a' w' hh) (h.2 i hi)⟩
end

theorem wpIn_region_held {P : Program} {id lp n : Nat} {Q : Exit → Act → World → Prop} {a : Act} {w : World} {l : List Oper} {S : World → Prop} (hm : P.follows .mixedOrders = true) (hd : l.all (fun o => noDefer o.op) = true) (hS : S w.drew)
    (h : S w.drew → wpAnyH P .any l.toArray (sureQ (Q .normal)) S l.toArray.size (Array.replicate l.toArray.size false) a w.drew) : (Code.region id l.toArray true).wpIn (Fence.wide.inRound lp) n P Q a w := by
  have hnd : ∀ (i : Nat) o, l.toArray[i]? = some o → noDefer o.op = true := fun i o ho => by
    rw [List.all_eq_true] at hd
    exact hd o (List.mem_of_getElem? (by simpa using ho))
  exact wpIn_region_any hm (wpAnyInR_of_wpAny hnd (fun _ _ h => h) _ _ _ _ (wpAny_of_held _ _ _ _ (h hS)))

section
variable {P : Program} {md : Region.Mode} {Q : Exit → Act → World → Prop} {S : World → Prop} {v : Value} {fuel : Nat} {listed : Array Bool} {a : Act} {w : World}
theorem heldTake0 {o : Oper} {l : List Oper} (hs : Region.noSelect (o :: l).toArray = true) (hf : Region.free md (o :: l).toArray listed 0 = true) (hr : (Region.ready md (o :: l).toArray listed).contains 0 = true) (hQ : ∀ c a w, Q (.panic c) (a.put o.dst v) w → Q (.panic c) a w) (hy : Region.wanted o (yielded (o :: l).toArray a.tmps) = true ∧ ∀ w, S w → (execOp a.eval o).run P w = .ok (.value v) w) (hS : S w) (h : wpAnyH P md (o :: l).toArray Q S fuel (listed.setIfInBounds 0 true) (a.put o.dst v) w) : wpAnyH P md (o :: l).toArray Q S (fuel + 1) listed a w :=
  wpAnyH_take (i := 0) (oi := o) rfl hs hf hr hQ (Or.inl hy) hS h
theorem heldOp0 {o : Oper} {l : List Oper} (hr : Region.ready md (o :: l).toArray listed = [0]) (h : ∀ K' : Act → World → Prop, Shut (∀ a w, S w → (S w → wpAnyH P md (o :: l).toArray Q S fuel (listed.setIfInBounds 0 true) a w) → K' a w) → if Region.wanted o (yielded (o :: l).toArray a.tmps) = true then Oper.wp P o a w K' Q else K' (a.put o.dst undef) w) : wpAnyH P md (o :: l).toArray Q S (fuel + 1) listed a w :=
  wpAnyH_ready (rs := [0]) hr (by simp) (AllReadyH.cons (o := o) rfl h AllReadyH.nil)
theorem heldTake1 {x0 o : Oper} {l : List Oper} (hs : Region.noSelect (x0 :: o :: l).toArray = true) (hf : Region.free md (x0 :: o :: l).toArray listed 1 = true) (hr : (Region.ready md (x0 :: o :: l).toArray listed).contains 1 = true) (hQ : ∀ c a w, Q (.panic c) (a.put o.dst v) w → Q (.panic c) a w) (hy : Region.wanted o (yielded (x0 :: o :: l).toArray a.tmps) = true ∧ ∀ w, S w → (execOp a.eval o).run P w = .ok (.value v) w) (hS : S w) (h : wpAnyH P md (x0 :: o :: l).toArray Q S fuel (listed.setIfInBounds 1 true) (a.put o.dst v) w) : wpAnyH P md (x0 :: o :: l).toArray Q S (fuel + 1) listed a w :=
  wpAnyH_take (i := 1) (oi := o) rfl hs hf hr hQ (Or.inl hy) hS h
theorem heldTake2 {x0 x1 o : Oper} {l : List Oper} (hs : Region.noSelect (x0 :: x1 :: o :: l).toArray = true) (hf : Region.free md (x0 :: x1 :: o :: l).toArray listed 2 = true) (hr : (Region.ready md (x0 :: x1 :: o :: l).toArray listed).contains 2 = true) (hQ : ∀ c a w, Q (.panic c) (a.put o.dst v) w → Q (.panic c) a w) (hy : Region.wanted o (yielded (x0 :: x1 :: o :: l).toArray a.tmps) = true ∧ ∀ w, S w → (execOp a.eval o).run P w = .ok (.value v) w) (hS : S w) (h : wpAnyH P md (x0 :: x1 :: o :: l).toArray Q S fuel (listed.setIfInBounds 2 true) (a.put o.dst v) w) : wpAnyH P md (x0 :: x1 :: o :: l).toArray Q S (fuel + 1) listed a w :=
  wpAnyH_take (i := 2) (oi := o) rfl hs hf hr hQ (Or.inl hy) hS h
theorem heldOp2 {x0 x1 o : Oper} {l : List Oper} (hr : Region.ready md (x0 :: x1 :: o :: l).toArray listed = [2]) (h : ∀ K' : Act → World → Prop, Shut (∀ a w, S w → (S w → wpAnyH P md (x0 :: x1 :: o :: l).toArray Q S fuel (listed.setIfInBounds 2 true) a w) → K' a w) → if Region.wanted o (yielded (x0 :: x1 :: o :: l).toArray a.tmps) = true then Oper.wp P o a w K' Q else K' (a.put o.dst undef) w) : wpAnyH P md (x0 :: x1 :: o :: l).toArray Q S (fuel + 1) listed a w :=
  wpAnyH_ready (rs := [2]) hr (by simp) (AllReadyH.cons (o := o) rfl h AllReadyH.nil)
theorem heldTake3 {x0 x1 x2 o : Oper} {l : List Oper} (hs : Region.noSelect (x0 :: x1 :: x2 :: o :: l).toArray = true) (hf : Region.free md (x0 :: x1 :: x2 :: o :: l).toArray listed 3 = true) (hr : (Region.ready md (x0 :: x1 :: x2 :: o :: l).toArray listed).contains 3 = true) (hQ : ∀ c a w, Q (.panic c) (a.put o.dst v) w → Q (.panic c) a w) (hy : Region.wanted o (yielded (x0 :: x1 :: x2 :: o :: l).toArray a.tmps) = true ∧ ∀ w, S w → (execOp a.eval o).run P w = .ok (.value v) w) (hS : S w) (h : wpAnyH P md (x0 :: x1 :: x2 :: o :: l).toArray Q S fuel (listed.setIfInBounds 3 true) (a.put o.dst v) w) : wpAnyH P md (x0 :: x1 :: x2 :: o :: l).toArray Q S (fuel + 1) listed a w :=
  wpAnyH_take (i := 3) (oi := o) rfl hs hf hr hQ (Or.inl hy) hS h
theorem heldTake4 {x0 x1 x2 x3 o : Oper} {l : List Oper} (hs : Region.noSelect (x0 :: x1 :: x2 :: x3 :: o :: l).toArray = true) (hf : Region.free md (x0 :: x1 :: x2 :: x3 :: o :: l).toArray listed 4 = true) (hr : (Region.ready md (x0 :: x1 :: x2 :: x3 :: o :: l).toArray listed).contains 4 = true) (hQ : ∀ c a w, Q (.panic c) (a.put o.dst v) w → Q (.panic c) a w) (hy : Region.wanted o (yielded (x0 :: x1 :: x2 :: x3 :: o :: l).toArray a.tmps) = true ∧ ∀ w, S w → (execOp a.eval o).run P w = .ok (.value v) w) (hS : S w) (h : wpAnyH P md (x0 :: x1 :: x2 :: x3 :: o :: l).toArray Q S fuel (listed.setIfInBounds 4 true) (a.put o.dst v) w) : wpAnyH P md (x0 :: x1 :: x2 :: x3 :: o :: l).toArray Q S (fuel + 1) listed a w :=
  wpAnyH_take (i := 4) (oi := o) rfl hs hf hr hQ (Or.inl hy) hS h
theorem heldOp4 {x0 x1 x2 x3 o : Oper} {l : List Oper} (hr : Region.ready md (x0 :: x1 :: x2 :: x3 :: o :: l).toArray listed = [4]) (h : ∀ K' : Act → World → Prop, Shut (∀ a w, S w → (S w → wpAnyH P md (x0 :: x1 :: x2 :: x3 :: o :: l).toArray Q S fuel (listed.setIfInBounds 4 true) a w) → K' a w) → if Region.wanted o (yielded (x0 :: x1 :: x2 :: x3 :: o :: l).toArray a.tmps) = true then Oper.wp P o a w K' Q else K' (a.put o.dst undef) w) : wpAnyH P md (x0 :: x1 :: x2 :: x3 :: o :: l).toArray Q S (fuel + 1) listed a w :=
  wpAnyH_ready (rs := [4]) hr (by simp) (AllReadyH.cons (o := o) rfl h AllReadyH.nil)
theorem heldTake5 {x0 x1 x2 x3 x4 o : Oper} {l : List Oper} (hs : Region.noSelect (x0 :: x1 :: x2 :: x3 :: x4 :: o :: l).toArray = true) (hf : Region.free md (x0 :: x1 :: x2 :: x3 :: x4 :: o :: l).toArray listed 5 = true) (hr : (Region.ready md (x0 :: x1 :: x2 :: x3 :: x4 :: o :: l).toArray listed).contains 5 = true) (hQ : ∀ c a w, Q (.panic c) (a.put o.dst v) w → Q (.panic c) a w) (hy : Region.wanted o (yielded (x0 :: x1 :: x2 :: x3 :: x4 :: o :: l).toArray a.tmps) = true ∧ ∀ w, S w → (execOp a.eval o).run P w = .ok (.value v) w) (hS : S w) (h : wpAnyH P md (x0 :: x1 :: x2 :: x3 :: x4 :: o :: l).toArray Q S fuel (listed.setIfInBounds 5 true) (a.put o.dst v) w) : wpAnyH P md (x0 :: x1 :: x2 :: x3 :: x4 :: o :: l).toArray Q S (fuel + 1) listed a w :=
  wpAnyH_take (i := 5) (oi := o) rfl hs hf hr hQ (Or.inl hy) hS h
theorem heldOp5 {x0 x1 x2 x3 x4 o : Oper} {l : List Oper} (hr : Region.ready md (x0 :: x1 :: x2 :: x3 :: x4 :: o :: l).toArray listed = [5]) (h : ∀ K' : Act → World → Prop, Shut (∀ a w, S w → (S w → wpAnyH P md (x0 :: x1 :: x2 :: x3 :: x4 :: o :: l).toArray Q S fuel (listed.setIfInBounds 5 true) a w) → K' a w) → if Region.wanted o (yielded (x0 :: x1 :: x2 :: x3 :: x4 :: o :: l).toArray a.tmps) = true then Oper.wp P o a w K' Q else K' (a.put o.dst undef) w) : wpAnyH P md (x0 :: x1 :: x2 :: x3 :: x4 :: o :: l).toArray Q S (fuel + 1) listed a w :=
  wpAnyH_ready (rs := [5]) hr (by simp) (AllReadyH.cons (o := o) rfl h AllReadyH.nil)
theorem heldTake6 {x0 x1 x2 x3 x4 x5 o : Oper} {l : List Oper} (hs : Region.noSelect (x0 :: x1 :: x2 :: x3 :: x4 :: x5 :: o :: l).toArray = true) (hf : Region.free md (x0 :: x1 :: x2 :: x3 :: x4 :: x5 :: o :: l).toArray listed 6 = true) (hr : (Region.ready md (x0 :: x1 :: x2 :: x3 :: x4 :: x5 :: o :: l).toArray listed).contains 6 = true) (hQ : ∀ c a w, Q (.panic c) (a.put o.dst v) w → Q (.panic c) a w) (hy : Region.wanted o (yielded (x0 :: x1 :: x2 :: x3 :: x4 :: x5 :: o :: l).toArray a.tmps) = true ∧ ∀ w, S w → (execOp a.eval o).run P w = .ok (.value v) w) (hS : S w) (h : wpAnyH P md (x0 :: x1 :: x2 :: x3 :: x4 :: x5 :: o :: l).toArray Q S fuel (listed.setIfInBounds 6 true) (a.put o.dst v) w) : wpAnyH P md (x0 :: x1 :: x2 :: x3 :: x4 :: x5 :: o :: l).toArray Q S (fuel + 1) listed a w :=
  wpAnyH_take (i := 6) (oi := o) rfl hs hf hr hQ (Or.inl hy) hS h
theorem heldOp6 {x0 x1 x2 x3 x4 x5 o : Oper} {l : List Oper} (hr : Region.ready md (x0 :: x1 :: x2 :: x3 :: x4 :: x5 :: o :: l).toArray listed = [6]) (h : ∀ K' : Act → World → Prop, Shut (∀ a w, S w → (S w → wpAnyH P md (x0 :: x1 :: x2 :: x3 :: x4 :: x5 :: o :: l).toArray Q S fuel (listed.setIfInBounds 6 true) a w) → K' a w) → if Region.wanted o (yielded (x0 :: x1 :: x2 :: x3 :: x4 :: x5 :: o :: l).toArray a.tmps) = true then Oper.wp P o a w K' Q else K' (a.put o.dst undef) w) : wpAnyH P md (x0 :: x1 :: x2 :: x3 :: x4 :: x5 :: o :: l).toArray Q S (fuel + 1) listed a w :=
  wpAnyH_ready (rs := [6]) hr (by simp) (AllReadyH.cons (o := o) rfl h AllReadyH.nil)
theorem heldTake7 {x0 x1 x2 x3 x4 x5 x6 o : Oper} {l : List Oper} (hs : Region.noSelect (x0 :: x1 :: x2 :: x3 :: x4 :: x5 :: x6 :: o :: l).toArray = true) (hf : Region.free md (x0 :: x1 :: x2 :: x3 :: x4 :: x5 :: x6 :: o :: l).toArray listed 7 = true) (hr : (Region.ready md (x0 :: x1 :: x2 :: x3 :: x4 :: x5 :: x6 :: o :: l).toArray listed).contains 7 = true) (hQ : ∀ c a w, Q (.panic c) (a.put o.dst v) w → Q (.panic c) a w) (hy : Region.wanted o (yielded (x0 :: x1 :: x2 :: x3 :: x4 :: x5 :: x6 :: o :: l).toArray a.tmps) = true ∧ ∀ w, S w → (execOp a.eval o).run P w = .ok (.value v) w) (hS : S w) (h : wpAnyH P md (x0 :: x1 :: x2 :: x3 :: x4 :: x5 :: x6 :: o :: l).toArray Q S fuel (listed.setIfInBounds 7 true) (a.put o.dst v) w) : wpAnyH P md (x0 :: x1 :: x2 :: x3 :: x4 :: x5 :: x6 :: o :: l).toArray Q S (fuel + 1) listed a w :=
  wpAnyH_take (i := 7) (oi := o) rfl hs hf hr hQ (Or.inl hy) hS h
theorem heldOp7 {x0 x1 x2 x3 x4 x5 x6 o : Oper} {l : List Oper} (hr : Region.ready md (x0 :: x1 :: x2 :: x3 :: x4 :: x5 :: x6 :: o :: l).toArray listed = [7]) (h : ∀ K' : Act → World → Prop, Shut (∀ a w, S w → (S w → wpAnyH P md (x0 :: x1 :: x2 :: x3 :: x4 :: x5 :: x6 :: o :: l).toArray Q S fuel (listed.setIfInBounds 7 true) a w) → K' a w) → if Region.wanted o (yielded (x0 :: x1 :: x2 :: x3 :: x4 :: x5 :: x6 :: o :: l).toArray a.tmps) = true then Oper.wp P o a w K' Q else K' (a.put o.dst undef) w) : wpAnyH P md (x0 :: x1 :: x2 :: x3 :: x4 :: x5 :: x6 :: o :: l).toArray Q S (fuel + 1) listed a w :=
  wpAnyH_ready (rs := [7]) hr (by simp) (AllReadyH.cons (o := o) rfl h AllReadyH.nil)
theorem heldTake8 {x0 x1 x2 x3 x4 x5 x6 x7 o : Oper} {l : List Oper} (hs : Region.noSelect (x0 :: x1 :: x2 :: x3 :: x4 :: x5 :: x6 :: x7 :: o :: l).toArray = true) (hf : Region.free md (x0 :: x1 :: x2 :: x3 :: x4 :: x5 :: x6 :: x7 :: o :: l).toArray listed 8 = true) (hr : (Region.ready md (x0 :: x1 :: x2 :: x3 :: x4 :: x5 :: x6 :: x7 :: o :: l).toArray listed).contains 8 = true) (hQ : ∀ c a w, Q (.panic c) (a.put o.dst v) w → Q (.panic c) a w) (hy : Region.wanted o (yielded (x0 :: x1 :: x2 :: x3 :: x4 :: x5 :: x6 :: x7 :: o :: l).toArray a.tmps) = true ∧ ∀ w, S w → (execOp a.eval o).run P w = .ok (.value v) w) (hS : S w) (h : wpAnyH P md (x0 :: x1 :: x2 :: x3 :: x4 :: x5 :: x6 :: x7 :: o :: l).toArray Q S fuel (listed.setIfInBounds 8 true) (a.put o.dst v) w) : wpAnyH P md (x0 :: x1 :: x2 :: x3 :: x4 :: x5 :: x6 :: x7 :: o :: l).toArray Q S (fuel + 1) listed a w :=
  wpAnyH_take (i := 8) (oi := o) rfl hs hf hr hQ (Or.inl hy) hS h
theorem heldOp8 {x0 x1 x2 x3 x4 x5 x6 x7 o : Oper} {l : List Oper} (hr : Region.ready md (x0 :: x1 :: x2 :: x3 :: x4 :: x5 :: x6 :: x7 :: o :: l).toArray listed = [8]) (h : ∀ K' : Act → World → Prop, Shut (∀ a w, S w → (S w → wpAnyH P md (x0 :: x1 :: x2 :: x3 :: x4 :: x5 :: x6 :: x7 :: o :: l).toArray Q S fuel (listed.setIfInBounds 8 true) a w) → K' a w) → if Region.wanted o (yielded (x0 :: x1 :: x2 :: x3 :: x4 :: x5 :: x6 :: x7 :: o :: l).toArray a.tmps) = true then Oper.wp P o a w K' Q else K' (a.put o.dst undef) w) : wpAnyH P md (x0 :: x1 :: x2 :: x3 :: x4 :: x5 :: x6 :: x7 :: o :: l).toArray Q S (fuel + 1) listed a w :=
  wpAnyH_ready (rs := [8]) hr (by simp) (AllReadyH.cons (o := o) rfl h AllReadyH.nil)
theorem heldOp9 {x0 x1 x2 x3 x4 x5 x6 x7 x8 o : Oper} {l : List Oper} (hr : Region.ready md (x0 :: x1 :: x2 :: x3 :: x4 :: x5 :: x6 :: x7 :: x8 :: o :: l).toArray listed = [9]) (h : ∀ K' : Act → World → Prop, Shut (∀ a w, S w → (S w → wpAnyH P md (x0 :: x1 :: x2 :: x3 :: x4 :: x5 :: x6 :: x7 :: x8 :: o :: l).toArray Q S fuel (listed.setIfInBounds 9 true) a w) → K' a w) → if Region.wanted o (yielded (x0 :: x1 :: x2 :: x3 :: x4 :: x5 :: x6 :: x7 :: x8 :: o :: l).toArray a.tmps) = true then Oper.wp P o a w K' Q else K' (a.put o.dst undef) w) : wpAnyH P md (x0 :: x1 :: x2 :: x3 :: x4 :: x5 :: x6 :: x7 :: x8 :: o :: l).toArray Q S (fuel + 1) listed a w :=
  wpAnyH_ready (rs := [9]) hr (by simp) (AllReadyH.cons (o := o) rfl h AllReadyH.nil)
theorem heldTake10 {x0 x1 x2 x3 x4 x5 x6 x7 x8 x9 o : Oper} {l : List Oper} (hs : Region.noSelect (x0 :: x1 :: x2 :: x3 :: x4 :: x5 :: x6 :: x7 :: x8 :: x9 :: o :: l).toArray = true) (hf : Region.free md (x0 :: x1 :: x2 :: x3 :: x4 :: x5 :: x6 :: x7 :: x8 :: x9 :: o :: l).toArray listed 10 = true) (hr : (Region.ready md (x0 :: x1 :: x2 :: x3 :: x4 :: x5 :: x6 :: x7 :: x8 :: x9 :: o :: l).toArray listed).contains 10 = true) (hQ : ∀ c a w, Q (.panic c) (a.put o.dst v) w → Q (.panic c) a w) (hy : Region.wanted o (yielded (x0 :: x1 :: x2 :: x3 :: x4 :: x5 :: x6 :: x7 :: x8 :: x9 :: o :: l).toArray a.tmps) = true ∧ ∀ w, S w → (execOp a.eval o).run P w = .ok (.value v) w) (hS : S w) (h : wpAnyH P md (x0 :: x1 :: x2 :: x3 :: x4 :: x5 :: x6 :: x7 :: x8 :: x9 :: o :: l).toArray Q S fuel (listed.setIfInBounds 10 true) (a.put o.dst v) w) : wpAnyH P md (x0 :: x1 :: x2 :: x3 :: x4 :: x5 :: x6 :: x7 :: x8 :: x9 :: o :: l).toArray Q S (fuel + 1) listed a w :=
  wpAnyH_take (i := 10) (oi := o) rfl hs hf hr hQ (Or.inl hy) hS h
theorem heldOp11 {x0 x1 x2 x3 x4 x5 x6 x7 x8 x9 x10 o : Oper} {l : List Oper} (hr : Region.ready md (x0 :: x1 :: x2 :: x3 :: x4 :: x5 :: x6 :: x7 :: x8 :: x9 :: x10 :: o :: l).toArray listed = [11]) (h : ∀ K' : Act → World → Prop, Shut (∀ a w, S w → (S w → wpAnyH P md (x0 :: x1 :: x2 :: x3 :: x4 :: x5 :: x6 :: x7 :: x8 :: x9 :: x10 :: o :: l).toArray Q S fuel (listed.setIfInBounds 11 true) a w) → K' a w) → if Region.wanted o (yielded (x0 :: x1 :: x2 :: x3 :: x4 :: x5 :: x6 :: x7 :: x8 :: x9 :: x10 :: o :: l).toArray a.tmps) = true then Oper.wp P o a w K' Q else K' (a.put o.dst undef) w) : wpAnyH P md (x0 :: x1 :: x2 :: x3 :: x4 :: x5 :: x6 :: x7 :: x8 :: x9 :: x10 :: o :: l).toArray Q S (fuel + 1) listed a w :=
  wpAnyH_ready (rs := [11]) hr (by simp) (AllReadyH.cons (o := o) rfl h AllReadyH.nil)
end

end Go.Proofs.YtoepbhacpidcbaaGreatDoor

/- climb.stalls: is what was come to from below come to better from above; walked. -/
set_option linter.unusedVariables false
set_option linter.unusedSimpArgs false
namespace Go.Proofs.YtoepbhacpidcbaaGreatDoor
open Go.RowKit Go.Shelf Go.Deep

attribute [local go_sem] Oper.semAt_some

end Go.Proofs.YtoepbhacpidcbaaGreatDoor

/- climb.Up, Down, Dist and Meet; walked. -/
set_option linter.unusedVariables false
set_option linter.unusedSimpArgs false
namespace Go.Proofs.YtoepbhacpidcbaaGreatDoor
open Go.RowKit Go.Shelf Go.Deep

end Go.Proofs.YtoepbhacpidcbaaGreatDoor

/- climb.sides, Dist and Meet; walked. -/
set_option linter.unusedVariables false
set_option linter.unusedSimpArgs false
namespace Go.Proofs.YtoepbhacpidcbaaGreatDoor
open Go.RowKit Go.Shelf Go.Deep

end Go.Proofs.YtoepbhacpidcbaaGreatDoor

/- The climb law's check that its parts are awake; walked. -/
set_option linter.unusedVariables false
set_option linter.unusedSimpArgs false
namespace Go.Proofs.YtoepbhacpidcbaaGreatDoor
open Go.RowKit Go.Shelf Go.Deep

theorem a20_ok : a6x.Ok ∧ Whole a6g a6x := (Ix.new_ok (show 0 < 3 by omega) aw_perm aw_g1 aw_g2).build_whole a6_wt
theorem a20_gok : a6g.Ok := ⟨by decide, by decide, by decide, by decide, fun i hi h => by
  have : i = 7 ∨ i = 8 := by
    by_cases h8 : i = 8
    · exact .inr h8
    · by_cases h7 : i = 7
      · exact .inl h7
      · have : a6g.tk i = false := by
          show (if i = 8 then true else if i = 7 then true else false) = false
          rw [if_neg h8, if_neg h7]
        rw [this] at h; cases h
  rcases this with rfl | rfl <;> decide⟩
theorem a20_bst : (List.range 3).all (fun i => (List.range 3).all fun j => decide (a6g.bst i j = if i = 0 ∧ j = 1 then 2 else if i = 1 ∧ j = 2 then 3 else 4611686018427387906)) = true := by decide +kernel
theorem a20_b {i j : Nat} (hi : i < 3) (hj : j < 3) : a6g.bst i j = if i = 0 ∧ j = 1 then 2 else if i = 1 ∧ j = 2 then 3 else 4611686018427387906 := by
  have h1 := List.all_eq_true.1 (List.all_eq_true.1 a20_bst i (by simpa using hi)) j (by simpa using hj)
  exact of_decide_eq_true h1
def a20x (v : Nat) : Int := [0, 2, 5].getD v 0
theorem a20_far : a6g.far 0 2 = 5 := by
  have hn : a6g.n = 3 := rfl
  have h1 := (Gr.far_inv a6_wt).sound a20x (fun i hi _ => by
    rw [hn] at hi
    (have : i = 0 ∨ i = 1 ∨ i = 2 := by omega)
    rcases this with rfl | rfl | rfl <;> (unfold Bd; decide)) (fun i j hi hj _ _ => by
    rw [hn] at hi hj
    unfold Gr.d0
    rw [a20_b hi hj]
    (have hi : i = 0 ∨ i = 1 ∨ i = 2 := by omega)
    (have hj : j = 0 ∨ j = 1 ∨ j = 2 := by omega)
    rcases hi with rfl | rfl | rfl <;> rcases hj with rfl | rfl | rfl <;> decide) 0 2 (by rw [hn]; omega) (by rw [hn]; omega) rfl rfl
  have b02 := Gr.far_b a6_wt 0 2 (by rw [hn]; omega) (by rw [hn]; omega)
  have e0 : a20x 0 = 0 := rfl
  have e2 : a20x 2 = 5 := rfl
  rw [e0, e2, tw_self0 b02] at h1
  have t := Gr.far_tri a6_wt (a := 0) (m := 1) (b := 2) (by rw [hn]; omega) (by rw [hn]; omega) (by rw [hn]; omega)
  have u1 := Gr.far_bst a6_wt (a := 0) (b := 1) (by rw [hn]; omega) (by rw [hn]; omega)
  have u2 := Gr.far_bst a6_wt (a := 1) (b := 2) (by rw [hn]; omega) (by rw [hn]; omega)
  rw [a20_b (by omega) (by omega)] at u1 u2
  have b01 := Gr.far_b a6_wt 0 1 (by rw [hn]; omega) (by rw [hn]; omega)
  have b12 := Gr.far_b a6_wt 1 2 (by rw [hn]; omega) (by rw [hn]; omega)
  have u1 : a6g.far 0 1 ≤ 2 := by simpa using u1
  have u2 : a6g.far 1 2 ≤ 3 := by simpa using u2
  have m := tw_mono b01.1 b12.1 u1 u2 (by omega) (by omega)
  have e : tw 2 3 = 5 := by decide
  rw [e] at m
  omega

end Go.Proofs.YtoepbhacpidcbaaGreatDoor
/- bypass: the open arcs from an upper vertex to upper ones, as an iterator that ranges over another one. -/
set_option linter.unusedVariables false
set_option linter.unusedSimpArgs false
namespace Go.Proofs.YtoepbhacpidcbaaGreatDoor
open Go.RowKit Go.Shelf Go.Deep

attribute [local go_sem] Oper.semAt_some

abbrev Gr.UpEl (G : Gr) (x : Ix) (fl : Nat) := { i : Id64 // (G.arc i.1.toNat).c = false ∧ ¬ x.rank (G.arc i.1.toNat).h < fl }
def Gr.upL (G : Gr) (x : Ix) (fl : Nat) (zs : List Id64) : List (G.UpEl x fl) := zs.filterMap fun i => if h : (G.arc i.1.toNat).c = false ∧ ¬ x.rank (G.arc i.1.toNat).h < fl then some ⟨i, h⟩ else none
theorem Gr.upL_snoc (G : Gr) (x : Ix) (fl : Nat) (zs : List Id64) (i : Id64) : G.upL x fl (zs ++ [i]) = if h : (G.arc i.1.toNat).c = false ∧ ¬ x.rank (G.arc i.1.toNat).h < fl then G.upL x fl zs ++ [⟨i, h⟩] else G.upL x fl zs := by
  unfold Gr.upL
  rw [List.filterMap_append]
  split
  · rename_i h; simp only [List.filterMap_cons, List.filterMap_nil, dif_pos h]
  · rename_i h; simp only [List.filterMap_cons, List.filterMap_nil, dif_neg h, List.append_nil]
theorem Gr.upL_pre (G : Gr) (x : Ix) (fl : Nat) {a b : List Id64} (h : a <+: b) : G.upL x fl a <+: G.upL x fl b := by
  obtain ⟨t, rfl⟩ := h
  unfold Gr.upL
  rw [List.filterMap_append]
  exact List.prefix_append _ _
theorem Gr.upL_len (G : Gr) (x : Ix) (fl : Nat) (zs : List Id64) : (G.upL x fl zs).length ≤ zs.length := List.length_filterMap_le _ _
def upEnc (G : Gr) (x : Ix) (fl : Nat) (el : G.UpEl x fl) : Array Value := #[.iface 252 (.agg #[.int .i64 el.1.1, .int .i64 (G.arc el.1.1.toNat).t, .int .i64 (G.arc el.1.1.toNat).h, .int .i64 (G.arc el.1.1.toNat).w, .bool (G.arc el.1.1.toNat).c]), .int .i64 (G.arc el.1.1.toNat).w]

set_option maxRecDepth 100000 in
set_option maxHeartbeats 4000000 in
theorem upper1_seq {x : Ix} {L : IxLoc} {G : Gr} {Lg : GLoc} (Br Bv rb v fl n0 : Nat) (F : Nat → Prop) (f1 : ¬ F L.b) (f2 : ¬ F L.br) (f3 : ¬ F L.bb) (f4 : ¬ F 0) (f5 : ¬ F Br) (f6 : ¬ F Bv) (f7 : ¬ F rb) (fn : ∀ k, F k → n0 ≤ k) (w : World) (h : IxMem w L x) (hg : ∀ W, Below n0 w W → GMem W Lg G) (hn0 : n0 ≤ w.heap.size) (ho : OutAt n0 w Lg.b (v : Nat) (selI (G.outs (v : Nat)))) (hrd : RdM w rb (some ⟨Lg.b, 0, none⟩) L fl)
    (hbr : w.cell? ⟨Br, 0, none⟩ = some (.pointer (some ⟨rb, 0, none⟩))) (hbv : w.cell? ⟨Bv, 0, none⟩ = some (.int .i64 (v : Nat))) (N0 : Nat) (hF : ∀ k, N0 ≤ k → k < N0 + 3 → ¬ F k) :
    SeqO Fence.wide 7 Tryz.prog 193 #[.pointer (some ⟨Br, 0, none⟩), .pointer (some ⟨Bv, 0, none⟩)] (upEnc G x fl) (Fr F) (fun ys => ys = G.upL x fl (selI (G.outs (v : Nat)))) (fun pre => pre <+: G.upL x fl (selI (G.outs (v : Nat)))) (selI (G.outs (v : Nat))).length N0 3 w := fun l J Jx W hW hN hJ hJx hY h0 => by
  subst hN
  have hf0 := Fr.of_below hW
  have HX := hid (h.no hf0)
  have HRD := hid (hrd.no hf0)
  have HG := hid (fun W' (hb : Below n0 W W') => hg W' ((hW.mono hn0).trans hb))
  have ho' := ho.below (hW.mono hn0)
  have HO := hid ho'
  have cr := hf0.cell_some hbr (fun h => h)
  have cv := hf0.cell_some hbv (fun h => h)
  have hsw := hf0.size
  have lr := cell_lt cr
  have lv := cell_lt cv
  have lrb := cell_lt HRD.out.x
  simp only at lr lv lrb
  have HJ := hid hJ
  have HJX := hid hJx
  have HY := hid hY
  have H0 := hid h0
  have HFF := hid hF
  have HFN := hid fn
  have hn := h.ok.n2
  clear hW hJ hJx hY h0 h hrd hbr hbv hf0 hF hg ho ho' fn
  refine callsIn_of_wp_marks Tryz.func193 rfl trivial ?_ rfl
  refine wpIn_wide.2 ?_
  simp only [Tryz.ntmps193, List.size_toArray, List.length_cons, List.length_nil, Nat.reduceAdd, Nat.reduceSub, Array.replicate_succ, Array.replicate_zero, List.push_toArray, List.append_toArray, List.nil_append, List.cons_append]
  go_wp2_with fail
  have fb : Fr No W (W.alloc (.cells #[.func (.yield l) #[] #[]] 219)) := (Fr.refl No W).alloc _
  have hsb : (W.alloc (.cells #[.func (.yield l) #[] #[]] 219)).heap.size = W.heap.size + 1 := by simp
  have c3 : (W.alloc (.cells #[.func (.yield l) #[] #[]] 219)).cell? ⟨W.heap.size, 0, none⟩ = some (.func (.yield l) #[] #[]) := by simp [go_sem]
  have hj0 : J [] (W.alloc (.cells #[.func (.yield l) #[] #[]] 219)) := HJ.out _ _ _ none H0.out (fr_grownBy fb) (fun r e => by cases e)
  generalize (W.alloc (.cells #[.func (.yield l) #[] #[]] 219)) = Wb at fb hsb c3 hj0 ⊢
  have cr := fb.cell_some cr (fun h => h)
  have cv := fb.cell_some cv (fun h => h)
  have cx := fb.cell_some HRD.out.g (fun h => h)
  have HXB := hid (HX.out.no fb)
  have FB := hid fb
  have HJ0 := hid hj0
  have HSB := hid hsb
  have lr : Br < Wb.heap.size := cell_lt cr
  have lv : Bv < Wb.heap.size := cell_lt cv
  have lrb : rb < Wb.heap.size := cell_lt cx
  have l3 : W.heap.size < Wb.heap.size := cell_lt c3
  clear fb hj0 H0 HX hsb
  go_wp2_with fail
  go_still_tail 5, (by kernel_rfl)
  go_wp2_with fail
  refine (out_calls Lg.b (v : Nat) _).mono ?_
  rintro e W3 ⟨rfl, hW3⟩
  have f03 : Fr No Wb W3 := by rw [hW3]; exact (((Fr.refl No Wb).drew).alloc _).alloc _
  have cxx : W3.cell? ⟨Wb.heap.size, 0, none⟩ = some (.pointer (some ⟨Lg.b, 0, none⟩)) := by rw [hW3]; simp [go_sem]
  have cvv : W3.cell? ⟨Wb.heap.size + 1, 0, none⟩ = some (.int .i64 (v : Nat)) := by rw [hW3]; simp [go_sem]
  have hsz : Wb.heap.size + 2 ≤ W3.heap.size := by rw [hW3]; simp
  have c33 := f03.cell_some c3 (fun h => h)
  have cv3 := f03.cell_some cv (fun h => h)
  have cr3 := f03.cell_some cr (fun h => h)
  have cg3 := f03.cell_some cx (fun h => h)
  have hj3 : J [] W3 := HJ.out _ _ _ none HJ0.out (fr_grownBy f03) (fun r e => by cases e)
  have F3 := hid (FB.out.trans f03)
  have HX3 := hid (HXB.out.no f03)
  have HRD3 := hid (HRD.out.no F3.out)
  have HJ3 := hid hj3
  have p3 : ¬ F W.heap.size := HFF.out _ (by omega) (by omega)
  have hout := HO.out.below (F3.out.below.mono (show n0 ≤ W.heap.size by omega))
  clear hW3 f03 hj3 c3 cv cr cx HJ0 HXB
  go_wp2
  refine (wpIn_wide (n := 7)).1 ?_
  refine wpIn_rangeFunc_ownS rfl (by omega) (gf := 221) (lb := #[.pointer (some ⟨Wb.heap.size, 0, none⟩), .pointer (some ⟨Wb.heap.size + 1, 0, none⟩)]) rfl trivial (enters_of Tryz.func221 (by kernel_rfl) rfl)
    (out1_any 6 (by omega) Wb.heap.size (Wb.heap.size + 1) Lg.b n0 (v : Nat) (selI (G.outs (v : Nat))) W3 cxx cvv hout ⟨by omega, by omega⟩ (by omega)) belowK_t (belowK_b (by omega)) (fun W => Below.refl _ W) (Below.refl _ _) (fun _ => rfl)
    (fun pre W' => J (G.upL x fl pre) W' ∧ Fr (fun k => F k ∨ W3.heap.size ≤ k) W3 W')
    (fun c pre W' => c = .ret ∧ Jx (G.upL x fl pre) W')
    (OwnFrom.both (fun s A B row hs hg hr => OwnFrom.later HJ.out (show W.heap.size ≤ W3.heap.size by omega) (G.upL x fl s) A B row hs hg hr) (fun s A B row hs hg hr => ownFrom_fr _ W3 s A B row hs hg hr))
    (fun c s A B row hs hg hr => ⟨hs.1, OwnFrom.later HJX.out (show W.heap.size ≤ W3.heap.size by omega) (G.upL x fl s) A B row hs.2 hg hr⟩)
    ⟨HJ3.out, Fr.refl _ _⟩
    (fun z T => T.setIfInBounds 4 (.int .i64 z.1)) ?assign ?body ?done ?stop
  case assign =>
    intro l z W K hK
    gi_wp2
    simpa using hK
  case stop =>
    rintro D c pre W' hD hSp ⟨rfl, hjx⟩ hKD
    refine wpIn_wide.2 ?_
    go_wp2
    refine ⟨by simp, .inl ⟨D, _, rfl, run_takeDeferred hKD, ?_⟩⟩
    exact ⟨_, results_none rfl _ _ _, ⟨_, rfl⟩, .inr ⟨_, G.upL_pre x fl hSp, OwnFrom.putObj (OwnFrom.later HJX.out (show W.heap.size ≤ W3.heap.size by omega)) _ hjx hD hKD rfl⟩⟩
  case done =>
    rintro D ys W' hD rfl ⟨hj, hf⟩ hKD
    go_wp2
    refine ⟨by simp, .inl ⟨D, _, rfl, run_takeDeferred hKD, ?_⟩⟩
    exact ⟨_, results_none rfl _ _ _, ⟨_, rfl⟩, .inl ⟨_, rfl, OwnFrom.putObj (OwnFrom.later HJ.out (show W.heap.size ≤ W3.heap.size by omega)) _ hj hD hKD rfl, by have := hf.size; have := HSB.out; simp; omega⟩⟩
  case body =>
    rintro l' pre ⟨xv, hx0, hx1⟩ W' hl hloop ⟨hj, hf⟩ hlen
    obtain ⟨i, rfl⟩ := Int.eq_ofNat_of_zero_le hx0
    have hi : i < 64 := by omega
    have hF' : ∀ k, k < W3.heap.size → ¬ F k → ¬ (F k ∨ W3.heap.size ≤ k) := fun k h1 h2 h => h.elim h2 (fun h => by omega)
    have c34 := hf.cell_some c33 (fun h => h.elim p3 (fun h => by simp only at h; omega))
    have cr4 := hf.cell_some cr3 (fun h => h.elim f5 (fun h => by simp only at h; omega))
    have cg4 := hf.cell_some cg3 (fun h => h.elim f7 (fun h => by simp only at h; omega))
    have HFW := hid hf
    have q1 := HX3.out.lt
    have q2 := HX3.out.hr.1
    have q3 := HX3.out.hb.1
    have q4 := HX3.out.gn.lt
    have HX4 := hid (HX3.out.fr hf (hF' _ q1 f1) (hF' _ q2 f2) (hF' _ q3 f3) (hF' _ q4 f4))
    have HRD4 := hid (HRD3.out.fr hf (hF' _ (by omega) f7))
    have HG4 := hid (HG.out W' ((F3.out.below.mono (show n0 ≤ W.heap.size by omega)).trans (below_fr hf (fun k hk => hk.elim (HFN.out k) (fun h => by omega)) (by omega))))
    have l34 := cell_lt c34
    have lr4 := cell_lt cr4
    have lg4 := cell_lt cg4
    simp only at l34 lr4 lg4
    have HJ4 := hid hj
    have hlen2 : (G.upL x fl pre).length < (selI (G.outs (v : Nat))).length := Nat.lt_of_le_of_lt (G.upL_len x fl pre) hlen
    have hsn : G.upL x fl (pre ++ [⟨((i : Nat) : Int), hx0, hx1⟩]) = if h : (G.arc i).c = false ∧ ¬ x.rank (G.arc i).h < fl then G.upL x fl pre ++ [⟨⟨((i : Nat) : Int), hx0, hx1⟩, h⟩] else G.upL x fl pre := G.upL_snoc x fl pre ⟨((i : Nat) : Int), hx0, hx1⟩
    have hyy : ∀ (hh : (G.arc i).c = false ∧ ¬ x.rank (G.arc i).h < fl) (W5 : World), J (G.upL x fl pre) W5 → W.heap.size + 3 ≤ W5.heap.size → YieldAt Fence.wide (7 - 1) Tryz.prog l #[.iface 252 (.agg #[.int .i64 (i : Nat), .int .i64 (G.arc i).t, .int .i64 (G.arc i).h, .int .i64 (G.arc i).w, .bool (G.arc i).c]), .int .i64 (G.arc i).w] W5 fun e W' =>
        ((e = .returned (.bool true) ∧ J (G.upL x fl pre ++ [⟨⟨((i : Nat) : Int), hx0, hx1⟩, hh⟩]) W' ∧ Fr F W5 W') ∨ (e = .returned (.bool false) ∧ Jx (G.upL x fl pre ++ [⟨⟨((i : Nat) : Int), hx0, hx1⟩, hh⟩]) W')) ∧ KeepsFrom W.heap.size W5 W' :=
      fun hh W5 hj5 hc5 => HY.out (G.upL x fl pre) ⟨⟨((i : Nat) : Int), hx0, hx1⟩, hh⟩ W5 hj5 hlen2 hc5
    have hKN : ∀ W5, KeepsFrom W.heap.size W' W5 → KeepsFrom W3.heap.size W' W5 := fun W5 h => ⟨h.size, fun k o hk => h.same k o (by omega)⟩
    have HKN := hid hKN
    obtain ⟨⟨at_, ah, aw, ac⟩, har⟩ : ∃ y, G.arc i = y := ⟨_, rfl⟩
    have HAR := hid har
    have HSN := hid hsn
    have HYY := hid hyy
    clear hj hf hloop hF' cxx cvv hout c33 cv3 cr3 cg3 har hsn hyy hKN q1 q2 q3 q4
    gi_wp2_with fail
    refine ⟨trivial, CallsIn.inRound l' (callsIn_wide.2 ((garc_calls HG4.out i hi).mono ?_))⟩
    rw [HAR.out]
    rintro e W1 ⟨rfl, hf1⟩
    have j3 := hf1.cell_some c34 (fun h => h)
    have jr := hf1.cell_some cr4 (fun h => h)
    have F1 := hid hf1
    have l31 := cell_lt j3
    have lr1 := cell_lt jr
    simp only at l31 lr1
    clear c34 cr4 cg4 hf1
    cases ac with
    | true =>
      have hsn2 : G.upL x fl (pre ++ [⟨((i : Nat) : Int), hx0, hx1⟩]) = G.upL x fl pre := by rw [HSN.out, dif_neg (fun h => by rw [HAR.out] at h; exact absurd h.1 (by simp))]
      have HS2 := hid hsn2
      have HFA := hid (F1.out.alloc (.cells #[.int .i64 at_, .int .i64 ah, .int .i64 aw, .bool true] 49))
      clear hsn2
      gi_wp2_with fail
      refine ⟨trivial, ?_⟩
      gi_wp2_with fail
      refine ⟨fun _ h => (by cases h), ?_⟩
      gi_wp2
      exact ⟨keepsFrom_cells HFA.out (fun _ _ h => h.elim), below_fr HFA.out (fun _ h => h.elim) (by omega), by rw [HS2.out]; exact HJ.out _ _ _ none HJ4.out (fr_grownBy HFA.out) (fun r e => by cases e), HFW.out.trans HFA.out.no⟩
    | false =>
      gi_wp2_with fail
      have fA : Fr No W' (W1.alloc (.cells #[.int .i64 at_, .int .i64 ah, .int .i64 aw, .bool false] 49)) := F1.out.alloc _
      refine ⟨trivial, CallsIn.inRound l' (callsIn_wide.2 ((ground_calls (HX4.out.no fA) (HRD4.out.no fA) ah).mono ?_))⟩
      rintro e W2 ⟨rfl, hW2⟩
      have HFA := hid (fA.drew)
      rw [← hW2] at HFA
      have o5 : W2.heap[W1.heap.size]? = some (.cells #[.int .i64 at_, .int .i64 ah, .int .i64 aw, .bool false] 49) := by rw [hW2]; exact heap_new W1 _
      have a0 : W2.cell? ⟨W1.heap.size, 0, none⟩ = some (.int .i64 at_) := cell_of o5 0
      have a1 : W2.cell? ⟨W1.heap.size, 1, none⟩ = some (.int .i64 ah) := cell_of o5 1
      have a2 : W2.cell? ⟨W1.heap.size, 2, none⟩ = some (.int .i64 aw) := cell_of o5 2
      have a3 : W2.cell? ⟨W1.heap.size, 3, none⟩ = some (.bool false) := cell_of o5 3
      have b3 : W2.cell? ⟨W.heap.size, 0, none⟩ = some (.func (.yield l) #[] #[]) := by
        rw [hW2]; exact ((Fr.refl No W1).alloc _).drew.cell_some j3 (fun h => h)
      have l52 := heap_lt o5
      have l32 := cell_lt b3
      simp only at l32
      clear fA hW2 j3 jr o5
      obtain ⟨B5, eB5⟩ : ∃ B, W1.heap.size = B := ⟨_, rfl⟩
      rw [eB5] at a0 a1 a2 a3 l52 ⊢
      by_cases hgr : x.rank ah < (fl : Int)
      · have g1 : decide (x.rank ah < (fl : Int)) = true := by simp; exact hgr
        have hsn2 : G.upL x fl (pre ++ [⟨((i : Nat) : Int), hx0, hx1⟩]) = G.upL x fl pre := by rw [HSN.out, dif_neg (fun h => by rw [HAR.out] at h; have h2 := h.2; simp only at h2; omega)]
        have HS2 := hid hsn2
        clear hsn2
        gi_wp2_with fail
        refine ⟨fun _ h => (by cases h), ?_⟩
        gi_wp2
        exact ⟨keepsFrom_cells HFA.out (fun _ _ h => h.elim), below_fr HFA.out (fun _ h => h.elim) (by omega), by rw [HS2.out]; exact HJ.out _ _ _ none HJ4.out (fr_grownBy HFA.out) (fun r e => by cases e), HFW.out.trans HFA.out.no⟩
      · have g1 : decide (x.rank ah < (fl : Int)) = false := by simp; omega
        have hh : (G.arc i).c = false ∧ ¬ x.rank (G.arc i).h < fl := by rw [HAR.out]; exact ⟨rfl, hgr⟩
        have hsn2 := HSN.out
        rw [dif_pos (show (G.arc i).c = false ∧ (fl : Int) ≤ x.rank (G.arc i).h from ⟨hh.1, by have := hh.2; omega⟩)] at hsn2
        have HS2 := hid hsn2
        have hyy := HYY.out ⟨hh.1, by have := hh.2; omega⟩ W2 (HJ.out _ _ _ none HJ4.out (fr_grownBy HFA.out) (fun r e => by cases e)) (by have := HFW.out.size; have := HFA.out.size; have := HSB.out; omega)
        rw [← hsn2, HAR.out] at hyy
        simp only at hyy
        obtain ⟨fn, tm, asg, bd, hyr, hR⟩ := YieldAt.round (l0 := l') (YieldAt.deep (m' := 4) hyy)
        have HR := hid hR
        clear hyy hsn2 hR
        gi_wp2_with fail
        refine HR.out.mono ?_
        clear hyr a0 a1 a2 a3 b3
        rintro e W5 ⟨(⟨rfl, hj5, hk5⟩ | ⟨rfl, hj5⟩), hkf⟩
        · have HJ5 := hid hj5
          have HK5 := hid hk5
          have HKF := hid hkf
          clear hj5 hk5 hkf
          gi_wp2
          have hkk : KeepsFrom W3.heap.size W' W2 := keepsFrom_cells HFA.out (fun _ _ h => h.elim)
          exact ⟨⟨Nat.le_trans HFA.out.size HKF.out.size, fun k o hk hko ho => HKF.out.same k o (by omega) (hkk.same k o hk hko ho) ho⟩, (below_fr HFA.out (fun _ h => h.elim) (by omega)).trans (below_fr HK5.out HFN.out (by omega)), HJ5.out, HFW.out.trans (HFA.out.no.trans (HK5.out.mono (fun k _ h => .inl h)))⟩
        · have HJ5 := hid hj5
          have HKF := hid hkf
          clear hj5 hkf
          gi_wp2
          have hkk : KeepsFrom W3.heap.size W' W2 := keepsFrom_cells HFA.out (fun _ _ h => h.elim)
          exact ⟨⟨Nat.le_trans HFA.out.size HKF.out.size, fun k o hk hko ho => HKF.out.same k o (by omega) (hkk.same k o hk hko ho) ho⟩, rfl, HJ5.out⟩

end Go.Proofs.YtoepbhacpidcbaaGreatDoor
/- bypass: the entries from an upper vertex to ground ones, as an iterator. -/
set_option linter.unusedVariables false
set_option linter.unusedSimpArgs false
namespace Go.Proofs.YtoepbhacpidcbaaGreatDoor
open Go.RowKit Go.Shelf Go.Deep

attribute [local go_sem] Oper.semAt_some
attribute [local go_sem high] run_field0

abbrev Ix.DvEl (x : Ix) (v : Nat) := { r : Nat // r < x.n ∧ (x.at_ (v : Nat) (x.by_ r : Nat)).w ≠ 4611686018427387906 }
def Ix.dvTo (x : Ix) (v : Nat) : Nat → List (x.DvEl v)
  | 0 => []
  | k + 1 => if h : k < x.n ∧ (x.at_ (v : Nat) (x.by_ k : Nat)).w ≠ 4611686018427387906 then Ix.dvTo x v k ++ [⟨k, h⟩] else Ix.dvTo x v k
theorem Ix.dvTo_succ (x : Ix) (v k : Nat) : x.dvTo v (k + 1) = if h : k < x.n ∧ (x.at_ (v : Nat) (x.by_ k : Nat)).w ≠ 4611686018427387906 then x.dvTo v k ++ [⟨k, h⟩] else x.dvTo v k := rfl
theorem Ix.dvTo_pre (x : Ix) (v k : Nat) : ∀ d, x.dvTo v k <+: x.dvTo v (k + d)
  | 0 => List.prefix_refl _
  | d + 1 => by
    refine (Ix.dvTo_pre x v k d).trans ?_
    rw [show k + (d + 1) = (k + d) + 1 by omega, Ix.dvTo_succ]
    split
    · exact List.prefix_append _ _
    · exact List.prefix_refl _
def dvEnc (x : Ix) (v : Nat) (el : x.DvEl v) : Array Value := #[.iface 224 (.agg #[.int .i64 (v : Nat), .int .i64 (x.by_ el.1 : Nat)]), .int .i64 (x.at_ (v : Nat) (x.by_ el.1 : Nat)).w]

theorem heldTwo67 {P : Program} {md : Region.Mode} {Q : Exit → Act → World → Prop} {S : World → Prop} {fuel : Nat} {listed : Array Bool} {a : Act} {w : World} {x0 x1 x2 x3 x4 x5 o p : Oper} {l : List Oper} (hr : Region.ready md (x0 :: x1 :: x2 :: x3 :: x4 :: x5 :: o :: p :: l).toArray listed = [6, 7]) (h6 : ∀ K' : Act → World → Prop, Shut (∀ a w, S w → (S w → wpAnyH P md (x0 :: x1 :: x2 :: x3 :: x4 :: x5 :: o :: p :: l).toArray Q S fuel (listed.setIfInBounds 6 true) a w) → K' a w) → if Region.wanted o (yielded (x0 :: x1 :: x2 :: x3 :: x4 :: x5 :: o :: p :: l).toArray a.tmps) = true then Oper.wp P o a w K' Q else K' (a.put o.dst undef) w) (h7 : ∀ K' : Act → World → Prop, Shut (∀ a w, S w → (S w → wpAnyH P md (x0 :: x1 :: x2 :: x3 :: x4 :: x5 :: o :: p :: l).toArray Q S fuel (listed.setIfInBounds 7 true) a w) → K' a w) → if Region.wanted p (yielded (x0 :: x1 :: x2 :: x3 :: x4 :: x5 :: o :: p :: l).toArray a.tmps) = true then Oper.wp P p a w K' Q else K' (a.put p.dst undef) w) : wpAnyH P md (x0 :: x1 :: x2 :: x3 :: x4 :: x5 :: o :: p :: l).toArray Q S (fuel + 1) listed a w :=
  wpAnyH_ready (rs := [6, 7]) hr (by simp) (AllReadyH.cons (o := o) rfl h6 (AllReadyH.cons (o := p) rfl h7 AllReadyH.nil))

set_option maxRecDepth 100000 in
set_option maxHeartbeats 4000000 in
theorem dive1_seq {x : Ix} {L : IxLoc} (n : Nat) (hn1 : 1 ≤ n) (Br Bv rb v fl : Nat) (gp : Option Addr) (hv : v < x.n) (hfl : fl ≤ x.n) (F : Nat → Prop) (f1 : ¬ F L.b) (f2 : ¬ F L.br) (f3 : ¬ F L.bb) (f4 : ¬ F 0) (f5 : ¬ F Br) (f6 : ¬ F Bv) (f7 : ¬ F rb) (w : World) (h : IxMem w L x) (hrd : RdM w rb gp L fl)
    (hbr : w.cell? ⟨Br, 0, none⟩ = some (.pointer (some ⟨rb, 0, none⟩))) (hbv : w.cell? ⟨Bv, 0, none⟩ = some (.int .i64 (v : Nat))) :
    SeqStopsK Fence.wide n Tryz.prog 195 #[.pointer (some ⟨Br, 0, none⟩), .pointer (some ⟨Bv, 0, none⟩)] (dvEnc x v) (Fr F) (fun ys => ys = x.dvTo v fl) (fun pre => pre <+: x.dvTo v fl) (x.dvTo v fl).length w := fun l J Jx W hW hJ hJx hY h0 => by
  have hf0 := Fr.of_below hW
  have HX := hid (h.no hf0)
  have HRD := hid (hrd.no hf0)
  have cr := hf0.cell_some hbr (fun h => h)
  have cv := hf0.cell_some hbv (fun h => h)
  have CR := hid cr
  have CV := hid cv
  have lr := cell_lt cr
  have lv := cell_lt cv
  have lrb := cell_lt HRD.out.x
  simp only at lr lv lrb
  have HJ := hid hJ
  have HJX := hid hJx
  have HY := hid hY
  have H0 := hid h0
  have hn := h.ok.n2
  have hmin : min (fl : Int) (x.n : Int) = (fl : Nat) := by omega
  have HMIN := hid hmin
  clear hW hJ hJx hY h0 h hrd hbr hbv hf0 hmin
  refine callsIn_of_wp Tryz.func195 rfl trivial ?_ rfl
  simp only [Tryz.ntmps195, List.size_toArray, List.length_cons, List.length_nil, Nat.reduceAdd, Nat.reduceSub, Array.replicate_succ, Array.replicate_zero, List.push_toArray, List.append_toArray, List.nil_append, List.cons_append]
  gi_wp2
  have kk1 : ∀ m : Fam W, m.v.cell? ⟨Br, 0, none⟩ = some (.pointer (some ⟨rb, 0, none⟩)) := Fam.cell cr
  have kk2 : ∀ m : Fam W, m.v.cell? ⟨rb, 1, none⟩ = some (.pointer (some ⟨L.b, 0, none⟩)) := Fam.cell HRD.out.x
  have kk3 : ∀ m : Fam W, m.v.cell? ⟨rb, 2, none⟩ = some (.int .i64 (fl : Nat)) := Fam.cell HRD.out.f
  have kv : ∀ m : Fam W, Calls Tryz.prog 64 #[.pointer (some ⟨L.b, 0, none⟩)] m.v fun e w' => e = .returned (.int .i64 (x.n : Nat)) ∧ Fr No m.v w' := fun m => vertices_calls (HX.out.no m.h)
  refine wpIn_wide.2 (wp_region_fam (by kernel_rfl) (by kernel_rfl) ?_)
  repeat (go_big_quiet_step (exact Calls.fam (kv _)))
  refine wpQuiet_nil ?_
  rintro w2 ⟨⟨w2, hf2⟩, rfl⟩
  have HF2 := hid hf2
  clear kk1 kk2 kk3 kv hf2 cr cv
  rw [HMIN.out]
  gi_wp2
  gi_loopw [17] (fun i wr => ∃ k : Nat, k ≤ fl ∧ i = .int .i64 k ∧ J (x.dvTo v k) wr ∧ Fr F W wr) (fun i _ => fl - (intOf i).toNat)
  case atStart => exact ⟨0, Nat.zero_le _, rfl, HJ.out _ _ _ none H0.out (fr_grownBy HF2.out) (fun r h => by cases h), HF2.out.no⟩
  case round =>
    obtain ⟨k, hk, rfl, hj, hf⟩ := hrel
    have HJK := hid hj
    have HF := hid hf
    clear hj hf
    by_cases hlt : k < fl
    · have hlt2 : (k : Int) < fl := by omega
      have hkn : k < x.n := by omega
      have HXr := hid (HX.out.fr HF.out f1 f2 f3 f4)
      have cr := HF.out.cell_some CR.out f5
      have cv := HF.out.cell_some CV.out f6
      have cx := HF.out.cell_some HRD.out.x f7
      have lr2 : Br < wr.heap.size := cell_lt cr
      have lv2 : Bv < wr.heap.size := cell_lt cv
      have lrb2 : rb < wr.heap.size := cell_lt cx
      have hbr : x.byr (k : Nat) = (x.by_ k : Nat) := by
        unfold Ix.byr
        rw [if_pos ⟨by omega, by omega⟩, Int.toNat_natCast]
      have HBR := hid hbr
      have hst := x.dvTo_succ v k
      obtain ⟨z, hz⟩ : ∃ z, x.by_ k = z := ⟨_, rfl⟩
      have HZ := hid hz
      obtain ⟨⟨e0, e1, e2⟩, he⟩ : ∃ e, x.at_ (v : Nat) (x.by_ k : Nat) = e := ⟨_, rfl⟩
      have HE := hid he
      have HST := hid hst
      clear hbr hst hz he
      gi_wp2
      refine ⟨trivial, callsIn_wide.2 ((by_calls HXr.out (k : Nat)).mono ?_)⟩
      rw [HBR.out, HZ.out]
      rintro e w1 ⟨rfl, rfl⟩
      gi_wp2_with fail
      have hat : ∀ w', Fr No wr w' → Calls Tryz.prog 84 #[.pointer (some ⟨L.b, 0, none⟩), .int .i64 (v : Nat), .int .i64 (z : Nat)] w' fun e w'' => e = .returned (.agg #[.int .i64 e0, .int .i64 e1, .int .i64 e2]) ∧ Fr No w' w'' := fun w' hf => by
        have := at_calls (HXr.out.no hf) (v : Nat) (z : Nat)
        rw [← HZ.out, HE.out] at this
        rw [← HZ.out]
        exact this
      have HAT := hid hat
      clear hat
      refine wpIn_wide.2 ?_
      refine wp_region_held_drew (S := fun w' => Fr No wr w' ∧ w'.cell? ⟨Br, 0, none⟩ = some (.pointer (some ⟨rb, 0, none⟩)) ∧ w'.cell? ⟨rb, 1, none⟩ = some (.pointer (some ⟨L.b, 0, none⟩)) ∧ w'.cell? ⟨Bv, 0, none⟩ = some (.int .i64 (v : Nat))) (by kernel_rfl) ⟨(Fr.refl No wr).drew, cr, cx, cv⟩ ?_
      intro hS
      refine heldTake0 (v := .pointer (some ⟨rb, 0, none⟩)) (by kernel_rfl) (by kernel_rfl) (by kernel_rfl) (fun _ _ _ h => h) ⟨by rfl, fun w' hw => ?_⟩ hS ?_
      · obtain ⟨_, v1, v2, v3⟩ := hw
        go_simp
      try simp only [Act.put, List.setIfInBounds_toArray, List.set_cons_zero, List.set_cons_succ]
      refine heldTake1 (v := .pointer (some ⟨rb, 0, none⟩)) (by kernel_rfl) (by kernel_rfl) (by kernel_rfl) (fun _ _ _ h => h) ⟨by rfl, fun w' hw => ?_⟩ hS ?_
      · obtain ⟨_, v1, v2, v3⟩ := hw
        go_simp
      try simp only [Act.put, List.setIfInBounds_toArray, List.set_cons_zero, List.set_cons_succ]
      refine heldTake2 (v := .pointer (some ⟨rb, 1, none⟩)) (by kernel_rfl) (by kernel_rfl) (by kernel_rfl) (fun _ _ _ h => h) ⟨by rfl, fun w' hw => ?_⟩ hS ?_
      · obtain ⟨_, v1, v2, v3⟩ := hw
        go_simp
      try simp only [Act.put, List.setIfInBounds_toArray, List.set_cons_zero, List.set_cons_succ]
      refine heldTake3 (v := .pointer (some ⟨L.b, 0, none⟩)) (by kernel_rfl) (by kernel_rfl) (by kernel_rfl) (fun _ _ _ h => h) ⟨by rfl, fun w' hw => ?_⟩ hS ?_
      · obtain ⟨_, v1, v2, v3⟩ := hw
        go_simp
      try simp only [Act.put, List.setIfInBounds_toArray, List.set_cons_zero, List.set_cons_succ]
      refine heldTake4 (v := .int .i64 (v : Nat)) (by kernel_rfl) (by kernel_rfl) (by kernel_rfl) (fun _ _ _ h => h) ⟨by rfl, fun w' hw => ?_⟩ hS ?_
      · obtain ⟨_, v1, v2, v3⟩ := hw
        go_simp
      try simp only [Act.put, List.setIfInBounds_toArray, List.set_cons_zero, List.set_cons_succ]
      refine heldTake5 (v := .int .i64 (z : Nat)) (by kernel_rfl) (by kernel_rfl) (by kernel_rfl) (fun _ _ _ h => h) ⟨by rfl, fun w' hw => ?_⟩ hS ?_
      · obtain ⟨_, v1, v2, v3⟩ := hw
        go_simp
      try simp only [Act.put, List.setIfInBounds_toArray, List.set_cons_zero, List.set_cons_succ]
      have FS := hid hS.1
      clear hS
      refine heldTwo67 (by kernel_rfl) (fun K' hK => ?_) (fun K' hK => ?_)
      · go_simp
        refine (HAT.out _ (Fr.refl No wr).drew).mono ?_
        rintro e W5 ⟨rfl, hf5⟩
        have F5 : Fr No wr W5 := (Fr.refl No wr).drew.trans hf5
        clear hf5
        go_simp
        refine hK.out _ _ ⟨F5, F5.cell_some cr (fun h => h), F5.cell_some cx (fun h => h), F5.cell_some cv (fun h => h)⟩ (fun hS => ?_)
        clear hK K'
        try simp only [Act.put, List.setIfInBounds_toArray, List.set_cons_zero, List.set_cons_succ]
        refine heldOp7 (by kernel_rfl) (fun K' hK => ?_)
        go_simp
        have F6 : Fr No wr (W5.alloc (.cells #[.int .i64 0, .int .i64 0, .int .i64 0] 117)) := F5.alloc _
        have o6 := heap_new W5 (.cells #[.int .i64 0, .int .i64 0, .int .i64 0] 117)
        have hB6 : wr.heap.size ≤ W5.heap.size := F5.size
        obtain ⟨B6, eB6⟩ : ∃ B, W5.heap.size = B := ⟨_, rfl⟩
        have n0 := cell_of o6 0
        have n1 := cell_of o6 1
        have n2 := cell_of o6 2
        have z0 := (own_no (Fr.refl No _) W5.heap.size o6).2.1
        generalize W5.alloc (.cells #[.int .i64 0, .int .i64 0, .int .i64 0] 117) = W6 at F6 o6 n0 n1 n2 z0 ⊢
        rw [eB6] at hB6 o6 n0 n1 n2 z0 ⊢
        have n0 : W6.cell? ⟨B6, 0, none⟩ = some (.int .i64 0) := n0
        have n1 : W6.cell? ⟨B6, 1, none⟩ = some (.int .i64 0) := n1
        have n2 : W6.cell? ⟨B6, 2, none⟩ = some (.int .i64 0) := n2
        have z1 := z0 1
        have z2 := z0 2
        have z0 := z0 0
        clear eB6 o6
        refine hK.out _ _ ⟨F6, F6.cell_some cr (fun h => h), F6.cell_some cx (fun h => h), F6.cell_some cv (fun h => h)⟩ (fun hS => ?_)
        clear hK K'
        try simp only [Act.put, List.setIfInBounds_toArray, List.set_cons_zero, List.set_cons_succ]
        refine heldOp8 (by kernel_rfl) (fun K' hK => ?_)
        go_simp
        have F7 : Fr No wr (((W6.setCell ⟨B6, 0, none⟩ (.int .i64 e0)).setCell ⟨B6, 1, none⟩ (.int .i64 e1)).setCell ⟨B6, 2, none⟩ (.int .i64 e2)) := ((F6.setCell (p := ⟨B6, 0, none⟩) (.inr hB6) _).setCell (p := ⟨B6, 1, none⟩) (.inr hB6) _).setCell (p := ⟨B6, 2, none⟩) (.inr hB6) _
        refine hK.out _ _ ⟨F7, F7.cell_some cr (fun h => h), F7.cell_some cx (fun h => h), F7.cell_some cv (fun h => h)⟩ (fun hS => ?_)
        clear hK K'
        try simp only [Act.put, List.setIfInBounds_toArray, List.set_cons_zero, List.set_cons_succ]
        refine wpAnyH_done (by kernel_rfl) ?_ _
        have ce0 : (((W6.setCell ⟨B6, 0, none⟩ (.int .i64 e0)).setCell ⟨B6, 1, none⟩ (.int .i64 e1)).setCell ⟨B6, 2, none⟩ (.int .i64 e2)).cell? ⟨B6, 0, none⟩ = some (.int .i64 e0) := by simp [go_sem, n0, n1, n2]
        generalize ((W6.setCell ⟨B6, 0, none⟩ (.int .i64 e0)).setCell ⟨B6, 1, none⟩ (.int .i64 e1)).setCell ⟨B6, 2, none⟩ (.int .i64 e2) = W7 at F7 ce0 ⊢
        clear hS F6 n0 n1 n2 z0 z1 z2
        have CE0 := hid ce0
        have lB6 : B6 < W7.heap.size := cell_lt ce0
        have cv7 := F7.cell_some cv (fun h => h)
        have HF7 := hid F7
        clear F7 CE0 cr cv cx
        simp only [Exit.then]
        by_cases hne : e0 = 4611686018427387906
        · have g1 : (e0 != 4611686018427387906) = false := by simp; exact hne
          gi_wp2
          refine ⟨fun _ h => (by cases h), ?_⟩
          gi_wp2
          go_roundw
          case rel => exact ⟨k + 1, by omega, by go_num, by rw [HST.out, dif_neg (fun h => h.2 (by rw [HE.out]; exact hne))]; exact HJ.out _ _ _ none HJK.out (fr_grownBy HF7.out) (fun r h => by cases h), HF.out.trans HF7.out.no⟩
          case measure => simp [intOf]; omega
        · have g1 : (e0 != 4611686018427387906) = true := by simp; exact hne
          have hel : k < x.n ∧ (x.at_ (v : Nat) (x.by_ k : Nat)).w ≠ 4611686018427387906 := ⟨hkn, by rw [HE.out]; exact hne⟩
          have hst := HST.out
          rw [dif_pos hel] at hst
          have hpre := x.dvTo_pre v (k + 1) (fl - (k + 1))
          rw [show k + 1 + (fl - (k + 1)) = fl by omega] at hpre
          have hlen : (x.dvTo v k).length < (x.dvTo v fl).length := by
            have := hpre.length_le
            rw [hst] at this
            simp at this; omega
          have hyy : YieldAt Fence.wide (n - 1) Tryz.prog l #[.iface 224 (.agg #[.int .i64 (v : Nat), .int .i64 (z : Nat)]), .int .i64 e0] W7 fun e W' => (e = .returned (.bool true) ∧ J (x.dvTo v (k + 1)) W' ∧ Fr F W7 W') ∨ (e = .returned (.bool false) ∧ Jx (x.dvTo v (k + 1)) W') := by
            have := HY.out (x.dvTo v k) ⟨k, hel⟩ W7 (HJ.out _ _ _ none HJK.out (fr_grownBy HF7.out) (fun r h => by cases h)) hlen
            rw [← hst] at this
            unfold dvEnc at this
            rw [HE.out, HZ.out] at this
            exact this
          obtain ⟨fn, tm, asg, bd, hyr, hR⟩ := hyy
          have HR := hid hR
          have HPRE := hid hpre
          clear hst hpre hlen hR hel
          gi_wp2_with fail
          refine HR.out.mono ?_
          clear hyr
          rintro e W8 (⟨rfl, hj8, hk8⟩ | ⟨rfl, hj8⟩)
          · have HJ8 := hid hj8
            have HK8 := hid hk8
            clear hj8 hk8
            gi_wp2
            go_roundw
            case rel => exact ⟨k + 1, by omega, by go_num, HJ8.out, HF.out.trans (HF7.out.no.trans HK8.out)⟩
            case measure => simp [intOf]; omega
          · have HJ8 := hid hj8
            clear hj8
            gi_wp2
            refine bodyPost_ret (results_none rfl _ _ _) rfl ?_
            exact ⟨⟨_, rfl⟩, .inr ⟨_, HPRE.out, HJ8.out⟩⟩
      · go_simp
        have f6 : Fr No wr (wr.alloc (.cells #[.int .i64 0, .int .i64 0, .int .i64 0] 117)).drew := ((Fr.refl No wr).alloc _).drew
        have o6 : (wr.alloc (.cells #[.int .i64 0, .int .i64 0, .int .i64 0] 117)).drew.heap[wr.heap.size]? = some (.cells #[.int .i64 0, .int .i64 0, .int .i64 0] 117) := heap_new wr _
        have hB6 : wr.heap.size ≤ wr.heap.size := Nat.le_refl _
        have z0 : ∀ i, (wr.alloc (.cells #[.int .i64 0, .int .i64 0, .int .i64 0] 117)).drew.frozen? ⟨wr.heap.size, i, none⟩ = false := (own_no (Fr.refl No _) wr.heap.size (heap_new wr (.cells #[.int .i64 0, .int .i64 0, .int .i64 0] 117))).2.1
        generalize (wr.alloc (.cells #[.int .i64 0, .int .i64 0, .int .i64 0] 117)).drew = W5 at f6 o6 z0 ⊢
        refine hK.out _ _ ⟨f6, f6.cell_some cr (fun h => h), f6.cell_some cx (fun h => h), f6.cell_some cv (fun h => h)⟩ (fun hS => ?_)
        clear hK K'
        try simp only [Act.put, List.setIfInBounds_toArray, List.set_cons_zero, List.set_cons_succ]
        refine heldOp6 (by kernel_rfl) (fun K' hK => ?_)
        go_simp
        refine (HAT.out _ f6).mono ?_
        rintro e W6 ⟨rfl, hf6⟩
        have F6 : Fr No wr W6 := f6.trans hf6
        have n0 : W6.cell? ⟨wr.heap.size, 0, none⟩ = some (.int .i64 0) := hf6.cell_some (cell_of o6 0) (fun h => h)
        have n1 : W6.cell? ⟨wr.heap.size, 1, none⟩ = some (.int .i64 0) := hf6.cell_some (cell_of o6 1) (fun h => h)
        have n2 : W6.cell? ⟨wr.heap.size, 2, none⟩ = some (.int .i64 0) := hf6.cell_some (cell_of o6 2) (fun h => h)
        have l5 := heap_lt o6
        have z1 := (hf6.frozen (p := ⟨wr.heap.size, 1, none⟩) l5 (fun h => h)).trans (z0 1)
        have z2 := (hf6.frozen (p := ⟨wr.heap.size, 2, none⟩) l5 (fun h => h)).trans (z0 2)
        have z0 := (hf6.frozen (p := ⟨wr.heap.size, 0, none⟩) l5 (fun h => h)).trans (z0 0)
        obtain ⟨B6, eB6⟩ : ∃ B, wr.heap.size = B := ⟨_, rfl⟩
        have hB6 : wr.heap.size ≤ B6 := by omega
        rw [eB6] at n0 n1 n2 z0 z1 z2 ⊢
        clear hf6 f6 o6 l5 eB6
        go_simp
        refine hK.out _ _ ⟨F6, F6.cell_some cr (fun h => h), F6.cell_some cx (fun h => h), F6.cell_some cv (fun h => h)⟩ (fun hS => ?_)
        clear hK K'
        try simp only [Act.put, List.setIfInBounds_toArray, List.set_cons_zero, List.set_cons_succ]
        refine heldOp8 (by kernel_rfl) (fun K' hK => ?_)
        go_simp
        have F7 : Fr No wr (((W6.setCell ⟨B6, 0, none⟩ (.int .i64 e0)).setCell ⟨B6, 1, none⟩ (.int .i64 e1)).setCell ⟨B6, 2, none⟩ (.int .i64 e2)) := ((F6.setCell (p := ⟨B6, 0, none⟩) (.inr hB6) _).setCell (p := ⟨B6, 1, none⟩) (.inr hB6) _).setCell (p := ⟨B6, 2, none⟩) (.inr hB6) _
        refine hK.out _ _ ⟨F7, F7.cell_some cr (fun h => h), F7.cell_some cx (fun h => h), F7.cell_some cv (fun h => h)⟩ (fun hS => ?_)
        clear hK K'
        try simp only [Act.put, List.setIfInBounds_toArray, List.set_cons_zero, List.set_cons_succ]
        refine wpAnyH_done (by kernel_rfl) ?_ _
        have ce0 : (((W6.setCell ⟨B6, 0, none⟩ (.int .i64 e0)).setCell ⟨B6, 1, none⟩ (.int .i64 e1)).setCell ⟨B6, 2, none⟩ (.int .i64 e2)).cell? ⟨B6, 0, none⟩ = some (.int .i64 e0) := by simp [go_sem, n0, n1, n2]
        generalize ((W6.setCell ⟨B6, 0, none⟩ (.int .i64 e0)).setCell ⟨B6, 1, none⟩ (.int .i64 e1)).setCell ⟨B6, 2, none⟩ (.int .i64 e2) = W7 at F7 ce0 ⊢
        clear hS F6 n0 n1 n2 z0 z1 z2
        have CE0 := hid ce0
        have lB6 : B6 < W7.heap.size := cell_lt ce0
        have cv7 := F7.cell_some cv (fun h => h)
        have HF7 := hid F7
        clear F7 CE0 cr cv cx
        simp only [Exit.then]
        by_cases hne : e0 = 4611686018427387906
        · have g1 : (e0 != 4611686018427387906) = false := by simp; exact hne
          gi_wp2
          refine ⟨fun _ h => (by cases h), ?_⟩
          gi_wp2
          go_roundw
          case rel => exact ⟨k + 1, by omega, by go_num, by rw [HST.out, dif_neg (fun h => h.2 (by rw [HE.out]; exact hne))]; exact HJ.out _ _ _ none HJK.out (fr_grownBy HF7.out) (fun r h => by cases h), HF.out.trans HF7.out.no⟩
          case measure => simp [intOf]; omega
        · have g1 : (e0 != 4611686018427387906) = true := by simp; exact hne
          have hel : k < x.n ∧ (x.at_ (v : Nat) (x.by_ k : Nat)).w ≠ 4611686018427387906 := ⟨hkn, by rw [HE.out]; exact hne⟩
          have hst := HST.out
          rw [dif_pos hel] at hst
          have hpre := x.dvTo_pre v (k + 1) (fl - (k + 1))
          rw [show k + 1 + (fl - (k + 1)) = fl by omega] at hpre
          have hlen : (x.dvTo v k).length < (x.dvTo v fl).length := by
            have := hpre.length_le
            rw [hst] at this
            simp at this; omega
          have hyy : YieldAt Fence.wide (n - 1) Tryz.prog l #[.iface 224 (.agg #[.int .i64 (v : Nat), .int .i64 (z : Nat)]), .int .i64 e0] W7 fun e W' => (e = .returned (.bool true) ∧ J (x.dvTo v (k + 1)) W' ∧ Fr F W7 W') ∨ (e = .returned (.bool false) ∧ Jx (x.dvTo v (k + 1)) W') := by
            have := HY.out (x.dvTo v k) ⟨k, hel⟩ W7 (HJ.out _ _ _ none HJK.out (fr_grownBy HF7.out) (fun r h => by cases h)) hlen
            rw [← hst] at this
            unfold dvEnc at this
            rw [HE.out, HZ.out] at this
            exact this
          obtain ⟨fn, tm, asg, bd, hyr, hR⟩ := hyy
          have HR := hid hR
          have HPRE := hid hpre
          clear hst hpre hlen hR hel
          gi_wp2_with fail
          refine HR.out.mono ?_
          clear hyr
          rintro e W8 (⟨rfl, hj8, hk8⟩ | ⟨rfl, hj8⟩)
          · have HJ8 := hid hj8
            have HK8 := hid hk8
            clear hj8 hk8
            gi_wp2
            go_roundw
            case rel => exact ⟨k + 1, by omega, by go_num, HJ8.out, HF.out.trans (HF7.out.no.trans HK8.out)⟩
            case measure => simp [intOf]; omega
          · have HJ8 := hid hj8
            clear hj8
            gi_wp2
            refine bodyPost_ret (results_none rfl _ _ _) rfl ?_
            exact ⟨⟨_, rfl⟩, .inr ⟨_, HPRE.out, HJ8.out⟩⟩
    · obtain rfl : k = fl := by omega
      gi_wp2
      go_end0
      exact ⟨⟨_, rfl⟩, .inl ⟨_, rfl, HJK.out⟩⟩

end Go.Proofs.YtoepbhacpidcbaaGreatDoor
