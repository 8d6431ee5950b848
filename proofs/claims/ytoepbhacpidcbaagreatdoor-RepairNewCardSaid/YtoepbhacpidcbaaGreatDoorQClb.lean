/- A region that draws its order, in a round of a range over a function, where some operations may be taken first. -/
import Derived.Deep.RegionHeld3
import Derived.WalkMore
import Derived.Test.YtoepbhacpidcbaaGreatDoorQBase
import Derived.Test.YtoepbhacpidcbaaGreatDoorQIdx
import Derived.Test.YtoepbhacpidcbaaGreatDoorQPerm
import Derived.Test.YtoepbhacpidcbaaGreatDoorQIdxB
import Derived.Test.YtoepbhacpidcbaaGreatDoorQRef
import Derived.Test.YtoepbhacpidcbaaGreatDoorQUnref
import Derived.Test.YtoepbhacpidcbaaGreatDoorQItr
import Derived.Test.YtoepbhacpidcbaaGreatDoorQUnE
import Derived.Test.YtoepbhacpidcbaaGreatDoorQDst
import Derived.Test.YtoepbhacpidcbaaGreatDoorQLnk
import Derived.Test.YtoepbhacpidcbaaGreatDoorQLks
import Derived.Test.YtoepbhacpidcbaaGreatDoorQMid
import Derived.Test.YtoepbhacpidcbaaGreatDoorQBig
import Derived.Test.YtoepbhacpidcbaaGreatDoorQCp2
import Derived.Test.YtoepbhacpidcbaaGreatDoorQGoes
import Derived.Test.YtoepbhacpidcbaaGreatDoorQGOps
import Derived.Test.YtoepbhacpidcbaaGreatDoorQGB
import Derived.Test.YtoepbhacpidcbaaGreatDoorQG8
import Derived.Test.YtoepbhacpidcbaaGreatDoorQWh
import Derived.Test.YtoepbhacpidcbaaGreatDoorQWk
import Derived.Test.YtoepbhacpidcbaaGreatDoorQHpK
import Derived.Test.YtoepbhacpidcbaaGreatDoorQSqO
import Derived.Test.YtoepbhacpidcbaaGreatDoorQRBt
import Derived.Test.YtoepbhacpidcbaaGreatDoorQAll
import Derived.Test.YtoepbhacpidcbaaGreatDoorQWhl
import Derived.Test.YtoepbhacpidcbaaGreatDoorQKl
import Derived.Test.YtoepbhacpidcbaaGreatDoorQRB
import Derived.Test.YtoepbhacpidcbaaGreatDoorQRbd
import Derived.Test.YtoepbhacpidcbaaGreatDoorQBuL

set_option linter.unusedVariables false
set_option linter.unusedSimpArgs false
namespace Go.Proofs.YtoepbhacpidcbaaGreatDoor
open Go.RowKit Go.Deep

section
variable {P : Program} {ops : Array Oper} {md : Region.Mode}
theorem wpInR_of_wp {o : Oper} {a : Act} {K : Act → World → Prop} {K' : Act → World → Prop} {X : Act → World → Prop} {Q' : Exit → Act → World → Prop} {w : World} {l n : Nat} (hnd : noDefer o.op = true) (h : ∀ a w, K a w → K' a w) (hh : o.wp P a w K (sureQ X)) :
    o.wpIn (Fence.wide.inRound l) n P a w K' Q' := by
  unfold Oper.wp at hh
  unfold Oper.wpIn
  refine ⟨fun _ _ => trivial, ?_⟩
  rw [Oper.semAt_eq _ _ _ (by intro c e; rw [e] at hnd; cases hnd)]
  generalize (execOp a.eval o).run P w = r at *
  cases r with
  | ok nx w' =>
    cases nx <;> simp only [Oper.upon] at hh <;> simp only [Oper.uponIn]
    case value u => exact h _ _ hh
    case skip => exact h _ _ hh
    case defer d => exact h _ _ hh
    case enter f args =>
      refine ⟨(fun h => by cases h), CallsIn.inRound l (callsIn_wide.2 (hh.mono fun e w'' he => ?_))⟩
      cases e with
      | returned v => exact h _ _ he
      | panicked c => exact he.elim
      | outgrown => exact (letsOut_sure he).elim
    case row f args => exact ⟨(fun h => by cases h), fun c cs hr => by
      obtain ⟨v, w3, h1, h2⟩ := hh c cs
      exact ⟨v, w3, h _ _ h1, stepsIn_wide.2 h2⟩⟩
  | halt x w' =>
    cases x <;> simp only [Oper.upon] at hh
    all_goals first
      | exact hh.elim
      | (exact (hh : False).elim)
theorem wpOpInR_of_wpOp {i l n : Nat} {a : Act} {K : Act → World → Prop} {K' : Act → World → Prop} {X : Act → World → Prop} {Q' : Exit → Act → World → Prop} {w : World} (hnd : ∀ (i : Nat) (o : Oper), ops[i]? = some o → noDefer o.op = true) (h : ∀ a w, K a w → K' a w) (hh : wpOp P ops (sureQ X) i K a w) :
    wpOpIn (Fence.wide.inRound l) n P ops Q' i K' a w := by
  unfold wpOp at hh
  unfold wpOpIn
  split
  · rename_i ho; simp only [ho] at hh; exact h _ _ hh
  · rename_i o ho
    simp only [ho] at hh
    split
    · rename_i hw
      simp only [hw, if_true] at hh
      rcases hh with h3 | ⟨_, h3⟩
      · exact wpInR_of_wp (hnd _ _ ho) h h3
      · exact (letsOut_sure h3).elim
    · rename_i hw; simp only [hw] at hh; exact ⟨fun _ _ => trivial, h _ _ hh⟩
theorem wpAnyInR_of_wpAny {l n : Nat} {X : Act → World → Prop} {Q' : Exit → Act → World → Prop} (hnd : ∀ (i : Nat) (o : Oper), ops[i]? = some o → noDefer o.op = true) (hQ : ∀ a w, X a w → Q' .normal a w) : ∀ (fuel : Nat) (listed : Array Bool) (a : Act) (w : World),
    wpAny P md ops (sureQ X) fuel listed a w → wpAnyIn (Fence.wide.inRound l) n P md ops Q' fuel listed a w
  | 0, _, _, _, h => ⟨h.1, hQ _ _ h.2⟩
  | fuel + 1, _, _, _, h => ⟨fun h0 => hQ _ _ (h.1 h0), fun i hi => wpOpInR_of_wpOp hnd (fun a' w' hh => wpAnyInR_of_wpAny hnd hQ fuel _ a' w' hh) (h.2 i hi)⟩
end

theorem wpIn_region_held {P : Program} {id lp n : Nat} {Q : Exit → Act → World → Prop} {a : Act} {w : World} {l : List Oper} {S : World → Prop} (hm : P.follows .mixedOrders = true) (hd : l.all (fun o => noDefer o.op) = true) (hS : S w.drew)
    (h : S w.drew → wpAnyH P .any l.toArray (sureQ (Q .normal)) S l.toArray.size (Array.replicate l.toArray.size false) a w.drew) : (Code.region id l.toArray true).wpIn (Fence.wide.inRound lp) n P Q a w := by
  have hnd : ∀ (i : Nat) o, l.toArray[i]? = some o → noDefer o.op = true := fun i o ho => by
    rw [List.all_eq_true] at hd
    exact hd o (List.mem_of_getElem? (by simpa using ho))
  exact wpIn_region_any hm (wpAnyInR_of_wpAny hnd (fun _ _ h => h) _ _ _ _ (wpAny_of_held _ _ _ _ (h hS)))

section
variable {P : Program} {md : Region.Mode} {Q : Exit → Act → World → Prop} {S : World → Prop} {v : Value} {fuel : Nat} {listed : Array Bool} {a : Act} {w : World}
theorem heldTake0 {o : Oper} {l : List Oper} (hs : Region.noSelect (o :: l).toArray = true) (hf : Region.free md (o :: l).toArray listed 0 = true) (hr : (Region.ready md (o :: l).toArray listed).contains 0 = true) (hQ : ∀ c a w, Q (.panic c) (a.put o.dst v) w → Q (.panic c) a w) (hy : Region.wanted o (yielded (o :: l).toArray a.tmps) = true ∧ ∀ w, S w → (execOp a.eval o).run P w = .ok (.value v) w) (hS : S w) (h : wpAnyH P md (o :: l).toArray Q S fuel (listed.setIfInBounds 0 true) (a.put o.dst v) w) : wpAnyH P md (o :: l).toArray Q S (fuel + 1) listed a w :=
  wpAnyH_take (i := 0) (oi := o) rfl hs hf hr hQ (Or.inl hy) hS h
theorem heldTake1 {x0 o : Oper} {l : List Oper} (hs : Region.noSelect (x0 :: o :: l).toArray = true) (hf : Region.free md (x0 :: o :: l).toArray listed 1 = true) (hr : (Region.ready md (x0 :: o :: l).toArray listed).contains 1 = true) (hQ : ∀ c a w, Q (.panic c) (a.put o.dst v) w → Q (.panic c) a w) (hy : Region.wanted o (yielded (x0 :: o :: l).toArray a.tmps) = true ∧ ∀ w, S w → (execOp a.eval o).run P w = .ok (.value v) w) (hS : S w) (h : wpAnyH P md (x0 :: o :: l).toArray Q S fuel (listed.setIfInBounds 1 true) (a.put o.dst v) w) : wpAnyH P md (x0 :: o :: l).toArray Q S (fuel + 1) listed a w :=
  wpAnyH_take (i := 1) (oi := o) rfl hs hf hr hQ (Or.inl hy) hS h
theorem heldTake2 {x0 x1 o : Oper} {l : List Oper} (hs : Region.noSelect (x0 :: x1 :: o :: l).toArray = true) (hf : Region.free md (x0 :: x1 :: o :: l).toArray listed 2 = true) (hr : (Region.ready md (x0 :: x1 :: o :: l).toArray listed).contains 2 = true) (hQ : ∀ c a w, Q (.panic c) (a.put o.dst v) w → Q (.panic c) a w) (hy : Region.wanted o (yielded (x0 :: x1 :: o :: l).toArray a.tmps) = true ∧ ∀ w, S w → (execOp a.eval o).run P w = .ok (.value v) w) (hS : S w) (h : wpAnyH P md (x0 :: x1 :: o :: l).toArray Q S fuel (listed.setIfInBounds 2 true) (a.put o.dst v) w) : wpAnyH P md (x0 :: x1 :: o :: l).toArray Q S (fuel + 1) listed a w :=
  wpAnyH_take (i := 2) (oi := o) rfl hs hf hr hQ (Or.inl hy) hS h
theorem heldTake3 {x0 x1 x2 o : Oper} {l : List Oper} (hs : Region.noSelect (x0 :: x1 :: x2 :: o :: l).toArray = true) (hf : Region.free md (x0 :: x1 :: x2 :: o :: l).toArray listed 3 = true) (hr : (Region.ready md (x0 :: x1 :: x2 :: o :: l).toArray listed).contains 3 = true) (hQ : ∀ c a w, Q (.panic c) (a.put o.dst v) w → Q (.panic c) a w) (hy : Region.wanted o (yielded (x0 :: x1 :: x2 :: o :: l).toArray a.tmps) = true ∧ ∀ w, S w → (execOp a.eval o).run P w = .ok (.value v) w) (hS : S w) (h : wpAnyH P md (x0 :: x1 :: x2 :: o :: l).toArray Q S fuel (listed.setIfInBounds 3 true) (a.put o.dst v) w) : wpAnyH P md (x0 :: x1 :: x2 :: o :: l).toArray Q S (fuel + 1) listed a w :=
  wpAnyH_take (i := 3) (oi := o) rfl hs hf hr hQ (Or.inl hy) hS h
theorem heldTake4 {x0 x1 x2 x3 o : Oper} {l : List Oper} (hs : Region.noSelect (x0 :: x1 :: x2 :: x3 :: o :: l).toArray = true) (hf : Region.free md (x0 :: x1 :: x2 :: x3 :: o :: l).toArray listed 4 = true) (hr : (Region.ready md (x0 :: x1 :: x2 :: x3 :: o :: l).toArray listed).contains 4 = true) (hQ : ∀ c a w, Q (.panic c) (a.put o.dst v) w → Q (.panic c) a w) (hy : Region.wanted o (yielded (x0 :: x1 :: x2 :: x3 :: o :: l).toArray a.tmps) = true ∧ ∀ w, S w → (execOp a.eval o).run P w = .ok (.value v) w) (hS : S w) (h : wpAnyH P md (x0 :: x1 :: x2 :: x3 :: o :: l).toArray Q S fuel (listed.setIfInBounds 4 true) (a.put o.dst v) w) : wpAnyH P md (x0 :: x1 :: x2 :: x3 :: o :: l).toArray Q S (fuel + 1) listed a w :=
  wpAnyH_take (i := 4) (oi := o) rfl hs hf hr hQ (Or.inl hy) hS h
theorem heldTake5 {x0 x1 x2 x3 x4 o : Oper} {l : List Oper} (hs : Region.noSelect (x0 :: x1 :: x2 :: x3 :: x4 :: o :: l).toArray = true) (hf : Region.free md (x0 :: x1 :: x2 :: x3 :: x4 :: o :: l).toArray listed 5 = true) (hr : (Region.ready md (x0 :: x1 :: x2 :: x3 :: x4 :: o :: l).toArray listed).contains 5 = true) (hQ : ∀ c a w, Q (.panic c) (a.put o.dst v) w → Q (.panic c) a w) (hy : Region.wanted o (yielded (x0 :: x1 :: x2 :: x3 :: x4 :: o :: l).toArray a.tmps) = true ∧ ∀ w, S w → (execOp a.eval o).run P w = .ok (.value v) w) (hS : S w) (h : wpAnyH P md (x0 :: x1 :: x2 :: x3 :: x4 :: o :: l).toArray Q S fuel (listed.setIfInBounds 5 true) (a.put o.dst v) w) : wpAnyH P md (x0 :: x1 :: x2 :: x3 :: x4 :: o :: l).toArray Q S (fuel + 1) listed a w :=
  wpAnyH_take (i := 5) (oi := o) rfl hs hf hr hQ (Or.inl hy) hS h
theorem heldTake6 {x0 x1 x2 x3 x4 x5 o : Oper} {l : List Oper} (hs : Region.noSelect (x0 :: x1 :: x2 :: x3 :: x4 :: x5 :: o :: l).toArray = true) (hf : Region.free md (x0 :: x1 :: x2 :: x3 :: x4 :: x5 :: o :: l).toArray listed 6 = true) (hr : (Region.ready md (x0 :: x1 :: x2 :: x3 :: x4 :: x5 :: o :: l).toArray listed).contains 6 = true) (hQ : ∀ c a w, Q (.panic c) (a.put o.dst v) w → Q (.panic c) a w) (hy : Region.wanted o (yielded (x0 :: x1 :: x2 :: x3 :: x4 :: x5 :: o :: l).toArray a.tmps) = true ∧ ∀ w, S w → (execOp a.eval o).run P w = .ok (.value v) w) (hS : S w) (h : wpAnyH P md (x0 :: x1 :: x2 :: x3 :: x4 :: x5 :: o :: l).toArray Q S fuel (listed.setIfInBounds 6 true) (a.put o.dst v) w) : wpAnyH P md (x0 :: x1 :: x2 :: x3 :: x4 :: x5 :: o :: l).toArray Q S (fuel + 1) listed a w :=
  wpAnyH_take (i := 6) (oi := o) rfl hs hf hr hQ (Or.inl hy) hS h
theorem heldOp7 {x0 x1 x2 x3 x4 x5 x6 o : Oper} {l : List Oper} (hr : Region.ready md (x0 :: x1 :: x2 :: x3 :: x4 :: x5 :: x6 :: o :: l).toArray listed = [7]) (h : ∀ K' : Act → World → Prop, Shut (∀ a w, S w → (S w → wpAnyH P md (x0 :: x1 :: x2 :: x3 :: x4 :: x5 :: x6 :: o :: l).toArray Q S fuel (listed.setIfInBounds 7 true) a w) → K' a w) → if Region.wanted o (yielded (x0 :: x1 :: x2 :: x3 :: x4 :: x5 :: x6 :: o :: l).toArray a.tmps) = true then Oper.wp P o a w K' Q else K' (a.put o.dst undef) w) : wpAnyH P md (x0 :: x1 :: x2 :: x3 :: x4 :: x5 :: x6 :: o :: l).toArray Q S (fuel + 1) listed a w :=
  wpAnyH_ready (rs := [7]) hr (by simp) (AllReadyH.cons (o := o) rfl h AllReadyH.nil)
theorem heldOp8 {x0 x1 x2 x3 x4 x5 x6 x7 o : Oper} {l : List Oper} (hr : Region.ready md (x0 :: x1 :: x2 :: x3 :: x4 :: x5 :: x6 :: x7 :: o :: l).toArray listed = [8]) (h : ∀ K' : Act → World → Prop, Shut (∀ a w, S w → (S w → wpAnyH P md (x0 :: x1 :: x2 :: x3 :: x4 :: x5 :: x6 :: x7 :: o :: l).toArray Q S fuel (listed.setIfInBounds 8 true) a w) → K' a w) → if Region.wanted o (yielded (x0 :: x1 :: x2 :: x3 :: x4 :: x5 :: x6 :: x7 :: o :: l).toArray a.tmps) = true then Oper.wp P o a w K' Q else K' (a.put o.dst undef) w) : wpAnyH P md (x0 :: x1 :: x2 :: x3 :: x4 :: x5 :: x6 :: x7 :: o :: l).toArray Q S (fuel + 1) listed a w :=
  wpAnyH_ready (rs := [8]) hr (by simp) (AllReadyH.cons (o := o) rfl h AllReadyH.nil)
theorem heldOp9 {x0 x1 x2 x3 x4 x5 x6 x7 x8 o : Oper} {l : List Oper} (hr : Region.ready md (x0 :: x1 :: x2 :: x3 :: x4 :: x5 :: x6 :: x7 :: x8 :: o :: l).toArray listed = [9]) (h : ∀ K' : Act → World → Prop, Shut (∀ a w, S w → (S w → wpAnyH P md (x0 :: x1 :: x2 :: x3 :: x4 :: x5 :: x6 :: x7 :: x8 :: o :: l).toArray Q S fuel (listed.setIfInBounds 9 true) a w) → K' a w) → if Region.wanted o (yielded (x0 :: x1 :: x2 :: x3 :: x4 :: x5 :: x6 :: x7 :: x8 :: o :: l).toArray a.tmps) = true then Oper.wp P o a w K' Q else K' (a.put o.dst undef) w) : wpAnyH P md (x0 :: x1 :: x2 :: x3 :: x4 :: x5 :: x6 :: x7 :: x8 :: o :: l).toArray Q S (fuel + 1) listed a w :=
  wpAnyH_ready (rs := [9]) hr (by simp) (AllReadyH.cons (o := o) rfl h AllReadyH.nil)
end

end Go.Proofs.YtoepbhacpidcbaaGreatDoor

/- climb.stalls: is what was come to from below come to better from above; walked. -/
set_option linter.unusedVariables false
set_option linter.unusedSimpArgs false
namespace Go.Proofs.YtoepbhacpidcbaaGreatDoor
open Go.RowKit Go.Shelf Go.Deep

attribute [local go_sem] Oper.semAt_some

end Go.Proofs.YtoepbhacpidcbaaGreatDoor

/- climb.Up, Down, Dist and Meet; walked. -/
set_option linter.unusedVariables false
set_option linter.unusedSimpArgs false
namespace Go.Proofs.YtoepbhacpidcbaaGreatDoor
open Go.RowKit Go.Shelf Go.Deep

end Go.Proofs.YtoepbhacpidcbaaGreatDoor

/- climb.sides, Dist and Meet; walked. -/
set_option linter.unusedVariables false
set_option linter.unusedSimpArgs false
namespace Go.Proofs.YtoepbhacpidcbaaGreatDoor
open Go.RowKit Go.Shelf Go.Deep

end Go.Proofs.YtoepbhacpidcbaaGreatDoor

/- The climb law's check that its parts are awake; walked. -/
set_option linter.unusedVariables false
set_option linter.unusedSimpArgs false
namespace Go.Proofs.YtoepbhacpidcbaaGreatDoor
open Go.RowKit Go.Shelf Go.Deep

end Go.Proofs.YtoepbhacpidcbaaGreatDoor
