/- A region that draws its order, in a round of a range over a function, where some operations may be taken first. -/
import Derived.Test.YtpkocidcfnlbiaaDoorThz
import Derived.Test.YtpkocidcfnlbiaaDoorRow2
import Derived.Deep.RegionHeld3
import Derived.Test.YtpkocidcfnlbiaaDoorCl
import Derived.WalkMore
import Derived.Test.YtpkocidcfnlbiaaDoorBuL
import Derived.Test.YtpkocidcfnlbiaaDoorAw6
set_option linter.unusedVariables false
set_option linter.unusedSimpArgs false
namespace Go.Proofs.YtpkocidcfnlbiaaDoor
open Go.RowKit Go.Deep

section
variable {P : Program} {ops : Array Oper} {md : Region.Mode}
theorem wpInR_of_wp {o : Oper} {a : Act} {K : Act → World → Prop} {K' : Act → World → Prop} {X : Act → World → Prop} {Q' : Exit → Act → World → Prop} {w : World} {l n : Nat} (hnd : noDefer o.op = true) (h : ∀ a w, K a w → K' a w) (hh : o.wp P a w K (sureQ X)) :
    o.wpIn (Fence.wide.inRound l) n P a w K' Q' := by
  unfold Oper.wp at hh
  unfold Oper.wpIn
  refine ⟨fun _ _ => trivial, ?_⟩
  rw [Oper.semAt_eq _ _ _ (by intro c e; rw [e] at hnd; cases hnd)]
  generalize (execOp a.eval o).run P w = r at *
  cases r with
  | ok nx w' =>
    cases nx <;> simp only [Oper.upon] at hh <;> simp only [Oper.uponIn]
    case value u => exact h _ _ hh
    case skip => exact h _ _ hh
    case defer d => exact h _ _ hh
    case enter f args =>
      refine ⟨(fun h => by cases h), CallsIn.inRound l (callsIn_wide.2 (hh.mono fun e w'' he => ?_))⟩
      cases e with
      | returned v => exact h _ _ he
      | panicked c => exact he.elim
      | outgrown => exact (letsOut_sure he).elim
    case row f args => exact ⟨(fun h => by cases h), fun c cs hr => by
      obtain ⟨v, w3, h1, h2⟩ := hh c cs
      exact ⟨v, w3, h _ _ h1, stepsIn_wide.2 h2⟩⟩
  | halt x w' =>
    cases x <;> simp only [Oper.upon] at hh
    all_goals first
      | exact hh.elim
      | (exact (hh : False).elim)
theorem wpOpInR_of_wpOp {i l n : Nat} {a : Act} {K : Act → World → Prop} {K' : Act → World → Prop} {X : Act → World → Prop} {Q' : Exit → Act → World → Prop} {w : World} (hnd : ∀ (i : Nat) (o : Oper), ops[i]? = some o → noDefer o.op = true) (h : ∀ a w, K a w → K' a w) (hh : wpOp P ops (sureQ X) i K a w) :
    wpOpIn (Fence.wide.inRound l) n P ops Q' i K' a w := by
  unfold wpOp at hh
  unfold wpOpIn
  split
  · rename_i ho; simp only [ho] at hh; exact h _ _ hh
  · rename_i o ho
    simp only [ho] at hh
    split
    · rename_i hw
      simp only [hw, if_true] at hh
      rcases hh with h3 | ⟨_, h3⟩
      · exact wpInR_of_wp (hnd _ _ ho) h h3
      · exact (letsOut_sure h3).elim
    · rename_i hw; simp only [hw] at hh; exact ⟨fun _ _ => trivial, h _ _ hh⟩
theorem wpAnyInR_of_wpAny {l n : Nat} {X : Act → World → Prop} {Q' : Exit → Act → World → Prop} (hnd : ∀ (i : Nat) (o : Oper), ops[i]? = some o → noDefer o.op = true) (hQ : ∀ a w, X a w → Q' .normal a w) : ∀ (fuel : Nat) (listed : Array Bool) (a : Act) (w : World),
    wpAny P md ops (sureQ X) fuel listed a w → wpAnyIn (Fence.wide.inRound l) n P md ops Q' fuel listed a w
  | 0, _, _, _, h => ⟨h.1, hQ _ _ h.2⟩
  | fuel + 1, _, _, _, h => ⟨fun h0 => hQ _ _ (h.1 h0), fun i hi => wpOpInR_of_wpOp hnd (fun a' w' hh => wpAnyInR_of_wpAny hnd hQ fuel _ a' w' hh) (h.2 i hi)⟩
end

theorem wpIn_region_held {P : Program} {id lp n : Nat} {Q : Exit → Act → World → Prop} {a : Act} {w : World} {l : List Oper} {S : World → Prop} (hm : P.follows .mixedOrders = true) (hd : l.all (fun o => noDefer o.op) = true) (hS : S w.drew)
    (h : S w.drew → wpAnyH P .any l.toArray (sureQ (Q .normal)) S l.toArray.size (Array.replicate l.toArray.size false) a w.drew) : (Code.region id l.toArray true).wpIn (Fence.wide.inRound lp) n P Q a w := by
  have hnd : ∀ (i : Nat) o, l.toArray[i]? = some o → noDefer o.op = true := fun i o ho => by
    rw [List.all_eq_true] at hd
    exact hd o (List.mem_of_getElem? (by simpa using ho))
  exact wpIn_region_any hm (wpAnyInR_of_wpAny hnd (fun _ _ h => h) _ _ _ _ (wpAny_of_held _ _ _ _ (h hS)))

section
variable {P : Program} {md : Region.Mode} {Q : Exit → Act → World → Prop} {S : World → Prop} {v : Value} {fuel : Nat} {listed : Array Bool} {a : Act} {w : World}
theorem heldTake0 {o : Oper} {l : List Oper} (hs : Region.noSelect (o :: l).toArray = true) (hf : Region.free md (o :: l).toArray listed 0 = true) (hr : (Region.ready md (o :: l).toArray listed).contains 0 = true) (hQ : ∀ c a w, Q (.panic c) (a.put o.dst v) w → Q (.panic c) a w) (hy : Region.wanted o (yielded (o :: l).toArray a.tmps) = true ∧ ∀ w, S w → (execOp a.eval o).run P w = .ok (.value v) w) (hS : S w) (h : wpAnyH P md (o :: l).toArray Q S fuel (listed.setIfInBounds 0 true) (a.put o.dst v) w) : wpAnyH P md (o :: l).toArray Q S (fuel + 1) listed a w :=
  wpAnyH_take (i := 0) (oi := o) rfl hs hf hr hQ (Or.inl hy) hS h
theorem heldOp0 {o : Oper} {l : List Oper} (hr : Region.ready md (o :: l).toArray listed = [0]) (h : ∀ K' : Act → World → Prop, Shut (∀ a w, S w → (S w → wpAnyH P md (o :: l).toArray Q S fuel (listed.setIfInBounds 0 true) a w) → K' a w) → if Region.wanted o (yielded (o :: l).toArray a.tmps) = true then Oper.wp P o a w K' Q else K' (a.put o.dst undef) w) : wpAnyH P md (o :: l).toArray Q S (fuel + 1) listed a w :=
  wpAnyH_ready (rs := [0]) hr (by simp) (AllReadyH.cons (o := o) rfl h AllReadyH.nil)
theorem heldTake1 {x0 o : Oper} {l : List Oper} (hs : Region.noSelect (x0 :: o :: l).toArray = true) (hf : Region.free md (x0 :: o :: l).toArray listed 1 = true) (hr : (Region.ready md (x0 :: o :: l).toArray listed).contains 1 = true) (hQ : ∀ c a w, Q (.panic c) (a.put o.dst v) w → Q (.panic c) a w) (hy : Region.wanted o (yielded (x0 :: o :: l).toArray a.tmps) = true ∧ ∀ w, S w → (execOp a.eval o).run P w = .ok (.value v) w) (hS : S w) (h : wpAnyH P md (x0 :: o :: l).toArray Q S fuel (listed.setIfInBounds 1 true) (a.put o.dst v) w) : wpAnyH P md (x0 :: o :: l).toArray Q S (fuel + 1) listed a w :=
  wpAnyH_take (i := 1) (oi := o) rfl hs hf hr hQ (Or.inl hy) hS h
theorem heldOp1 {x0 o : Oper} {l : List Oper} (hr : Region.ready md (x0 :: o :: l).toArray listed = [1]) (h : ∀ K' : Act → World → Prop, Shut (∀ a w, S w → (S w → wpAnyH P md (x0 :: o :: l).toArray Q S fuel (listed.setIfInBounds 1 true) a w) → K' a w) → if Region.wanted o (yielded (x0 :: o :: l).toArray a.tmps) = true then Oper.wp P o a w K' Q else K' (a.put o.dst undef) w) : wpAnyH P md (x0 :: o :: l).toArray Q S (fuel + 1) listed a w :=
  wpAnyH_ready (rs := [1]) hr (by simp) (AllReadyH.cons (o := o) rfl h AllReadyH.nil)
theorem heldTake2 {x0 x1 o : Oper} {l : List Oper} (hs : Region.noSelect (x0 :: x1 :: o :: l).toArray = true) (hf : Region.free md (x0 :: x1 :: o :: l).toArray listed 2 = true) (hr : (Region.ready md (x0 :: x1 :: o :: l).toArray listed).contains 2 = true) (hQ : ∀ c a w, Q (.panic c) (a.put o.dst v) w → Q (.panic c) a w) (hy : Region.wanted o (yielded (x0 :: x1 :: o :: l).toArray a.tmps) = true ∧ ∀ w, S w → (execOp a.eval o).run P w = .ok (.value v) w) (hS : S w) (h : wpAnyH P md (x0 :: x1 :: o :: l).toArray Q S fuel (listed.setIfInBounds 2 true) (a.put o.dst v) w) : wpAnyH P md (x0 :: x1 :: o :: l).toArray Q S (fuel + 1) listed a w :=
  wpAnyH_take (i := 2) (oi := o) rfl hs hf hr hQ (Or.inl hy) hS h
theorem heldOp2 {x0 x1 o : Oper} {l : List Oper} (hr : Region.ready md (x0 :: x1 :: o :: l).toArray listed = [2]) (h : ∀ K' : Act → World → Prop, Shut (∀ a w, S w → (S w → wpAnyH P md (x0 :: x1 :: o :: l).toArray Q S fuel (listed.setIfInBounds 2 true) a w) → K' a w) → if Region.wanted o (yielded (x0 :: x1 :: o :: l).toArray a.tmps) = true then Oper.wp P o a w K' Q else K' (a.put o.dst undef) w) : wpAnyH P md (x0 :: x1 :: o :: l).toArray Q S (fuel + 1) listed a w :=
  wpAnyH_ready (rs := [2]) hr (by simp) (AllReadyH.cons (o := o) rfl h AllReadyH.nil)
theorem heldTake3 {x0 x1 x2 o : Oper} {l : List Oper} (hs : Region.noSelect (x0 :: x1 :: x2 :: o :: l).toArray = true) (hf : Region.free md (x0 :: x1 :: x2 :: o :: l).toArray listed 3 = true) (hr : (Region.ready md (x0 :: x1 :: x2 :: o :: l).toArray listed).contains 3 = true) (hQ : ∀ c a w, Q (.panic c) (a.put o.dst v) w → Q (.panic c) a w) (hy : Region.wanted o (yielded (x0 :: x1 :: x2 :: o :: l).toArray a.tmps) = true ∧ ∀ w, S w → (execOp a.eval o).run P w = .ok (.value v) w) (hS : S w) (h : wpAnyH P md (x0 :: x1 :: x2 :: o :: l).toArray Q S fuel (listed.setIfInBounds 3 true) (a.put o.dst v) w) : wpAnyH P md (x0 :: x1 :: x2 :: o :: l).toArray Q S (fuel + 1) listed a w :=
  wpAnyH_take (i := 3) (oi := o) rfl hs hf hr hQ (Or.inl hy) hS h
theorem heldOp3 {x0 x1 x2 o : Oper} {l : List Oper} (hr : Region.ready md (x0 :: x1 :: x2 :: o :: l).toArray listed = [3]) (h : ∀ K' : Act → World → Prop, Shut (∀ a w, S w → (S w → wpAnyH P md (x0 :: x1 :: x2 :: o :: l).toArray Q S fuel (listed.setIfInBounds 3 true) a w) → K' a w) → if Region.wanted o (yielded (x0 :: x1 :: x2 :: o :: l).toArray a.tmps) = true then Oper.wp P o a w K' Q else K' (a.put o.dst undef) w) : wpAnyH P md (x0 :: x1 :: x2 :: o :: l).toArray Q S (fuel + 1) listed a w :=
  wpAnyH_ready (rs := [3]) hr (by simp) (AllReadyH.cons (o := o) rfl h AllReadyH.nil)
theorem heldTake4 {x0 x1 x2 x3 o : Oper} {l : List Oper} (hs : Region.noSelect (x0 :: x1 :: x2 :: x3 :: o :: l).toArray = true) (hf : Region.free md (x0 :: x1 :: x2 :: x3 :: o :: l).toArray listed 4 = true) (hr : (Region.ready md (x0 :: x1 :: x2 :: x3 :: o :: l).toArray listed).contains 4 = true) (hQ : ∀ c a w, Q (.panic c) (a.put o.dst v) w → Q (.panic c) a w) (hy : Region.wanted o (yielded (x0 :: x1 :: x2 :: x3 :: o :: l).toArray a.tmps) = true ∧ ∀ w, S w → (execOp a.eval o).run P w = .ok (.value v) w) (hS : S w) (h : wpAnyH P md (x0 :: x1 :: x2 :: x3 :: o :: l).toArray Q S fuel (listed.setIfInBounds 4 true) (a.put o.dst v) w) : wpAnyH P md (x0 :: x1 :: x2 :: x3 :: o :: l).toArray Q S (fuel + 1) listed a w :=
  wpAnyH_take (i := 4) (oi := o) rfl hs hf hr hQ (Or.inl hy) hS h
theorem heldOp4 {x0 x1 x2 x3 o : Oper} {l : List Oper} (hr : Region.ready md (x0 :: x1 :: x2 :: x3 :: o :: l).toArray listed = [4]) (h : ∀ K' : Act → World → Prop, Shut (∀ a w, S w → (S w → wpAnyH P md (x0 :: x1 :: x2 :: x3 :: o :: l).toArray Q S fuel (listed.setIfInBounds 4 true) a w) → K' a w) → if Region.wanted o (yielded (x0 :: x1 :: x2 :: x3 :: o :: l).toArray a.tmps) = true then Oper.wp P o a w K' Q else K' (a.put o.dst undef) w) : wpAnyH P md (x0 :: x1 :: x2 :: x3 :: o :: l).toArray Q S (fuel + 1) listed a w :=
  wpAnyH_ready (rs := [4]) hr (by simp) (AllReadyH.cons (o := o) rfl h AllReadyH.nil)
theorem heldTake5 {x0 x1 x2 x3 x4 o : Oper} {l : List Oper} (hs : Region.noSelect (x0 :: x1 :: x2 :: x3 :: x4 :: o :: l).toArray = true) (hf : Region.free md (x0 :: x1 :: x2 :: x3 :: x4 :: o :: l).toArray listed 5 = true) (hr : (Region.ready md (x0 :: x1 :: x2 :: x3 :: x4 :: o :: l).toArray listed).contains 5 = true) (hQ : ∀ c a w, Q (.panic c) (a.put o.dst v) w → Q (.panic c) a w) (hy : Region.wanted o (yielded (x0 :: x1 :: x2 :: x3 :: x4 :: o :: l).toArray a.tmps) = true ∧ ∀ w, S w → (execOp a.eval o).run P w = .ok (.value v) w) (hS : S w) (h : wpAnyH P md (x0 :: x1 :: x2 :: x3 :: x4 :: o :: l).toArray Q S fuel (listed.setIfInBounds 5 true) (a.put o.dst v) w) : wpAnyH P md (x0 :: x1 :: x2 :: x3 :: x4 :: o :: l).toArray Q S (fuel + 1) listed a w :=
  wpAnyH_take (i := 5) (oi := o) rfl hs hf hr hQ (Or.inl hy) hS h
theorem heldOp5 {x0 x1 x2 x3 x4 o : Oper} {l : List Oper} (hr : Region.ready md (x0 :: x1 :: x2 :: x3 :: x4 :: o :: l).toArray listed = [5]) (h : ∀ K' : Act → World → Prop, Shut (∀ a w, S w → (S w → wpAnyH P md (x0 :: x1 :: x2 :: x3 :: x4 :: o :: l).toArray Q S fuel (listed.setIfInBounds 5 true) a w) → K' a w) → if Region.wanted o (yielded (x0 :: x1 :: x2 :: x3 :: x4 :: o :: l).toArray a.tmps) = true then Oper.wp P o a w K' Q else K' (a.put o.dst undef) w) : wpAnyH P md (x0 :: x1 :: x2 :: x3 :: x4 :: o :: l).toArray Q S (fuel + 1) listed a w :=
  wpAnyH_ready (rs := [5]) hr (by simp) (AllReadyH.cons (o := o) rfl h AllReadyH.nil)
theorem heldTake6 {x0 x1 x2 x3 x4 x5 o : Oper} {l : List Oper} (hs : Region.noSelect (x0 :: x1 :: x2 :: x3 :: x4 :: x5 :: o :: l).toArray = true) (hf : Region.free md (x0 :: x1 :: x2 :: x3 :: x4 :: x5 :: o :: l).toArray listed 6 = true) (hr : (Region.ready md (x0 :: x1 :: x2 :: x3 :: x4 :: x5 :: o :: l).toArray listed).contains 6 = true) (hQ : ∀ c a w, Q (.panic c) (a.put o.dst v) w → Q (.panic c) a w) (hy : Region.wanted o (yielded (x0 :: x1 :: x2 :: x3 :: x4 :: x5 :: o :: l).toArray a.tmps) = true ∧ ∀ w, S w → (execOp a.eval o).run P w = .ok (.value v) w) (hS : S w) (h : wpAnyH P md (x0 :: x1 :: x2 :: x3 :: x4 :: x5 :: o :: l).toArray Q S fuel (listed.setIfInBounds 6 true) (a.put o.dst v) w) : wpAnyH P md (x0 :: x1 :: x2 :: x3 :: x4 :: x5 :: o :: l).toArray Q S (fuel + 1) listed a w :=
  wpAnyH_take (i := 6) (oi := o) rfl hs hf hr hQ (Or.inl hy) hS h
theorem heldOp6 {x0 x1 x2 x3 x4 x5 o : Oper} {l : List Oper} (hr : Region.ready md (x0 :: x1 :: x2 :: x3 :: x4 :: x5 :: o :: l).toArray listed = [6]) (h : ∀ K' : Act → World → Prop, Shut (∀ a w, S w → (S w → wpAnyH P md (x0 :: x1 :: x2 :: x3 :: x4 :: x5 :: o :: l).toArray Q S fuel (listed.setIfInBounds 6 true) a w) → K' a w) → if Region.wanted o (yielded (x0 :: x1 :: x2 :: x3 :: x4 :: x5 :: o :: l).toArray a.tmps) = true then Oper.wp P o a w K' Q else K' (a.put o.dst undef) w) : wpAnyH P md (x0 :: x1 :: x2 :: x3 :: x4 :: x5 :: o :: l).toArray Q S (fuel + 1) listed a w :=
  wpAnyH_ready (rs := [6]) hr (by simp) (AllReadyH.cons (o := o) rfl h AllReadyH.nil)
theorem heldTake7 {x0 x1 x2 x3 x4 x5 x6 o : Oper} {l : List Oper} (hs : Region.noSelect (x0 :: x1 :: x2 :: x3 :: x4 :: x5 :: x6 :: o :: l).toArray = true) (hf : Region.free md (x0 :: x1 :: x2 :: x3 :: x4 :: x5 :: x6 :: o :: l).toArray listed 7 = true) (hr : (Region.ready md (x0 :: x1 :: x2 :: x3 :: x4 :: x5 :: x6 :: o :: l).toArray listed).contains 7 = true) (hQ : ∀ c a w, Q (.panic c) (a.put o.dst v) w → Q (.panic c) a w) (hy : Region.wanted o (yielded (x0 :: x1 :: x2 :: x3 :: x4 :: x5 :: x6 :: o :: l).toArray a.tmps) = true ∧ ∀ w, S w → (execOp a.eval o).run P w = .ok (.value v) w) (hS : S w) (h : wpAnyH P md (x0 :: x1 :: x2 :: x3 :: x4 :: x5 :: x6 :: o :: l).toArray Q S fuel (listed.setIfInBounds 7 true) (a.put o.dst v) w) : wpAnyH P md (x0 :: x1 :: x2 :: x3 :: x4 :: x5 :: x6 :: o :: l).toArray Q S (fuel + 1) listed a w :=
  wpAnyH_take (i := 7) (oi := o) rfl hs hf hr hQ (Or.inl hy) hS h
theorem heldOp7 {x0 x1 x2 x3 x4 x5 x6 o : Oper} {l : List Oper} (hr : Region.ready md (x0 :: x1 :: x2 :: x3 :: x4 :: x5 :: x6 :: o :: l).toArray listed = [7]) (h : ∀ K' : Act → World → Prop, Shut (∀ a w, S w → (S w → wpAnyH P md (x0 :: x1 :: x2 :: x3 :: x4 :: x5 :: x6 :: o :: l).toArray Q S fuel (listed.setIfInBounds 7 true) a w) → K' a w) → if Region.wanted o (yielded (x0 :: x1 :: x2 :: x3 :: x4 :: x5 :: x6 :: o :: l).toArray a.tmps) = true then Oper.wp P o a w K' Q else K' (a.put o.dst undef) w) : wpAnyH P md (x0 :: x1 :: x2 :: x3 :: x4 :: x5 :: x6 :: o :: l).toArray Q S (fuel + 1) listed a w :=
  wpAnyH_ready (rs := [7]) hr (by simp) (AllReadyH.cons (o := o) rfl h AllReadyH.nil)
theorem heldTake8 {x0 x1 x2 x3 x4 x5 x6 x7 o : Oper} {l : List Oper} (hs : Region.noSelect (x0 :: x1 :: x2 :: x3 :: x4 :: x5 :: x6 :: x7 :: o :: l).toArray = true) (hf : Region.free md (x0 :: x1 :: x2 :: x3 :: x4 :: x5 :: x6 :: x7 :: o :: l).toArray listed 8 = true) (hr : (Region.ready md (x0 :: x1 :: x2 :: x3 :: x4 :: x5 :: x6 :: x7 :: o :: l).toArray listed).contains 8 = true) (hQ : ∀ c a w, Q (.panic c) (a.put o.dst v) w → Q (.panic c) a w) (hy : Region.wanted o (yielded (x0 :: x1 :: x2 :: x3 :: x4 :: x5 :: x6 :: x7 :: o :: l).toArray a.tmps) = true ∧ ∀ w, S w → (execOp a.eval o).run P w = .ok (.value v) w) (hS : S w) (h : wpAnyH P md (x0 :: x1 :: x2 :: x3 :: x4 :: x5 :: x6 :: x7 :: o :: l).toArray Q S fuel (listed.setIfInBounds 8 true) (a.put o.dst v) w) : wpAnyH P md (x0 :: x1 :: x2 :: x3 :: x4 :: x5 :: x6 :: x7 :: o :: l).toArray Q S (fuel + 1) listed a w :=
  wpAnyH_take (i := 8) (oi := o) rfl hs hf hr hQ (Or.inl hy) hS h
theorem heldOp8 {x0 x1 x2 x3 x4 x5 x6 x7 o : Oper} {l : List Oper} (hr : Region.ready md (x0 :: x1 :: x2 :: x3 :: x4 :: x5 :: x6 :: x7 :: o :: l).toArray listed = [8]) (h : ∀ K' : Act → World → Prop, Shut (∀ a w, S w → (S w → wpAnyH P md (x0 :: x1 :: x2 :: x3 :: x4 :: x5 :: x6 :: x7 :: o :: l).toArray Q S fuel (listed.setIfInBounds 8 true) a w) → K' a w) → if Region.wanted o (yielded (x0 :: x1 :: x2 :: x3 :: x4 :: x5 :: x6 :: x7 :: o :: l).toArray a.tmps) = true then Oper.wp P o a w K' Q else K' (a.put o.dst undef) w) : wpAnyH P md (x0 :: x1 :: x2 :: x3 :: x4 :: x5 :: x6 :: x7 :: o :: l).toArray Q S (fuel + 1) listed a w :=
  wpAnyH_ready (rs := [8]) hr (by simp) (AllReadyH.cons (o := o) rfl h AllReadyH.nil)
theorem heldTake9 {x0 x1 x2 x3 x4 x5 x6 x7 x8 o : Oper} {l : List Oper} (hs : Region.noSelect (x0 :: x1 :: x2 :: x3 :: x4 :: x5 :: x6 :: x7 :: x8 :: o :: l).toArray = true) (hf : Region.free md (x0 :: x1 :: x2 :: x3 :: x4 :: x5 :: x6 :: x7 :: x8 :: o :: l).toArray listed 9 = true) (hr : (Region.ready md (x0 :: x1 :: x2 :: x3 :: x4 :: x5 :: x6 :: x7 :: x8 :: o :: l).toArray listed).contains 9 = true) (hQ : ∀ c a w, Q (.panic c) (a.put o.dst v) w → Q (.panic c) a w) (hy : Region.wanted o (yielded (x0 :: x1 :: x2 :: x3 :: x4 :: x5 :: x6 :: x7 :: x8 :: o :: l).toArray a.tmps) = true ∧ ∀ w, S w → (execOp a.eval o).run P w = .ok (.value v) w) (hS : S w) (h : wpAnyH P md (x0 :: x1 :: x2 :: x3 :: x4 :: x5 :: x6 :: x7 :: x8 :: o :: l).toArray Q S fuel (listed.setIfInBounds 9 true) (a.put o.dst v) w) : wpAnyH P md (x0 :: x1 :: x2 :: x3 :: x4 :: x5 :: x6 :: x7 :: x8 :: o :: l).toArray Q S (fuel + 1) listed a w :=
  wpAnyH_take (i := 9) (oi := o) rfl hs hf hr hQ (Or.inl hy) hS h
theorem heldOp9 {x0 x1 x2 x3 x4 x5 x6 x7 x8 o : Oper} {l : List Oper} (hr : Region.ready md (x0 :: x1 :: x2 :: x3 :: x4 :: x5 :: x6 :: x7 :: x8 :: o :: l).toArray listed = [9]) (h : ∀ K' : Act → World → Prop, Shut (∀ a w, S w → (S w → wpAnyH P md (x0 :: x1 :: x2 :: x3 :: x4 :: x5 :: x6 :: x7 :: x8 :: o :: l).toArray Q S fuel (listed.setIfInBounds 9 true) a w) → K' a w) → if Region.wanted o (yielded (x0 :: x1 :: x2 :: x3 :: x4 :: x5 :: x6 :: x7 :: x8 :: o :: l).toArray a.tmps) = true then Oper.wp P o a w K' Q else K' (a.put o.dst undef) w) : wpAnyH P md (x0 :: x1 :: x2 :: x3 :: x4 :: x5 :: x6 :: x7 :: x8 :: o :: l).toArray Q S (fuel + 1) listed a w :=
  wpAnyH_ready (rs := [9]) hr (by simp) (AllReadyH.cons (o := o) rfl h AllReadyH.nil)
theorem heldTake10 {x0 x1 x2 x3 x4 x5 x6 x7 x8 x9 o : Oper} {l : List Oper} (hs : Region.noSelect (x0 :: x1 :: x2 :: x3 :: x4 :: x5 :: x6 :: x7 :: x8 :: x9 :: o :: l).toArray = true) (hf : Region.free md (x0 :: x1 :: x2 :: x3 :: x4 :: x5 :: x6 :: x7 :: x8 :: x9 :: o :: l).toArray listed 10 = true) (hr : (Region.ready md (x0 :: x1 :: x2 :: x3 :: x4 :: x5 :: x6 :: x7 :: x8 :: x9 :: o :: l).toArray listed).contains 10 = true) (hQ : ∀ c a w, Q (.panic c) (a.put o.dst v) w → Q (.panic c) a w) (hy : Region.wanted o (yielded (x0 :: x1 :: x2 :: x3 :: x4 :: x5 :: x6 :: x7 :: x8 :: x9 :: o :: l).toArray a.tmps) = true ∧ ∀ w, S w → (execOp a.eval o).run P w = .ok (.value v) w) (hS : S w) (h : wpAnyH P md (x0 :: x1 :: x2 :: x3 :: x4 :: x5 :: x6 :: x7 :: x8 :: x9 :: o :: l).toArray Q S fuel (listed.setIfInBounds 10 true) (a.put o.dst v) w) : wpAnyH P md (x0 :: x1 :: x2 :: x3 :: x4 :: x5 :: x6 :: x7 :: x8 :: x9 :: o :: l).toArray Q S (fuel + 1) listed a w :=
  wpAnyH_take (i := 10) (oi := o) rfl hs hf hr hQ (Or.inl hy) hS h
theorem heldOp10 {x0 x1 x2 x3 x4 x5 x6 x7 x8 x9 o : Oper} {l : List Oper} (hr : Region.ready md (x0 :: x1 :: x2 :: x3 :: x4 :: x5 :: x6 :: x7 :: x8 :: x9 :: o :: l).toArray listed = [10]) (h : ∀ K' : Act → World → Prop, Shut (∀ a w, S w → (S w → wpAnyH P md (x0 :: x1 :: x2 :: x3 :: x4 :: x5 :: x6 :: x7 :: x8 :: x9 :: o :: l).toArray Q S fuel (listed.setIfInBounds 10 true) a w) → K' a w) → if Region.wanted o (yielded (x0 :: x1 :: x2 :: x3 :: x4 :: x5 :: x6 :: x7 :: x8 :: x9 :: o :: l).toArray a.tmps) = true then Oper.wp P o a w K' Q else K' (a.put o.dst undef) w) : wpAnyH P md (x0 :: x1 :: x2 :: x3 :: x4 :: x5 :: x6 :: x7 :: x8 :: x9 :: o :: l).toArray Q S (fuel + 1) listed a w :=
  wpAnyH_ready (rs := [10]) hr (by simp) (AllReadyH.cons (o := o) rfl h AllReadyH.nil)
theorem heldTake11 {x0 x1 x2 x3 x4 x5 x6 x7 x8 x9 x10 o : Oper} {l : List Oper} (hs : Region.noSelect (x0 :: x1 :: x2 :: x3 :: x4 :: x5 :: x6 :: x7 :: x8 :: x9 :: x10 :: o :: l).toArray = true) (hf : Region.free md (x0 :: x1 :: x2 :: x3 :: x4 :: x5 :: x6 :: x7 :: x8 :: x9 :: x10 :: o :: l).toArray listed 11 = true) (hr : (Region.ready md (x0 :: x1 :: x2 :: x3 :: x4 :: x5 :: x6 :: x7 :: x8 :: x9 :: x10 :: o :: l).toArray listed).contains 11 = true) (hQ : ∀ c a w, Q (.panic c) (a.put o.dst v) w → Q (.panic c) a w) (hy : Region.wanted o (yielded (x0 :: x1 :: x2 :: x3 :: x4 :: x5 :: x6 :: x7 :: x8 :: x9 :: x10 :: o :: l).toArray a.tmps) = true ∧ ∀ w, S w → (execOp a.eval o).run P w = .ok (.value v) w) (hS : S w) (h : wpAnyH P md (x0 :: x1 :: x2 :: x3 :: x4 :: x5 :: x6 :: x7 :: x8 :: x9 :: x10 :: o :: l).toArray Q S fuel (listed.setIfInBounds 11 true) (a.put o.dst v) w) : wpAnyH P md (x0 :: x1 :: x2 :: x3 :: x4 :: x5 :: x6 :: x7 :: x8 :: x9 :: x10 :: o :: l).toArray Q S (fuel + 1) listed a w :=
  wpAnyH_take (i := 11) (oi := o) rfl hs hf hr hQ (Or.inl hy) hS h
theorem heldOp11 {x0 x1 x2 x3 x4 x5 x6 x7 x8 x9 x10 o : Oper} {l : List Oper} (hr : Region.ready md (x0 :: x1 :: x2 :: x3 :: x4 :: x5 :: x6 :: x7 :: x8 :: x9 :: x10 :: o :: l).toArray listed = [11]) (h : ∀ K' : Act → World → Prop, Shut (∀ a w, S w → (S w → wpAnyH P md (x0 :: x1 :: x2 :: x3 :: x4 :: x5 :: x6 :: x7 :: x8 :: x9 :: x10 :: o :: l).toArray Q S fuel (listed.setIfInBounds 11 true) a w) → K' a w) → if Region.wanted o (yielded (x0 :: x1 :: x2 :: x3 :: x4 :: x5 :: x6 :: x7 :: x8 :: x9 :: x10 :: o :: l).toArray a.tmps) = true then Oper.wp P o a w K' Q else K' (a.put o.dst undef) w) : wpAnyH P md (x0 :: x1 :: x2 :: x3 :: x4 :: x5 :: x6 :: x7 :: x8 :: x9 :: x10 :: o :: l).toArray Q S (fuel + 1) listed a w :=
  wpAnyH_ready (rs := [11]) hr (by simp) (AllReadyH.cons (o := o) rfl h AllReadyH.nil)
end

end Go.Proofs.YtpkocidcfnlbiaaDoor

/- climb.stalls: is what was come to from below come to better from above; walked. -/
set_option linter.unusedVariables false
set_option linter.unusedSimpArgs false
namespace Go.Proofs.YtpkocidcfnlbiaaDoor
open Go.RowKit Go.Shelf Go.Deep

attribute [local go_sem] Oper.semAt_some

set_option maxRecDepth 100000 in
theorem stalls_calls (f b : Nat) (w : World) : Calls Tryd.prog 65 #[.func (.func f) #[.pointer (some ⟨b, 0, none⟩)] #[]] w fun e w' => e = .returned (.func (.func 84) #[] #[.pointer (some ⟨w.heap.size, 0, none⟩)]) ∧ w' = w.alloc (.cells #[.func (.func f) #[.pointer (some ⟨b, 0, none⟩)] #[]] 58) := by
  go_enter Tryd.func65, Tryd.ntmps65
  go_wp2
  go_ret
  exact ⟨rfl, rfl⟩

set_option maxRecDepth 100000 in
set_option maxHeartbeats 4000000 in
theorem stalls1_calls {w : World} {L : IxLoc} {x : Ix} (hx : IxMem w L x) (bk : Bool) (f f1 : Nat) (hto : ToOk x L bk f f1) (pb : Nat) (hpb : w.cell? ⟨pb, 0, none⟩ = some (.func (.func f) #[.pointer (some ⟨L.b, 0, none⟩)] #[])) (Bf : Nat) (far : Nat → Int) (hfar : Blk w Bf x.n 3 (fun i => .int .i64 (far i))) (z : Nat) (hz : z < x.n) (d : Int) :
    Calls Tryd.prog 84 #[.int .i64 (z : Nat), .int .i64 d, .slice (some ⟨Bf, 0, none⟩) x.n x.n, .pointer (some ⟨pb, 0, none⟩)] w fun e w' => ∃ bb : Bool, e = .returned (.bool bb) ∧ Fr No w w' ∧ (bb = true → ∃ y, y < x.n ∧ x.rk z < x.rk y ∧ ad (far y) (x.ew bk z y) < d) := by
  have hn := hx.ok.n2
  have q1 := hx.lt
  have q2 := hx.hr.1
  have q3 := hx.hb.1
  have q4 := hx.gn.lt
  have lpb := cell_lt hpb
  have lbf := hfar.lt
  have HOK := hid hx.ok
  have HX := hid hx
  have HTO := hid hto
  have HFAR := hid hfar
  clear hx hto hfar
  refine (callsIn_wide (n := 7)).1 ?_
  refine callsIn_of_wp_marks Tryd.func84 rfl trivial ?_ rfl
  refine wpIn_wide.2 ?_
  simp only [Tryd.ntmps84, List.size_toArray, List.length_cons, List.length_nil, Nat.reduceAdd, Nat.reduceSub, Array.replicate_succ, Array.replicate_zero, List.push_toArray, List.append_toArray, List.nil_append, List.cons_append]
  go_wp2_with fail
  go_step3
  go_wp2_with fail
  have fa : Fr No w (((w.alloc (.cells #[.int .i64 d] 3)).alloc (.cells #[.slice (some ⟨Bf, 0, none⟩) x.n x.n] 29)).alloc (.cells #[.bool false] 4)) := (((Fr.refl No w).alloc _).alloc _).alloc _
  obtain ⟨Wa, hWa⟩ : ∃ Wa, ((w.alloc (.cells #[.int .i64 d] 3)).alloc (.cells #[.slice (some ⟨Bf, 0, none⟩) x.n x.n] 29)).alloc (.cells #[.bool false] 4) = Wa := ⟨_, rfl⟩
  have a5 : Wa.cell? ⟨w.heap.size, 0, none⟩ = some (.int .i64 d) := by rw [← hWa]; simp [go_sem]
  have a6 : Wa.cell? ⟨w.heap.size + 1, 0, none⟩ = some (.slice (some ⟨Bf, 0, none⟩) x.n x.n) := by rw [← hWa]; simp [go_sem]
  have a8 : Wa.cell? ⟨w.heap.size + 1 + 1, 0, none⟩ = some (.bool false) := by rw [← hWa]; simp [go_sem]
  have z8 : Wa.frozen? ⟨w.heap.size + 1 + 1, 0, none⟩ = false := by rw [← hWa]; simp [go_sem]
  have hsa : w.heap.size + 3 ≤ Wa.heap.size := by rw [← hWa]; simp
  rw [hWa] at fa ⊢
  have cpb := fa.cell_some hpb (fun h => h)
  have FA := hid fa
  clear hWa fa hpb
  go_step3
  go_wp2_with fail
  rw [HTO.out.ent]
  go_wp2_with fail
  refine (HTO.out.call (z : Nat) Wa).mono ?_
  rintro e W0 ⟨rfl, hW0⟩
  have f0 : Fr No Wa W0 := by rw [hW0]; exact (((Fr.refl No Wa).alloc _).alloc _).alloc _
  have cx : W0.cell? ⟨Wa.heap.size, 0, none⟩ = some (.pointer (some ⟨L.b, 0, none⟩)) := by rw [hW0]; simp [go_sem]
  have cv : W0.cell? ⟨Wa.heap.size + 1, 0, none⟩ = some (.int .i64 (z : Nat)) := by rw [hW0]; simp [go_sem]
  have cf : W0.cell? ⟨Wa.heap.size + 1 + 1, 0, none⟩ = some (.func (.func f1) #[] #[]) := by rw [hW0]; simp [go_sem]
  have hsz : Wa.heap.size + 3 ≤ W0.heap.size := by rw [hW0]; simp
  have b5 := f0.cell_some a5 (fun h => h)
  have b6 := f0.cell_some a6 (fun h => h)
  have b8 := f0.cell_some a8 (fun h => h)
  have y8 := (f0.frozen (p := ⟨w.heap.size + 1 + 1, 0, none⟩) (cell_lt a8) (fun h => h)).trans z8
  have F0 := hid (FA.out.trans f0)
  have HX0 := HX.out.no F0.out
  obtain ⟨B8, hB8⟩ : ∃ B, w.heap.size + 1 + 1 = B := ⟨_, rfl⟩
  have hB8' : w.heap.size ≤ B8 ∧ B8 < W0.heap.size := by omega
  rw [hB8] at b8 y8 ⊢
  clear hW0 f0 a5 a6 a8 z8 cpb FA
  go_wp2
  refine (wpIn_wide (n := 7)).1 ?_
  refine wpIn_rangeFunc_ownB rfl (by omega) (gf := 77) (lb := #[.pointer (some ⟨Wa.heap.size, 0, none⟩), .pointer (some ⟨Wa.heap.size + 1, 0, none⟩), .pointer (some ⟨Wa.heap.size + 1 + 1, 0, none⟩)]) rfl trivial (enters_of Tryd.func77 (by kernel_rfl) rfl)
    (HTO.out.seq Wa.heap.size (Wa.heap.size + 1) (Wa.heap.size + 1 + 1) z hz (fun k => W0.heap.size ≤ k) (by omega) (by omega) (by omega) (by omega) (by omega) (by omega) W0 HX0 cx cv cf)
    (fun h k => Fr.trans h k) (fun W l' o o' hl _ _ _ => fr_putObj W l' o' hl) (fun W o => (Fr.refl _ W).alloc o) (Below.refl _ _) (fun _ => rfl)
    (fun pre W => Fr No W0 W)
    (fun c xs W => c = .exit 0 ∧ (∃ y, y < x.n ∧ x.rk z < x.rk y ∧ ad (far y) (x.ew bk z y) < d) ∧ Fr (One B8) W0 W ∧ W.cell? ⟨B8, 0, none⟩ = some (.bool true))
    (fun pre A B row hs hg hr => ownFrom_fr No W0 pre A B row hs hg hr)
    (fun c xs A B row hs hg hr => ⟨hs.1, hs.2.1, ownFrom_fr (One B8) W0 xs A B row hs.2.2.1 hg hr, cell_kept hs.2.2.2 hg (fun r e => (hr r e).2)⟩)
    (fun pre W o h => Fr.alloc h o) (fun pre W h => Fr.size h) (Fr.refl No W0)
    (fun el b' T => (T.setIfInBounds 9 (.int .i64 (x.by_ el.1 : Nat))).setIfInBounds 10 (.pointer (some ⟨b', 0, none⟩))) 52 (fun el => #[.int .i64 (x.rowE z bk el.1).w, .int .i64 (x.rowE z bk el.1).a, .int .i64 (x.rowE z bk el.1).m]) ?assign ?body ?done ?stop
  case assign =>
    intro l el W K hK
    simp only [Ix.rowEnc, En.val]
    gi_wp2
    simpa [Ix.rowEnc, En.val] using hK
  case stop =>
    rintro D c pre W hD _ ⟨rfl, hT, hf, hc8⟩ hKD
    have HT := hid hT
    have HFW := hid (F0.out.trans' hf (fun k hk (e : k = B8) => by omega))
    have hsw := hf.size
    clear hf hT b5 b6 b8 y8 cx cv cf HX0 hB8
    refine wpIn_wide.2 ?_
    go_wp2
    refine leaves_marks [D] W (n0 := w.heap.size) ⟨by simp, fun d hd => ?_⟩ fun W' hW' => ?_
    · rw [List.mem_singleton] at hd; subst hd; exact ⟨by omega, hKD⟩
    · refine ⟨.bool true, by simp [results, Tryd.results84, go_sem], true, rfl, HFW.out.trans' hW' (fun k hk hkm => ?_), fun _ => HT.out⟩
      have hkm : k = D := List.mem_singleton.1 hkm
      omega
  case done =>
    rintro D ys W hD rfl hf hKD
    have e8 := hf.cell_some b8 (fun h => h)
    have HFW := hid (F0.out.trans hf)
    have hsw := hf.size
    clear hf b5 b6 b8 y8 cx cv cf HX0 hB8
    go_wp2
    refine leaves_marks [D] W (n0 := w.heap.size) ⟨by simp, fun d hd => ?_⟩ fun W' hW' => ?_
    · rw [List.mem_singleton] at hd; subst hd; exact ⟨by omega, hKD⟩
    · refine ⟨.bool false, by simp [results, Tryd.results84, go_sem], false, rfl, HFW.out.trans' hW' (fun k hk hkm => ?_), fun h => by cases h⟩
      have hkm : k = D := List.mem_singleton.1 hkm
      omega
  case body =>
    rintro l pre el W b' hl hloop h1 _ hb' hcs
    have hey := HOK.out.edE_eq hz el
    have hed : x.edE z bk el = (x.by_ el.1, (x.rowE z bk el.1).w) := rfl
    rw [hed] at hey
    obtain ⟨y, hy⟩ : ∃ y, x.by_ el.1 = y := ⟨_, rfl⟩
    obtain ⟨⟨e0, e1, e2⟩, he⟩ : ∃ e, x.rowE z bk el.1 = e := ⟨_, rfl⟩
    rw [hy, he] at hey
    simp only [he] at hcs
    simp only at hey
    have hyn : y < x.n := hey.1
    have hyn2 : (y : Int) < x.n := by omega
    have HEY := hid hey
    have c5 := h1.cell_some b5 (fun h => h)
    have c6 := h1.cell_some b6 (fun h => h)
    have c8 := h1.cell_some b8 (fun h => h)
    have v8 := (h1.frozen (p := ⟨B8, 0, none⟩) (cell_lt b8) (fun h => h)).trans y8
    have ce : W.cell? ⟨b', 0, none⟩ = some (.int .i64 e0) := cell_of hcs 0
    have bf := (HFAR.out.fr (F0.out.trans h1) (fun h => h)).cell hyn
    obtain ⟨fy, hfy⟩ : ∃ fy, far y = fy := ⟨_, rfl⟩
    rw [hfy] at bf
    have HFY := hid hfy
    have l5 := cell_lt c5
    have l6 := cell_lt c6
    have l8 := cell_lt c8
    have lff := cell_lt bf
    have lce := cell_lt ce
    simp only at l5 l6 l8 lff lce
    have H1 := hid h1
    have hHY := hid hy
    have HEE := hid he
    obtain ⟨sm, hsm⟩ : ∃ sm, ad fy e0 = sm := ⟨_, rfl⟩
    have HSM := hid hsm
    clear hloop h1 hey hed hy he hcs hfy hsm cx cv cf b5 b6 b8 y8 HX0
    simp only [Ix.rowEnc, En.val, hHY.out, HEE.out]
    gi_wp2_with fail
    simp only [List.zip_toArray, List.foldl_toArray, List.zip_cons_cons, List.zip_nil_right, List.zip_nil_left, List.foldl_cons, List.foldl_nil, List.setIfInBounds_toArray, List.set_cons_zero, List.set_cons_succ]
    refine wpIn_region_held (S := fun w' => Fr No W w' ∧ w'.cell? ⟨w.heap.size, 0, none⟩ = some (.int .i64 d) ∧ w'.cell? ⟨w.heap.size + 1, 0, none⟩ = some (.slice (some ⟨Bf, 0, none⟩) x.n x.n) ∧ w'.cell? ⟨Bf, y, none⟩ = some (.int .i64 fy) ∧ w'.cell? ⟨b', 0, none⟩ = some (.int .i64 e0)) (by kernel_rfl) (by kernel_rfl) ⟨(Fr.refl No W).drew, c5, c6, bf, ce⟩ ?_
    intro hS
    refine heldTake0 (v := .slice (some ⟨Bf, 0, none⟩) x.n x.n) (by kernel_rfl) (by kernel_rfl) (by kernel_rfl) (fun _ _ _ h => h) ⟨by rfl, fun w' hw => ?_⟩ hS ?_
    · obtain ⟨_, v1, v2, v3, v4⟩ := hw
      go_simp
    simp only [Act.put, List.setIfInBounds_toArray, List.set_cons_zero, List.set_cons_succ]
    refine heldTake1 (v := .int .i64 (y : Nat)) (by kernel_rfl) (by kernel_rfl) (by kernel_rfl) (fun _ _ _ h => h) ⟨by rfl, fun w' hw => ?_⟩ hS ?_
    · obtain ⟨_, v1, v2, v3, v4⟩ := hw
      go_simp
    simp only [Act.put, List.setIfInBounds_toArray, List.set_cons_zero, List.set_cons_succ]
    refine heldTake2 (v := .pointer (some ⟨Bf, y, none⟩)) (by kernel_rfl) (by kernel_rfl) (by kernel_rfl) (fun _ _ _ h => h) ⟨by rfl, fun w' hw => ?_⟩ hS ?_
    · obtain ⟨_, v1, v2, v3, v4⟩ := hw
      go_simp
    simp only [Act.put, List.setIfInBounds_toArray, List.set_cons_zero, List.set_cons_succ]
    refine heldTake3 (v := .int .i64 fy) (by kernel_rfl) (by kernel_rfl) (by kernel_rfl) (fun _ _ _ h => h) ⟨by rfl, fun w' hw => ?_⟩ hS ?_
    · obtain ⟨_, v1, v2, v3, v4⟩ := hw
      go_simp
    simp only [Act.put, List.setIfInBounds_toArray, List.set_cons_zero, List.set_cons_succ]
    refine heldTake4 (v := .pointer (some ⟨b', 0, none⟩)) (by kernel_rfl) (by kernel_rfl) (by kernel_rfl) (fun _ _ _ h => h) ⟨by rfl, fun w' hw => ?_⟩ hS ?_
    · obtain ⟨_, v1, v2, v3, v4⟩ := hw
      go_simp
    simp only [Act.put, List.setIfInBounds_toArray, List.set_cons_zero, List.set_cons_succ]
    refine heldTake5 (v := .int .i64 e0) (by kernel_rfl) (by kernel_rfl) (by kernel_rfl) (fun _ _ _ h => h) ⟨by rfl, fun w' hw => ?_⟩ hS ?_
    · obtain ⟨_, v1, v2, v3, v4⟩ := hw
      go_simp
    simp only [Act.put, List.setIfInBounds_toArray, List.set_cons_zero, List.set_cons_succ]
    refine heldTake8 (v := .int .i64 d) (by kernel_rfl) (by kernel_rfl) (by kernel_rfl) (fun _ _ _ h => h) ⟨by rfl, fun w' hw => ?_⟩ hS ?_
    · obtain ⟨_, v1, v2, v3, v4⟩ := hw
      go_simp
    simp only [Act.put, List.setIfInBounds_toArray, List.set_cons_zero, List.set_cons_succ]
    refine heldOp6 (by kernel_rfl) (fun K' hK => ?_)
    go_simp
    obtain ⟨WB, hWB⟩ : ∃ WB, (W.alloc (.cells #[.int .i64 fy, .int .i64 e0] 3)).drew = WB := ⟨_, rfl⟩
    have fB : Fr No W WB := by rw [← hWB]; exact ((Fr.refl No W).alloc _).drew
    have sB : IntsF WB (some ⟨W.heap.size, 0, none⟩) 2 (pfM fy e0) := fun _ => ⟨_, 0, rfl, by intro j hj; (have : j = 0 ∨ j = 1 := by omega); rw [← hWB]; rcases this with rfl | rfl <;> simp [go_sem, pfM]⟩
    have SB := hid sB
    try rw [hWB]
    try rw [hWB] at hK
    clear hWB hS sB
    have t5 := fB.cell_some c5 (fun h => h)
    have t6 := fB.cell_some c6 (fun h => h)
    have t7 := fB.cell_some bf (fun h => h)
    have t8 := fB.cell_some ce (fun h => h)
    refine hK.out _ _ ⟨fB, t5, t6, t7, t8⟩ (fun hS => ?_)
    clear hK K'
    try simp only [Act.put, List.setIfInBounds_toArray, List.set_cons_zero, List.set_cons_succ]
    refine heldOp7 (by kernel_rfl) (fun K' hK => ?_)
    go_simp
    refine (adl_calls fy e0 _ 2 _ SB.out).mono ?_
    rw [HSM.out]
    rintro e w9 ⟨rfl, hf9⟩
    have HF9 : Hid (Fr No W w9) := hid (fB.trans hf9)
    clear hf9 fB SB t5 t6 t7 t8 hS
    have t5 := HF9.out.cell_some c5 (fun h => h)
    have t6 := HF9.out.cell_some c6 (fun h => h)
    have t7 := HF9.out.cell_some bf (fun h => h)
    have t8 := HF9.out.cell_some ce (fun h => h)
    go_simp
    refine hK.out _ _ ⟨HF9.out, t5, t6, t7, t8⟩ (fun hS => ?_)
    clear hK K'
    try simp only [Act.put, List.setIfInBounds_toArray, List.set_cons_zero, List.set_cons_succ]
    refine heldTake9 (v := .bool (decide (sm < d))) (by kernel_rfl) (by kernel_rfl) (by kernel_rfl) (fun _ _ _ h => h) ⟨by rfl, fun w' hw => ?_⟩ hS ?_
    · clear hw
      go_simp
    try simp only [Act.put, List.setIfInBounds_toArray, List.set_cons_zero, List.set_cons_succ]
    refine wpAnyH_done (by kernel_rfl) ?_ _
    simp only [sureQ, Exit.then]
    have x8 := HF9.out.cell_some c8 (fun h => h)
    have z8 := (HF9.out.frozen (p := ⟨B8, 0, none⟩) (cell_lt c8) (fun h => h)).trans v8
    clear hS t5 t6 t7 t8 c5 c6 bf ce v8
    by_cases hlt : sm < d
    · simp only [hlt, decide_true]
      have HLT := hid hlt
      clear hlt
      gi_wp2
      have hf : Fr (One B8) W (w9.setCell ⟨B8, 0, none⟩ (.bool true)) := HF9.out.no.set1 0 _
      exact ⟨keepsFrom_cells hf (fun k o hk ho => by rw [show k = B8 from hk] at ho; exact cell_is_cells c8 ho), rfl, ⟨y, hyn, HEY.out.2.1, by rw [HFY.out, ← HEY.out.2.2, HSM.out]; exact HLT.out⟩, H1.out.no.trans hf, World.cell?_setCell_same _ _ _ x8⟩
    · simp only [hlt, decide_false]
      clear hlt
      gi_wp2
      exact ⟨keepsFrom_cells HF9.out (fun _ _ h => h.elim), HF9.out.no, H1.out.trans HF9.out⟩

end Go.Proofs.YtpkocidcfnlbiaaDoor

/- climb.Up, Down, Dist and Meet; walked. -/
set_option linter.unusedVariables false
set_option linter.unusedSimpArgs false
namespace Go.Proofs.YtpkocidcfnlbiaaDoor
open Go.RowKit Go.Shelf Go.Deep

set_option maxRecDepth 100000 in
theorem never_calls (v d a : Value) (w : World) : Calls Tryd.prog 24 #[v, d, a] w fun e w' => e = .returned (.bool false) ∧ Fr No w w' := by
  go_enter Tryd.func24, Tryd.ntmps24
  go_wp2
  go_ret
  exact ⟨rfl, Fr.refl _ _⟩
theorem never_ok (w : World) (x : Ix) (back : Bool) (s : Nat) : StopOk w x back s (fun _ _ => False) 24 #[] :=
  ⟨enters_of Tryd.func24 (by kernel_rfl) rfl, fun W Bf far v d _ _ _ _ _ _ _ => (never_calls (.int .i64 (v : Nat)) (.int .i64 d) (.slice (some ⟨Bf, 0, none⟩) x.n x.n) W).mono fun e w' ⟨h1, h2⟩ => ⟨false, h1, h2, fun h => by cases h⟩⟩

def CupR (w : World) (x : Ix) (back : Bool) (s : Nat) (e : Ending) (w' : World) : Prop :=
  ∃ (Bf : Nat) (U : Nat → Int), e = .returned (.tuple #[.slice (some ⟨Bf, 0, none⟩) x.n x.n, .int .i64 0]) ∧ Blk w' Bf x.n 3 (fun i => .int .i64 (U i)) ∧ Fr No w w' ∧ w.heap.size ≤ Bf ∧ UpS x (x.ew back) s U

set_option maxRecDepth 100000 in
set_option maxHeartbeats 2000000 in
theorem cup_yes {w : World} {L : IxLoc} {x : Ix} (h : IxMem w L x) (s : Nat) (hs : s < x.n) :
    Calls Tryd.prog 6 #[.pointer (some ⟨L.b, 0, none⟩), .int .i64 (s : Nat)] w (CupR w x false s) := by
  have hra : x.rank (s : Nat) = x.rk s := by unfold Ix.rank; rw [if_pos ⟨by omega, by omega⟩]; simp
  have HRA := hid hra
  have HOK := hid h.ok
  have H := hid h
  clear h hra
  go_enter Tryd.func6, Tryd.ntmps6
  go_wp2_with fail
  refine (rank_calls H.out (s : Nat)).mono ?_
  rw [HRA.out]
  rintro e w1 ⟨rfl, rfl⟩
  go_wp2_with fail
  refine (vertices_calls H.out).mono ?_
  rintro e w2 ⟨rfl, hf2⟩
  have HF2 := hid hf2
  have HX2 := hid (H.out.no hf2)
  clear hf2
  go_wp2_with fail
  refine (spread_calls HX2.out false _ _ (to_up x L) s hs 24 #[] _ (never_ok w2 x false s)).mono ?_
  rintro e w3 ⟨Bf, U, rfl, hb, hf3, hbf, hu⟩
  have HF3 := hid (HF2.out.trans hf3)
  have HB := hid hb
  have HU := hid hu
  have hsz := HF2.out.size
  clear hf3 hb hu
  go_wp2
  go_ret2
  exact ⟨Bf, U, rfl, HB.out, HF3.out, by omega, HU.out.ups HOK.out hs⟩
set_option maxRecDepth 100000 in
set_option maxHeartbeats 2000000 in
theorem cdown_yes {w : World} {L : IxLoc} {x : Ix} (h : IxMem w L x) (s : Nat) (hs : s < x.n) :
    Calls Tryd.prog 7 #[.pointer (some ⟨L.b, 0, none⟩), .int .i64 (s : Nat)] w (CupR w x true s) := by
  have hra : x.rank (s : Nat) = x.rk s := by unfold Ix.rank; rw [if_pos ⟨by omega, by omega⟩]; simp
  have HRA := hid hra
  have HOK := hid h.ok
  have H := hid h
  clear h hra
  go_enter Tryd.func7, Tryd.ntmps7
  go_wp2_with fail
  refine (rank_calls H.out (s : Nat)).mono ?_
  rw [HRA.out]
  rintro e w1 ⟨rfl, rfl⟩
  go_wp2_with fail
  refine (vertices_calls H.out).mono ?_
  rintro e w2 ⟨rfl, hf2⟩
  have HF2 := hid hf2
  have HX2 := hid (H.out.no hf2)
  clear hf2
  go_wp2_with fail
  refine (spread_calls HX2.out true _ _ (to_down x L) s hs 24 #[] _ (never_ok w2 x true s)).mono ?_
  rintro e w3 ⟨Bf, U, rfl, hb, hf3, hbf, hu⟩
  have HF3 := hid (HF2.out.trans hf3)
  have HB := hid hb
  have HU := hid hu
  have hsz := HF2.out.size
  clear hf3 hb hu
  go_wp2
  go_ret2
  exact ⟨Bf, U, rfl, HB.out, HF3.out, by omega, HU.out.ups HOK.out hs⟩
set_option maxRecDepth 100000 in
set_option maxHeartbeats 2000000 in
theorem cup_no {w : World} {L : IxLoc} {x : Ix} (h : IxMem w L x) (s : Int) (hs : ¬ (0 ≤ s ∧ s < x.n)) :
    Calls Tryd.prog 6 #[.pointer (some ⟨L.b, 0, none⟩), .int .i64 s] w fun e w' => e = .returned (.tuple #[.slice none 0 0, .int .i64 1]) ∧ Fr No w w' := by
  have hra : x.rank s = -1 := by unfold Ix.rank; rw [if_neg hs]
  have HRA := hid hra
  have H := hid h
  clear h hra hs
  go_enter Tryd.func6, Tryd.ntmps6
  go_wp2_with fail
  refine (rank_calls H.out s).mono ?_
  rw [HRA.out]
  rintro e w1 ⟨rfl, rfl⟩
  go_wp2
  go_ret2
  exact ⟨rfl, Fr.refl _ _⟩
set_option maxRecDepth 100000 in
set_option maxHeartbeats 2000000 in
theorem cdown_no {w : World} {L : IxLoc} {x : Ix} (h : IxMem w L x) (s : Int) (hs : ¬ (0 ≤ s ∧ s < x.n)) :
    Calls Tryd.prog 7 #[.pointer (some ⟨L.b, 0, none⟩), .int .i64 s] w fun e w' => e = .returned (.tuple #[.slice none 0 0, .int .i64 1]) ∧ Fr No w w' := by
  have hra : x.rank s = -1 := by unfold Ix.rank; rw [if_neg hs]
  have HRA := hid hra
  have H := hid h
  clear h hra hs
  go_enter Tryd.func7, Tryd.ntmps7
  go_wp2_with fail
  refine (rank_calls H.out s).mono ?_
  rw [HRA.out]
  rintro e w1 ⟨rfl, rfl⟩
  go_wp2
  go_ret2
  exact ⟨rfl, Fr.refl _ _⟩

end Go.Proofs.YtpkocidcfnlbiaaDoor

/- climb.sides, Dist and Meet; walked. -/
set_option linter.unusedVariables false
set_option linter.unusedSimpArgs false
namespace Go.Proofs.YtpkocidcfnlbiaaDoor
open Go.RowKit Go.Shelf Go.Deep

theorem stalls_ok {w : World} {L : IxLoc} {x : Ix} (hx : IxMem w L x) (back : Bool) (s : Nat) (pb f f1 : Nat) (hto : ToOk x L (!back) f f1) (hpb : w.cell? ⟨pb, 0, none⟩ = some (.func (.func f) #[.pointer (some ⟨L.b, 0, none⟩)] #[])) :
    StopOk w x back s (Stl x back s) 84 #[.pointer (some ⟨pb, 0, none⟩)] :=
  ⟨enters_of Tryd.func84 (by kernel_rfl) rfl, fun W Bf far v d hf hfar _ hrng hlow hv hd =>
    (stalls1_calls (hx.no hf) (!back) f f1 hto pb (hf.cell_some hpb (fun h => h)) Bf far hfar v hv d).mono fun e w' ⟨bb, h1, h2, h3⟩ => ⟨bb, h1, h2, fun hb => by
      obtain ⟨y, hy, hlt, had⟩ := h3 hb
      exact ⟨y, far y, hy, hlt, hrng y hy, fun X hX => hlow X hX y hy, had⟩⟩⟩

set_option maxRecDepth 100000 in
set_option maxHeartbeats 4000000 in
theorem sides_calls {w : World} {L : IxLoc} {x : Ix} (h : IxMem w L x) (s t : Nat) (hs : s < x.n) (ht : t < x.n) :
    Calls Tryd.prog 37 #[.pointer (some ⟨L.b, 0, none⟩), .int .i64 (s : Nat), .int .i64 (t : Nat)] w fun e w' => ∃ (B1 B2 : Nat) (U W : Nat → Int), e = .returned (.tuple #[.slice (some ⟨B1, 0, none⟩) x.n x.n, .slice (some ⟨B2, 0, none⟩) x.n x.n]) ∧
      Blk w' B1 x.n 3 (fun i => .int .i64 (U i)) ∧ Blk w' B2 x.n 3 (fun i => .int .i64 (W i)) ∧ Fr No w w' ∧ SFarT x.n (x.ued false) [(s, 0)] (Stl x false s) U ∧ SFarT x.n (x.ued true) [(t, 0)] (Stl x true t) W := by
  have H := hid h
  clear h
  go_enter Tryd.func37, Tryd.ntmps37
  go_wp2_with fail
  refine (vertices_calls H.out).mono ?_
  rintro e w1 ⟨rfl, hf1⟩
  have H1 := hid (H.out.no hf1)
  have F1 := hid hf1
  clear hf1
  go_wp2_with fail
  refine (stalls_calls 25 L.b w1).mono ?_
  rintro e w2 ⟨rfl, hw2⟩
  have f2 : Fr No w1 w2 := by rw [hw2]; exact (Fr.refl No w1).alloc _
  have c2 : w2.cell? ⟨w1.heap.size, 0, none⟩ = some (.func (.func 25) #[.pointer (some ⟨L.b, 0, none⟩)] #[]) := by rw [hw2]; simp [go_sem]
  have H2 := hid (H1.out.no f2)
  have F2 := hid (F1.out.trans f2)
  have C2 := hid c2
  clear hw2 f2 c2
  go_wp2_with fail
  refine (spread_calls H2.out false _ _ (to_up x L) s hs 84 #[.pointer (some ⟨w1.heap.size, 0, none⟩)] _ (stalls_ok H2.out false s w1.heap.size _ _ (to_down x L) C2.out)).mono ?_
  rintro e w3 ⟨B1, U, rfl, hb1, hf3, _, hu⟩
  have H3 := hid (H2.out.no hf3)
  have F3 := hid (F2.out.trans hf3)
  have HB1 := hid hb1
  have HU := hid hu
  clear hf3 hb1 hu C2
  go_wp2_with fail
  refine (vertices_calls H3.out).mono ?_
  rintro e w4 ⟨rfl, hf4⟩
  have H4 := hid (H3.out.no hf4)
  have F4 := hid (F3.out.trans hf4)
  have HB14 := hid (HB1.out.fr hf4 (fun h => h))
  clear hf4 HB1
  go_wp2_with fail
  refine (stalls_calls 23 L.b w4).mono ?_
  rintro e w5 ⟨rfl, hw5⟩
  have f5 : Fr No w4 w5 := by rw [hw5]; exact (Fr.refl No w4).alloc _
  have c5 : w5.cell? ⟨w4.heap.size, 0, none⟩ = some (.func (.func 23) #[.pointer (some ⟨L.b, 0, none⟩)] #[]) := by rw [hw5]; simp [go_sem]
  have H5 := hid (H4.out.no f5)
  have F5 := hid (F4.out.trans f5)
  have C5 := hid c5
  have HB15 := hid (HB14.out.fr f5 (fun h => h))
  clear hw5 f5 c5 HB14
  go_wp2_with fail
  refine (spread_calls H5.out true _ _ (to_down x L) t ht 84 #[.pointer (some ⟨w4.heap.size, 0, none⟩)] _ (stalls_ok H5.out true t w4.heap.size _ _ (to_up x L) C5.out)).mono ?_
  rintro e w6 ⟨B2, W, rfl, hb2, hf6, _, hw⟩
  have F6 := hid (F5.out.trans hf6)
  have HB16 := hid (HB15.out.fr hf6 (fun h => h))
  have HB2 := hid hb2
  have HW := hid hw
  clear hf6 hb2 hw C5
  go_wp2
  go_ret2
  exact ⟨B1, B2, U, W, rfl, HB16.out, HB2.out, F6.out, HU.out, HW.out⟩

theorem lst2_succ {U W : Nat → Int} {k : Nat} (hu : Bd (U k)) (hw : Bd (W k)) : 0 ≤ lst2 U W k → mi2 (lst2 U W k) (ad (U k) (W k)) = lst2 U W (k + 1) := fun h0 => by
  have h1 : lst2 U W k ≤ 4611686018427387906 := mn_none (p := fun _ => true) (f := fun v => tw (U v) (W v)) k
  have hst : lst2 U W (k + 1) = if tw (U k) (W k) < lst2 U W k then tw (U k) (W k) else lst2 U W k := by
    show (if (fun _ => true) k = true ∧ tw (U k) (W k) < lst2 U W k then tw (U k) (W k) else lst2 U W k) = _
    simp
  rw [ad_tw hu hw, mi2_id ⟨h0, h1⟩ (tw_b hu hw), hst]
  split <;> omega
theorem lst2_pos {U W : Nat → Int} {k : Nat} (hu : ∀ i, i < k → Bd (U i)) (hw : ∀ i, i < k → Bd (W i)) : 0 ≤ lst2 U W k :=
  (mn_b (p := fun _ => true) (f := fun v => tw (U v) (W v)) k (fun i hi _ => tw_b (hu i hi) (hw i hi))).1

set_option maxRecDepth 100000 in
set_option maxHeartbeats 4000000 in
theorem cdist_no {w : World} {L : IxLoc} {x : Ix} (h : IxMem w L x) (s t : Int) (hno : ¬ ((0 ≤ s ∧ s < x.n) ∧ (0 ≤ t ∧ t < x.n))) :
    Calls Tryd.prog 14 #[.pointer (some ⟨L.b, 0, none⟩), .int .i64 s, .int .i64 t] w fun e w' => e = .returned (.tuple #[.int .i64 0, .int .i64 1]) ∧ Fr No w w' := by
  have H := hid h
  clear h
  by_cases hs : 0 ≤ s ∧ s < x.n
  · have hra : x.rank s = (x.rk s.toNat : Nat) := by unfold Ix.rank; rw [if_pos hs]
    have hrt : x.rank t = -1 := by unfold Ix.rank; rw [if_neg (fun h => hno ⟨hs, h⟩)]
    have HRA := hid hra
    have HRT := hid hrt
    clear hra hrt hno hs
    go_enter Tryd.func14, Tryd.ntmps14
    go_wp2_with fail
    refine (rank_calls H.out s).mono ?_
    rw [HRA.out]
    rintro e w1 ⟨rfl, rfl⟩
    go_wp2_with fail
    refine (rank_calls H.out t).mono ?_
    rw [HRT.out]
    rintro e w1 ⟨rfl, rfl⟩
    go_wp2
    go_ret2
    exact ⟨rfl, Fr.refl _ _⟩
  · have hra : x.rank s = -1 := by unfold Ix.rank; rw [if_neg hs]
    have HRA := hid hra
    clear hra hno hs
    go_enter Tryd.func14, Tryd.ntmps14
    go_wp2_with fail
    refine (rank_calls H.out s).mono ?_
    rw [HRA.out]
    rintro e w1 ⟨rfl, rfl⟩
    go_wp2
    go_ret2
    exact ⟨rfl, Fr.refl _ _⟩

set_option maxRecDepth 100000 in
set_option maxHeartbeats 4000000 in
theorem cdist_yes {w : World} {L : IxLoc} {x : Ix} (h : IxMem w L x) (s t : Nat) (hs : s < x.n) (ht : t < x.n) :
    Calls Tryd.prog 14 #[.pointer (some ⟨L.b, 0, none⟩), .int .i64 (s : Nat), .int .i64 (t : Nat)] w fun e w' => ∃ U W, e = .returned (.tuple #[.int .i64 (lst2 U W x.n), .int .i64 0]) ∧ Fr No w w' ∧ SFarT x.n (x.ued false) [(s, 0)] (Stl x false s) U ∧ SFarT x.n (x.ued true) [(t, 0)] (Stl x true t) W := by
  have hra : x.rank (s : Nat) = x.rk s := by unfold Ix.rank; rw [if_pos ⟨by omega, by omega⟩]; simp
  have hrt : x.rank (t : Nat) = x.rk t := by unfold Ix.rank; rw [if_pos ⟨by omega, by omega⟩]; simp
  have HRA := hid hra
  have HRT := hid hrt
  have hn := h.ok.n2
  have H := hid h
  clear h hra hrt
  go_enter Tryd.func14, Tryd.ntmps14
  go_wp2_with fail
  refine (rank_calls H.out (s : Nat)).mono ?_
  rw [HRA.out]
  rintro e w1 ⟨rfl, rfl⟩
  go_wp2_with fail
  refine (rank_calls H.out (t : Nat)).mono ?_
  rw [HRT.out]
  rintro e w1 ⟨rfl, rfl⟩
  go_wp2_with fail
  refine (sides_calls H.out s t hs ht).mono ?_
  rintro e w2 ⟨B1, B2, U, W, rfl, hb1, hb2, hf2, hu, hw⟩
  have HB1 := hid hb1
  have HB2 := hid hb2
  have F2 := hid hf2
  have HU := hid hu
  have HW := hid hw
  clear hb1 hb2 hf2 hu hw
  go_wp2
  go_loopg [10, 32] (x.n + 1) (fun gk p q wr => ∃ k : Nat, p = .int .i64 (lst2 U W k) ∧ q = .int .i64 k ∧ k ≤ x.n ∧ gk = x.n + 1 - k ∧ Fr No w wr ∧ Fr No w2 wr)
  case atStart => exact ⟨0, rfl, rfl, by omega, rfl, F2.out, Fr.refl _ _⟩
  case round =>
    clear F2
    obtain ⟨k, rfl, rfl, hk, hg, hf, hf2⟩ := hrel
    have HG := hid hg
    have HF := hid hf
    have HF2 := hid hf2
    clear hg hf hf2
    by_cases hlt : k < x.n
    · have hlt2 : (k : Int) < x.n := by omega
      have s1 := (HB1.out.fr HF2.out (fun h => h)).cell hlt
      have s2 := (HB2.out.fr HF2.out (fun h => h)).cell hlt
      have hpos : 0 ≤ lst2 U W k := lst2_pos (fun i hi => HU.out.rng i (by omega)) (fun i hi => HW.out.rng i (by omega))
      have hst := lst2_succ (HU.out.rng k hlt) (HW.out.rng k hlt) hpos
      obtain ⟨u, hu⟩ : ∃ u, U k = u := ⟨_, rfl⟩
      obtain ⟨z, hz⟩ : ∃ u, W k = u := ⟨_, rfl⟩
      obtain ⟨ls, hls⟩ : ∃ d, lst2 U W k = d := ⟨_, rfl⟩
      rw [hu] at s1 hst
      rw [hz] at s2 hst
      rw [hls] at hst
      have HST := hid hst
      rw [hls]
      clear hst hu hz hls hpos
      go_wp2_with fail
      refine (adl_calls u z (some ⟨wr.heap.size, 0, none⟩) 2 _ (fun _ => ⟨_, 0, rfl, by intro j hj; (have : j = 0 ∨ j = 1 := by omega); rcases this with rfl | rfl <;> simp [go_sem, pfM]⟩)).mono ?_
      rintro e w3 ⟨rfl, hf3⟩
      have HF3 := hid (((Fr.refl No wr).alloc _).trans hf3)
      clear hf3 s1 s2
      obtain ⟨sm, hsm⟩ : ∃ sm, ad u z = sm := ⟨_, rfl⟩
      rw [hsm] at HST ⊢
      clear hsm
      go_wp2_with fail
      refine (mil_calls ls sm (some ⟨w3.heap.size, 0, none⟩) 2 _ (fun _ => ⟨_, 0, rfl, by intro j hj; (have : j = 0 ∨ j = 1 := by omega); rcases this with rfl | rfl <;> simp [go_sem, pfM]⟩)).mono ?_
      rintro e w4 ⟨rfl, hf4⟩
      have HF4 := hid (HF3.out.trans (((Fr.refl No w3).alloc _).trans hf4))
      clear hf4
      go_wp2
      go_roundg (x.n + 1 - (k + 1))
      case measure => have := HG.out; omega
      case rel => exact ⟨k + 1, by rw [HST.out], by go_num, by omega, rfl, HF.out.trans HF4.out, HF2.out.trans HF4.out⟩
    · obtain rfl : k = x.n := by omega
      go_wp2
      go_ret2
      exact ⟨U, W, rfl, HF.out, HU.out, HW.out⟩

theorem cdist_far {w : World} {L : IxLoc} {x : Ix} {G : Gr} (h : IxMem w L x) (hw : Whole G x) (ho : G.Ok) (hwt : G.Wt) (hn : G.n = x.n) (s t : Nat) (hs : s < x.n) (ht : t < x.n) :
    Calls Tryd.prog 14 #[.pointer (some ⟨L.b, 0, none⟩), .int .i64 (s : Nat), .int .i64 (t : Nat)] w fun e w' => e = .returned (.tuple #[.int .i64 (G.far s t), .int .i64 0]) ∧ Fr No w w' := by
  refine (cdist_yes h s t hs ht).mono ?_
  rintro e w' ⟨U, W, rfl, hf, hu, hd⟩
  have hm := SFarT.meet hw h.ok ho hwt hn hs ht hu hd
  rw [lst2_meet hm.1 hm.2 (Gr.far_b hwt s t (by omega) (by omega)).2]
  exact ⟨rfl, hf⟩

end Go.Proofs.YtpkocidcfnlbiaaDoor

/- The climb law's check that its parts are awake; walked. -/
set_option linter.unusedVariables false
set_option linter.unusedSimpArgs false
namespace Go.Proofs.YtpkocidcfnlbiaaDoor
open Go.RowKit Go.Shelf Go.Deep

theorem a20_rk : a6x.n = 3 ∧ a6x.rk 0 = 1 ∧ a6x.rk 1 = 0 ∧ a6x.rk 2 = 2 := by decide +kernel
theorem a20_e : (a6x.ent 0 1).w = 2 ∧ (a6x.ent 1 0).w = 4611686018427387906 ∧ (a6x.ent 0 2).w = 5 ∧ (a6x.ent 2 0).w = 4611686018427387906 ∧ (a6x.ent 1 2).w = 3 ∧ (a6x.ent 2 1).w = 4611686018427387906 := by decide +kernel
theorem a20_ok : a6x.Ok ∧ Whole a6g a6x := (Ix.new_ok (show 0 < 3 by omega) aw_perm aw_g1 aw_g2).build_whole a6_wt
theorem a20_gok : a6g.Ok := ⟨by decide, by decide, by decide, by decide, fun i hi h => by
  have : i = 7 ∨ i = 8 := by
    by_cases h8 : i = 8
    · exact .inr h8
    · by_cases h7 : i = 7
      · exact .inl h7
      · have : a6g.tk i = false := by
          show (if i = 8 then true else if i = 7 then true else false) = false
          rw [if_neg h8, if_neg h7]
        rw [this] at h; cases h
  rcases this with rfl | rfl <;> decide⟩
def a20u (v : Nat) : Int := [0, 4611686018427387906, 5].getD v 0
def a20d (v : Nat) : Int := [2, 0, 4611686018427387906].getD v 0
theorem three {v : Nat} (h : v < a6x.n) : v = 0 ∨ v = 1 ∨ v = 2 := by rw [a20_rk.1] at h; omega
theorem a20_up : UpS a6x (a6x.ew false) 0 a20u := by
  obtain ⟨rn, r0, r1, r2⟩ := a20_rk
  obtain ⟨e01, e10, e02, e20, e12, e21⟩ := a20_e
  refine ⟨fun v hv => ?_, rfl, fun z v hz hv hlt => ?_, fun K hK h0 hcl v hv => ?_⟩
  · rcases three hv with rfl | rfl | rfl <;> (unfold Bd; decide)
  · rcases three hz with rfl | rfl | rfl <;> rcases three hv with rfl | rfl | rfl <;> simp only [r0, r1, r2] at hlt <;> first
      | omega
      | (show a20u _ ≤ tw (a20u _) (a6x.ent _ _).w; simp only [e01, e10, e02, e20, e12, e21]; decide)
  · rcases three hv with rfl | rfl | rfl
    · rw [h0]; decide
    · exact (hK 1 hv).2
    · have := hcl 0 2 (by omega) hv (by omega)
      rw [h0] at this
      have e : a6x.ew false 0 2 = 5 := e02
      rw [e] at this
      exact this
theorem a20_down : UpS a6x (a6x.ew true) 1 a20d := by
  obtain ⟨rn, r0, r1, r2⟩ := a20_rk
  obtain ⟨e01, e10, e02, e20, e12, e21⟩ := a20_e
  refine ⟨fun v hv => ?_, rfl, fun z v hz hv hlt => ?_, fun K hK h0 hcl v hv => ?_⟩
  · rcases three hv with rfl | rfl | rfl <;> (unfold Bd; decide)
  · rcases three hz with rfl | rfl | rfl <;> rcases three hv with rfl | rfl | rfl <;> simp only [r0, r1, r2] at hlt <;> first
      | omega
      | (show a20d _ ≤ tw (a20d _) (a6x.ent _ _).w; simp only [e01, e10, e02, e20, e12, e21]; decide)
  · rcases three hv with rfl | rfl | rfl
    · have := hcl 1 0 (by omega) hv (by omega)
      rw [h0] at this
      have e : a6x.ew true 1 0 = 2 := e01
      rw [e] at this
      exact this
    · rw [h0]; decide
    · exact (hK 2 hv).2
theorem a20_bst : (List.range 3).all (fun i => (List.range 3).all fun j => decide (a6g.bst i j = if i = 0 ∧ j = 1 then 2 else if i = 1 ∧ j = 2 then 3 else 4611686018427387906)) = true := by decide +kernel
theorem a20_b {i j : Nat} (hi : i < 3) (hj : j < 3) : a6g.bst i j = if i = 0 ∧ j = 1 then 2 else if i = 1 ∧ j = 2 then 3 else 4611686018427387906 := by
  have h1 := List.all_eq_true.1 (List.all_eq_true.1 a20_bst i (by simpa using hi)) j (by simpa using hj)
  exact of_decide_eq_true h1
def a20x (v : Nat) : Int := [0, 2, 5].getD v 0
theorem a20_far : a6g.far 0 2 = 5 := by
  have hn : a6g.n = 3 := rfl
  have h1 := (Gr.far_inv a6_wt).sound a20x (fun i hi _ => by
    rw [hn] at hi
    (have : i = 0 ∨ i = 1 ∨ i = 2 := by omega)
    rcases this with rfl | rfl | rfl <;> (unfold Bd; decide)) (fun i j hi hj _ _ => by
    rw [hn] at hi hj
    unfold Gr.d0
    rw [a20_b hi hj]
    (have hi : i = 0 ∨ i = 1 ∨ i = 2 := by omega)
    (have hj : j = 0 ∨ j = 1 ∨ j = 2 := by omega)
    rcases hi with rfl | rfl | rfl <;> rcases hj with rfl | rfl | rfl <;> decide) 0 2 (by rw [hn]; omega) (by rw [hn]; omega) rfl rfl
  have b02 := Gr.far_b a6_wt 0 2 (by rw [hn]; omega) (by rw [hn]; omega)
  have e0 : a20x 0 = 0 := rfl
  have e2 : a20x 2 = 5 := rfl
  rw [e0, e2, tw_self0 b02] at h1
  have t := Gr.far_tri a6_wt (a := 0) (m := 1) (b := 2) (by rw [hn]; omega) (by rw [hn]; omega) (by rw [hn]; omega)
  have u1 := Gr.far_bst a6_wt (a := 0) (b := 1) (by rw [hn]; omega) (by rw [hn]; omega)
  have u2 := Gr.far_bst a6_wt (a := 1) (b := 2) (by rw [hn]; omega) (by rw [hn]; omega)
  rw [a20_b (by omega) (by omega)] at u1 u2
  have b01 := Gr.far_b a6_wt 0 1 (by rw [hn]; omega) (by rw [hn]; omega)
  have b12 := Gr.far_b a6_wt 1 2 (by rw [hn]; omega) (by rw [hn]; omega)
  have u1 : a6g.far 0 1 ≤ 2 := by simpa using u1
  have u2 : a6g.far 1 2 ≤ 3 := by simpa using u2
  have m := tw_mono b01.1 b12.1 u1 u2 (by omega) (by omega)
  have e : tw 2 3 = 5 := by decide
  rw [e] at m
  omega

theorem blk_ints {w : World} {b n : Nat} {U : Nat → Int} (h : Blk w b n 3 (fun i => .int .i64 (U i))) : IntsF w (some ⟨b, 0, none⟩) n U := fun _ => ⟨b, 0, rfl, fun j hj => by rw [Nat.zero_add]; exact h.cell hj⟩

set_option maxRecDepth 100000 in
set_option maxHeartbeats 4000000 in
theorem awake20_calls (w : World) (hN : NoneVar w) : Calls Tryd.prog 4 #[] w fun e w' => e = .returned (.bool true) ∧ Fr No w w' := by
  have HN := hid hN
  clear hN
  go_enter Tryd.func4, Tryd.ntmps4
  go_wp2_with fail
  refine (gnew2_calls 3 4 (by omega) (by omega) (by omega) (by omega) _).mono ?_
  rintro e w1 ⟨L0, rfl, hg, hf, hown⟩
  have HG := hid hg
  have F1 := hid hf
  have HO := hid hown
  clear hg hf hown
  go_wp2_with fail
  refine (gins_yes HG.out 7 (by omega) 0 1 2 false (by decide) (by decide) (by omega) (by omega) rfl a6_c0).mono ?_
  rintro e w2 ⟨rfl, L1, hg, hb1, _, hf, hown⟩
  have F2 := hid (F1.out.trans' hf (fun i hi hj => by have := HO.out i hj; omega))
  have HO1 : Hid (∀ j, L1.own 3 j → w.heap.size ≤ j) := hid fun j hj => by
    rcases hown j hj with h | h
    · exact HO.out j h
    · have := F1.out.size; omega
  have HG1 := hid hg
  rw [← hb1]
  clear hg hf hown hb1 HG HO F1
  go_wp2_with fail
  refine (gins_yes HG1.out 8 (by omega) 1 2 3 false (by decide) (by decide) (by omega) (by omega) rfl a6_c1).mono ?_
  rintro e w3 ⟨rfl, L2, hg, hb2, _, hf, hown⟩
  have F3 := hid (F2.out.trans' hf (fun i hi hj => by have := HO1.out i hj; omega))
  have HG2 : Hid (GMem w3 L2 a6g) := hid hg
  rw [← hb2]
  clear hg hf hown hb2 HG1 HO1 F2
  go_wp2_with fail
  have fa := (Fr.refl No w3).alloc (.cells #[.int .i64 1, .int .i64 0, .int .i64 2] 3)
  refine (build_calls (HG2.out.no fa) (some ⟨w3.heap.size, 0, none⟩) 3 awf (lit_ints 3 awf (by intro j hj; (have : j = 0 ∨ j = 1 ∨ j = 2 := by omega); rcases this with rfl | rfl | rfl <;> rfl)) aw_perm awg aw_g1 aw_g2 (HN.out.fr (F3.out.trans fa) (fun h => h))).mono ?_
  rintro e w4 ⟨Lx, rfl, hf, hx, _, _, _, hcx⟩
  have HX : Hid (IxMem w4 Lx a6x) := hid hx
  have F4 := hid (F3.out.trans (fa.trans hf))
  clear hf hx hcx fa HG2 F3
  go_wp2_with fail
  refine (cup_yes HX.out 0 (by rw [a20_rk.1]; omega)).mono ?_
  rintro e w5 ⟨B1, U, rfl, hb1, hf, _, hu⟩
  have hU : ∀ v, v < 3 → U v = a20u v := fun v hv => hu.uniq a20_up (by rw [a20_rk.1]; exact hv)
  have HX5 := hid (HX.out.no hf)
  have F5 := hid (F4.out.trans hf)
  have HB1 := hid hb1
  have HU := hid hU
  clear hf hb1 hu hU HX F4
  go_wp2_with fail
  refine (cdown_yes HX5.out 1 (by rw [a20_rk.1]; omega)).mono ?_
  rintro e w6 ⟨B2, W, rfl, hb2, hf, _, hw⟩
  have hW : ∀ v, v < 3 → W v = a20d v := fun v hv => hw.uniq a20_down (by rw [a20_rk.1]; exact hv)
  have HX6 := hid (HX5.out.no hf)
  have F6 := hid (F5.out.trans hf)
  have HB16 := hid (HB1.out.fr hf (fun h => h))
  have HB2 := hid hb2
  have HW := hid hW
  clear hf hb2 hw hW HX5 F5 HB1
  go_wp2_with fail
  refine (cdist_far HX6.out a20_ok.2 a20_gok a6_wt a20_rk.1.symm 0 2 (by rw [a20_rk.1]; omega) (by rw [a20_rk.1]; omega)).mono ?_
  rw [a20_far]
  rintro e w7 ⟨rfl, hf⟩
  have HX7 := hid (HX6.out.no hf)
  have F7 := hid (F6.out.trans hf)
  have HB17 := hid (HB16.out.fr hf (fun h => h))
  have HB27 := hid (HB2.out.fr hf (fun h => h))
  clear hf HX6 F6 HB16 HB2
  go_wp2_with fail
  refine (cdist_no HX7.out 0 3 (by rw [a20_rk.1]; omega)).mono ?_
  rintro e w8 ⟨rfl, hf⟩
  have F8 := hid (F7.out.trans hf)
  have I1 := hid (blk_ints (HB17.out.fr hf (fun h => h)))
  have I2 := hid (blk_ints (HB27.out.fr hf (fun h => h)))
  have hn3 := a20_rk.1
  rw [hn3] at I1 I2
  simp only [hn3]
  clear hf HX7 F7 HB17 HB27 hn3
  go_wp2_with fail
  have fa := (Fr.refl No w8).alloc (.cells #[.int .i64 0, .int .i64 4611686018427387906, .int .i64 5] 3)
  refine (ints_calls (some ⟨B1, 0, none⟩) (some ⟨w8.heap.size, 0, none⟩) 3 3 3 3 U a20u _ (I1.out.fr fa) (lit_ints 3 a20u (by intro j hj; (have : j = 0 ∨ j = 1 ∨ j = 2 := by omega); rcases this with rfl | rfl | rfl <;> rfl)) (by decide) (by decide) true ⟨fun _ => ⟨rfl, HU.out⟩, fun _ => rfl⟩).mono ?_
  rintro e w9 ⟨rfl, hf⟩
  have F9 := hid (F8.out.trans (fa.trans hf))
  have I29 := hid ((I2.out.fr fa).fr hf)
  clear hf fa I1 I2 F8
  go_wp2_with fail
  have fa := (Fr.refl No w9).alloc (.cells #[.int .i64 2, .int .i64 0, .int .i64 4611686018427387906] 3)
  refine (ints_calls (some ⟨B2, 0, none⟩) (some ⟨w9.heap.size, 0, none⟩) 3 3 3 3 W a20d _ (I29.out.fr fa) (lit_ints 3 a20d (by intro j hj; (have : j = 0 ∨ j = 1 ∨ j = 2 := by omega); rcases this with rfl | rfl | rfl <;> rfl)) (by decide) (by decide) true ⟨fun _ => ⟨rfl, HW.out⟩, fun _ => rfl⟩).mono ?_
  rintro e w10 ⟨rfl, hf⟩
  have F10 := hid (F9.out.trans (fa.trans hf))
  clear hf fa I29 F9
  go_wp2
  go_ret
  exact ⟨rfl, F10.out⟩

end Go.Proofs.YtpkocidcfnlbiaaDoor
