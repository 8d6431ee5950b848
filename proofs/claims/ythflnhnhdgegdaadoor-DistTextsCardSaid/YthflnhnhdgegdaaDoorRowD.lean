/- Rows of the laws of layer 1: what a row gives, opened; an argument behind the call. -/
import Derived.Test.YthflnhnhdgegdaaDoorCards
import Derived.Test.YthflnhnhdgegdaaDoorTie
import Derived.Test.YthflnhnhdgegdaaDoorDd
import Derived.WalkKit
import Derived.ProofKit
import Derived.OpenShut
import Derived.Carry
import Derived.SizedLaws
import Derived.MakeChecks
import Derived.Deep.Slices
import Derived.Deep.DeepHandedRow
import Derived.Deep.DeepWitnessRowRef
import Derived.Lay
set_option linter.unusedVariables false
set_option linter.unusedSimpArgs false
set_option linter.all false
set_option maxRecDepth 100000
namespace Go.Proofs.YthflnhnhdgegdaaDoor
open Go.ChangeShapes Go.WideShapes Go.ChangeAt Go.RowKit Go.Deep

theorem rowOwn : ownKnob Tryd.prog.godebug = none := by kernel_rfl
theorem rowLaid : laidOutB Tryd.prog = true := by kernel_rfl
theorem spot_none {w : World} {a : Addr} {v : Value} (h : w.cell? a = some v) : a.spot = none := by
  unfold World.cell? at h
  split at h
  · split at h
    · cases h
    · rename_i hs; simpa using hs
  · cases h
theorem addr_add {a : Addr} (hs : a.spot = none) (i : Nat) : a.add i = ⟨a.block, a.off + i, none⟩ := by
  unfold Addr.add
  split
  · rename_i h; subst h; cases a; simp_all
  · rfl
theorem addr_eq {a : Addr} (hs : a.spot = none) : a = ⟨a.block, a.off, none⟩ := by cases a; simp_all

section
variable {H : Type} {enc : TypeId × Value → H} {W : World} {base : Nat} {sp : Nat → Bool} {held : Bool}

/-- An argument of integers. -/
theorem open_intsF {v : Value} {d : DataW H} {p : List MemPlace} {r : Reach} {b0 : Nat} (hv : Value.okWide Tryd.prog W r b0 29 v) (h : DataW.Trod enc Tryd.prog W base sp held 29 v d p) :
    ∃ (A : Option Addr) (n c : Nat) (f : Nat → Int), v = .slice A n c ∧ IntsF W A n f ∧ (n = 0 ∨ ∃ es rest, d = .slice es rest ∧ es.length = n) := by
  obtain ⟨A, n, c, rfl⟩ := okWide_slice Tryd.underlying29 hv
  obtain ⟨fuel, hf⟩ := h
  simp [Value.cells] at hf
  rcases open_ints Tryd.underlying29 Tryd.underlying3 (by kernel_rfl) hf with ⟨e, hx⟩ | ⟨a, len, cap, zs, e, hb, hl, hm, hz, hx, hi, _⟩
  · simp at e
    obtain ⟨rfl, rfl, rfl⟩ := e
    exact ⟨none, 0, 0, fun _ => 0, rfl, fun h => by omega, .inl rfl⟩
  · simp at e
    obtain ⟨rfl, rfl, rfl⟩ := e
    simp only [Prod.mk.injEq] at hx
    have hle : n ≤ zs.length := by rw [hz]; split <;> omega
    refine ⟨some a, n, c, fun i => zs.getD i 0, rfl, fun hn => ⟨a.block, a.off, ?_, fun j hj => ?_⟩, .inr ⟨_, _, hx.1, by simp [lits]; omega⟩⟩
    · have := hi 0 (by omega)
      simp only [Addr.add, if_true] at this
      rw [← addr_eq (spot_none this)]
    · have h0 := hi 0 (by omega)
      simp only [Addr.add, if_true] at h0
      have := hi j (by omega)
      rw [addr_add (spot_none h0)] at this
      exact this

/-- What is read behind a call that leaves the old memory. -/
theorem trodAll_below {W' : World} (hb : Below W.heap.size W W') : ∀ (ts : List TypeId) (vs : List Value) (ds : List (DataW H)) (ps : List MemPlace), (ts.all fun t => Tryd.prog.readableRec t && decide (t < Tryd.prog.types.size)) = true →
    DataW.TrodAll enc Tryd.prog W 0 (fun _ => true) true ts vs ds ps → (∀ x ∈ ps, x.block < W.heap.size) → DataW.TrodAll enc Tryd.prog W' 0 (fun b => decide (b < W.heap.size)) true ts vs ds ps := by
  intro ts
  induction ts with
  | nil =>
    intro vs ds ps _ h _
    obtain ⟨rfl, rfl, rfl⟩ := trodAll_nil h
    exact trodAll_mk0
  | cons t ts ih =>
    intro vs ds ps hr h hlt
    obtain ⟨v, vs', d, ds', p, q, rfl, rfl, rfl, h0, h1⟩ := trodAll_cons h
    simp only [List.all_cons, Bool.and_eq_true, decide_eq_true_eq] at hr
    exact trodAll_cons_mk (Below.trod rowLaid hr.1.1 hr.1.2 h0 hb (fun x hx => hlt x (by simp [hx]))) (ih _ _ _ (by simpa using hr.2) h1 (fun x hx => hlt x (by simp [hx])))
end

end Go.Proofs.YthflnhnhdgegdaaDoor
