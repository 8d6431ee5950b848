/- Rows over the package's variable 'none': what the row gives, opened; the witness's world; an argument behind the call. -/
import Derived.Test.YtoepbhacpidcbaaGreatDoorCards
import Derived.Test.YtoepbhacpidcbaaGreatDoorTie
import Derived.WalkKit
import Derived.ProofKit
import Derived.OpenShut
import Derived.Carry
import Derived.SizedLaws
import Derived.MakeChecks
import Derived.Deep.Slices
import Derived.Deep.DeepHandedRow
import Derived.Test.YtoepbhacpidcbaaGreatDoorQBase
import Derived.Test.YtoepbhacpidcbaaGreatDoorQIdx
import Derived.Test.YtoepbhacpidcbaaGreatDoorQPerm
import Derived.Test.YtoepbhacpidcbaaGreatDoorQIdxB
import Derived.Test.YtoepbhacpidcbaaGreatDoorQRef
import Derived.Test.YtoepbhacpidcbaaGreatDoorQUnref

set_option linter.unusedVariables false
set_option linter.unusedSimpArgs false
set_option linter.all false
set_option maxRecDepth 100000
namespace Go.Proofs.YtoepbhacpidcbaaGreatDoor
open Go.ChangeShapes Go.WideShapes Go.ChangeAt Go.RowKit Go.Deep

theorem rowOwn : ownKnob Tryz.prog.godebug = none := by kernel_rfl
theorem rowLaid : laidOutB Tryz.prog = true := by kernel_rfl
theorem gNone : Tryz.prog.globalNamed "ringroad/index.none" = some 0 := by kernel_rfl
theorem gNoneType : (Tryz.prog.globals[0]?).map (·.type) = some 117 := by kernel_rfl

theorem spot_none {w : World} {a : Addr} {v : Value} (h : w.cell? a = some v) : a.spot = none := by
  unfold World.cell? at h
  split at h
  · split at h
    · cases h
    · rename_i hs; simpa using hs
  · cases h
theorem addr_add {a : Addr} (hs : a.spot = none) (i : Nat) : a.add i = ⟨a.block, a.off + i, none⟩ := by
  unfold Addr.add
  split
  · rename_i h; subst h; cases a; simp_all
  · rfl
theorem addr_eq {a : Addr} (hs : a.spot = none) : a = ⟨a.block, a.off, none⟩ := by cases a; simp_all

section
variable {H : Type} {enc : TypeId × Value → H} {W : World} {base : Nat} {sp : Nat → Bool} {held : Bool}

/-- An entry's three cells. -/
theorem open_entry {fuel : Nat} {cs : List Value} {x : DataW H × List MemPlace} (h : DataW.trod enc Tryz.prog W base sp held fuel 117 cs = some x) :
    ∃ a b c : Int, cs = [.int .i64 a, .int .i64 b, .int .i64 c] ∧ x.1 = .agg [.lit (.int .i64 a), .lit (.int .i64 b), .lit (.int .i64 c)] := by
  obtain ⟨xs, n, _, hx, hc, hlen, hg⟩ := DataW.trod_struct Tryz.underlying117 h
  have c3 : Tryz.prog.cellsOf 3 = 1 := by kernel_rfl
  have hcs : cs.length = 3 := hc.trans (by kernel_rfl)
  have h0 : DataW.trod enc Tryz.prog W base sp held n 3 ((cs.drop 0).take (Tryz.prog.cellsOf 3)) = xs[0]? := hg 0 _ rfl
  have h1 : DataW.trod enc Tryz.prog W base sp held n 3 ((cs.drop 1).take (Tryz.prog.cellsOf 3)) = xs[1]? := hg 1 _ rfl
  have h2 : DataW.trod enc Tryz.prog W base sp held n 3 ((cs.drop 2).take (Tryz.prog.cellsOf 3)) = xs[2]? := hg 2 _ rfl
  rw [c3] at h0 h1 h2
  match cs, hcs, xs, hlen, h0, h1, h2 with
  | [v0, v1, v2], _, [x0, x1, x2], _, h0, h1, h2 =>
    obtain ⟨a, e0, f0, _⟩ := DataW.trod_int Tryz.underlying3 (show DataW.trod _ Tryz.prog W base sp held n 3 _ = some x0 from h0)
    obtain ⟨b, e1, f1, _⟩ := DataW.trod_int Tryz.underlying3 (show DataW.trod _ Tryz.prog W base sp held n 3 _ = some x1 from h1)
    obtain ⟨c, e2, f2, _⟩ := DataW.trod_int Tryz.underlying3 (show DataW.trod _ Tryz.prog W base sp held n 3 _ = some x2 from h2)
    simp at e0 e1 e2
    subst e0; subst e1; subst e2; subst f0; subst f1; subst f2
    exact ⟨a, b, c, rfl, by rw [hx]; rfl⟩

/-- What is read behind a call that leaves the old memory. -/
theorem trodAll_below {W' : World} (hb : Below W.heap.size W W') : ∀ (ts : List TypeId) (vs : List Value) (ds : List (DataW H)) (ps : List MemPlace), (ts.all fun t => Tryz.prog.readableRec t && decide (t < Tryz.prog.types.size)) = true →
    DataW.TrodAll enc Tryz.prog W 0 (fun _ => true) true ts vs ds ps → (∀ x ∈ ps, x.block < W.heap.size) → DataW.TrodAll enc Tryz.prog W' 0 (fun b => decide (b < W.heap.size)) true ts vs ds ps := by
  intro ts
  induction ts with
  | nil =>
    intro vs ds ps _ h _
    obtain ⟨rfl, rfl, rfl⟩ := trodAll_nil h
    exact trodAll_mk0
  | cons t ts ih =>
    intro vs ds ps hr h hlt
    obtain ⟨v, vs', d, ds', p, q, rfl, rfl, rfl, h0, h1⟩ := trodAll_cons h
    simp only [List.all_cons, Bool.and_eq_true, decide_eq_true_eq] at hr
    exact trodAll_cons_mk (Below.trod rowLaid hr.1.1 hr.1.2 h0 hb (fun x hx => hlt x (by simp [hx]))) (ih _ _ _ (by simpa using hr.2) h1 (fun x hx => hlt x (by simp [hx])))
end

theorem noneVar_of {W : World} (h : laidMetH Tryz.prog [("ringroad/index.none", Rows.laid_ringroad_index_none)] W) : NoneVar W := by
  rw [MakeChecks.laidMetH_plain _ _ _ (by kernel_rfl)] at h
  obtain ⟨ps, ⟨g0, t0, cs0, f0, p0, q0, hg0, ht0, hv0, hd0, _, _⟩, _, _⟩ := h
  obtain rfl := Option.some.inj (gNone.symm.trans hg0)
  obtain rfl := Option.some.inj (gNoneType.symm.trans ht0)
  obtain ⟨a, b, c, hcs, hx⟩ := open_entry hd0
  simp [Rows.laid_ringroad_index_none] at hx
  obtain ⟨rfl, rfl, rfl⟩ := hx
  have hc : cs0 = #[.int .i64 4611686018427387906, .int .i64 (-1), .int .i64 (-1)] := by
    apply Array.toList_inj.1
    rw [hcs]
  subst hc
  exact ⟨World.var?_cell hg0 hv0 0, World.var?_cell hg0 hv0 1, World.var?_cell hg0 hv0 2⟩

/-- A world for the witness: the settled one, 'none' as its initialiser lays it. -/
noncomputable def rowWorld (os : Os) : World :=
  { World.holding Tryz.prog os ⟨#[], #[], []⟩ with heap := (World.holding Tryz.prog os ⟨#[], #[], []⟩).heap.modify 0 fun
      | .cells _ t frozen => .cells #[.int .i64 4611686018427387906, .int .i64 (-1), .int .i64 (-1)] t frozen
      | o => o }

end Go.Proofs.YtoepbhacpidcbaaGreatDoor
