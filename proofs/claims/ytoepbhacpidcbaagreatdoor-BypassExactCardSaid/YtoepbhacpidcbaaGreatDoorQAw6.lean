/- build.Between: how far it is between two by way of lower ones; walked. -/
import Derived.Deep.CutRange
import Derived.Deep.RegionHeld3
import Derived.Test.YtoepbhacpidcbaaGreatDoorQBase
import Derived.Test.YtoepbhacpidcbaaGreatDoorQIdx
import Derived.Test.YtoepbhacpidcbaaGreatDoorQIdxB
import Derived.Test.YtoepbhacpidcbaaGreatDoorQPerm
import Derived.Test.YtoepbhacpidcbaaGreatDoorQRef
import Derived.Test.YtoepbhacpidcbaaGreatDoorQBig
import Derived.Test.YtoepbhacpidcbaaGreatDoorQUnref
import Derived.Test.YtoepbhacpidcbaaGreatDoorQUnE
import Derived.Test.YtoepbhacpidcbaaGreatDoorQItr
import Derived.Test.YtoepbhacpidcbaaGreatDoorQDst
import Derived.Test.YtoepbhacpidcbaaGreatDoorQLnk
import Derived.Test.YtoepbhacpidcbaaGreatDoorQRow2
import Derived.Test.YtoepbhacpidcbaaGreatDoorQGr
import Derived.Test.YtoepbhacpidcbaaGreatDoorQGOps
import Derived.Test.YtoepbhacpidcbaaGreatDoorQBld
import Derived.Test.YtoepbhacpidcbaaGreatDoorQBW
import Derived.Test.YtoepbhacpidcbaaGreatDoorQHpK
import Derived.Test.YtoepbhacpidcbaaGreatDoorQG8
import Derived.Test.YtoepbhacpidcbaaGreatDoorQSqO
import Derived.Test.YtoepbhacpidcbaaGreatDoorQGoes
import Derived.Test.YtoepbhacpidcbaaGreatDoorQUp
import Derived.Test.YtoepbhacpidcbaaGreatDoorQSetP

set_option linter.unusedVariables false
set_option linter.unusedSimpArgs false
namespace Go.Proofs.YtoepbhacpidcbaaGreatDoor
open Go.RowKit Go.Shelf Go.Deep

attribute [local go_sem] Oper.semAt_some

def Ix.below (x : Ix) (u v z : Nat) : Bool := decide (x.rk z < min (x.rk u) (x.rk v))
/-- Between two rounds: the box of the least, the marks. -/
structure BtM (w5 : World) (B14 n0 : Nat) (ds : List Nat) (acc : Int) (W : World) : Prop where
  f : Fr (One B14) w5 W
  c : W.cell? ⟨B14, 0, none⟩ = some (.int .i64 acc)
  z : W.frozen? ⟨B14, 0, none⟩ = false
  m : Marks n0 ds W
theorem BtM.no {w5 : World} {B14 n0 : Nat} {ds : List Nat} {acc : Int} {W W' : World} (h : BtM w5 B14 n0 ds acc W) (hf : Fr No W W') : BtM w5 B14 n0 ds acc W' :=
  ⟨h.f.trans hf.no, hf.cell_some h.c (fun h => h), (hf.frozen (p := ⟨B14, 0, none⟩) (cell_lt h.c) (fun h => h)).trans h.z, h.m.no hf⟩
theorem BtM.grown {w5 : World} {B14 n0 N : Nat} {ds : List Nat} {acc : Int} {A B : World} (h : BtM w5 B14 n0 ds acc A) (hN : ∀ x ∈ ds, x < N) (h5 : w5.heap.size ≤ N) {row : Option Nat} (hg : A.grownBy B row) (hr : ∀ r, row = some r → N ≤ r ∧ ∃ o : Obj, A.heap[r]? = some o ∧ o.isCells = false) : BtM w5 B14 n0 ds acc B :=
  ⟨h.f.grown hg (fun k e => .inr (by have := (hr k e).1; omega)), cell_kept h.c hg (fun r e => (hr r e).2), (frozen_kept h.c hg (fun r e => (hr r e).2)).trans h.z, h.m.grown hN hg (fun r e => (hr r e).1)⟩
theorem BtM.set {w5 : World} {B14 n0 : Nat} {ds : List Nat} {acc : Int} {W : World} (h : BtM w5 B14 n0 ds acc W) (x : Int) : BtM w5 B14 n0 ds x (W.setCell ⟨B14, 0, none⟩ (.int .i64 x)) :=
  ⟨h.f.set1 0 _, World.cell?_setCell_same' _ _ _ (by rw [h.c]; rfl), by rw [World.frozen?_setCell]; exact h.z, h.m.fr ((Fr.refl (One B14) W).set1 0 _) (fun k o (e : k = B14) ho => cell_is_cells h.c (by rw [e] at ho; exact ho))⟩

end Go.Proofs.YtoepbhacpidcbaaGreatDoor
/- The build law's check that its parts are awake; walked. -/
set_option linter.unusedVariables false
set_option linter.unusedSimpArgs false
namespace Go.Proofs.YtoepbhacpidcbaaGreatDoor
open Go.RowKit Go.Shelf Go.Deep
attribute [local go_sem high] run_eql_en run_neq_en

def a6g : Gr := ((Gr.zero 3 4).ins 7 ⟨((0 : Nat) : Int), ((1 : Nat) : Int), 2, false⟩).ins 8 ⟨((1 : Nat) : Int), ((2 : Nat) : Int), 3, false⟩
def a6x : Ix := (Ix.new 3 awf awg).build a6g
theorem a6_wt : a6g.Wt := by
  intro i hi h
  have : i = 7 ∨ i = 8 := by
    by_cases h8 : i = 8
    · exact .inr h8
    · by_cases h7 : i = 7
      · exact .inl h7
      · have : a6g.tk i = false := by
          show (if i = 8 then true else if i = 7 then true else false) = false
          rw [if_neg h8, if_neg h7]
        rw [this] at h; cases h
  rcases this with rfl | rfl <;> decide
theorem a6_c0 : (Gr.zero 3 4).cnt < (Gr.zero 3 4).most := by decide +kernel
theorem a6_c1 : ((Gr.zero 3 4).ins 7 ⟨((0 : Nat) : Int), ((1 : Nat) : Int), 2, false⟩).cnt < ((Gr.zero 3 4).ins 7 ⟨((0 : Nat) : Int), ((1 : Nat) : Int), 2, false⟩).most := by decide +kernel

end Go.Proofs.YtoepbhacpidcbaaGreatDoor
