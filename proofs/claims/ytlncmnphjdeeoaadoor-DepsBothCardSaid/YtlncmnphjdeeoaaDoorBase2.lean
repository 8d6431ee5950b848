/- More base words: numbers made by 'make', a row of numbers, pieces of a walk for one operation. -/
import Derived.Test.YtlncmnphjdeeoaaDoorBase
import Derived.Deep.OwnRows
set_option linter.unusedVariables false
set_option linter.unusedSimpArgs false
namespace Go.Proofs.YtlncmnphjdeeoaaDoor
open Go.RowKit Go.Deep

theorem made_get (z : Value) (n i : Nat) (h : i < n) : (madeCells #[z] n)[i]? = some z := by
  have hs : i < (madeCells #[z] n).size := by rw [size_madeCells]; exact h
  rw [Array.getElem?_eq_getElem hs]
  simp only [madeCells, Array.getElem_map, Array.getElem_range]
  simp [Nat.mod_one]

theorem Blk.made (w : World) (n : Nat) (z : Value) (T : TypeId) : Blk (w.alloc (.cells (madeCells #[z] n) T)) w.heap.size n T (fun _ => z) :=
  ⟨_, heap_new _ _, size_madeCells _ _, fun i hi => made_get z n i hi⟩

/-- The value of one operation of a region, known outright. -/
theorem wpList_val {P : Program} {ops : Array Oper} {Q : Exit → Act → World → Prop} {a : Act} {w w' : World} {rest : List Oper} {o : Oper} (hg : o.guard = none) (v : Value)
    (hrun : (execOp a.eval o).run P w = .ok (.value v) w') (h : wpList P ops Q rest (a.put o.dst v) w') : wpList P ops Q (o :: rest) a w :=
  wpList_plain hg fun K hK => by unfold Oper.wp; rw [hrun]; exact hK _ _ h

end Go.Proofs.YtlncmnphjdeeoaaDoor
