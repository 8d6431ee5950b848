/- What a repair row lists: the library's table of places, and the package's variable. -/
import Derived.Lib.LaidTab
import Derived.Stop.LaidErr
import Derived.Test.YtoepbhacpidcbaaGreatDoorQBase
import Derived.Test.YtoepbhacpidcbaaGreatDoorQIdx
import Derived.Test.YtoepbhacpidcbaaGreatDoorQPerm
import Derived.Test.YtoepbhacpidcbaaGreatDoorQIdxB
import Derived.Test.YtoepbhacpidcbaaGreatDoorQRef
import Derived.Test.YtoepbhacpidcbaaGreatDoorQUnref
import Derived.Test.YtoepbhacpidcbaaGreatDoorQItr
import Derived.Test.YtoepbhacpidcbaaGreatDoorQUnE
import Derived.Test.YtoepbhacpidcbaaGreatDoorQDst
import Derived.Test.YtoepbhacpidcbaaGreatDoorQLnk
import Derived.Test.YtoepbhacpidcbaaGreatDoorQLks
import Derived.Test.YtoepbhacpidcbaaGreatDoorQMid
import Derived.Test.YtoepbhacpidcbaaGreatDoorQBig
import Derived.Test.YtoepbhacpidcbaaGreatDoorQCp2
import Derived.Test.YtoepbhacpidcbaaGreatDoorQGoes
import Derived.Test.YtoepbhacpidcbaaGreatDoorQGOps
import Derived.Test.YtoepbhacpidcbaaGreatDoorQGB
import Derived.Test.YtoepbhacpidcbaaGreatDoorQG8
import Derived.Test.YtoepbhacpidcbaaGreatDoorQWh
import Derived.Test.YtoepbhacpidcbaaGreatDoorQDMov
import Derived.Test.YtoepbhacpidcbaaGreatDoorQWk
import Derived.Test.YtoepbhacpidcbaaGreatDoorQBt1
import Derived.Test.YtoepbhacpidcbaaGreatDoorQRow

set_option linter.unusedVariables false
set_option linter.unusedSimpArgs false
set_option linter.all false
set_option maxRecDepth 100000
namespace Go.Proofs.YtoepbhacpidcbaaGreatDoor
open Go.Lib Go.ChangeShapes Go.WideShapes Go.ChangeAt Go.RowKit Go.Deep

theorem repair_vars {W : World} (h : laidMetH Tryz.prog [("math/bits.deBruijn64tab", Rows.laid_math_bits_deBruijn64tab), ("ringroad/index.none", Rows.laid_ringroad_index_none)] W) : NoneVar W ∧ TzVar W := by
  rw [MakeChecks.laidMetH_plain _ _ _ (by kernel_rfl)] at h
  refine ⟨noneVar_of (by rw [MakeChecks.laidMetH_plain _ _ _ (by kernel_rfl)]; exact laidMet.tail h), ?_⟩
  have ht : TabIs Tryz.prog W "math/bits.deBruijn64tab" .u8 (Lib.deBruijn64tab.map Int.ofNat) := tabIs_of_head (g := 1) (by kernel_rfl) (t := 277) (by kernel_rfl) (n := 64) (e := 5) (by kernel_rfl) (by kernel_rfl) (by kernel_rfl) (by kernel_rfl) h
  intro j hj
  have := ht.cell (g := 1) (by kernel_rfl) j (by rw [List.length_map]; exact hj)
  rw [this]
  congr 2
  simp [List.getD, hj]

noncomputable def rowWorldT (os : Os) : World :=
  { rowWorld os with heap := (rowWorld os).heap.modify 1 fun
      | .cells _ t frozen => .cells (Lib.deBruijn64tab.map (fun (n : Nat) => Value.int .u8 (n : Int))).toArray t frozen
      | o => o }

end Go.Proofs.YtoepbhacpidcbaaGreatDoor
