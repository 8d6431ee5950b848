/- The library's table of powers, out of what a row lists. -/
import Derived.Test.YthflnhnhdgegdaaDoorRowD
import Derived.Test.YthflnhnhdgegdaaDoorDk
import Derived.Lib.LaidTab
import Derived.Stop.LaidErr
set_option linter.unusedVariables false
set_option linter.unusedSimpArgs false
set_option linter.all false
set_option maxRecDepth 100000
namespace Go.Proofs.YthflnhnhdgegdaaDoor
open Go.Lib

theorem tab_of {W : World} (h : laidMetH Tryd.prog Rows.distBackRow.laid W) : TabIs Tryd.prog W "internal/strconv.uint64pow10" .u64 pow10Tab := by
  rw [MakeChecks.laidMetH_plain _ _ _ (by kernel_rfl)] at h
  exact tabIs_of_head (g := 2) (by kernel_rfl) (t := 70) (by kernel_rfl) (n := 20) (e := 50) (by kernel_rfl) (by kernel_rfl) (by kernel_rfl) (by kernel_rfl) (laidMet.tail (laidMet.tail h))

end Go.Proofs.YthflnhnhdgegdaaDoor
