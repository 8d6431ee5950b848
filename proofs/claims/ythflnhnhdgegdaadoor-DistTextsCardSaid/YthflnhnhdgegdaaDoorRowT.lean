/- The library's table of powers and its two errors, out of what a row lists. -/
import Derived.Test.YthflnhnhdgegdaaDoorRowD
import Derived.Test.YthflnhnhdgegdaaDoorDx
import Derived.Lib.LaidTab
import Derived.Stop.LaidErr
set_option linter.unusedVariables false
set_option linter.unusedSimpArgs false
set_option linter.all false
set_option maxRecDepth 100000
namespace Go.Proofs.YthflnhnhdgegdaaDoor
open Go.Lib Go.ChangeShapes Go.WideShapes Go.ChangeAt Go.RowKit Go.Deep

theorem tab_of {W : World} (h : laidMetH Tryd.prog Rows.distBackRow.laid W) : TabIs Tryd.prog W "internal/strconv.uint64pow10" .u64 pow10Tab := by
  rw [MakeChecks.laidMetH_plain _ _ _ (by kernel_rfl)] at h
  exact tabIs_of_head (g := 2) (by kernel_rfl) (t := 70) (by kernel_rfl) (n := 20) (e := 50) (by kernel_rfl) (by kernel_rfl) (by kernel_rfl) (by kernel_rfl) (laidMet.tail (laidMet.tail h))

theorem starErr : "*errors.errorString" = "*" ++ "errors.errorString" := by decide
theorem rowErr (u : TypeId) (h : Tryd.prog.typeName? 3 u = some "*errors.errorString") : u = 66 :=
  typeName_ptr_named (nm := "errors.errorString") (by rw [← starErr]; kernel_rfl) (by kernel_rfl) (by decide) u (by rw [← starErr]; exact h)
theorem err_range {W : World} (h : laidMetH Tryd.prog Rows.distBackRow.laid W) : ErrVar W 1 := by
  rw [MakeChecks.laidMetH_plain _ _ _ (by kernel_rfl)] at h
  obtain ⟨a, s, hv, _, _, _⟩ := laid_sentinel (g := 1) (laidMet.tail (laidMet.tail (laidMet.tail h))) (by kernel_rfl) (by kernel_rfl) Tryd.underlying36 rowErr Tryd.underlying66 Tryd.underlying68 rfl rfl Tryd.underlying9 (by kernel_rfl) (by kernel_rfl)
  exact ⟨_, _, World.var?_cell (g := 1) (by kernel_rfl) hv 0⟩
theorem err_syntax {W : World} (h : laidMetH Tryd.prog Rows.distBackRow.laid W) : ErrVar W 0 := by
  rw [MakeChecks.laidMetH_plain _ _ _ (by kernel_rfl)] at h
  obtain ⟨a, s, hv, _, _, _⟩ := laid_sentinel (g := 0) (laidMet.tail (laidMet.tail (laidMet.tail (laidMet.tail h)))) (by kernel_rfl) (by kernel_rfl) Tryd.underlying36 rowErr Tryd.underlying66 Tryd.underlying68 rfl rfl Tryd.underlying9 (by kernel_rfl) (by kernel_rfl)
  exact ⟨_, _, World.var?_cell (g := 0) (by kernel_rfl) hv 0⟩

end Go.Proofs.YthflnhnhdgegdaaDoor
