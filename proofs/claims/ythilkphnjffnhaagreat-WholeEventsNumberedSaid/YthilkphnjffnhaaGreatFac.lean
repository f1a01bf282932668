/- Closed facts of the program, one by one. -/
import Derived.Test.YthilkphnjffnhaaGreatOpn
set_option linter.unusedSimpArgs false
set_option linter.unusedVariables false
namespace Go.Proofs.YthilkphnjffnhaaGreat
open Go.ChangeShapes Go.WideShapes Go.ChangeAt Go.RowKit
theorem fac_laid : laidOutB Tryz.pinned.checked.prog = true := by kernel_rfl
theorem fac_maps : mapsRowed Tryz.pinned.checked.prog = true := by kernel_rfl
theorem fac_plain : Tryz.pinned.checked.prog.plainKeys = false := by kernel_rfl
theorem fac_heard : Tryz.pinned.checked.prog.stopsHeard = true := by kernel_rfl
theorem fac_lifts : Tryz.pinned.checked.prog.liftsFinal = Rows.wholeTimeReversedRow.lifted := by kernel_rfl
theorem fac_make : Tryz.pinned.checked.prog.make = some Rows.wholeTimeReversedRow.make := by kernel_rfl
end Go.Proofs.YthilkphnjffnhaaGreat
