/- Closed facts of the law's function. -/
import Derived.Test.YthilkphnjffnhaaGreatOpn
set_option linter.unusedSimpArgs false
set_option linter.unusedVariables false
namespace Go.Proofs.YthilkphnjffnhaaGreat
open Go.ChangeShapes Go.WideShapes Go.ChangeAt Go.RowKit
theorem fac_in3 : Tryz.pinned.checked.prog.inPlace 3 = [] := by kernel_rfl
theorem fac_un3 : Tryz.pinned.checked.prog.unfollowed 3 = true := by kernel_rfl
theorem fac_rec3 : Tryz.pinned.checked.prog.recurses 3 = true := by kernel_rfl
theorem fac_nam3 : Tryz.pinned.checked.prog.varsNamed 3 = [] := by kernel_rfl
end Go.Proofs.YthilkphnjffnhaaGreat
