/- Closed facts of the law's function. -/
import Derived.Test.YthilkphnjffnhaaGreatOpn
set_option linter.unusedSimpArgs false
set_option linter.unusedVariables false
namespace Go.Proofs.YthilkphnjffnhaaGreat
open Go.ChangeShapes Go.WideShapes Go.ChangeAt Go.RowKit
theorem fac_in4 : Tryz.pinned.checked.prog.inPlace 4 = [] := by kernel_rfl
theorem fac_un4 : Tryz.pinned.checked.prog.unfollowed 4 = true := by kernel_rfl
theorem fac_rec4 : Tryz.pinned.checked.prog.recurses 4 = true := by kernel_rfl
theorem fac_nam4 : Tryz.pinned.checked.prog.varsNamed 4 = [] := by kernel_rfl
end Go.Proofs.YthilkphnjffnhaaGreat
