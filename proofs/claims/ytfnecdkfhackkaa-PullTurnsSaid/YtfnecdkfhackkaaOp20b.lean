/- A slice of bools as an argument. -/
import Derived.Test.YtfnecdkfhackkaaOp20
set_option linter.unusedVariables false
set_option linter.unusedSimpArgs false
namespace Go.Proofs.Ytfnecdkfhackkaa
open Go.ChangeShapes Go.WideShapes Go.ChangeAt Go.RowKit Go.Joins
theorem opens41 : Opens Try.prog 41 (kSl kB) := opens_slice Try.underlying41 (by kernel_rfl) (by decide) (opens_bool Try.underlying4)
end Go.Proofs.Ytfnecdkfhackkaa
