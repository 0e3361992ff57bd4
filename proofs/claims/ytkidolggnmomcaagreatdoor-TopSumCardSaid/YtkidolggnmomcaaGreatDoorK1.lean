/- Runs of the program at a form of the statement, by the kernel. -/
import Derived.Test.YtkidolggnmomcaaGreatDoorCc
set_option linter.unusedVariables false
set_option linter.unusedSimpArgs false
/- A run of 'known'. -/
open Go Go.Ab
namespace Go.Ab.T
set_option maxRecDepth 100000
theorem known_run : says (evCall E1 4000 400 7 [] .empty) (.bool true) = true := by kernel_rfl
end Go.Ab.T
