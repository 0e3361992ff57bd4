/- Runs of the program at a form of the statement, by the kernel. -/
import Derived.Test.YtkidolggnmomcaaGreatDoorCc
set_option linter.unusedVariables false
set_option linter.unusedSimpArgs false
/- Runs at the form of 2 fields. -/
open Go Go.Ab
namespace Go.Ab.T
set_option maxRecDepth 100000
theorem static2 : runStatic 2 = true := by kernel_rfl
theorem sides2 : runSides 2 = true := by kernel_rfl
theorem new2 : runNew 2 = true := by kernel_rfl
theorem is2_0 : runIs 2 0 = true := by kernel_rfl
theorem print2_0 : runPrint 2 0 = true := by kernel_rfl
theorem edit2_0_0 : runEdit 2 0 0 = true := by kernel_rfl
theorem edit2_0_1 : runEdit 2 0 1 = true := by kernel_rfl
theorem is2_1 : runIs 2 1 = true := by kernel_rfl
theorem print2_1 : runPrint 2 1 = true := by kernel_rfl
theorem edit2_1_0 : runEdit 2 1 0 = true := by kernel_rfl
theorem edit2_1_1 : runEdit 2 1 1 = true := by kernel_rfl
end Go.Ab.T
