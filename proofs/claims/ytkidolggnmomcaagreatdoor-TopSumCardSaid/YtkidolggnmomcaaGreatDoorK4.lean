/- Runs of the program at a form of the statement, by the kernel. -/
import Derived.Test.YtkidolggnmomcaaGreatDoorCc
set_option linter.unusedVariables false
set_option linter.unusedSimpArgs false
/- Runs at the form of 4 fields. -/
open Go Go.Ab
namespace Go.Ab.T
set_option maxRecDepth 100000
theorem static4 : runStatic 4 = true := by kernel_rfl
theorem sides4 : runSides 4 = true := by kernel_rfl
theorem new4 : runNew 4 = true := by kernel_rfl
theorem is4_0 : runIs 4 0 = true := by kernel_rfl
theorem print4_0 : runPrint 4 0 = true := by kernel_rfl
theorem edit4_0_0 : runEdit 4 0 0 = true := by kernel_rfl
theorem edit4_0_1 : runEdit 4 0 1 = true := by kernel_rfl
theorem edit4_0_2 : runEdit 4 0 2 = true := by kernel_rfl
theorem edit4_0_3 : runEdit 4 0 3 = true := by kernel_rfl
theorem is4_1 : runIs 4 1 = true := by kernel_rfl
theorem print4_1 : runPrint 4 1 = true := by kernel_rfl
theorem edit4_1_0 : runEdit 4 1 0 = true := by kernel_rfl
theorem edit4_1_1 : runEdit 4 1 1 = true := by kernel_rfl
theorem edit4_1_2 : runEdit 4 1 2 = true := by kernel_rfl
theorem edit4_1_3 : runEdit 4 1 3 = true := by kernel_rfl
end Go.Ab.T
