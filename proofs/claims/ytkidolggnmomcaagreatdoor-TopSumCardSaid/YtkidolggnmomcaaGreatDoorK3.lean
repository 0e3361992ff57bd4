/- Runs of the program at a form of the statement, by the kernel. -/
import Derived.Test.YtkidolggnmomcaaGreatDoorCc
set_option linter.unusedVariables false
set_option linter.unusedSimpArgs false
/- Runs at the form of 3 fields. -/
open Go Go.Ab
namespace Go.Ab.T
set_option maxRecDepth 100000
theorem static3 : runStatic 3 = true := by kernel_rfl
theorem sides3 : runSides 3 = true := by kernel_rfl
theorem new3 : runNew 3 = true := by kernel_rfl
theorem is3_0 : runIs 3 0 = true := by kernel_rfl
theorem print3_0 : runPrint 3 0 = true := by kernel_rfl
theorem edit3_0_0 : runEdit 3 0 0 = true := by kernel_rfl
theorem edit3_0_1 : runEdit 3 0 1 = true := by kernel_rfl
theorem edit3_0_2 : runEdit 3 0 2 = true := by kernel_rfl
theorem is3_1 : runIs 3 1 = true := by kernel_rfl
theorem print3_1 : runPrint 3 1 = true := by kernel_rfl
theorem edit3_1_0 : runEdit 3 1 0 = true := by kernel_rfl
theorem edit3_1_1 : runEdit 3 1 1 = true := by kernel_rfl
theorem edit3_1_2 : runEdit 3 1 2 = true := by kernel_rfl
end Go.Ab.T
