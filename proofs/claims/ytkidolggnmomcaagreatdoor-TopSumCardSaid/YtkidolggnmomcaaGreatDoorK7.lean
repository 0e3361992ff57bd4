/- Runs of the program at a form of the statement, by the kernel. -/
import Derived.Test.YtkidolggnmomcaaGreatDoorCc
set_option linter.unusedVariables false
set_option linter.unusedSimpArgs false
/- Runs at the form of 7 fields. -/
open Go Go.Ab
namespace Go.Ab.T
set_option maxRecDepth 100000
theorem static7 : runStatic 7 = true := by kernel_rfl
theorem sides7 : runSides 7 = true := by kernel_rfl
theorem new7 : runNew 7 = true := by kernel_rfl
theorem is7_0 : runIs 7 0 = true := by kernel_rfl
theorem print7_0 : runPrint 7 0 = true := by kernel_rfl
theorem edit7_0_0 : runEdit 7 0 0 = true := by kernel_rfl
theorem edit7_0_1 : runEdit 7 0 1 = true := by kernel_rfl
theorem edit7_0_2 : runEdit 7 0 2 = true := by kernel_rfl
theorem edit7_0_3 : runEdit 7 0 3 = true := by kernel_rfl
theorem edit7_0_4 : runEdit 7 0 4 = true := by kernel_rfl
theorem edit7_0_5 : runEdit 7 0 5 = true := by kernel_rfl
theorem edit7_0_6 : runEdit 7 0 6 = true := by kernel_rfl
theorem is7_1 : runIs 7 1 = true := by kernel_rfl
theorem print7_1 : runPrint 7 1 = true := by kernel_rfl
theorem edit7_1_0 : runEdit 7 1 0 = true := by kernel_rfl
theorem edit7_1_1 : runEdit 7 1 1 = true := by kernel_rfl
theorem edit7_1_2 : runEdit 7 1 2 = true := by kernel_rfl
theorem edit7_1_3 : runEdit 7 1 3 = true := by kernel_rfl
theorem edit7_1_4 : runEdit 7 1 4 = true := by kernel_rfl
theorem edit7_1_5 : runEdit 7 1 5 = true := by kernel_rfl
theorem edit7_1_6 : runEdit 7 1 6 = true := by kernel_rfl
end Go.Ab.T
