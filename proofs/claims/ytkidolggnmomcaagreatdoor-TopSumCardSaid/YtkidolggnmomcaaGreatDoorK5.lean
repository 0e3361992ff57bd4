/- Runs of the program at a form of the statement, by the kernel. -/
import Derived.Test.YtkidolggnmomcaaGreatDoorCc
set_option linter.unusedVariables false
set_option linter.unusedSimpArgs false
/- Runs at the form of 5 fields. -/
open Go Go.Ab
namespace Go.Ab.T
set_option maxRecDepth 100000
theorem static5 : runStatic 5 = true := by kernel_rfl
theorem sides5 : runSides 5 = true := by kernel_rfl
theorem new5 : runNew 5 = true := by kernel_rfl
theorem is5_0 : runIs 5 0 = true := by kernel_rfl
theorem print5_0 : runPrint 5 0 = true := by kernel_rfl
theorem edit5_0_0 : runEdit 5 0 0 = true := by kernel_rfl
theorem edit5_0_1 : runEdit 5 0 1 = true := by kernel_rfl
theorem edit5_0_2 : runEdit 5 0 2 = true := by kernel_rfl
theorem edit5_0_3 : runEdit 5 0 3 = true := by kernel_rfl
theorem edit5_0_4 : runEdit 5 0 4 = true := by kernel_rfl
theorem is5_1 : runIs 5 1 = true := by kernel_rfl
theorem print5_1 : runPrint 5 1 = true := by kernel_rfl
theorem edit5_1_0 : runEdit 5 1 0 = true := by kernel_rfl
theorem edit5_1_1 : runEdit 5 1 1 = true := by kernel_rfl
theorem edit5_1_2 : runEdit 5 1 2 = true := by kernel_rfl
theorem edit5_1_3 : runEdit 5 1 3 = true := by kernel_rfl
theorem edit5_1_4 : runEdit 5 1 4 = true := by kernel_rfl
end Go.Ab.T
