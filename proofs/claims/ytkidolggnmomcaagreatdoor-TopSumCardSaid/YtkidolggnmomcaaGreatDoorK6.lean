/- Runs of the program at a form of the statement, by the kernel. -/
import Derived.Test.YtkidolggnmomcaaGreatDoorCc
set_option linter.unusedVariables false
set_option linter.unusedSimpArgs false
/- Runs at the form of 6 fields. -/
open Go Go.Ab
namespace Go.Ab.T
set_option maxRecDepth 100000
theorem static6 : runStatic 6 = true := by kernel_rfl
theorem sides6 : runSides 6 = true := by kernel_rfl
theorem new6 : runNew 6 = true := by kernel_rfl
theorem is6_0 : runIs 6 0 = true := by kernel_rfl
theorem print6_0 : runPrint 6 0 = true := by kernel_rfl
theorem edit6_0_0 : runEdit 6 0 0 = true := by kernel_rfl
theorem edit6_0_1 : runEdit 6 0 1 = true := by kernel_rfl
theorem edit6_0_2 : runEdit 6 0 2 = true := by kernel_rfl
theorem edit6_0_3 : runEdit 6 0 3 = true := by kernel_rfl
theorem edit6_0_4 : runEdit 6 0 4 = true := by kernel_rfl
theorem edit6_0_5 : runEdit 6 0 5 = true := by kernel_rfl
theorem is6_1 : runIs 6 1 = true := by kernel_rfl
theorem print6_1 : runPrint 6 1 = true := by kernel_rfl
theorem edit6_1_0 : runEdit 6 1 0 = true := by kernel_rfl
theorem edit6_1_1 : runEdit 6 1 1 = true := by kernel_rfl
theorem edit6_1_2 : runEdit 6 1 2 = true := by kernel_rfl
theorem edit6_1_3 : runEdit 6 1 3 = true := by kernel_rfl
theorem edit6_1_4 : runEdit 6 1 4 = true := by kernel_rfl
theorem edit6_1_5 : runEdit 6 1 5 = true := by kernel_rfl
end Go.Ab.T
