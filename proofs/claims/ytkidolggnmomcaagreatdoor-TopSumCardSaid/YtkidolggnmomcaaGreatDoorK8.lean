/- Runs of the program at a form of the statement, by the kernel. -/
import Derived.Test.YtkidolggnmomcaaGreatDoorCc
set_option linter.unusedVariables false
set_option linter.unusedSimpArgs false
/- Runs at the form of 8 fields. -/
open Go Go.Ab
namespace Go.Ab.T
set_option maxRecDepth 100000
theorem static8 : runStatic 8 = true := by kernel_rfl
theorem sides8 : runSides 8 = true := by kernel_rfl
theorem new8 : runNew 8 = true := by kernel_rfl
theorem is8_0 : runIs 8 0 = true := by kernel_rfl
theorem print8_0 : runPrint 8 0 = true := by kernel_rfl
theorem edit8_0_0 : runEdit 8 0 0 = true := by kernel_rfl
theorem edit8_0_1 : runEdit 8 0 1 = true := by kernel_rfl
theorem edit8_0_2 : runEdit 8 0 2 = true := by kernel_rfl
theorem edit8_0_3 : runEdit 8 0 3 = true := by kernel_rfl
theorem edit8_0_4 : runEdit 8 0 4 = true := by kernel_rfl
theorem edit8_0_5 : runEdit 8 0 5 = true := by kernel_rfl
theorem edit8_0_6 : runEdit 8 0 6 = true := by kernel_rfl
theorem edit8_0_7 : runEdit 8 0 7 = true := by kernel_rfl
theorem is8_1 : runIs 8 1 = true := by kernel_rfl
theorem print8_1 : runPrint 8 1 = true := by kernel_rfl
theorem edit8_1_0 : runEdit 8 1 0 = true := by kernel_rfl
theorem edit8_1_1 : runEdit 8 1 1 = true := by kernel_rfl
theorem edit8_1_2 : runEdit 8 1 2 = true := by kernel_rfl
theorem edit8_1_3 : runEdit 8 1 3 = true := by kernel_rfl
theorem edit8_1_4 : runEdit 8 1 4 = true := by kernel_rfl
theorem edit8_1_5 : runEdit 8 1 5 = true := by kernel_rfl
theorem edit8_1_6 : runEdit 8 1 6 = true := by kernel_rfl
theorem edit8_1_7 : runEdit 8 1 7 = true := by kernel_rfl
end Go.Ab.T
