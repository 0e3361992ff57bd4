/- Runs of the program at a form of the statement, by the kernel. -/
import Derived.Test.YtkidolggnmomcaaGreatDoorCg
set_option linter.unusedVariables false
set_option linter.unusedSimpArgs false
/- The run ahead of the loop, at 6 fields. -/
open Go Go.Ab
namespace Go.Ab.T
set_option maxRecDepth 100000
theorem pre6 : PreRun 6 := by
  intro e v p6 p18 p19 p20 p21 p22 p23 p24 p25 p26 p27 p28 p29 p30 p31 p32 p33 p34 p35
  kernel_rfl
end Go.Ab.T
