import Derived.Test.YtkemmffdiclloaaGreatDoorRi
set_option linter.unusedVariables false
set_option linter.unusedSimpArgs false
/- The closed run ends with true. -/
namespace Go.RE
theorem run_true : goK tbl mtT 100000 14 [] ⟨.e, 0⟩ resB = true := by kernel_rfl
end Go.RE
