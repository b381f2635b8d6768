/- CarveBack: the cases. Conditions: none. -/
import Derived.Test.YtjhhecidaableaaFmI
set_option linter.unusedVariables false
set_option linter.unusedSectionVars false
set_option maxRecDepth 20000
namespace Go.Fl
open Go Go.RowKit Go.Proofs

theorem cb_0_0 : cbCk 0 0 = true := by kernel_rfl
theorem cb_0_1 : cbCk 0 1 = true := by kernel_rfl
theorem cb_0_2 : cbCk 0 2 = true := by kernel_rfl
theorem cb_1_0 : cbCk 1 0 = true := by kernel_rfl
theorem cb_1_1 : cbCk 1 1 = true := by kernel_rfl
theorem cb_1_2 : cbCk 1 2 = true := by kernel_rfl
theorem cb_2_0 : cbCk 2 0 = true := by kernel_rfl
theorem cb_2_1 : cbCk 2 1 = true := by kernel_rfl
theorem cb_2_2 : cbCk 2 2 = true := by kernel_rfl
theorem cb_3_0 : cbCk 3 0 = true := by kernel_rfl
theorem cb_3_1 : cbCk 3 1 = true := by kernel_rfl
theorem cb_3_2 : cbCk 3 2 = true := by kernel_rfl
theorem cb_4_0 : cbCk 4 0 = true := by kernel_rfl
theorem cb_4_1 : cbCk 4 1 = true := by kernel_rfl
theorem cb_4_2 : cbCk 4 2 = true := by kernel_rfl
theorem cb_5_0 : cbCk 5 0 = true := by kernel_rfl
theorem cb_5_1 : cbCk 5 1 = true := by kernel_rfl
theorem cb_5_2 : cbCk 5 2 = true := by kernel_rfl
theorem cb_6_0 : cbCk 6 0 = true := by kernel_rfl
theorem cb_6_1 : cbCk 6 1 = true := by kernel_rfl
theorem cb_6_2 : cbCk 6 2 = true := by kernel_rfl
theorem cb_7_0 : cbCk 7 0 = true := by kernel_rfl
theorem cb_7_1 : cbCk 7 1 = true := by kernel_rfl
theorem cb_7_2 : cbCk 7 2 = true := by kernel_rfl

end Go.Fl
