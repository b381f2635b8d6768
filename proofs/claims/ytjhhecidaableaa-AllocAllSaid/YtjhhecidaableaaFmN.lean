/- AllocAll: the cases. Conditions: none. -/
import Derived.Test.YtjhhecidaableaaFmM
set_option linter.unusedVariables false
set_option linter.unusedSectionVars false
set_option maxRecDepth 20000
namespace Go.Fl
open Go Go.RowKit Go.Proofs

theorem aa_0_0 : aaCk 0 0 = true := by kernel_rfl
theorem aa_0_1 : aaCk 0 1 = true := by kernel_rfl
theorem aa_0_2 : aaCk 0 2 = true := by kernel_rfl
theorem aa_0_3 : aaCk 0 3 = true := by kernel_rfl
theorem aa_0_4 : aaCk 0 4 = true := by kernel_rfl
theorem aa_0_5 : aaCk 0 5 = true := by kernel_rfl
theorem aa_0_6 : aaCk 0 6 = true := by kernel_rfl
theorem aa_0_7 : aaCk 0 7 = true := by kernel_rfl
theorem aa_1_0 : aaCk 1 0 = true := by kernel_rfl
theorem aa_1_1 : aaCk 1 1 = true := by kernel_rfl
theorem aa_1_2 : aaCk 1 2 = true := by kernel_rfl
theorem aa_1_3 : aaCk 1 3 = true := by kernel_rfl
theorem aa_1_4 : aaCk 1 4 = true := by kernel_rfl
theorem aa_1_5 : aaCk 1 5 = true := by kernel_rfl
theorem aa_1_6 : aaCk 1 6 = true := by kernel_rfl
theorem aa_1_7 : aaCk 1 7 = true := by kernel_rfl
theorem aa_2_0 : aaCk 2 0 = true := by kernel_rfl
theorem aa_2_1 : aaCk 2 1 = true := by kernel_rfl
theorem aa_2_2 : aaCk 2 2 = true := by kernel_rfl
theorem aa_2_3 : aaCk 2 3 = true := by kernel_rfl
theorem aa_2_4 : aaCk 2 4 = true := by kernel_rfl
theorem aa_2_5 : aaCk 2 5 = true := by kernel_rfl
theorem aa_2_6 : aaCk 2 6 = true := by kernel_rfl
theorem aa_2_7 : aaCk 2 7 = true := by kernel_rfl
theorem aa_3_0 : aaCk 3 0 = true := by kernel_rfl
theorem aa_3_1 : aaCk 3 1 = true := by kernel_rfl
theorem aa_3_2 : aaCk 3 2 = true := by kernel_rfl
theorem aa_3_3 : aaCk 3 3 = true := by kernel_rfl
theorem aa_3_4 : aaCk 3 4 = true := by kernel_rfl
theorem aa_3_5 : aaCk 3 5 = true := by kernel_rfl
theorem aa_3_6 : aaCk 3 6 = true := by kernel_rfl
theorem aa_3_7 : aaCk 3 7 = true := by kernel_rfl

end Go.Fl
