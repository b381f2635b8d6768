/- AllocSteps: the cases. Conditions: none. -/
import Derived.Test.YtjhhecidaableaaFmQ
set_option linter.unusedVariables false
set_option maxRecDepth 20000
namespace Go.Fl
open Go Go.RowKit Go.Proofs

theorem st_0_0 : stCk 0 [] = true := by kernel_rfl
theorem st_1_0 : stCk 1 [] = true := by kernel_rfl
theorem st_1_1 (v0 : Int) : stCk 1 [v0] = true := by kernel_rfl
theorem st_2_0 : stCk 2 [] = true := by kernel_rfl
theorem st_2_1 (v0 : Int) : stCk 2 [v0] = true := by kernel_rfl
theorem st_2_2 (v0 : Int) (v1 : Int) : stCk 2 [v0, v1] = true := by kernel_rfl
theorem st_3_0 : stCk 3 [] = true := by kernel_rfl
theorem st_3_1 (v0 : Int) : stCk 3 [v0] = true := by kernel_rfl
theorem st_3_2 (v0 : Int) (v1 : Int) : stCk 3 [v0, v1] = true := by kernel_rfl
theorem st_3_3 (v0 : Int) (v1 : Int) (v2 : Int) : stCk 3 [v0, v1, v2] = true := by kernel_rfl
theorem st_4_0 : stCk 4 [] = true := by kernel_rfl
theorem st_4_1 (v0 : Int) : stCk 4 [v0] = true := by kernel_rfl
theorem st_4_2 (v0 : Int) (v1 : Int) : stCk 4 [v0, v1] = true := by kernel_rfl
theorem st_4_3 (v0 : Int) (v1 : Int) (v2 : Int) : stCk 4 [v0, v1, v2] = true := by kernel_rfl
theorem st_4_4 (v0 : Int) (v1 : Int) (v2 : Int) (v3 : Int) : stCk 4 [v0, v1, v2, v3] = true := by kernel_rfl
theorem st_5_0 : stCk 5 [] = true := by kernel_rfl
theorem st_5_1 (v0 : Int) : stCk 5 [v0] = true := by kernel_rfl
theorem st_5_2 (v0 : Int) (v1 : Int) : stCk 5 [v0, v1] = true := by kernel_rfl
theorem st_5_3 (v0 : Int) (v1 : Int) (v2 : Int) : stCk 5 [v0, v1, v2] = true := by kernel_rfl
theorem st_5_4 (v0 : Int) (v1 : Int) (v2 : Int) (v3 : Int) : stCk 5 [v0, v1, v2, v3] = true := by kernel_rfl
theorem st_5_5 (v0 : Int) (v1 : Int) (v2 : Int) (v3 : Int) (v4 : Int) : stCk 5 [v0, v1, v2, v3, v4] = true := by kernel_rfl
theorem st_6_0 : stCk 6 [] = true := by kernel_rfl
theorem st_6_1 (v0 : Int) : stCk 6 [v0] = true := by kernel_rfl
theorem st_6_2 (v0 : Int) (v1 : Int) : stCk 6 [v0, v1] = true := by kernel_rfl
theorem st_6_3 (v0 : Int) (v1 : Int) (v2 : Int) : stCk 6 [v0, v1, v2] = true := by kernel_rfl
theorem st_6_4 (v0 : Int) (v1 : Int) (v2 : Int) (v3 : Int) : stCk 6 [v0, v1, v2, v3] = true := by kernel_rfl
theorem st_6_5 (v0 : Int) (v1 : Int) (v2 : Int) (v3 : Int) (v4 : Int) : stCk 6 [v0, v1, v2, v3, v4] = true := by kernel_rfl
theorem st_6_6 (v0 : Int) (v1 : Int) (v2 : Int) (v3 : Int) (v4 : Int) (v5 : Int) : stCk 6 [v0, v1, v2, v3, v4, v5] = true := by kernel_rfl
theorem st_7_0 : stCk 7 [] = true := by kernel_rfl
theorem st_7_1 (v0 : Int) : stCk 7 [v0] = true := by kernel_rfl
theorem st_7_2 (v0 : Int) (v1 : Int) : stCk 7 [v0, v1] = true := by kernel_rfl
theorem st_7_3 (v0 : Int) (v1 : Int) (v2 : Int) : stCk 7 [v0, v1, v2] = true := by kernel_rfl
theorem st_7_4 (v0 : Int) (v1 : Int) (v2 : Int) (v3 : Int) : stCk 7 [v0, v1, v2, v3] = true := by kernel_rfl
theorem st_7_5 (v0 : Int) (v1 : Int) (v2 : Int) (v3 : Int) (v4 : Int) : stCk 7 [v0, v1, v2, v3, v4] = true := by kernel_rfl
theorem st_7_6 (v0 : Int) (v1 : Int) (v2 : Int) (v3 : Int) (v4 : Int) (v5 : Int) : stCk 7 [v0, v1, v2, v3, v4, v5] = true := by kernel_rfl
theorem st_7_7 (v0 : Int) (v1 : Int) (v2 : Int) (v3 : Int) (v4 : Int) (v5 : Int) (v6 : Int) : stCk 7 [v0, v1, v2, v3, v4, v5, v6] = true := by kernel_rfl

theorem st_0 (vs : List Int) (h : vs.length ≤ 0) : stCk 0 vs = true := by
  match vs, h with
  | [], _ => exact st_0_0
  | _ :: _, h => simp only [List.length_cons] at h; omega

theorem st_1 (vs : List Int) (h : vs.length ≤ 1) : stCk 1 vs = true := by
  match vs, h with
  | [], _ => exact st_1_0
  | [v0], _ => exact st_1_1 v0
  | _ :: _ :: _, h => simp only [List.length_cons] at h; omega

theorem st_2 (vs : List Int) (h : vs.length ≤ 2) : stCk 2 vs = true := by
  match vs, h with
  | [], _ => exact st_2_0
  | [v0], _ => exact st_2_1 v0
  | [v0, v1], _ => exact st_2_2 v0 v1
  | _ :: _ :: _ :: _, h => simp only [List.length_cons] at h; omega

theorem st_3 (vs : List Int) (h : vs.length ≤ 3) : stCk 3 vs = true := by
  match vs, h with
  | [], _ => exact st_3_0
  | [v0], _ => exact st_3_1 v0
  | [v0, v1], _ => exact st_3_2 v0 v1
  | [v0, v1, v2], _ => exact st_3_3 v0 v1 v2
  | _ :: _ :: _ :: _ :: _, h => simp only [List.length_cons] at h; omega

theorem st_4 (vs : List Int) (h : vs.length ≤ 4) : stCk 4 vs = true := by
  match vs, h with
  | [], _ => exact st_4_0
  | [v0], _ => exact st_4_1 v0
  | [v0, v1], _ => exact st_4_2 v0 v1
  | [v0, v1, v2], _ => exact st_4_3 v0 v1 v2
  | [v0, v1, v2, v3], _ => exact st_4_4 v0 v1 v2 v3
  | _ :: _ :: _ :: _ :: _ :: _, h => simp only [List.length_cons] at h; omega

theorem st_5 (vs : List Int) (h : vs.length ≤ 5) : stCk 5 vs = true := by
  match vs, h with
  | [], _ => exact st_5_0
  | [v0], _ => exact st_5_1 v0
  | [v0, v1], _ => exact st_5_2 v0 v1
  | [v0, v1, v2], _ => exact st_5_3 v0 v1 v2
  | [v0, v1, v2, v3], _ => exact st_5_4 v0 v1 v2 v3
  | [v0, v1, v2, v3, v4], _ => exact st_5_5 v0 v1 v2 v3 v4
  | _ :: _ :: _ :: _ :: _ :: _ :: _, h => simp only [List.length_cons] at h; omega

theorem st_6 (vs : List Int) (h : vs.length ≤ 6) : stCk 6 vs = true := by
  match vs, h with
  | [], _ => exact st_6_0
  | [v0], _ => exact st_6_1 v0
  | [v0, v1], _ => exact st_6_2 v0 v1
  | [v0, v1, v2], _ => exact st_6_3 v0 v1 v2
  | [v0, v1, v2, v3], _ => exact st_6_4 v0 v1 v2 v3
  | [v0, v1, v2, v3, v4], _ => exact st_6_5 v0 v1 v2 v3 v4
  | [v0, v1, v2, v3, v4, v5], _ => exact st_6_6 v0 v1 v2 v3 v4 v5
  | _ :: _ :: _ :: _ :: _ :: _ :: _ :: _, h => simp only [List.length_cons] at h; omega

theorem st_7 (vs : List Int) (h : vs.length ≤ 7) : stCk 7 vs = true := by
  match vs, h with
  | [], _ => exact st_7_0
  | [v0], _ => exact st_7_1 v0
  | [v0, v1], _ => exact st_7_2 v0 v1
  | [v0, v1, v2], _ => exact st_7_3 v0 v1 v2
  | [v0, v1, v2, v3], _ => exact st_7_4 v0 v1 v2 v3
  | [v0, v1, v2, v3, v4], _ => exact st_7_5 v0 v1 v2 v3 v4
  | [v0, v1, v2, v3, v4, v5], _ => exact st_7_6 v0 v1 v2 v3 v4 v5
  | [v0, v1, v2, v3, v4, v5, v6], _ => exact st_7_7 v0 v1 v2 v3 v4 v5 v6
  | _ :: _ :: _ :: _ :: _ :: _ :: _ :: _ :: _, h => simp only [List.length_cons] at h; omega

theorem st_ck (c : Nat) (hc : c < 8) (vs : List Int) (h : vs.length ≤ c) : stCk c vs = true := by
  rcases (by omega : c = 0 ∨ c = 1 ∨ c = 2 ∨ c = 3 ∨ c = 4 ∨ c = 5 ∨ c = 6 ∨ c = 7) with rfl | rfl | rfl | rfl | rfl | rfl | rfl | rfl
  · exact st_0 vs h
  · exact st_1 vs h
  · exact st_2 vs h
  · exact st_3 vs h
  · exact st_4 vs h
  · exact st_5 vs h
  · exact st_6 vs h
  · exact st_7 vs h

theorem st_nil (c : Nat) (h : stCk c [] = true) : stOk1 c = true ∧ (stAN c).isSome = true ∧ stOk2N (stRAN c) = true ∧ stResN (stRAN c) = true := by
  unfold stCk at h
  have e : stA (([] : List Int).length : Nat) 0 c [] = some (0, asA_ls (([] : List Int).length : Nat) 0 c (r05Cell (ccP 2) 0 (r05Class c) 1) 0 [] (ccP 2) (stMd c).2) := rfl
  have e2 : stAN c = some (0, asAN_ls c (r05Cell (ccP 2) 0 (r05Class c) 1) 0 (ccP 2) (stMd c).2) := rfl
  rw [e] at h
  simp only [Bool.and_eq_true] at h
  have e3 : stRAN c = asAN_ls c (r05Cell (ccP 2) 0 (r05Class c) 1) 0 (ccP 2) (stMd c).2 := by unfold stRAN; rw [e2]; rfl
  exact ⟨h.1, by rw [e2]; rfl, by rw [e3]; exact h.2.1, by rw [e3]; exact h.2.2⟩

end Go.Fl
