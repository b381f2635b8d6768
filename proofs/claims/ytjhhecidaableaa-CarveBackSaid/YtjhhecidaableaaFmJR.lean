/- The law CarveBack holds: for every input the call returns true and leaves its arguments as they were. Conditions: none. -/
import Derived.Test.YtjhhecidaableaaRows
import Derived.WalkKit
import Derived.IntWalk
import Derived.Test.YtjhhecidaableaaFlRow
import Derived.Test.YtjhhecidaableaaFmJ
import Derived.ProofKit
import Derived.OpenShut
namespace Go.Proofs.Ytjhhecidaableaa.carveBack
open Go.ChangeShapes Go.WideShapes Go.ChangeAt Go.RowKit
set_option linter.unusedVariables false

theorem own : ownKnob Try.prog.godebug = none := by kernel_rfl

/-! ### The walk, by the function's contract -/
theorem kind_lt {a : Int} (h : (Lit.int .i64 a).wf = true) (n : Nat) (hn : 0 < n) : ∃ k, k < n ∧ Fl.kind09 a n = (k : Int) := by
  simp only [Lit.wf, Bool.and_eq_true, decide_eq_true_eq, IntKind.min, IntKind.max, IntKind.signed, IntKind.bits, reduceIte] at h
  unfold Fl.kind09
  cases h0 : decide (a < 0)
  · simp only [decide_eq_false_iff_not] at h0
    refine ⟨(a % n).toNat, ?_, ?_⟩
    · have := Int.emod_lt_of_pos a (by omega : (0 : Int) < n)
      have := Int.emod_nonneg a (by omega : (n : Int) ≠ 0)
      omega
    · have := Int.emod_nonneg a (by omega : (n : Int) ≠ 0)
      show a.tmod n = _
      rw [Int.tmod_eq_emod_of_nonneg (by omega)]
      omega
  · simp only [decide_eq_true_eq] at h0
    have e1 : Fl.binI .add .i64 a 1 = a + 1 := IntWalk.i64_in _ (by omega)
    have e2 : Fl.binI .sub .i64 0 (a + 1) = 0 - (a + 1) := IntWalk.i64_in _ (by omega)
    rw [e1, e2]
    refine ⟨((0 - (a + 1)) % n).toNat, ?_, ?_⟩
    · have := Int.emod_lt_of_pos (0 - (a + 1)) (by omega : (0 : Int) < n)
      have := Int.emod_nonneg (0 - (a + 1)) (by omega : (n : Int) ≠ 0)
      omega
    · have := Int.emod_nonneg (0 - (a + 1)) (by omega : (n : Int) ≠ 0)
      show (0 - (a + 1)).tmod n = _
      rw [Int.tmod_eq_emod_of_nonneg (by omega)]
      omega
theorem cb_all (n c : Nat) (hn : n < 8) (hc : c < 3) : Fl.cbCk n c = true := by
  rcases (by omega : n = 0 ∨ n = 1 ∨ n = 2 ∨ n = 3 ∨ n = 4 ∨ n = 5 ∨ n = 6 ∨ n = 7) with rfl | rfl | rfl | rfl | rfl | rfl | rfl | rfl
  · rcases (by omega : c = 0 ∨ c = 1 ∨ c = 2) with rfl | rfl | rfl
    · exact Fl.cb_0_0
    · exact Fl.cb_0_1
    · exact Fl.cb_0_2
  · rcases (by omega : c = 0 ∨ c = 1 ∨ c = 2) with rfl | rfl | rfl
    · exact Fl.cb_1_0
    · exact Fl.cb_1_1
    · exact Fl.cb_1_2
  · rcases (by omega : c = 0 ∨ c = 1 ∨ c = 2) with rfl | rfl | rfl
    · exact Fl.cb_2_0
    · exact Fl.cb_2_1
    · exact Fl.cb_2_2
  · rcases (by omega : c = 0 ∨ c = 1 ∨ c = 2) with rfl | rfl | rfl
    · exact Fl.cb_3_0
    · exact Fl.cb_3_1
    · exact Fl.cb_3_2
  · rcases (by omega : c = 0 ∨ c = 1 ∨ c = 2) with rfl | rfl | rfl
    · exact Fl.cb_4_0
    · exact Fl.cb_4_1
    · exact Fl.cb_4_2
  · rcases (by omega : c = 0 ∨ c = 1 ∨ c = 2) with rfl | rfl | rfl
    · exact Fl.cb_5_0
    · exact Fl.cb_5_1
    · exact Fl.cb_5_2
  · rcases (by omega : c = 0 ∨ c = 1 ∨ c = 2) with rfl | rfl | rfl
    · exact Fl.cb_6_0
    · exact Fl.cb_6_1
    · exact Fl.cb_6_2
  · rcases (by omega : c = 0 ∨ c = 1 ∨ c = 2) with rfl | rfl | rfl
    · exact Fl.cb_7_0
    · exact Fl.cb_7_1
    · exact Fl.cb_7_2

theorem walk (a0 : Int) (a1 : Int) (a2 : Int) (w0 : (Lit.int .i64 a0).wf = true) (w1 : (Lit.int .i64 a1).wf = true) (w2 : (Lit.int .i64 a2).wf = true) (w : World) :
    Calls Try.prog 9 #[.int .i64 a0, .int .i64 a1, .int .i64 a2] w fun e w' => e = .returned (.bool true) ∧ Fl.Old w w' := by
  obtain ⟨n, hn, en⟩ := kind_lt w0 8 (by omega)
  obtain ⟨c, hc, ec⟩ := kind_lt w1 3 (by omega)
  have h := cb_all n c hn hc
  unfold Fl.cbCk at h
  simp only [Bool.and_eq_true, beq_iff_eq] at h
  obtain ⟨h1, h2, h3⟩ := h
  obtain ⟨b, hb, eb⟩ := kind_lt w2 (n + 2) (by omega)
  have h4 := List.all_eq_true.1 h3 b (List.mem_range.2 hb)
  rw [Bool.and_eq_true] at h4
  have e8 : Fl.kind09 a0 8 = (n : Int) := en
  have e3 : Fl.kind09 a1 3 = (c : Int) := ec
  have hA : (Fl.cbOA (Fl.binI .add .i64 1 n) c 0).isSome = true := by
    unfold Fl.cbOk1 at h1
    simp only [Bool.and_eq_true] at h1
    exact h1.2.2
  obtain ⟨eA, hA'⟩ := Fl.cbRA_nn (Fl.binI .add .i64 1 n) c a2 hA
  have eB : Fl.cbBack (Fl.cbRA (Fl.binI .add .i64 1 (Fl.kind09 a0 8)) (Fl.kind09 a1 3) a2) = (b : Int) := by
    rw [e8, e3, eA, Fl.cbBack_nn, h2]
    exact eb
  have q0 : Fl.cbOk1 (Fl.binI .add .i64 1 (Fl.kind09 a0 8)) (Fl.kind09 a1 3) a2 = true := by
    rw [e8, e3]
    unfold Fl.cbOk1 at h1 ⊢
    simp only [Bool.and_eq_true] at h1 ⊢
    exact ⟨h1.1, h1.2.1, hA'⟩
  have q1 : Fl.cbOk2 (Fl.cbRA (Fl.binI .add .i64 1 (Fl.kind09 a0 8)) (Fl.kind09 a1 3) a2) (Fl.cbBack (Fl.cbRA (Fl.binI .add .i64 1 (Fl.kind09 a0 8)) (Fl.kind09 a1 3) a2)) = true := by
    rw [eB, e8, e3, eA, Fl.cbOk2_nn]
    exact h4.1
  have q2 : Fl.CarveBack a0 a1 a2 = true := by
    unfold Fl.CarveBack
    rw [eB, e8, e3, eA, Fl.cbRes_nn]
    exact h4.2
  exact Fl.law_walk (Fl.CarveBack_w a0 a1 a2 q0 q1) q2 (fun _ => { block := 0, base := 0, cap := 0 }) w

/-! ### THE ROW's STEP: WRITTEN OUT: LEAVE IT -/
set_option maxRecDepth 100000 in
theorem lifted (os : Os) (started : os.Started) (H : Type) (enc : TypeId × Value → H) :
    ReturnsInHanded {} Try.checked os 9 .any (Rows.carveBackSpec.pre6 enc Try.prog Try.f9 Rows.carveBackRow.domain false) (Rows.carveBackSpec.post enc Try.prog Try.f9 false true false false) := by
  refine returnsInHanded_of_change (C := Try.checked) own started (by kernel_rfl) Try.func9
    (ChangeSpec.witness6 (enc := enc) (C := Try.checked) false ⟨#[], #[.int .i64 0, .int .i64 0, .int .i64 0], []⟩ 8 (by kernel_rfl) (by kernel_rfl) (by kernel_rfl) (by kernel_rfl)) ?_
  intro W base args ds gs before hval0 hW hcnd _
  have hval : ∀ (j : Nat) t v, Try.f9.params[j]? = some t → args[j]? = some v → Value.okWide Try.prog W .any base t v := hval0
  have hW' := hW
  obtain ⟨p, q, hA0, hV, rfl, hfz, hnd⟩ := hW
  have hA : DataW.TrodAll enc Try.prog W 0 (fun _ => true) true Try.f9.params.toList args.toList ds p := hA0
  rw [Try.params9] at hA hval
  obtain ⟨v0, vs0, d0, ds0, p0, q0, hargs, rfl, rfl, h0, r0⟩ := trodAll_cons hA
  obtain ⟨v1, vs1, d1, ds1, p1, q1, rfl, rfl, rfl, h1, r1⟩ := trodAll_cons r0
  obtain ⟨v2, vs2, d2, ds2, p2, q2, rfl, rfl, rfl, h2, r2⟩ := trodAll_cons r1
  obtain ⟨rfl, rfl, rfl⟩ := trodAll_nil r2
  obtain rfl : args = #[v0, v1, v2] := by cases args; simp_all
  obtain ⟨rfl, rfl⟩ := trodVars_none hV
  obtain ⟨a0, rfl, rfl, rfl, w0⟩ := open_int Try.underlying3 (hval 0 3 v0 rfl rfl) h0
  obtain ⟨a1, rfl, rfl, rfl, w1⟩ := open_int Try.underlying3 (hval 1 3 v1 rfl rfl) h1
  obtain ⟨a2, rfl, rfl, rfl, w2⟩ := open_int Try.underlying3 (hval 2 3 v2 rfl rfl) h2
  clear hA0 hval0
  simp only [List.append_nil] at hW'
  refine (walk a0 a1 a2 w0 w1 w2 W).mono fun e W' ⟨he, hg⟩ => ?_
  subst he
  exact ⟨_, rfl, Fl.post_of_old (pa := []) (pv := []) hW' (fun _ _ _ => (trodAll_cons_mk (shut_bool Try.underlying4 _) trodAll_mk0)) (fun sp _ => (trodAll_cons_mk (shut_int Try.underlying3 w0) (trodAll_cons_mk (shut_int Try.underlying3 w1) (trodAll_cons_mk (shut_int Try.underlying3 w2) trodAll_mk0)))) (fun _ _ => rfl) rfl hg (ok_one (by kernel_rfl) rfl (okWide_bool_mk Try.underlying4 _))⟩

theorem over : Rows.carveBackRow.holds Try.pinned (OpenSpec.ofChange Rows.carveBackSpec) :=
  OpenClaim.holds_of_wide 9 Try.f9 rfl rfl rfl rfl rfl rfl rfl ⟨rfl, rfl, rfl, rfl, rfl⟩ rfl rfl rfl rfl rfl (by kernel_rfl) Try.func9 (by kernel_rfl)
    (of_decide_eq_true (by kernel_rfl)) (by unfold Func.isWrapper; first | (rw [if_pos (by decide +kernel)]; kernel_rfl) | (rw [if_neg (by decide +kernel)]; exact ⟨rfl, rfl⟩))
    (fun os started H enc _ => lifted os started H enc)

/-- ████ THE STATEMENT ████ -/
theorem proved : Rows.CarveBackSaid :=
  over
#print axioms proved
end Go.Proofs.Ytjhhecidaableaa.carveBack
