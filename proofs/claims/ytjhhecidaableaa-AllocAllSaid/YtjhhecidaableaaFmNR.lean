/- The law AllocAll holds: for every input the call returns true and leaves its arguments as they were. Conditions: none. -/
import Derived.Test.YtjhhecidaableaaRows
import Derived.WalkKit
import Derived.IntWalk
import Derived.Test.YtjhhecidaableaaFlRow
import Derived.Test.YtjhhecidaableaaFmN
import Derived.ProofKit
import Derived.OpenShut
namespace Go.Proofs.Ytjhhecidaableaa.allocAll
open Go.ChangeShapes Go.WideShapes Go.ChangeAt Go.RowKit
set_option linter.unusedVariables false

theorem own : ownKnob Try.prog.godebug = none := by kernel_rfl

/-! ### The walk, by the function's contract -/
theorem kind_lt {a : Int} (h : (Lit.int .i64 a).wf = true) (n : Nat) (hn : 0 < n) : ∃ k, k < n ∧ Fl.kind10 a n = (k : Int) := by
  simp only [Lit.wf, Bool.and_eq_true, decide_eq_true_eq, IntKind.min, IntKind.max, IntKind.signed, IntKind.bits, reduceIte] at h
  unfold Fl.kind10
  cases h0 : decide (a < 0)
  · simp only [decide_eq_false_iff_not] at h0
    refine ⟨(a % n).toNat, ?_, ?_⟩
    · have := Int.emod_lt_of_pos a (by omega : (0 : Int) < n)
      have := Int.emod_nonneg a (by omega : (n : Int) ≠ 0)
      omega
    · have := Int.emod_nonneg a (by omega : (n : Int) ≠ 0)
      show a.tmod n = _
      rw [Int.tmod_eq_emod_of_nonneg (by omega)]
      omega
  · simp only [decide_eq_true_eq] at h0
    have e1 : Fl.binI .add .i64 a 1 = a + 1 := IntWalk.i64_in _ (by omega)
    have e2 : Fl.binI .sub .i64 0 (a + 1) = 0 - (a + 1) := IntWalk.i64_in _ (by omega)
    rw [e1, e2]
    refine ⟨((0 - (a + 1)) % n).toNat, ?_, ?_⟩
    · have := Int.emod_lt_of_pos (0 - (a + 1)) (by omega : (0 : Int) < n)
      have := Int.emod_nonneg (0 - (a + 1)) (by omega : (n : Int) ≠ 0)
      omega
    · have := Int.emod_nonneg (0 - (a + 1)) (by omega : (n : Int) ≠ 0)
      show (0 - (a + 1)).tmod n = _
      rw [Int.tmod_eq_emod_of_nonneg (by omega)]
      omega
theorem aa_all (n c : Nat) (hn : n < 4) (hc : c < 8) : Fl.aaCk n c = true := by
  rcases (by omega : n = 0 ∨ n = 1 ∨ n = 2 ∨ n = 3) with rfl | rfl | rfl | rfl
  · rcases (by omega : c = 0 ∨ c = 1 ∨ c = 2 ∨ c = 3 ∨ c = 4 ∨ c = 5 ∨ c = 6 ∨ c = 7) with rfl | rfl | rfl | rfl | rfl | rfl | rfl | rfl
    · exact Fl.aa_0_0
    · exact Fl.aa_0_1
    · exact Fl.aa_0_2
    · exact Fl.aa_0_3
    · exact Fl.aa_0_4
    · exact Fl.aa_0_5
    · exact Fl.aa_0_6
    · exact Fl.aa_0_7
  · rcases (by omega : c = 0 ∨ c = 1 ∨ c = 2 ∨ c = 3 ∨ c = 4 ∨ c = 5 ∨ c = 6 ∨ c = 7) with rfl | rfl | rfl | rfl | rfl | rfl | rfl | rfl
    · exact Fl.aa_1_0
    · exact Fl.aa_1_1
    · exact Fl.aa_1_2
    · exact Fl.aa_1_3
    · exact Fl.aa_1_4
    · exact Fl.aa_1_5
    · exact Fl.aa_1_6
    · exact Fl.aa_1_7
  · rcases (by omega : c = 0 ∨ c = 1 ∨ c = 2 ∨ c = 3 ∨ c = 4 ∨ c = 5 ∨ c = 6 ∨ c = 7) with rfl | rfl | rfl | rfl | rfl | rfl | rfl | rfl
    · exact Fl.aa_2_0
    · exact Fl.aa_2_1
    · exact Fl.aa_2_2
    · exact Fl.aa_2_3
    · exact Fl.aa_2_4
    · exact Fl.aa_2_5
    · exact Fl.aa_2_6
    · exact Fl.aa_2_7
  · rcases (by omega : c = 0 ∨ c = 1 ∨ c = 2 ∨ c = 3 ∨ c = 4 ∨ c = 5 ∨ c = 6 ∨ c = 7) with rfl | rfl | rfl | rfl | rfl | rfl | rfl | rfl
    · exact Fl.aa_3_0
    · exact Fl.aa_3_1
    · exact Fl.aa_3_2
    · exact Fl.aa_3_3
    · exact Fl.aa_3_4
    · exact Fl.aa_3_5
    · exact Fl.aa_3_6
    · exact Fl.aa_3_7

theorem walk (a0 : Int) (a1 : Int) (w0 : (Lit.int .i64 a0).wf = true) (w1 : (Lit.int .i64 a1).wf = true) (w : World) :
    Calls Try.prog 13 #[.int .i64 a0, .int .i64 a1] w fun e w' => e = .returned (.bool true) ∧ Fl.Old w w' := by
  obtain ⟨n, hn, en⟩ := kind_lt w0 4 (by omega)
  obtain ⟨c, hc, ec⟩ := kind_lt w1 8 (by omega)
  have h := aa_all n c hn hc
  unfold Fl.aaCk at h
  rw [Bool.and_eq_true] at h
  have e4 : Fl.kind10 a0 4 = (n : Int) := en
  have e8 : Fl.kind10 a1 8 = (c : Int) := ec
  have h1 : Fl.aaOk (Fl.binI .add .i64 1 (Fl.kind10 a0 4)) (Fl.kind10 a1 8) = true := by rw [e4, e8]; exact h.1
  have h2 : Fl.AllocAll a0 a1 = true := by unfold Fl.AllocAll; rw [e4, e8]; exact h.2
  exact Fl.law_walk (Fl.AllocAll_w a0 a1 h1) h2 (fun _ => { block := 0, base := 0, cap := 0 }) w

/-! ### THE ROW's STEP: WRITTEN OUT: LEAVE IT -/
set_option maxRecDepth 100000 in
theorem lifted (os : Os) (started : os.Started) (H : Type) (enc : TypeId × Value → H) :
    ReturnsInHanded {} Try.checked os 13 .any (Rows.allocAllSpec.pre6 enc Try.prog Try.f13 Rows.allocAllRow.domain false) (Rows.allocAllSpec.post enc Try.prog Try.f13 false true false false) := by
  refine returnsInHanded_of_change (C := Try.checked) own started (by kernel_rfl) Try.func13
    (ChangeSpec.witness6 (enc := enc) (C := Try.checked) false ⟨#[], #[.int .i64 0, .int .i64 0], []⟩ 8 (by kernel_rfl) (by kernel_rfl) (by kernel_rfl) (by kernel_rfl)) ?_
  intro W base args ds gs before hval0 hW hcnd _
  have hval : ∀ (j : Nat) t v, Try.f13.params[j]? = some t → args[j]? = some v → Value.okWide Try.prog W .any base t v := hval0
  have hW' := hW
  obtain ⟨p, q, hA0, hV, rfl, hfz, hnd⟩ := hW
  have hA : DataW.TrodAll enc Try.prog W 0 (fun _ => true) true Try.f13.params.toList args.toList ds p := hA0
  rw [Try.params13] at hA hval
  obtain ⟨v0, vs0, d0, ds0, p0, q0, hargs, rfl, rfl, h0, r0⟩ := trodAll_cons hA
  obtain ⟨v1, vs1, d1, ds1, p1, q1, rfl, rfl, rfl, h1, r1⟩ := trodAll_cons r0
  obtain ⟨rfl, rfl, rfl⟩ := trodAll_nil r1
  obtain rfl : args = #[v0, v1] := by cases args; simp_all
  obtain ⟨rfl, rfl⟩ := trodVars_none hV
  obtain ⟨a0, rfl, rfl, rfl, w0⟩ := open_int Try.underlying3 (hval 0 3 v0 rfl rfl) h0
  obtain ⟨a1, rfl, rfl, rfl, w1⟩ := open_int Try.underlying3 (hval 1 3 v1 rfl rfl) h1
  clear hA0 hval0
  simp only [List.append_nil] at hW'
  refine (walk a0 a1 w0 w1 W).mono fun e W' ⟨he, hg⟩ => ?_
  subst he
  exact ⟨_, rfl, Fl.post_of_old (pa := []) (pv := []) hW' (fun _ _ _ => (trodAll_cons_mk (shut_bool Try.underlying4 _) trodAll_mk0)) (fun sp _ => (trodAll_cons_mk (shut_int Try.underlying3 w0) (trodAll_cons_mk (shut_int Try.underlying3 w1) trodAll_mk0))) (fun _ _ => rfl) rfl hg (ok_one (by kernel_rfl) rfl (okWide_bool_mk Try.underlying4 _))⟩

theorem over : Rows.allocAllRow.holds Try.pinned (OpenSpec.ofChange Rows.allocAllSpec) :=
  OpenClaim.holds_of_wide 13 Try.f13 rfl rfl rfl rfl rfl rfl rfl ⟨rfl, rfl, rfl, rfl, rfl⟩ rfl rfl rfl rfl rfl (by kernel_rfl) Try.func13 (by kernel_rfl)
    (of_decide_eq_true (by kernel_rfl)) (by unfold Func.isWrapper; first | (rw [if_pos (by decide +kernel)]; kernel_rfl) | (rw [if_neg (by decide +kernel)]; exact ⟨rfl, rfl⟩))
    (fun os started H enc _ => lifted os started H enc)

/-- ████ THE STATEMENT ████ -/
theorem proved : Rows.AllocAllSaid :=
  over
#print axioms proved
end Go.Proofs.Ytjhhecidaableaa.allocAll
