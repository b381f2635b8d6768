/- The law CarveCells holds: for every input the call returns true and leaves its arguments as they were. Conditions: none. -/
import Derived.Test.YtjhhecidaableaaRows
import Derived.WalkKit
import Derived.IntWalk
import Derived.Test.YtjhhecidaableaaFlRow
import Derived.Test.YtjhhecidaableaaFmH
import Derived.ProofKit
import Derived.OpenShut
namespace Go.Proofs.Ytjhhecidaableaa.carveCells
open Go.ChangeShapes Go.WideShapes Go.ChangeAt Go.RowKit
set_option linter.unusedVariables false

theorem own : ownKnob Try.prog.godebug = none := by kernel_rfl

/-! ### The walk, by the function's contract -/
theorem kind_lt {a : Int} (h : (Lit.int .i64 a).wf = true) (n : Nat) (hn : 0 < n) : ∃ k, k < n ∧ Fl.kind09 a n = (k : Int) := by
  simp only [Lit.wf, Bool.and_eq_true, decide_eq_true_eq, IntKind.min, IntKind.max, IntKind.signed, IntKind.bits, reduceIte] at h
  unfold Fl.kind09
  cases h0 : decide (a < 0)
  · simp only [decide_eq_false_iff_not] at h0
    refine ⟨(a % n).toNat, ?_, ?_⟩
    · have := Int.emod_lt_of_pos a (by omega : (0 : Int) < n)
      have := Int.emod_nonneg a (by omega : (n : Int) ≠ 0)
      omega
    · have := Int.emod_nonneg a (by omega : (n : Int) ≠ 0)
      show a.tmod n = _
      rw [Int.tmod_eq_emod_of_nonneg (by omega)]
      omega
  · simp only [decide_eq_true_eq] at h0
    have e1 : Fl.binI .add .i64 a 1 = a + 1 := IntWalk.i64_in _ (by omega)
    have e2 : Fl.binI .sub .i64 0 (a + 1) = 0 - (a + 1) := IntWalk.i64_in _ (by omega)
    rw [e1, e2]
    refine ⟨((0 - (a + 1)) % n).toNat, ?_, ?_⟩
    · have := Int.emod_lt_of_pos (0 - (a + 1)) (by omega : (0 : Int) < n)
      have := Int.emod_nonneg (0 - (a + 1)) (by omega : (n : Int) ≠ 0)
      omega
    · have := Int.emod_nonneg (0 - (a + 1)) (by omega : (n : Int) ≠ 0)
      show (0 - (a + 1)).tmod n = _
      rw [Int.tmod_eq_emod_of_nonneg (by omega)]
      omega

theorem walk (a0 : Int) (a1 : Int) (a2 : Int) (w0 : (Lit.int .i64 a0).wf = true) (w1 : (Lit.int .i64 a1).wf = true) (w2 : (Lit.int .i64 a2).wf = true) (w : World) :
    Calls Try.prog 6 #[.int .i64 a0, .int .i64 a1, .int .i64 a2] w fun e w' => e = .returned (.bool true) ∧ Fl.Old w w' := by
  obtain ⟨n, hn, en⟩ := kind_lt w0 8 (by omega)
  obtain ⟨c, hc, ec⟩ := kind_lt w1 3 (by omega)
  obtain ⟨s, hs, es⟩ := kind_lt w2 2 (by omega)
  have h := List.all_eq_true.1 (List.all_eq_true.1 (List.all_eq_true.1 Fl.cc_all n (List.mem_range.2 hn)) c (List.mem_range.2 hc)) s (List.mem_range.2 hs)
  rw [Bool.and_eq_true] at h
  have h1 : Fl.ccOk (Fl.binI .add .i64 1 (Fl.kind09 a0 8)) (Fl.kind09 a1 3) (Fl.kind09 a2 2) = true := by rw [show (8 : Int) = ((8 : Nat) : Int) from rfl, show (3 : Int) = ((3 : Nat) : Int) from rfl, show (2 : Int) = ((2 : Nat) : Int) from rfl, en, ec, es]; exact h.1
  have h2 : Fl.CarveCells a0 a1 a2 = true := by show Fl.ccRes (Fl.binI .add .i64 1 (Fl.kind09 a0 8)) (Fl.kind09 a1 3) (Fl.kind09 a2 2) = true; rw [show (8 : Int) = ((8 : Nat) : Int) from rfl, show (3 : Int) = ((3 : Nat) : Int) from rfl, show (2 : Int) = ((2 : Nat) : Int) from rfl, en, ec, es]; exact h.2
  exact Fl.law_walk (Fl.CarveCells_w a0 a1 a2 h1) h2 (fun _ => { block := 0, base := 0, cap := 0 }) w

/-! ### THE ROW's STEP: WRITTEN OUT: LEAVE IT -/
set_option maxRecDepth 100000 in
theorem lifted (os : Os) (started : os.Started) (H : Type) (enc : TypeId × Value → H) :
    ReturnsInHanded {} Try.checked os 6 .any (Rows.carveCellsSpec.pre6 enc Try.prog Try.f6 Rows.carveCellsRow.domain false) (Rows.carveCellsSpec.post enc Try.prog Try.f6 false true false false) := by
  refine returnsInHanded_of_change (C := Try.checked) own started (by kernel_rfl) Try.func6
    (ChangeSpec.witness6 (enc := enc) (C := Try.checked) false ⟨#[], #[.int .i64 0, .int .i64 0, .int .i64 0], []⟩ 8 (by kernel_rfl) (by kernel_rfl) (by kernel_rfl) (by kernel_rfl)) ?_
  intro W base args ds gs before hval0 hW hcnd _
  have hval : ∀ (j : Nat) t v, Try.f6.params[j]? = some t → args[j]? = some v → Value.okWide Try.prog W .any base t v := hval0
  have hW' := hW
  obtain ⟨p, q, hA0, hV, rfl, hfz, hnd⟩ := hW
  have hA : DataW.TrodAll enc Try.prog W 0 (fun _ => true) true Try.f6.params.toList args.toList ds p := hA0
  rw [Try.params6] at hA hval
  obtain ⟨v0, vs0, d0, ds0, p0, q0, hargs, rfl, rfl, h0, r0⟩ := trodAll_cons hA
  obtain ⟨v1, vs1, d1, ds1, p1, q1, rfl, rfl, rfl, h1, r1⟩ := trodAll_cons r0
  obtain ⟨v2, vs2, d2, ds2, p2, q2, rfl, rfl, rfl, h2, r2⟩ := trodAll_cons r1
  obtain ⟨rfl, rfl, rfl⟩ := trodAll_nil r2
  obtain rfl : args = #[v0, v1, v2] := by cases args; simp_all
  obtain ⟨rfl, rfl⟩ := trodVars_none hV
  obtain ⟨a0, rfl, rfl, rfl, w0⟩ := open_int Try.underlying3 (hval 0 3 v0 rfl rfl) h0
  obtain ⟨a1, rfl, rfl, rfl, w1⟩ := open_int Try.underlying3 (hval 1 3 v1 rfl rfl) h1
  obtain ⟨a2, rfl, rfl, rfl, w2⟩ := open_int Try.underlying3 (hval 2 3 v2 rfl rfl) h2
  clear hA0 hval0
  simp only [List.append_nil] at hW'
  refine (walk a0 a1 a2 w0 w1 w2 W).mono fun e W' ⟨he, hg⟩ => ?_
  subst he
  exact ⟨_, rfl, Fl.post_of_old (pa := []) (pv := []) hW' (fun _ _ _ => (trodAll_cons_mk (shut_bool Try.underlying4 _) trodAll_mk0)) (fun sp _ => (trodAll_cons_mk (shut_int Try.underlying3 w0) (trodAll_cons_mk (shut_int Try.underlying3 w1) (trodAll_cons_mk (shut_int Try.underlying3 w2) trodAll_mk0)))) (fun _ _ => rfl) rfl hg (ok_one (by kernel_rfl) rfl (okWide_bool_mk Try.underlying4 _))⟩

theorem over : Rows.carveCellsRow.holds Try.pinned (OpenSpec.ofChange Rows.carveCellsSpec) :=
  OpenClaim.holds_of_wide 6 Try.f6 rfl rfl rfl rfl rfl rfl rfl ⟨rfl, rfl, rfl, rfl, rfl⟩ rfl rfl rfl rfl rfl (by kernel_rfl) Try.func6 (by kernel_rfl)
    (of_decide_eq_true (by kernel_rfl)) (by unfold Func.isWrapper; first | (rw [if_pos (by decide +kernel)]; kernel_rfl) | (rw [if_neg (by decide +kernel)]; exact ⟨rfl, rfl⟩))
    (fun os started H enc _ => lifted os started H enc)

/-- ████ THE STATEMENT ████ -/
theorem proved : Rows.CarveCellsSaid :=
  over
#print axioms proved
end Go.Proofs.Ytjhhecidaableaa.carveCells
