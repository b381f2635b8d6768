/- The law AllocSteps holds: for every input the call returns true and leaves its arguments as they were. Conditions: none. -/
import Derived.Test.YtjhhecidaableaaRows
import Derived.WalkKit
import Derived.IntWalk
import Derived.Test.YtjhhecidaableaaFlRowS
import Derived.Test.YtjhhecidaableaaFmR
import Derived.ProofKit
import Derived.OpenShut
namespace Go.Proofs.Ytjhhecidaableaa.allocSteps
open Go.ChangeShapes Go.WideShapes Go.ChangeAt Go.RowKit
set_option linter.unusedVariables false

theorem own : ownKnob Try.prog.godebug = none := by kernel_rfl

theorem kind_lt {a : Int} (h : (Lit.int .i64 a).wf = true) (n : Nat) (hn : 0 < n) : ∃ k, k < n ∧ Fl.kind10 a n = (k : Int) := by
  simp only [Lit.wf, Bool.and_eq_true, decide_eq_true_eq, IntKind.min, IntKind.max, IntKind.signed, IntKind.bits, reduceIte] at h
  unfold Fl.kind10
  cases h0 : decide (a < 0)
  · simp only [decide_eq_false_iff_not] at h0
    refine ⟨(a % n).toNat, ?_, ?_⟩
    · have := Int.emod_lt_of_pos a (by omega : (0 : Int) < n)
      have := Int.emod_nonneg a (by omega : (n : Int) ≠ 0)
      omega
    · have := Int.emod_nonneg a (by omega : (n : Int) ≠ 0)
      show a.tmod n = _
      rw [Int.tmod_eq_emod_of_nonneg (by omega)]
      omega
  · simp only [decide_eq_true_eq] at h0
    have e1 : Fl.binI .add .i64 a 1 = a + 1 := IntWalk.i64_in _ (by omega)
    have e2 : Fl.binI .sub .i64 0 (a + 1) = 0 - (a + 1) := IntWalk.i64_in _ (by omega)
    rw [e1, e2]
    refine ⟨((0 - (a + 1)) % n).toNat, ?_, ?_⟩
    · have := Int.emod_lt_of_pos (0 - (a + 1)) (by omega : (0 : Int) < n)
      have := Int.emod_nonneg (0 - (a + 1)) (by omega : (n : Int) ≠ 0)
      omega
    · have := Int.emod_nonneg (0 - (a + 1)) (by omega : (n : Int) ≠ 0)
      show (0 - (a + 1)).tmod n = _
      rw [Int.tmod_eq_emod_of_nonneg (by omega)]
      omega

theorem walkN (a0 : Int) (w0 : (Lit.int .i64 a0).wf = true) (w : World) :
    Calls Try.prog 14 #[.int .i64 a0, .slice none 0 0] w fun e w' => e = .returned (.bool true) ∧ Fl.Old w w' := by
  obtain ⟨c, hc, ec⟩ := kind_lt w0 8 (by omega)
  have e8 : Fl.kind10 a0 8 = (c : Int) := ec
  obtain ⟨h1, h2, h3, h4⟩ := Fl.st_nil c (Fl.st_ck c hc [] (Nat.zero_le c))
  exact Fl.law_walk (Fl.AllocStepsN_w a0 (by rw [e8]; exact h1) (by rw [e8]; exact h2) (by rw [e8]; exact h3)) (by show Fl.stResN (Fl.stRAN (Fl.kind10 a0 8)) = true; rw [e8]; exact h4) (fun _ => { block := 0, base := 0, cap := 0 }) w

set_option maxRecDepth 100000 in
theorem walkS (a0 : Int) (w0 : (Lit.int .i64 a0).wf = true) (W : World) {b off len cap : Nat} {zs : List Int} (hs : Fl.SlArg W .u64 b off len cap zs) :
    Calls Try.prog 14 #[.int .i64 a0, .slice (some ⟨b, off, none⟩) len cap] W fun e w' => e = .returned (.bool true) ∧ Fl.Old W w' := by
  obtain ⟨c, hc, ec⟩ := kind_lt w0 8 (by omega)
  have e8 : Fl.kind10 a0 8 = (c : Int) := ec
  have hl : (zs.take len).length = len := by rw [List.length_take, hs.hz]; have := hs.hl; omega
  obtain ⟨h1, h2, h3, h4⟩ := Fl.st_all c (by omega) (zs.take len) (cap : Int) (Fl.st_ck c hc _ (by rw [List.length_take]; omega))
  rw [hl] at h2 h3 h4
  have hx : Fl.AllocSteps a0 len cap (zs.take len) = true := by
    show Fl.stRes (Fl.stRA len cap (Fl.kind10 a0 8) (zs.take len)) = true
    rw [e8]
    exact h4
  have ha := Fl.AllocSteps_w a0 len cap (zs.take len) (by rw [e8]; exact h1) (by rw [e8]; exact h2) (by rw [e8]; exact h3)
  exact Fl.law_atS ha _ hx #[.int .i64 a0, .slice (some ⟨b, off, none⟩) len cap] hs (by kernel_rfl) (by kernel_rfl) (by kernel_rfl) (by kernel_rfl)

theorem cells59 : Try.prog.cellsOf 59 = 1 := by kernel_rfl

/-! ### The row's step -/
set_option maxRecDepth 100000 in
theorem lifted (os : Os) (started : os.Started) (H : Type) (enc : TypeId × Value → H) :
    ReturnsInHanded {} Try.checked os 14 .any (Rows.allocStepsSpec.pre6 enc Try.prog Try.f14 Rows.allocStepsRow.domain false) (Rows.allocStepsSpec.post enc Try.prog Try.f14 false true false false) := by
  refine returnsInHanded_of_change (C := Try.checked) own started (by kernel_rfl) Try.func14
    (ChangeSpec.witness6 (enc := enc) (C := Try.checked) false ⟨#[], #[.int .i64 0, .slice none 0 0], []⟩ 8 (by kernel_rfl) (by kernel_rfl) (by kernel_rfl) (by kernel_rfl)) ?_
  intro W base args ds gs before hval0 hW hcnd _
  have hval : ∀ (j : Nat) t v, Try.f14.params[j]? = some t → args[j]? = some v → Value.okWide Try.prog W .any base t v := hval0
  have hW' := hW
  obtain ⟨p, q, hA0, hV, rfl, hfz, hnd⟩ := hW
  have hA : DataW.TrodAll enc Try.prog W 0 (fun _ => true) true Try.f14.params.toList args.toList ds p := hA0
  rw [Try.params14] at hA hval
  obtain ⟨v0, vs0, d0, ds0, p0, q0, hargs, rfl, rfl, h0, r0⟩ := trodAll_cons hA
  obtain ⟨v1, vs1, d1, ds1, p1, q1, rfl, rfl, rfl, h1, r1⟩ := trodAll_cons r0
  obtain ⟨rfl, rfl, rfl⟩ := trodAll_nil r1
  obtain rfl : args = #[v0, v1] := by cases args; simp_all
  obtain ⟨rfl, rfl⟩ := trodVars_none hV
  obtain ⟨a0, rfl, rfl, rfl, w0⟩ := open_int Try.underlying3 (hval 0 3 v0 rfl rfl) h0
  clear hA0 hval0
  simp only [List.append_nil, List.nil_append] at hW'
  rcases Fl.slice_arg Try.underlying60 Try.underlying59 cells59 (hval 1 60 v1 rfl rfl) h1 with ⟨rfl, rfl, rfl⟩ | ⟨b, off, len, cap, zs, rfl, rfl, rfl, hs⟩
  · refine (walkN a0 w0 W).mono fun e W' ⟨he, hg⟩ => ?_
    subst he
    exact ⟨_, rfl, Fl.post_of_old (pa := []) (pv := []) hW' (fun _ _ _ => (trodAll_cons_mk (shut_bool Try.underlying4 _) trodAll_mk0)) (fun sp _ => (trodAll_cons_mk (shut_int Try.underlying3 w0) (trodAll_cons_mk (Fl.slice_nil Try.underlying60) trodAll_mk0))) (fun _ _ => rfl) rfl hg (ok_one (by kernel_rfl) rfl (okWide_bool_mk Try.underlying4 _))⟩
  · refine (walkS a0 w0 W hs).mono fun e W' ⟨he, hg⟩ => ?_
    subst he
    have hsb := fun (sp : Nat → Bool) (hsp : ∀ q ∈ MemPlace.row ⟨b, off, none⟩ zs.length, sp q.block = true) => Fl.slice_back (enc := enc) (sp := sp) Try.underlying60 Try.underlying59 cells59 hs hg hsp
    exact ⟨_, rfl, Fl.post_of_old (pa := MemPlace.row ⟨b, off, none⟩ zs.length) (pv := []) hW' (fun _ _ _ => (trodAll_cons_mk (shut_bool Try.underlying4 _) trodAll_mk0))
      (fun sp hsp => by
        have t := trodAll_cons_mk (shut_int (enc := enc) (w := W') (base := 0) (spare := sp) (held := true) Try.underlying3 w0) (trodAll_cons_mk (hsb sp (fun q hq => hsp q hq)) trodAll_mk0)
        simp only [List.append_nil, List.nil_append] at t
        exact t) (fun _ _ => rfl) (by simp) hg (ok_one (by kernel_rfl) rfl (okWide_bool_mk Try.underlying4 _))⟩

theorem over : Rows.allocStepsRow.holds Try.pinned (OpenSpec.ofChange Rows.allocStepsSpec) :=
  OpenClaim.holds_of_wide 14 Try.f14 rfl rfl rfl rfl rfl rfl rfl ⟨rfl, rfl, rfl, rfl, rfl⟩ rfl rfl rfl rfl rfl (by kernel_rfl) Try.func14 (by kernel_rfl)
    (of_decide_eq_true (by kernel_rfl)) (by unfold Func.isWrapper; first | (rw [if_pos (by decide +kernel)]; kernel_rfl) | (rw [if_neg (by decide +kernel)]; exact ⟨rfl, rfl⟩))
    (fun os started H enc _ => lifted os started H enc)

theorem proved : Rows.AllocStepsSaid :=
  over
#print axioms proved
end Go.Proofs.Ytjhhecidaableaa.allocSteps
