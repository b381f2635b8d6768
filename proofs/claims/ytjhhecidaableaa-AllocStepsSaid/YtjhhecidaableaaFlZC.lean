/- The program's objects in memory, and that they are what their patterns say. Conditions: none. -/
import Derived.Test.YtjhhecidaableaaFlFn
import Derived.KernelRfl
set_option linter.unusedVariables false
set_option linter.unusedSectionVars false
namespace Go.Fl
open Go Go.RowKit

theorem glue1 : ∀ t ls, fillBs (toL t (ofL t ls)) (tplT t) 0 = fillBs ls (tplT t) 0
  | 0, ls => by kernel_rfl
  | 1, ls => by kernel_rfl
  | 2, ls => by kernel_rfl
  | 3, ls => by kernel_rfl
  | 4, ls => by kernel_rfl
  | 5, ls => by kernel_rfl
  | 6, ls => by kernel_rfl
  | 7, ls => by kernel_rfl
  | 8, ls => by kernel_rfl
  | 9, ls => by kernel_rfl
  | 10, ls => by kernel_rfl
  | 11, ls => by kernel_rfl
  | 12, ls => by kernel_rfl
  | 13, ls => by kernel_rfl
  | 14, ls => by kernel_rfl
  | 15, ls => by kernel_rfl
  | 16, ls => by kernel_rfl
  | 17, ls => by kernel_rfl
  | 18, ls => by kernel_rfl
  | 19, ls => by kernel_rfl
  | 20, ls => by kernel_rfl
  | 21, ls => by kernel_rfl
  | _ + 22, _ => rfl
theorem glue : GlueOk := glue1

def blocksT (t : Nat) (x : T t) : List (ABlock L0) := (fillBs (toL t x) (tplT t) 0).1
def noObj : ObjP := ⟨fun _ _ _ => False, fun _ _ _ _ h => h.elim, fun _ _ _ h => h.elim⟩
def lev : Nat → (t : Nat) → T t → ObjP
  | 0, _, _ => noObj
  | n + 1, t, x => @subP ⟨lev n⟩ (blocksT t x)
def depT : Nat → Nat
  | 0 => 1
  | 1 => 1
  | 2 => 1
  | 3 => 1
  | 4 => 2
  | 5 => 1
  | 6 => 3
  | 7 => 4
  | 8 => 1
  | 9 => 1
  | 10 => 2
  | 11 => 1
  | 12 => 3
  | 13 => 4
  | 14 => 1
  | 15 => 2
  | 16 => 1
  | 17 => 1
  | 18 => 1
  | 19 => 2
  | 20 => 1
  | 21 => 2
  | _ => 0

def tagOf : ABlock L0 → Option Nat
  | .obj (.one t _) => some t
  | .obj (.opt t _) => some t
  | _ => none

theorem rep_sub {R R' : (t : Nat) → T t → ObjP} {ρ : Rho} {w : World} {pl : Place} {fp : Nat → Prop} {b : ABlock L0} (h : ∀ t, tagOf b = some t → R t = R' t) : @Rep ⟨R⟩ ρ w pl fp b ↔ @Rep ⟨R'⟩ ρ w pl fp b := by
  match b with
  | .obj (.one t x) => simp only [Rep, objRep, h t rfl]
  | .obj (.opt t none) => exact Iff.rfl
  | .obj (.opt t (some x)) => simp only [Rep, objRep, h t rfl]
  | .gone => exact Iff.rfl
  | .cells .. => exact Iff.rfl
  | .arr .. => exact Iff.rfl
  | .opq .. => exact Iff.rfl
  | .esl => exact Iff.rfl
  | .lst .. => exact Iff.rfl
  | .olst .. => exact Iff.rfl
  | .ro .. => exact Iff.rfl

theorem subP_sub {R R' : (t : Nat) → T t → ObjP} {bs : List (ABlock L0)} (h : ∀ b, b ∈ bs → ∀ t, tagOf b = some t → R t = R' t) : @subP ⟨R⟩ bs = @subP ⟨R'⟩ bs := by
  have hr : ∀ i ρ w pl fp, @Rep ⟨R⟩ ρ w pl fp (getH bs i) ↔ @Rep ⟨R'⟩ ρ w pl fp (getH bs i) := by
    intro i ρ w pl fp
    refine rep_sub fun t ht => ?_
    unfold getH at ht
    cases hb : bs[i]? with
    | none => simp [hb, tagOf] at ht
    | some b => simp [hb] at ht; exact h b (List.mem_of_getElem? hb) t ht
  have ext : ∀ a b : ObjP, a.rep = b.rep → a = b := by
    rintro ⟨r1, _, _⟩ ⟨r2, _, _⟩ he
    simp only at he
    subst he
    rfl
  refine ext _ _ ?_
  funext pl fp w
  refine propext ⟨?_, ?_⟩
  · rintro ⟨h1, ρ, fps, h2, h3, h4⟩
    exact ⟨h1, ρ, fps, h2, @HS.mk ⟨R'⟩ _ _ _ _ (fun i => (hr i _ _ _ _).1 (@HS.rep ⟨R⟩ _ _ _ _ h3 i)) (@HS.disj ⟨R⟩ _ _ _ _ h3) (@HS.ro ⟨R⟩ _ _ _ _ h3), h4⟩
  · rintro ⟨h1, ρ, fps, h2, h3, h4⟩
    exact ⟨h1, ρ, fps, h2, @HS.mk ⟨R⟩ _ _ _ _ (fun i => (hr i _ _ _ _).2 (@HS.rep ⟨R'⟩ _ _ _ _ h3 i)) (@HS.disj ⟨R'⟩ _ _ _ _ h3) (@HS.ro ⟨R'⟩ _ _ _ _ h3), h4⟩

def tagP : ABlock LU → Option Nat
  | .obj (t, _) => some t
  | _ => none
theorem tag_fill {ls : Ls} : ∀ (ps : List (ABlock LU)) (n : Nat) b, b ∈ (fillBs ls ps n).1 → ∃ p, p ∈ ps ∧ tagOf b = tagP p
  | [], n, b, h => by simp [fillBs] at h
  | p :: r, n, b, h => by
    simp only [fillBs, List.mem_cons] at h
    rcases h with rfl | h
    · refine ⟨p, by simp, ?_⟩
      match p with
      | .obj (t, false) => rfl
      | .obj (t, true) => rfl
      | .gone => rfl
      | .cells .. => rfl
      | .arr .. => rfl
      | .opq .. => rfl
      | .esl => rfl
      | .lst .. => rfl
      | .olst .. => rfl
      | .ro .. => rfl
    · obtain ⟨q, hq, e⟩ := tag_fill r _ b h
      exact ⟨q, by simp [hq], e⟩

theorem depOk : ∀ t, (tplT t).all (fun p => match tagP p with | some u => decide (depT u < depT t) | none => true) = true
  | 0 => by kernel_rfl
  | 1 => by kernel_rfl
  | 2 => by kernel_rfl
  | 3 => by kernel_rfl
  | 4 => by kernel_rfl
  | 5 => by kernel_rfl
  | 6 => by kernel_rfl
  | 7 => by kernel_rfl
  | 8 => by kernel_rfl
  | 9 => by kernel_rfl
  | 10 => by kernel_rfl
  | 11 => by kernel_rfl
  | 12 => by kernel_rfl
  | 13 => by kernel_rfl
  | 14 => by kernel_rfl
  | 15 => by kernel_rfl
  | 16 => by kernel_rfl
  | 17 => by kernel_rfl
  | 18 => by kernel_rfl
  | 19 => by kernel_rfl
  | 20 => by kernel_rfl
  | 21 => by kernel_rfl
  | _ + 22 => rfl

theorem lev_eq : ∀ (n t : Nat), depT t < n → lev n t = lev (n + 1) t
  | 0, t, h => by omega
  | n + 1, t, h => by
    funext x
    show @subP ⟨lev n⟩ (blocksT t x) = @subP ⟨lev (n + 1)⟩ (blocksT t x)
    refine subP_sub fun b hb u hu => ?_
    obtain ⟨p, hp, e⟩ := tag_fill _ _ b hb
    have := List.all_eq_true.1 (depOk t) p hp
    rw [← e, hu] at this
    simp only [decide_eq_true_eq] at this
    exact lev_eq n u (by omega)

instance objs : Objs := ⟨lev 10⟩

theorem depT_lt : ∀ t, depT t < 9
  | 0 => by decide
  | 1 => by decide
  | 2 => by decide
  | 3 => by decide
  | 4 => by decide
  | 5 => by decide
  | 6 => by decide
  | 7 => by decide
  | 8 => by decide
  | 9 => by decide
  | 10 => by decide
  | 11 => by decide
  | 12 => by decide
  | 13 => by decide
  | 14 => by decide
  | 15 => by decide
  | 16 => by decide
  | 17 => by decide
  | 18 => by decide
  | 19 => by decide
  | 20 => by decide
  | 21 => by decide
  | _ + 22 => by show 0 < 9; omega

theorem objsOk : ObjsOk := ⟨fun t x => by
  show lev 10 t x = @subP ⟨lev 10⟩ (blocksT t x)
  refine Eq.trans (b := @subP ⟨lev 9⟩ (blocksT t x)) rfl ?_
  refine subP_sub fun b hb u hu => ?_
  exact lev_eq 9 u (depT_lt u)⟩

end Go.Fl
