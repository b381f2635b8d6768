/- From a contract of a law's function to what the row's frame asks of its walk. Conditions: none. -/
import Derived.Test.YtjhhecidaableaaFlFn
import Derived.ChangeSame
import Derived.RowKit3
set_option linter.unusedVariables false
set_option linter.unusedSectionVars false
namespace Go.Fl
open Go Go.RowKit Go.WideShapes Go.ChangeShapes

/-- Blocks that were there stay as they were. -/
abbrev Old (w w' : World) : Prop := Fr (fun _ => False) w w'

theorem Old.keptBut {w w' : World} (h : Old w w') (may : MemPlace → Prop) : w.keptBut w' may := by
  refine ⟨h.os, h.output, fun i hi => ?_⟩
  have e := h.block i hi (fun f => f)
  rw [e]
  split
  · rename_i h1 h2
    rw [h1] at h2
    cases h2
    exact ⟨rfl, rfl, rfl, fun _ _ => rfl⟩
  · rename_i h1 h2
    rw [h1] at h2
    cases h2
    exact Or.inr ⟨rfl, rfl⟩
  · rfl

theorem Old.frozen {w w' : World} (h : Old w w') {a : Addr} (ha : a.block < w.heap.size) : w'.frozen? a = w.frozen? a := by
  unfold World.frozen?
  rw [h.block a.block ha (fun f => f)]

section
variable {H : Type} {enc : TypeId × Value → H} {P : Program}
theorem post_of_old {f : Func} {s : ChangeSpec} {apart fresh handsOn again : Bool} {W W' : World} {args : Array Value} {v : Value} {ds gs : List (DataW H)} {before pa pv : List MemPlace}
    (hW : DataW.Whole enc P f.params.toList s.vars apart W args.toList ds gs before)
    (hres : ∀ (b : Nat) (sp : Nat → Bool) (hd : Bool), DataW.TrodAll enc P W' b sp hd f.resultTypes.toList (v.resultList f.resultTypes.size) (s.fn H (ds ++ gs)).results [])
    (hargs : ∀ sp : Nat → Bool, (∀ p ∈ before, sp p.block = true) → DataW.TrodAll enc P W' 0 sp true f.params.toList args.toList (s.fn H (ds ++ gs)).args pa)
    (hvars : ∀ sp : Nat → Bool, (∀ p ∈ before, sp p.block = true) → DataW.TrodVars enc P W' sp s.vars (s.fn H (ds ++ gs)).vars pv)
    (hps : before = pa ++ pv) (hk : Old W W')
    (hok : ∀ (j : Nat) (t : TypeId) (r : Value), f.resultTypes[j]? = some t → (v.resultList f.resultTypes.size)[j]? = some r → Value.okWide P W' .any 0 t r) :
    s.post enc P f apart fresh handsOn again W args v W' := by
  have hold : ∀ p ∈ before, (fun b => decide (b < W.heap.size)) p.block = true := fun p hp => by simpa using hW.lt p hp
  have hlt : ∀ p ∈ before, p.block < W.heap.size := fun p hp => hW.lt p hp
  refine ⟨ds, gs, before, [], pa, pv, hW, hres _ _ _, hargs _ hold, hvars _ hold, World.keptBut_mono (fun p hp => ⟨hp, ?_⟩) (hk.keptBut (· ∈ before)), fun _ => ?_⟩
  · rw [hps, List.mem_append] at hp
    exact Or.inr hp
  · obtain ⟨_, _, _, _, _, hz, hn⟩ := hW
    refine ⟨hok, _, _, ([] ++ pa) ++ pv, ⟨[] ++ pa, pv, trodAll_append (hargs _ (fun _ _ => rfl)) (hres _ _ _), hvars _ (fun _ _ => rfl), rfl, ?_, ?_⟩, ?_⟩
    · intro b off hp
      have hp' : MemPlace.cell b off ∈ before := by rw [hps]; simpa using hp
      have hl : b < W.heap.size := hlt _ hp'
      rw [hk.frozen (a := ⟨b, off, none⟩) hl]
      exact hz b off hp'
    · intro ha
      have := hn ha
      rw [hps] at this
      simpa using this
    · intro p hp _
      rw [hps]
      simpa using hp
end

theorem HS_nil [Objs] (w : World) (ρ : Rho) : HS (getH []) ρ (fun _ _ => False) w where
  rep := fun i b h => h
  disj := fun _ _ _ _ h => h.elim
  ro := fun i h => by simp [getH, ABlock.isRo] at h

/-- A law of plain arguments: its contract, on an empty memory. -/
theorem law_walk [Objs] {P : Program} {f : FuncId} {args : List (AV L0)} {b : SB L0} {H' : List (ABlock L0)} (h : Contract P f args [] (.bool b) [] H') (hb : denB b = true) (ρ : Rho) (w : World) :
    Calls P f (toVs ρ args).toArray w fun e w' => e = .returned (.bool true) ∧ Old w w' := by
  refine (h.2 ρ (fun _ _ => False) w (HS_nil w ρ)).mono fun e w' ⟨ρ', fps', he, hp⟩ => ⟨?_, ?_⟩
  · rw [he]
    simp only [toV, hb]
  · exact hp.fr.mono fun b ⟨i, hi, _⟩ => by cases hi

end Go.Fl
