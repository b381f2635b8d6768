/- Contracts told in other words; lists of obligations. Conditions: none. -/
import Derived.Test.YtjhhecidaableaaFlL
set_option linter.unusedSimpArgs false
set_option linter.unusedVariables false
set_option linter.unusedSectionVars false
namespace Go.Fl
open Go Go.RowKit
variable [Objs]

/-- A block as it denotes. -/
inductive DB
  | gone
  | cells (elem : TypeId) (vs : List Value)
  | arr (elem : TypeId) (k : IntKind) (ns : List Int)
  | opq (elem : TypeId) (sz : Nat) (n : Int)
  | esl
  | lst (elem : TypeId) (k : IntKind) (ns : List Int)
  | olst (elem : TypeId) (sz : Nat) (n : Int)
  | ro (k : IntKind) (ns : List Int)
  | obj (o : TO)

def bden (ρ : Rho) : ABlock L0 → DB
  | .gone => .gone
  | .cells e vs => .cells e (toVs ρ vs)
  | .arr e k a => .arr e k (denA a)
  | .opq e sz n => .opq e sz (denI n)
  | .esl => .esl
  | .lst e k a => .lst e k (denA a)
  | .olst e s n => .olst e s (denI n)
  | .ro k a => .ro k (denA a)
  | .obj o => .obj o

def RepD (w : World) (pl : Place) (fp : Nat → Prop) : DB → Prop
  | .gone => ∀ b, ¬ fp b
  | .cells elem vs => (∀ b, fp b ↔ b = pl.block) ∧ pl.base = 0 ∧ w.heap[pl.block]? = some (.cells vs.toArray elem (0, 0))
  | .arr elem k ns => (∀ b, fp b ↔ b = pl.block) ∧ pl.base = 0 ∧ ∃ c, w.heap[pl.block]? = some (.cells c elem (0, 0)) ∧ c.size = pl.cap ∧ pl.cap ≤ maxLen ∧
      ns.length ≤ pl.cap ∧ c.toList.take ns.length = ns.map (Value.int k)
  | .opq elem sz n => (∀ b, fp b ↔ b = pl.block) ∧ pl.base = 0 ∧ ∃ c, w.heap[pl.block]? = some (.cells c elem (0, 0)) ∧ c.size = pl.cap * sz ∧ pl.cap ≤ maxLen ∧
      n.toNat ≤ pl.cap ∧ ∀ u, u ∈ c.toList → u.oneCell' = true
  | .esl => ∀ b, ¬ fp b
  | .ro k ns => (∀ b, ¬ fp b) ∧ pl.block < w.heap.size ∧ ∀ i, i < ns.length → w.cell? ⟨pl.block, pl.base + i, none⟩ = some (.int k (ns.getD i 0))
  | .lst elem k ns => pl.nil = false ∧ pl.len = ns.length ∧ (∀ b, fp b ↔ b = pl.block) ∧ pl.base = 0 ∧ ∃ c, w.heap[pl.block]? = some (.cells c elem (0, 0)) ∧ c.size = pl.cap ∧ pl.cap ≤ maxLen ∧
      ns.length ≤ pl.cap ∧ c.toList.take ns.length = ns.map (Value.int k)
  | .olst elem sz n => (pl.nil = true ∧ n = 0 ∧ ∀ b, ¬ fp b) ∨ (pl.nil = false ∧ 0 < n ∧ pl.len = n.toNat ∧ (∀ b, fp b ↔ b = pl.block) ∧ pl.base = 0 ∧ ∃ c, w.heap[pl.block]? = some (.cells c elem (0, 0)) ∧ c.size = pl.cap * sz ∧ pl.cap ≤ maxLen ∧
      n.toNat ≤ pl.cap ∧ ∀ u, u ∈ c.toList → u.oneCell' = true)
  | .obj o => objRep o pl fp w

theorem rep_den {ρ : Rho} {w : World} {pl : Place} {fp : Nat → Prop} (B : ABlock L0) : Rep ρ w pl fp B ↔ RepD w pl fp (bden ρ B) := by
  cases B <;> exact Iff.rfl

theorem isRo_den {ρ : Rho} {B B' : ABlock L0} (h : bden ρ B = bden ρ B') : B.isRo = B'.isRo := by
  cases B <;> cases B' <;> first | rfl | (simp [bden] at h)

theorem getH_den {ρ : Rho} {H H' : List (ABlock L0)} (h : H.map (bden ρ) = H'.map (bden ρ)) (i : Nat) : bden ρ (getH H i) = bden ρ (getH H' i) := by
  have h2 := congrArg (fun l : List DB => l[i]?) h
  simp only [List.getElem?_map] at h2
  unfold getH
  cases h3 : H[i]? with
  | none =>
    cases h4 : H'[i]? with
    | none => rfl
    | some b => simp [h3, h4] at h2
  | some a =>
    cases h4 : H'[i]? with
    | none => simp [h3, h4] at h2
    | some b => simpa [h3, h4] using h2

theorem HS.conv {H H' : List (ABlock L0)} {ρ : Rho} {fps : Fps} {w : World} (h : HS (getH H) ρ fps w) (he : H.map (bden ρ) = H'.map (bden ρ)) : HS (getH H') ρ fps w :=
  ⟨fun i => by rw [rep_den, ← getH_den he i, ← rep_den]; exact h.rep i, h.disj, fun i hr j => h.ro i (by rw [isRo_den (getH_den he i)]; exact hr) j⟩

theorem Contract.conv {P : Program} {f : FuncId} {args args' : List (AV L0)} {H H' : List (ABlock L0)} {v v' : AV L0} {ws : List Nat} {K K' : List (ABlock L0)}
    (h : Contract P f args H v ws K) (ha : ∀ ρ, toVs ρ args = toVs ρ args') (hH : ∀ ρ, H'.map (bden ρ) = H.map (bden ρ)) (hv : ∀ ρ, toV ρ v = toV ρ v') (hK : ∀ ρ, K.map (bden ρ) = K'.map (bden ρ)) :
    Contract P f args' H' v' ws K' := by
  have hlen : H'.length = H.length := by have := congrArg List.length (hH fun _ => { block := 0, base := 0, cap := 0 }); simpa using this
  refine ⟨h.1, fun ρ fps w hs => ?_⟩
  have h2 := h.2 ρ fps w (hs.conv (hH ρ))
  rw [ha ρ] at h2
  refine h2.mono fun e w' => ?_
  rintro ⟨ρ', fps', he, hp⟩
  refine ⟨ρ', fps', by rw [he, hv ρ'], ⟨fun i hi => hp.rho i (by omega), hp.hs.conv (hK ρ'), hp.fr, fun i hi => hp.same i (by omega), fun i hi => hp.from_ i (hi.imp id fun h => by omega)⟩⟩

theorem subP_congr {bs bs' : List (ABlock L0)} (h : ∀ ρ, bs.map (bden ρ) = bs'.map (bden ρ)) : subP bs = subP bs' := by
  have hro : (bs.all fun b => !b.isRo) = (bs'.all fun b => !b.isRo) := by
    have h0 := h fun _ => { block := 0, base := 0, cap := 0 }
    clear h
    induction bs generalizing bs' with
    | nil => cases bs' with
      | nil => rfl
      | cons b r => simp at h0
    | cons a l ih => cases bs' with
      | nil => simp at h0
      | cons b r =>
        simp only [List.map_cons, List.cons.injEq] at h0
        simp only [List.all_cons, isRo_den h0.1, ih h0.2]
  have hrep : (subP bs).rep = (subP bs').rep := by
    funext pl fp w
    refine propext ⟨?_, ?_⟩
    · rintro ⟨h1, ρ, fps, h2, h3, h4⟩
      exact ⟨by rw [← hro]; exact h1, ρ, fps, h2, h3.conv (h ρ), h4⟩
    · rintro ⟨h1, ρ, fps, h2, h3, h4⟩
      exact ⟨by rw [hro]; exact h1, ρ, fps, h2, h3.conv (h ρ).symm, h4⟩
  have ext : ∀ a b : ObjP, a.rep = b.rep → a = b := by
    rintro ⟨r1, _, _⟩ ⟨r2, _, _⟩ he
    simp only at he
    subst he
    rfl
  exact ext _ _ hrep

/-- A contract that may write more than it does. -/
theorem Contract.widen {P : Program} {f : FuncId} {args : List (AV L0)} {H : List (ABlock L0)} {v : AV L0} {ws ws' : List Nat} {K : List (ABlock L0)}
    (h : Contract P f args H v ws K) (hw : ∀ i ∈ ws, i ∈ ws') : Contract P f args H v ws' K := by
  refine ⟨h.1, fun ρ fps w hs => (h.2 ρ fps w hs).mono fun e w' => ?_⟩
  rintro ⟨ρ', fps', he, hp⟩
  refine ⟨ρ', fps', he, ⟨hp.rho, hp.hs, hp.fr.mono fun b ⟨i, hi, hb⟩ => ⟨i, hw i hi, hb⟩, fun i hi hn => hp.same i hi fun h2 => hn (hw i h2), fun i hi b hb => ?_⟩⟩
  by_cases h1 : i ∈ ws ∨ H.length ≤ i
  · rcases hp.from_ i h1 b hb with ⟨j, hj, hjb⟩ | h2
    · exact .inl ⟨j, hw j hj, hjb⟩
    · exact .inr h2
  · have h2 : i ∉ ws := fun h2 => h1 (.inl h2)
    have h3 : i < H.length := by
      have : ¬ H.length ≤ i := fun h2 => h1 (.inr h2)
      omega
    have h4 : i ∈ ws' := by
      rcases hi with hi | hi
      · exact hi
      · omega
    exact .inl ⟨i, h4, (hp.same i h3 h2 b).1 hb⟩

end Go.Fl
