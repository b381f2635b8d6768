/- Contracts of functions over symbolic memory; a call; an object that stands for several blocks. Conditions: none. -/
import Derived.Test.YtjhhecidaableaaFlJ
set_option linter.unusedSimpArgs false
set_option linter.unusedVariables false
set_option linter.unusedSectionVars false
namespace Go.Fl
open Go Go.RowKit
variable [Objs]

/-! ### Renaming -/

mutual
def AV.rn {L : Lf} (m : Nat → Nat) : AV L → AV L
  | .int k e => .int k e
  | .bool b => .bool b
  | .flat v => .flat v
  | .nilp => .nilp
  | .ptr id c t n => .ptr (m id) c t n
  | .nils => .nils
  | .slice id c t n len cap => .slice (m id) c t n len cap
  | .nilf => .nilf
  | .unk id => .unk (m id)
  | .opt id => .opt (m id)
  | .fsel e fs => .fsel e (fs.map fun x => x.map fun p => (p.1, p.2.map m))
  | .sl id => .sl (m id)
  | .func f first caps => .func f (AV.rnL m first) (AV.rnL m caps)
  | .agg vs => .agg (AV.rnL m vs)
  | .tuple vs => .tuple (AV.rnL m vs)
def AV.rnL {L : Lf} (m : Nat → Nat) : List (AV L) → List (AV L)
  | [] => []
  | v :: r => AV.rn m v :: AV.rnL m r
end

def ABlock.rn {L : Lf} (m : Nat → Nat) : ABlock L → ABlock L
  | .cells e vs => .cells e (AV.rnL m vs)
  | b => b

mutual
theorem toV_rn {ρ : Rho} {m : Nat → Nat} : ∀ v : AV L0, toV ρ (v.rn m) = toV (fun i => ρ (m i)) v
  | .int .. => rfl
  | .bool .. => rfl
  | .flat .. => rfl
  | .nilp => rfl
  | .ptr .. => rfl
  | .nils => rfl
  | .slice .. => rfl
  | .nilf => rfl
  | .unk .. => rfl
  | .opt .. => rfl
  | .fsel e fs => by
    simp only [AV.rn, toV, List.getD, List.getElem?_map]
    cases fs[(denI e).toNat]? with
    | none => rfl
    | some x =>
      match x with
      | none => rfl
      | some (f, none) => rfl
      | some (f, some id) => rfl
  | .sl .. => rfl
  | .func f a b => by simp only [AV.rn, toV]; rw [toVs_rn a, toVs_rn b]
  | .agg vs => by simp only [AV.rn, toV]; rw [toVs_rn vs]
  | .tuple vs => by simp only [AV.rn, toV]; rw [toVs_rn vs]
theorem toVs_rn {ρ : Rho} {m : Nat → Nat} : ∀ l : List (AV L0), toVs ρ (AV.rnL m l) = toVs (fun i => ρ (m i)) l
  | [] => rfl
  | v :: r => by simp only [AV.rnL, toVs]; rw [toV_rn v, toVs_rn r]
end

mutual
theorem ids_rn {L : Lf} {m : Nat → Nat} : ∀ v : AV L, (v.rn m).ids = v.ids.map m
  | .int .. => rfl
  | .bool .. => rfl
  | .flat .. => rfl
  | .nilp => rfl
  | .ptr .. => rfl
  | .nils => rfl
  | .slice .. => rfl
  | .nilf => rfl
  | .unk .. => rfl
  | .opt .. => rfl
  | .fsel e fs => by
    simp only [AV.rn, AV.ids]
    induction fs with
    | nil => rfl
    | cons x r ih => rcases x with _ | ⟨f, _ | id⟩ <;> simp [ih]
  | .sl .. => rfl
  | .func f a b => by simp only [AV.rn, AV.ids]; rw [idsL_rn a, idsL_rn b, List.map_append]
  | .agg vs => by simp only [AV.rn, AV.ids]; rw [idsL_rn vs]
  | .tuple vs => by simp only [AV.rn, AV.ids]; rw [idsL_rn vs]
theorem idsL_rn {L : Lf} {m : Nat → Nat} : ∀ l : List (AV L), AV.idsL (AV.rnL m l) = (AV.idsL l).map m
  | [] => rfl
  | v :: r => by simp only [AV.rnL, AV.idsL]; rw [ids_rn v, idsL_rn r, List.map_append]
end

theorem rep_rn {ρ : Rho} {m : Nat → Nat} {w : World} {pl : Place} {fp : Nat → Prop} {B : ABlock L0} : Rep ρ w pl fp (B.rn m) ↔ Rep (fun i => ρ (m i)) w pl fp B := by
  cases B <;> first
    | exact Iff.rfl
    | (simp only [ABlock.rn, Rep, toVs_rn])

theorem isRo_rn {L : Lf} {m : Nat → Nat} {B : ABlock L} : (B.rn m).isRo = B.isRo := by cases B <;> rfl

theorem bids_rn {L : Lf} {m : Nat → Nat} {B : ABlock L} : (B.rn m).ids = B.ids.map m := by
  cases B <;> first | rfl | (simp [ABlock.rn, ABlock.ids, idsL_rn])

/-! ### Contracts -/

structure CPost (H H' : List (ABlock L0)) (ws : List Nat) (ρ : Rho) (fps : Fps) (w : World) (ρ' : Rho) (fps' : Fps) (w' : World) : Prop where
  rho : ∀ i, i < H.length → ρ' i = ρ i
  hs : HS (getH H') ρ' fps' w'
  fr : Fr (fun b => ∃ i, i ∈ ws ∧ fps i b) w w'
  same : ∀ i, i < H.length → i ∉ ws → ∀ b, fps' i b ↔ fps i b
  from_ : ∀ i, i ∈ ws ∨ H.length ≤ i → ∀ b, fps' i b → (∃ j, j ∈ ws ∧ fps j b) ∨ w.heap.size ≤ b

/-- The function f, called with these arguments in a memory that holds H, answers v and leaves H'; of what was there it writes the objects in ws alone. -/
def Contract (P : Program) (f : FuncId) (args : List (AV L0)) (H : List (ABlock L0)) (v : AV L0) (ws : List Nat) (H' : List (ABlock L0)) : Prop :=
  (∀ as w, (callFunc f as).run P w = .ok (.enter f as) w) ∧
  ∀ (ρ : Rho) (fps : Fps) (w : World), HS (getH H) ρ fps w →
    Calls P f (toVs ρ args).toArray w fun e w' => ∃ ρ' fps', e = .returned (toV ρ' v) ∧ CPost H H' ws ρ fps w ρ' fps' w'

/-- The object that several blocks make: the first of them is the one that is pointed at from outside. -/
def subP (bs : List (ABlock L0)) : ObjP where
  rep pl fp w := (bs.all fun b => !b.isRo) = true ∧ ∃ (ρ : Rho) (fps : Fps), ρ 0 = pl ∧ HS (getH bs) ρ fps w ∧ ∀ b, fp b ↔ ∃ i, fps i b
  ok := by
    rintro pl fp w w' ⟨hro, ρ, fps, h0, hs, hf⟩ hsz hb
    refine ⟨hro, ρ, fps, h0, ⟨fun i => (hs.rep i).keep hsz (fun b hi => hb b ((hf b).2 ⟨i, hi⟩)) (fun hr => ?_), hs.disj, hs.ro⟩, hf⟩
    exfalso
    unfold getH at hr
    cases hi : bs[i]? with
    | none => simp [hi, ABlock.isRo] at hr
    | some B =>
      simp [hi] at hr
      have := List.all_eq_true.1 hro B (List.mem_of_getElem? hi)
      simp [hr] at this
  lt := by
    rintro pl fp w ⟨hro, ρ, fps, h0, hs, hf⟩ b hb
    obtain ⟨i, hi⟩ := (hf b).1 hb
    exact hs.lt i b hi

/-! ### A call -/

/-- Local numbers back to the caller's: the first ones are the objects handed over, the others new. -/
def mapIds (ids : List Nat) (N : Nat) (j : Nat) : Nat := if j < ids.length then ids.getD j 0 else N + (j - ids.length)

def idsIn {L : Lf} (p : Nat → Bool) (v : AV L) : Bool := v.ids.all p
def idsInB {L : Lf} (p : Nat → Bool) (v : ABlock L) : Bool := v.ids.all p

def prCall {L : Lf} (A : AH L) (f : FuncId) (args : List (AV L)) (ids : List Nat) (v : AV L) (ws : List Nat) (H' : List (ABlock L)) : Option (PR L) :=
  let inv := fun i => ids.idxOf i
  let N := A.length
  let m := mapIds ids N
  let n := ids.length
  let H := ids.map fun i => (getH A i).rn inv
  if ids.Nodup ∧ ids.all (· < N) = true ∧ args.all (idsIn fun i => ids.contains i) = true ∧ ids.all (fun i => idsInB (fun j => ids.contains j) (getH A i)) = true ∧
     ws.all (· < n) = true ∧ n ≤ H'.length ∧ idsIn (· < H'.length) v = true ∧ H'.all (idsInB (· < H'.length)) = true ∧
     ws.all (fun k => !(getH H' k).isRo) = true ∧ (H'.drop n).all (fun b => !b.isRo) = true then
    some { val := v.rn m, tch := ids, wr := ws.map fun k => ids.getD k 0, news := List.range' N (H'.length - n),
           upd := (List.range' N (H'.length - n)).map (fun i => (i, (getH H' (n + (i - N))).rn m)) ++ ws.map (fun k => (ids.getD k 0, (getH H' k).rn m)),
           ob := [.call f (AV.rnL inv args) H v ws H'] }
  else none

theorem updF_mem {H : AHF} : ∀ {l : List (Nat × ABlock L0)} {j : Nat} {f : Nat → ABlock L0}, (∀ p, p ∈ l → p.2 = f p.1) → j ∈ l.map (·.1) → updF H l j = f j
  | [], _, _, _, h => by simp at h
  | (i, b) :: r, j, f, hf, h => by
    simp only [updF]
    by_cases hj : j = i
    · subst hj; rw [if_pos rfl]; exact hf (j, b) (by simp)
    · rw [if_neg hj]
      simp only [List.map_cons, List.mem_cons] at h
      exact updF_mem (fun p hp => hf p (by simp [hp])) (h.resolve_left hj)

theorem idxOf_getD {ids : List Nat} (hn : ids.Nodup) {j : Nat} (hj : j < ids.length) : ids.idxOf (ids.getD j 0) = j := by
  have : ids.getD j 0 = ids[j] := by simp [List.getD, List.getElem?_eq_getElem hj]
  rw [this]
  exact hn.idxOf_getElem j hj

theorem getD_idxOf {ids : List Nat} {i : Nat} (h : i ∈ ids) : ids.getD (ids.idxOf i) 0 = i := by
  have hlt := List.idxOf_lt_length_iff.2 h
  simp [List.getD, List.getElem?_eq_getElem hlt]

end Go.Fl
