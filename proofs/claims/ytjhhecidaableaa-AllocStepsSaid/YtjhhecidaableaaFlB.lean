/- Symbolic values: the objects that they name; what a step of a machine does to the symbolic memory. Conditions: none. -/
import Derived.Test.YtjhhecidaableaaFlA
set_option linter.unusedSimpArgs false
set_option linter.unusedVariables false
set_option linter.unusedSectionVars false
namespace Go.Fl
open Go Go.RowKit
variable [Objs]

mutual
def AV.ids {L : Lf} : AV L → List Nat
  | .ptr id _ _ _ => [id]
  | .slice id _ _ _ _ _ => [id]
  | .unk id => [id]
  | .opt id => [id]
  | .fsel _ fs => fs.filterMap fun x => x.bind (·.2)
  | .sl id => [id]
  | .func _ first caps => AV.idsL first ++ AV.idsL caps
  | .agg vs => AV.idsL vs
  | .tuple vs => AV.idsL vs
  | _ => []
def AV.idsL {L : Lf} : List (AV L) → List Nat
  | [] => []
  | v :: r => AV.ids v ++ AV.idsL r
end

def ABlock.ids {L : Lf} : ABlock L → List Nat
  | .cells _ vs => AV.idsL vs
  | _ => []

mutual
theorem toV_congr {ρ1 ρ2 : Rho} : ∀ v : AV L0, (∀ i ∈ v.ids, ρ1 i = ρ2 i) → toV ρ1 v = toV ρ2 v
  | .int .., _ => rfl
  | .bool .., _ => rfl
  | .flat .., _ => rfl
  | .nilp, _ => rfl
  | .ptr id c t n, h => by simp [toV, addrOf, h id (by simp [AV.ids])]
  | .nils, _ => rfl
  | .slice id c t n len cap, h => by simp [toV, addrOf, h id (by simp [AV.ids])]
  | .nilf, _ => rfl
  | .unk id, h => by simp [toV, h id (by simp [AV.ids])]
  | .opt id, h => by simp [toV, h id (by simp [AV.ids])]
  | .fsel e fs, h => by
    simp only [toV]
    have hm : ∀ x : Option (FuncId × Option Nat), x ∈ fs → fselV ρ1 x = fselV ρ2 x := by
      intro x hx
      match x with
      | none => rfl
      | some (f, none) => rfl
      | some (f, some id) => simp only [fselV, h id (by simp only [AV.ids, List.mem_filterMap]; exact ⟨_, hx, rfl⟩)]
    rcases Nat.lt_or_ge (denI e).toNat fs.length with hl | hl
    · rw [show fs.getD (denI e).toNat none = fs[(denI e).toNat] from by simp [List.getD, List.getElem?_eq_getElem hl]]
      exact hm _ (List.getElem_mem _)
    · rw [show fs.getD (denI e).toNat none = none from by simp [List.getD, List.getElem?_eq_none hl]]
      rfl
  | .sl id, h => by simp [toV, h id (by simp [AV.ids])]
  | .func f first caps, h => by
    simp only [toV]
    rw [toVs_congr first fun i hi => h i (by simp [AV.ids, hi]), toVs_congr caps fun i hi => h i (by simp [AV.ids, hi])]
  | .agg vs, h => by simp only [toV]; rw [toVs_congr vs h]
  | .tuple vs, h => by simp only [toV]; rw [toVs_congr vs h]
theorem toVs_congr {ρ1 ρ2 : Rho} : ∀ l : List (AV L0), (∀ i ∈ AV.idsL l, ρ1 i = ρ2 i) → toVs ρ1 l = toVs ρ2 l
  | [], _ => rfl
  | v :: r, h => by
    simp only [toVs]
    rw [toV_congr v fun i hi => h i (by simp [AV.idsL, hi]), toVs_congr r fun i hi => h i (by simp [AV.idsL, hi])]
end

theorem Rep_congr {ρ1 ρ2 : Rho} {w : World} {pl : Place} {fp : Nat → Prop} {B : ABlock L0} (h : Rep ρ1 w pl fp B) (hi : ∀ i ∈ B.ids, ρ1 i = ρ2 i) : Rep ρ2 w pl fp B := by
  cases B with
  | cells e vs => obtain ⟨h1, h0, h2⟩ := h; exact ⟨h1, h0, by rw [← toVs_congr vs hi]; exact h2⟩
  | _ => exact h

theorem Rep_fp {ρ : Rho} {w : World} {pl : Place} {fp fp' : Nat → Prop} {B : ABlock L0} (h : Rep ρ w pl fp B) (he : ∀ b, fp' b ↔ fp b) : Rep ρ w pl fp' B := by
  have : fp' = fp := funext fun b => propext (he b)
  rw [this]; exact h

/-- The symbolic memory with some objects set. -/
def updF (H : AHF) : List (Nat × ABlock L0) → AHF
  | [] => H
  | (i, b) :: r => fun j => if j = i then b else updF H r j

theorem updF_not {H : AHF} : ∀ {l : List (Nat × ABlock L0)} {j : Nat}, j ∉ l.map (·.1) → updF H l j = H j
  | [], _, _ => rfl
  | (i, b) :: r, j, h => by
    simp only [List.map_cons, List.mem_cons, not_or] at h
    simp only [updF, if_neg h.1]
    exact updF_not h.2

/-- How a piece of code ends. -/
inductive Ex
  | normal
  | exit (id : Nat)
  | ret
  deriving DecidableEq

inductive Ob (L : Lf) : Type
  | tst (c : SB L) (o : Bool)
  | ilt (a b : SE L)
  | ile (a b : SE L)
  | ieq (a : SE L) (n : Int)
  | nz (a : SE L)
  | inb (c : Nat) (t : SE L) (n : Nat) (a : SA L)
  | alen (len : SE L) (a : SA L)
  | call (f : FuncId) (args : List (AV L)) (H : List (ABlock L)) (v : AV L) (ws : List Nat) (H' : List (ABlock L))
  | isobj (o : L.O) (bs : List (ABlock L))
  | code (c : Code) (n0 : Nat) (ws : List Nat) (tm : List (Option (AV L))) (A : List (ABlock L)) (e : Ex) (tm' : List (Option (AV L))) (A' : List (ABlock L))

/-- What the obligations of objects and of pieces of code say. -/
structure ObRest where
  iso : TO → List (ABlock L0) → Prop
  code : Code → Nat → List Nat → List (Option (AV L0)) → List (ABlock L0) → Ex → List (Option (AV L0)) → List (ABlock L0) → Prop

/-- What a step comes to: its value; the objects that it touches, writes (among those), makes; their new contents; what is owed. -/
structure PR (L : Lf) where
  val : AV L
  tch : List Nat := []
  wr : List Nat := []
  news : List Nat := []
  upd : List (Nat × ABlock L) := []
  ob : List (Ob L) := []

structure Post (r : PR L0) (B : AHF) (ρ : Rho) (fps : Fps) (w : World) (ρ' : Rho) (fps' : Fps) (w' : World) : Prop where
  rho : ∀ i, i ∉ r.news → ρ' i = ρ i
  hs : HS (updF B r.upd) ρ' fps' w'
  fr : Fr (fun b => ∃ i, i ∈ r.wr ∧ fps i b) w w'
  same : ∀ i, i ∉ r.wr → i ∉ r.news → ∀ b, fps' i b ↔ fps i b
  from_ : ∀ i, i ∈ r.wr ∨ i ∈ r.news → ∀ b, fps' i b → (∃ j, j ∈ r.wr ∧ fps j b) ∨ w.heap.size ≤ b

/-- The operation o, its operands read as 'vals' says, comes to r, in every memory that is like A where r touches it. -/
def OpOk (P : Program) (o : Oper) (vals : Operand → Option (AV L0)) (A : AHF) (r : PR L0) : Prop :=
  ∀ (ρ : Rho) (fps : Fps) (w : World) (a : Act) (next : Act → World → Prop) (Q : Exit → Act → World → Prop) (B : AHF),
    (∀ x v, x ∈ o.op.operands → vals x = some v → a.eval x = toV ρ v) → HS B ρ fps w → (∀ i, i ∈ r.tch → B i = A i) →
    (∀ i, i ∈ r.news → B i = .gone) → (∀ i n, n ∈ r.news → n ∉ (B i).ids) →
    (∀ ρ' fps' w', Post r B ρ fps w ρ' fps' w' → next (a.put o.dst (toV ρ' r.val)) w') → o.wp P a w next Q

theorem HS.frame {H : AHF} {ρ : Rho} {fps : Fps} {w w' : World} (h : HS H ρ fps w) (fr : Fr (fun _ => False) w w') : HS H ρ fps w' :=
  ⟨fun i => (h.rep i).keep fr.size (fun b hb => fr.block b (h.lt i b hb) (fun x => x)) (fun hr => fr.block _ (by
      have := h.rep i
      cases hB : H i <;> rw [hB] at hr this <;> simp [ABlock.isRo] at hr
      exact this.2.1) (fun x => x)), h.disj, h.ro⟩

theorem Post.pure {v : AV L0} {t : List Nat} {ob : List (Ob L0)} {B : AHF} {ρ : Rho} {fps : Fps} {w w' : World} (h : HS B ρ fps w) (fr : Fr (fun _ => False) w w') :
    Post { val := v, tch := t, ob := ob } B ρ fps w ρ fps w' :=
  ⟨fun _ _ => rfl, h.frame fr, fr.mono fun _ hf => hf.elim, fun _ _ _ _ => Iff.rfl, fun i hi => by simp at hi⟩

def setRho (ρ : Rho) (n : Nat) (p : Place) : Rho := fun i => if i = n then p else ρ i
def setFps (fps : Fps) (n : Nat) (p : Nat → Prop) : Fps := fun i => if i = n then p else fps i

theorem Fr.alloc (w : World) (o : Obj) (W : Nat → Prop) : Fr W w (w.alloc o) :=
  ⟨rfl, rfl, rfl, by simp, fun b hb _ => Below.heap_alloc w o b hb⟩

theorem heap_alloc_at (w : World) (o : Obj) : (w.alloc o).heap[w.heap.size]? = some o := by
  show (w.heap.push o)[w.heap.size]? = some o
  simp

/-- A new object, at a new block (behind some draws). -/
theorem Post.new {v : AV L0} {t : List Nat} {n : Nat} {blk : ABlock L0} {ob : List (Ob L0)} {B : AHF} {ρ : Rho} {fps : Fps} {w w1 : World} {o : Obj} {cap : Nat}
    (h : HS B ρ fps w) (fr : Fr (fun _ => False) w w1) (hg : B n = .gone) (hid : ∀ i, n ∉ (B i).ids)
    (hrep : Rep (setRho ρ n { block := w.heap.size, base := 0, cap := cap }) (w1.alloc o) { block := w.heap.size, base := 0, cap := cap } (fun b => b = w.heap.size) blk) (hro : blk.isRo = false) :
    Post { val := v, tch := t, news := [n], upd := [(n, blk)], ob := ob } B ρ fps w (setRho ρ n { block := w.heap.size, base := 0, cap := cap }) (setFps fps n fun b => b = w.heap.size) (w1.alloc o) := by
  have fr2 : Fr (fun _ => False) w (w1.alloc o) := fr.trans (Fr.alloc w1 o _) (fun _ _ hf => hf)
  have h2 := h.frame fr2
  have hne : ∀ b, ¬ fps n b := by have := h.rep n; rw [hg] at this; exact this
  refine ⟨fun i hi => ?_, ⟨fun i => ?_, ?_, ?_⟩, fr2.mono fun _ hf => hf.elim, fun i _ hi b => ?_, fun i hi b hb => ?_⟩
  · simp only [List.mem_singleton] at hi; simp [setRho, hi]
  · by_cases hi : i = n
    · subst hi; simp only [updF, setRho, setFps, if_true]; exact hrep
    · simp only [updF, setRho, setFps, if_neg hi]
      refine Rep_congr (h2.rep i) fun j hj => ?_
      have : j ≠ n := fun e => hid i (e ▸ hj)
      simp [setRho, this]
  · intro i j hij b hb
    simp only [setFps] at hb ⊢
    by_cases hi : i = n <;> by_cases hj : j = n
    · omega
    · rw [if_pos hi] at hb; rw [if_neg hj]
      intro hc; have := h.lt j b hc; omega
    · rw [if_neg hi] at hb; rw [if_pos hj]
      intro hc; have := h.lt i b hb; omega
    · rw [if_neg hi] at hb; rw [if_neg hj]; exact h.disj i j hij b hb
  · intro i hr j
    by_cases hi : i = n
    · subst hi; simp [updF, hro] at hr
    · simp only [updF, if_neg hi] at hr
      simp only [setRho, if_neg hi, setFps]
      by_cases hj : j = n
      · rw [if_pos hj]
        have := h.rep i
        cases hB : B i <;> rw [hB] at hr this <;> simp [ABlock.isRo] at hr
        have := this.2.1; omega
      · rw [if_neg hj]; exact h.ro i hr j
  · simp only [List.mem_singleton] at hi; simp [setFps, hi]
  · simp only [List.not_mem_nil, List.mem_singleton, false_or] at hi; subst hi; simp [setFps] at hb; omega

/-- An object is written in place: its block is another now. -/
theorem Post.write {v : AV L0} {n : Nat} {blk : ABlock L0} {ob : List (Ob L0)} {B : AHF} {ρ : Rho} {fps : Fps} {w w' : World}
    (h : HS B ρ fps w) (hfp : ∀ b, fps n b ↔ b = (ρ n).block) (fr : Fr (fun b => b = (ρ n).block) w w')
    (hrep : Rep ρ w' (ρ n) (fps n) blk) (hro : blk.isRo = false) :
    Post { val := v, tch := [n], wr := [n], upd := [(n, blk)], ob := ob } B ρ fps w ρ fps w' := by
  have keep : ∀ i, i ≠ n → Rep ρ w' (ρ i) (fps i) (B i) := fun i hi =>
    (h.rep i).keep fr.size (fun b hb => fr.block b (h.lt i b hb) (fun e => h.disj i n hi b hb ((hfp b).2 e)))
      (fun hr => fr.block _ (by
        have := h.rep i
        cases hB : B i <;> rw [hB] at hr this <;> simp [ABlock.isRo] at hr
        exact this.2.1) (fun e => h.ro i hr n ((hfp _).2 e)))
  refine ⟨fun _ _ => rfl, ⟨fun i => ?_, h.disj, ?_⟩, fr.mono fun b hb => ⟨n, by simp, (hfp b).2 hb⟩, fun _ _ _ _ => Iff.rfl, fun i hi b hb => ?_⟩
  · by_cases hi : i = n
    · subst hi; simp only [updF, if_true]; exact hrep
    · simp only [updF, if_neg hi]; exact keep i hi
  · intro i hr j
    by_cases hi : i = n
    · subst hi; simp [updF, hro] at hr
    · simp only [updF, if_neg hi] at hr; exact h.ro i hr j
  · simp only [List.mem_singleton, List.not_mem_nil, or_false] at hi; subst hi; exact .inl ⟨_, by simp, hb⟩

/-- An operation that gives a value and leaves the world. -/
theorem OpOk.of_value {P : Program} {o : Oper} {vals : Operand → Option (AV L0)} {A : AHF} {v : AV L0} {t : List Nat} {ob : List (Ob L0)}
    (h : ∀ (ρ : Rho) (fps : Fps) (w : World) (a : Act) (B : AHF), (∀ x v, x ∈ o.op.operands → vals x = some v → a.eval x = toV ρ v) → HS B ρ fps w → (∀ i, i ∈ t → B i = A i) →
      (execOp a.eval o).run P w = .ok (.value (toV ρ v)) w) : OpOk P o vals A { val := v, tch := t, ob := ob } := by
  intro ρ fps w a next Q B hx hs ht _ _ hn
  unfold Oper.wp
  rw [h ρ fps w a B hx hs ht]
  exact hn ρ fps w (Post.pure hs (Fr.refl _ _))

end Go.Fl
