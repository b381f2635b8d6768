/- Operations on addresses, parts, integers and truth values, on symbolic values. Conditions: none. -/
import Derived.Test.YtjhhecidaableaaFlE
import Derived.Laws.Small
import Derived.Laws.StructEq
set_option linter.unusedSimpArgs false
set_option linter.unusedVariables false
set_option linter.unusedSectionVars false
namespace Go.Fl
open Go Go.RowKit
variable [Objs]

section
variable {P : Program} {Ctr : FuncId → List (AV L0) → List (ABlock L0) → AV L0 → List Nat → List (ABlock L0) → Prop} {Iso : ObRest}

/-! ### Plain values -/

def prMove {L : Lf} (tm : Tm L) (x : Operand) : Option (PR L) := (evT tm x).map fun v => { val := v }

theorem prMove_ok {tm : Tm L0} {A : AH L0} {o : Oper} {x : Operand} {r : PR L0} (ho : o.op = .move x ∨ o.op = .assign x)
    (h : prMove tm x = some r) : OpOk P o (evT tm) (getH A) r := by
  unfold prMove at h
  cases hx : evT tm x with
  | none => simp [hx] at h
  | some v =>
    simp [hx] at h
    subst h
    refine OpOk.of_value fun ρ fps w a B hev hH hB => ?_
    rcases ho with ho | ho <;> simp [execOp, ho, hev x v (by simp [ho, Op.operands]) hx]

def prPick {L : Lf} (tm : Tm L) (c x y : Operand) : Option (PR L) :=
  match evT tm c with
  | some (.bool (.lit true)) => (evT tm x).map fun v => { val := v }
  | some (.bool (.lit false)) => (evT tm y).map fun v => { val := v }
  | some (.bool b) =>
    match evT tm x, evT tm y with
    | some (.bool p), some (.bool q) => some { val := .bool (.not (.and (.not (.and b p)) (.not (.and (.not b) q)))) }
    | _, _ => none
  | _ => none

theorem prPick_ok {tm : Tm L0} {A : AH L0} {o : Oper} {c x y : Operand} {r : PR L0} (ho : o.op = .pick c x y)
    (h : prPick tm c x y = some r) : OpOk P o (evT tm) (getH A) r := by
  have hmc : c ∈ o.op.operands := by simp [ho, Op.operands]
  have hmx : x ∈ o.op.operands := by simp [ho, Op.operands]
  have hmy : y ∈ o.op.operands := by simp [ho, Op.operands]
  unfold prPick at h
  split at h
  · rename_i hc
    cases hx : evT tm x with
    | none => simp [hx] at h
    | some v =>
      simp [hx] at h
      subst h
      refine OpOk.of_value fun ρ fps w a B hev hH hB => ?_
      simp [execOp, ho, hev c _ hmc hc, hev x _ hmx hx, toV, denB, asBool]
  · rename_i hc
    cases hx : evT tm y with
    | none => simp [hx] at h
    | some v =>
      simp [hx] at h
      subst h
      refine OpOk.of_value fun ρ fps w a B hev hH hB => ?_
      simp [execOp, ho, hev c _ hmc hc, hev y _ hmy hx, toV, denB, asBool]
  · rename_i b _ _ hc
    split at h
    case h_2 => cases h
    rename_i p q hp hq
    cases h
    refine OpOk.of_value fun ρ fps w a B hev hH hB => ?_
    simp only [execOp, ho, hev c _ hmc hc, hev x _ hmx hp, hev y _ hmy hq, toV, asBool, Sem.run_bind, Sem.run_pure, Result.andThen_ok, denB]
    cases denB b <;> cases denB p <;> cases denB q <;> rfl
  · cases h

def prNil {L : Lf} (tm : Tm L) (x : Operand) : Option (PR L) :=
  match evT tm x with
  | some (.ptr id c e n) => some { val := .ptr id c e n }
  | some (.func f a b) => some { val := .func f a b }
  | _ => none

theorem prNil_ok {tm : Tm L0} {A : AH L0} {o : Oper} {x : Operand} {r : PR L0} (ho : o.op = .nilCheck x)
    (h : prNil tm x = some r) : OpOk P o (evT tm) (getH A) r := by
  have hmx : x ∈ o.op.operands := by simp [ho, Op.operands]
  unfold prNil at h
  split at h
  · rename_i hx
    cases h
    refine OpOk.of_value fun ρ fps w a B hev hH hB => ?_
    simp [execOp, ho, hev x _ hmx hx, toV]
  · rename_i hx
    cases h
    refine OpOk.of_value fun ρ fps w a B hev hH hB => ?_
    simp [execOp, ho, hev x _ hmx hx, toV]
  · cases h

/-! ### Addresses -/

def prFieldAddr {L : Lf} (P : Program) (tm : Tm L) (s : TypeId) (x : Operand) (f : Nat) : Option (PR L) :=
  match P.underlying s, evT tm x with
  | some (.struct fields), some (.ptr id c e n) =>
    match fields[f]? with
    | some fd =>
      match tySize P fd.type with
      | some (_ + 1) => some { val := .ptr id (c + fd.offset) e n }
      | _ => none
    | none => none
  | _, _ => none

theorem prFieldAddr_ok {tm : Tm L0} {A : AH L0} {o : Oper} {s : TypeId} {x : Operand} {f : Nat} {r : PR L0} (ho : o.op = .fieldAddr s x f)
    (h : prFieldAddr P tm s x f = some r) : OpOk P o (evT tm) (getH A) r := by
  have hmx : x ∈ o.op.operands := by simp [ho, Op.operands]
  unfold prFieldAddr at h
  split at h
  case h_2 => cases h
  rename_i fields id c e n hu hx
  split at h
  case h_2 => cases h
  rename_i fd hf
  split at h
  case h_2 => cases h
  rename_i m hs
  cases h
  refine OpOk.of_value fun ρ fps w a B hev hH hB => ?_
  simp only [execOp, ho, hev x _ hmx hx, Instr.fieldAt, Sem.run_bind, run_und hu, Result.andThen_ok, hf, toV, Instr.sureAddr, Sem.run_pure, fieldPlace, run_size hs]
  rw [if_neg (by omega)]
  simp only [Sem.run_pure, Result.andThen_ok, addrOf, addr_add]
  rw [show (ρ id).base + (c + (denI e).toNat * n) + fd.offset = (ρ id).base + (c + fd.offset + (denI e).toNat * n) from by omega]

def offIdx {L : Lf} (c : Nat) (e : SE L) (n : Nat) (i : SE L) (sz : Nat) : Option (Nat × SE L × Nat) :=
  match i with
  | .lit m => some (c + m.toNat * sz, e, n)
  | _ => if n = 0 then some (c, i, sz) else none

theorem offIdx_ok {c : Nat} {e : SE L0} {n : Nat} {i : SE L0} {sz : Nat} {c' : Nat} {e' : SE L0} {n' : Nat} (h : offIdx c e n i sz = some (c', e', n')) :
    c' + (denI e').toNat * n' = c + (denI e).toNat * n + (denI i).toNat * sz := by
  unfold offIdx at h
  split at h
  · cases h; simp [denI]; omega
  · split at h
    · rename_i hn; subst hn; cases h; simp
    · cases h

def sLt {L : Lf} (a b : SE L) : List (Ob L) :=
  match a, b with
  | .lit x, .lit y => if x < y then [] else [.ilt a b]
  | _, _ => [.ilt a b]
def sLe {L : Lf} (a b : SE L) : List (Ob L) :=
  match a, b with
  | .lit x, .lit y => if x ≤ y then [] else [.ile a b]
  | _, _ => [.ile a b]

theorem sLt_ok {a b : SE L0} (h : ∀ q, q ∈ sLt a b → Obs Ctr Iso q) : denI a < denI b := by
  unfold sLt at h
  split at h
  · split at h
    · assumption
    · exact h (.ilt _ _) (List.mem_singleton.2 rfl)
  · exact h (.ilt _ _) (List.mem_singleton.2 rfl)
theorem sLe_ok {a b : SE L0} (h : ∀ q, q ∈ sLe a b → Obs Ctr Iso q) : denI a ≤ denI b := by
  unfold sLe at h
  split at h
  · split at h
    · assumption
    · exact h (.ile _ _) (List.mem_singleton.2 rfl)
  · exact h (.ile _ _) (List.mem_singleton.2 rfl)

def prIndexAddr {L : Lf} (P : Program) (tm : Tm L) (t : TypeId) (x ix : Operand) : Option (PR L) :=
  match P.underlying t, evT tm x, evT tm ix with
  | some (.array len elem), some (.ptr id c e n), some (.int _ i) =>
    match tySize P elem with
    | some sz =>
      match offIdx c e n i sz with
      | some (c', e', n') => some { val := .ptr id c' e' n', ob := sLe (.lit 0) i ++ sLt i (.lit len) }
      | none => none
    | none => none
  | some (.slice elem), some (.slice id c e n len _), some (.int _ i) =>
    match tySize P elem with
    | some sz =>
      match offIdx c e n i sz with
      | some (c', e', n') => some { val := .ptr id c' e' n', ob := sLe (.lit 0) i ++ sLt i len }
      | none => none
    | none => none
  | _, _, _ => none

theorem prIndexAddr_ok {tm : Tm L0} {A : AH L0} {o : Oper} {t : TypeId} {x ix : Operand} {r : PR L0} (ho : o.op = .indexAddr t x ix)
    (h : prIndexAddr P tm t x ix = some r) (hob : ∀ q, q ∈ r.ob → Obs Ctr Iso q) : OpOk P o (evT tm) (getH A) r := by
  have hmx : x ∈ o.op.operands := by simp [ho, Op.operands]
  have hmi : ix ∈ o.op.operands := by simp [ho, Op.operands]
  unfold prIndexAddr at h
  split at h
  · rename_i len elem id c e n k i hu hx hi
    split at h
    case h_2 => cases h
    rename_i sz hs
    split at h
    case h_2 => cases h
    rename_i c' e' n' hoff
    cases h
    have h0 : denI (.lit 0) ≤ denI i := sLe_ok fun q hq => hob q (List.mem_append_left _ hq)
    have h1 : denI i < denI (.lit (len : Int)) := sLt_ok fun q hq => hob q (List.mem_append_right _ hq)
    simp only [denI] at h0 h1
    refine OpOk.of_value fun ρ fps w a B hev hH hB => ?_
    simp only [execOp, ho, hev x _ hmx hx, hev ix _ hmi hi, Instr.indexAt, asIntOf, toV, Sem.run_bind, Sem.run_pure, run_und hu, Result.andThen_ok, Instr.sureAddr, Sem.run_ite]
    rw [if_pos ⟨h0, h1⟩]
    simp only [run_size hs, Result.andThen_ok, addrOf, addr_add]
    have := offIdx_ok hoff
    rw [show (ρ id).base + (c + (denI e).toNat * n) + (denI i).toNat * sz = (ρ id).base + (c' + (denI e').toNat * n') from by omega]
  · rename_i elem id c e n len cap k i hu hx hi
    split at h
    case h_2 => cases h
    rename_i sz hs
    split at h
    case h_2 => cases h
    rename_i c' e' n' hoff
    cases h
    have h0 : denI (.lit 0) ≤ denI i := sLe_ok fun q hq => hob q (List.mem_append_left _ hq)
    have h1 : denI i < denI len := sLt_ok fun q hq => hob q (List.mem_append_right _ hq)
    simp only [denI] at h0
    refine OpOk.of_value fun ρ fps w a B hev hH hB => ?_
    simp only [execOp, ho, hev x _ hmx hx, hev ix _ hmi hi, Instr.indexAt, asIntOf, toV, Sem.run_bind, Sem.run_pure, run_und hu, Result.andThen_ok, Sem.run_ite]
    rw [if_pos ⟨h0, by omega⟩]
    simp only [run_size hs, Result.andThen_ok, addrOf, addr_add, Sem.run_pure]
    have := offIdx_ok hoff
    rw [show (ρ id).base + (c + (denI e).toNat * n) + (denI i).toNat * sz = (ρ id).base + (c' + (denI e').toNat * n') from by omega]
  · cases h

/-! ### Parts -/

def partL {L : Lf} (P : Program) (t : TypeId) (vs : List (AV L)) (off : Nat) : Option (AV L) :=
  match tyAgg P t with
  | some true => match tySize P t with
    | some s => if off + s ≤ vs.length then some (.agg ((vs.drop off).take s)) else none
    | none => none
  | some false => vs[off]?
  | none => none

theorem partL_ok {t : TypeId} {vs : List (AV L0)} {off : Nat} {v : AV L0} (h : partL P t vs off = some v) (ρ : Rho) (w : World) :
    (part t (toVs ρ vs).toArray off).run P w = .ok (toV ρ v) w := by
  unfold partL at h
  split at h
  · rename_i hagg
    split at h
    case h_2 => cases h
    rename_i s hs
    split at h
    case isFalse => cases h
    cases h
    simp only [part, Sem.run_bind, run_aggT hagg, Result.andThen_ok, if_true, run_size hs, Sem.run_pure, toV]
    congr 2
    apply Array.ext'
    simp [toVs_take, toVs_drop, List.extract_eq_take_drop]
  · rename_i hagg
    simp only [part, Sem.run_bind, run_aggT hagg, Result.andThen_ok, Bool.false_eq_true, if_false]
    have : (toVs ρ vs).toArray[off]? = some (toV ρ v) := by simp [toVs_eq_map, h]
    rw [this]; rfl
  · cases h

def prField {L : Lf} (P : Program) (tm : Tm L) (t : TypeId) (x : Operand) (f : Nat) : Option (PR L) :=
  match P.underlying t, evT tm x with
  | some (.struct fields), some (.agg vs) =>
    match fields[f]? with
    | some fd => (partL P fd.type vs fd.offset).map fun v => { val := v }
    | none => none
  | _, _ => none

theorem prField_ok {tm : Tm L0} {A : AH L0} {o : Oper} {t : TypeId} {x : Operand} {f : Nat} {r : PR L0} (ho : o.op = .field t x f)
    (h : prField P tm t x f = some r) : OpOk P o (evT tm) (getH A) r := by
  have hmx : x ∈ o.op.operands := by simp [ho, Op.operands]
  unfold prField at h
  split at h
  case h_2 => cases h
  rename_i fields vs hu hx
  split at h
  case h_2 => cases h
  rename_i fd hf
  cases hp : partL P fd.type vs fd.offset with
  | none => simp [hp] at h
  | some v =>
    simp [hp] at h
    subst h
    refine OpOk.of_value fun ρ fps w a B hev hH hB => ?_
    simp [execOp, ho, hev x _ hmx hx, Instr.field, run_und hu, hf, toV, asAgg, partL_ok hp]

def prIndex {L : Lf} (P : Program) (tm : Tm L) (t : TypeId) (x ix : Operand) : Option (PR L) :=
  match P.underlying t, evT tm x, evT tm ix with
  | some (.array len elem), some (.agg vs), some (.int _ (.lit i)) =>
    match tySize P elem with
    | some sz => if 0 ≤ i ∧ i < len then (partL P elem vs (i.toNat * sz)).map fun v => { val := v } else none
    | none => none
  | _, _, _ => none

theorem prIndex_ok {tm : Tm L0} {A : AH L0} {o : Oper} {t : TypeId} {x ix : Operand} {r : PR L0} (ho : o.op = .index t x ix)
    (h : prIndex P tm t x ix = some r) : OpOk P o (evT tm) (getH A) r := by
  have hmx : x ∈ o.op.operands := by simp [ho, Op.operands]
  have hmi : ix ∈ o.op.operands := by simp [ho, Op.operands]
  unfold prIndex at h
  split at h
  case h_2 => cases h
  rename_i len elem vs k i hu hx hi
  split at h
  case h_2 => cases h
  rename_i sz hs
  split at h
  case isFalse => cases h
  rename_i hr
  cases hp : partL P elem vs (i.toNat * sz) with
  | none => simp [hp] at h
  | some v =>
    simp [hp] at h
    subst h
    refine OpOk.of_value fun ρ fps w a B hev hH hB => ?_
    simp only [execOp, ho, hev x _ hmx hx, hev ix _ hmi hi, Instr.index, asIntOf, toV, denI, Sem.run_bind, Sem.run_pure, run_und hu, Result.andThen_ok, Sem.run_ite]
    rw [if_pos hr]
    simp [run_size hs, partL_ok hp]

def prExtract {L : Lf} (tm : Tm L) (x : Operand) (i : Nat) : Option (PR L) :=
  match evT tm x with
  | some (.tuple vs) => (vs[i]?).map fun v => { val := v }
  | _ => none

theorem prExtract_ok {tm : Tm L0} {A : AH L0} {o : Oper} {x : Operand} {i : Nat} {r : PR L0} (ho : o.op = .extract x i)
    (h : prExtract tm x i = some r) : OpOk P o (evT tm) (getH A) r := by
  have hmx : x ∈ o.op.operands := by simp [ho, Op.operands]
  unfold prExtract at h
  split at h
  case h_2 => cases h
  rename_i vs hx
  cases hv : vs[i]? with
  | none => simp [hv] at h
  | some v =>
    simp [hv] at h
    subst h
    refine OpOk.of_value fun ρ fps w a B hev hH hB => ?_
    have : (toVs ρ vs).toArray[i]? = some (toV ρ v) := by simp [toVs_eq_map, hv]
    simp only [execOp, ho, hev x _ hmx hx, Instr.extract, toV, this, Sem.run_bind, Sem.run_pure, Result.andThen_ok]

def evList {L : Lf} (tm : Tm L) : List Operand → Option (List (AV L))
  | [] => some []
  | x :: r => match evT tm x, evList tm r with
    | some v, some l => some (v :: l)
    | _, _ => none

theorem evList_ok {tm : Tm L0} {ρ : Rho} {e : Operand → Value} : ∀ {xs : List Operand} {l : List (AV L0)}, evList tm xs = some l →
    (∀ x v, x ∈ xs → evT tm x = some v → e x = toV ρ v) → xs.map e = toVs ρ l
  | [], l, h, _ => by simp [evList] at h; subst h; rfl
  | x :: r, l, h, hev => by
    simp only [evList] at h
    cases hx : evT tm x with
    | none => simp [hx] at h
    | some v =>
      cases hr : evList tm r with
      | none => simp [hx, hr] at h
      | some l' =>
        simp [hx, hr] at h
        subst h
        simp only [List.map_cons, toVs]
        rw [hev x v (by simp) hx, evList_ok hr fun y u hy => hev y u (by simp [hy])]

def prMakeFunc {L : Lf} (tm : Tm L) (fn : Fn) (first caps : List Operand) : Option (PR L) :=
  match fn, evList tm first, evList tm caps with
  | .func f, some a, some b => some { val := .func f a b }
  | _, _, _ => none

theorem prMakeFunc_ok {tm : Tm L0} {A : AH L0} {o : Oper} {fn : Fn} {first caps : Array Operand} {r : PR L0} (ho : o.op = .makeFunc fn first caps)
    (h : prMakeFunc tm fn first.toList caps.toList = some r) : OpOk P o (evT tm) (getH A) r := by
  unfold prMakeFunc at h
  split at h
  case h_2 => cases h
  rename_i f va vb ha hb
  cases h
  refine OpOk.of_value fun ρ fps w a B hev hH hB => ?_
  have h1 := evList_ok (ρ := ρ) (e := a.eval) ha fun x v hx hv => hev x v (by simp [ho, Op.operands]; exact .inl (by simpa using hx)) hv
  have h2 := evList_ok (ρ := ρ) (e := a.eval) hb fun x v hx hv => hev x v (by simp [ho, Op.operands]; exact .inr (by simpa using hx)) hv
  have e1 : first.map a.eval = (toVs ρ va).toArray := by apply Array.ext'; simp [h1]
  have e2 : caps.map a.eval = (toVs ρ vb).toArray := by apply Array.ext'; simp [h2]
  simp [execOp, ho, Instr.makeFunc, toV, e1, e2]

end
end Go.Fl
