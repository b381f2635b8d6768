/- The operations that read and write memory, on symbolic values: what each comes to, and that it is so. Conditions: none. -/
import Derived.Test.YtjhhecidaableaaFlB
import Derived.Laws.Slices
import Derived.Laws.Rows
import Derived.Laws.CopyRow
set_option linter.unusedSimpArgs false
set_option linter.unusedVariables false
set_option linter.unusedSectionVars false
namespace Go.Fl
open Go Go.RowKit
variable [Objs]

abbrev Tm (L : Lf) := List (Option (AV L))
abbrev AH (L : Lf) := List (ABlock L)

def getH {L : Lf} (A : AH L) (i : Nat) : ABlock L := (A[i]?).getD .gone

def ofCell {L : Lf} : Value → AV L
  | .int k n => .int k (.lit n)
  | .bool b => .bool (.lit b)
  | .pointer none => .nilp
  | .slice none 0 0 => .nils
  | .nilFunc => .nilf
  | v => .flat v

def ofConst {L : Lf} : Value → AV L
  | .agg cs => .agg (cs.toList.map ofCell)
  | v => ofCell v

theorem toV_ofCell (ρ : Rho) (v : Value) : toV ρ (ofCell v) = v := by
  unfold ofCell
  split <;> simp [toV, denI, denB]

theorem toV_ofConst (ρ : Rho) (v : Value) : toV ρ (ofConst v) = v := by
  unfold ofConst
  split
  · rename_i cs
    have : (cs.toList.map ofCell).map (toV ρ) = cs.toList := by
      rw [List.map_map]
      conv => rhs; rw [← List.map_id cs.toList]
      exact List.map_congr_left fun v _ => toV_ofCell ρ v
    simp [toV, toVs_eq_map, this]
  · exact toV_ofCell ρ v

def evT {L : Lf} (tm : Tm L) : Operand → Option (AV L)
  | .tmp t => tm.getD t none
  | .const v => some (ofConst v)
  | .global g => some (.flat (.pointer (some ⟨g, 0, none⟩)))
  | .func f => some (.func f [] [])

def tySize (P : Program) (t : TypeId) : Option Nat := (P.info? t).map (·.size)
def tyAgg (P : Program) (t : TypeId) : Option Bool := (P.underlying t).map fun d => match d with | .struct _ | .array _ _ => true | _ => false

theorem run_und {P : Program} {t : TypeId} {d : TypeDesc} (h : P.underlying t = some d) (w : World) : (underlying t).run P w = .ok d w := by
  simp [underlying, h]

theorem run_size {P : Program} {t : TypeId} {n : Nat} (h : tySize P t = some n) (w : World) : (sizeOf t).run P w = .ok n w := by
  unfold tySize at h
  cases hi : P.info? t with
  | none => simp [hi] at h
  | some i => simp [hi] at h; simp [sizeOf, typeInfo, hi, h]

theorem run_aggT {P : Program} {t : TypeId} {b : Bool} (h : tyAgg P t = some b) (w : World) : (isAgg t).run P w = .ok b w := by
  unfold tyAgg at h
  cases hu : P.underlying t with
  | none => simp [hu] at h
  | some d =>
    simp [hu] at h
    unfold isAgg
    rw [Sem.run_bind, run_und hu]
    simp only [Result.andThen_ok]
    subst h
    cases d <;> simp

def AV.cellsL {L : Lf} : AV L → List (AV L)
  | .agg vs => vs
  | .flat (.agg cs) => cs.toList.map .flat
  | v => [v]

def AV.one {L : Lf} : AV L → Bool
  | .agg _ | .tuple _ => false
  | .flat v => v.oneCell'
  | _ => true

theorem one_oneCell (ρ : Rho) {v : AV L0} (h : v.one = true) : (toV ρ v).oneCell' = true := by
  cases v with
  | fsel e fs =>
    simp only [toV]
    rcases fs.getD (denI e).toNat none with _ | ⟨f, _ | id⟩ <;> rfl
  | _ => simp_all [AV.one, toV, Value.oneCell']

theorem cells_cellsL (ρ : Rho) (v : AV L0) : (toV ρ v).cells.toList = toVs ρ v.cellsL := by
  cases v with
  | fsel e fs =>
    simp only [toV, AV.cellsL, toVs]
    rcases fs.getD (denI e).toNat none with _ | ⟨f, _ | id⟩ <;> rfl
  | flat x =>
    cases x <;> simp [toV, AV.cellsL, Value.cells, toVs_eq_map]
    conv => lhs; rw [← List.map_id (Array.toList _)]
    exact List.map_congr_left fun v _ => by simp [toV]
  | _ => simp [toV, AV.cellsL, Value.cells, toVs_eq_map]

/-! ### Loads -/

def prLoad {L : Lf} (P : Program) (tm : Tm L) (A : AH L) (t : TypeId) (x : Operand) : Option (PR L) :=
  match evT tm x with
  | some (.ptr id c e n) =>
    match getH A id with
    | .cells _ vs =>
      if n = 0 then
        match tyAgg P t with
        | some true =>
          match tySize P t with
          | some s => if c + s ≤ vs.length then some { val := .agg ((vs.drop c).take s), tch := [id] } else none
          | none => none
        | some false =>
          match vs[c]? with
          | some v => some { val := v, tch := [id] }
          | none => none
        | none => none
      else none
    | .arr _ k a => if tyAgg P t = some false then some { val := .int k (.sel a c e n), tch := [id], ob := [.inb c e n a] } else none
    | .ro k a => if tyAgg P t = some false then some { val := .int k (.sel a c e n), tch := [id], ob := [.inb c e n a] } else none
    | _ => none
  | _ => none

theorem cell_cells {w : World} {g : Nat} {cs : Array Value} {e : TypeId} {f : Nat × Nat} (h : w.heap[g]? = some (.cells cs e f)) (o : Nat) :
    w.cell? ⟨g, o, none⟩ = cs[o]? := by
  simp [World.cell?, h]

theorem addr_add (g o j : Nat) : (⟨g, o, none⟩ : Addr).add j = ⟨g, o + j, none⟩ := by
  unfold Addr.add; split <;> simp_all

theorem run_load_at (P : Program) {w : World} {a : Addr} {v : Value} (h : w.cell? a = some v) : (load a).run P w = .ok v w := by
  simp [h]

def Obs (Ctr : FuncId → List (AV L0) → List (ABlock L0) → AV L0 → List Nat → List (ABlock L0) → Prop) (Iso : ObRest) : Ob L0 → Prop
  | .tst c o => denB c = o
  | .ilt a b => denI a < denI b
  | .ile a b => denI a ≤ denI b
  | .ieq a n => denI a = n
  | .nz a => denI a ≠ 0
  | .inb c t n a => c + (denI t).toNat * n < (denA a).length
  | .alen len a => (denI len).toNat = (denA a).length
  | .call f args H v ws H' => Ctr f args H v ws H'
  | .isobj o bs => Iso.iso o bs
  | .code c n0 ws tm A e tm' A' => Iso.code c n0 ws tm A e tm' A'

theorem toVs_drop (ρ : Rho) (l : List (AV L0)) (n : Nat) : toVs ρ (l.drop n) = (toVs ρ l).drop n := by simp [toVs_eq_map]
theorem toVs_take (ρ : Rho) (l : List (AV L0)) (n : Nat) : toVs ρ (l.take n) = (toVs ρ l).take n := by simp [toVs_eq_map]
theorem toVs_append (ρ : Rho) (l m : List (AV L0)) : toVs ρ (l ++ m) = toVs ρ l ++ toVs ρ m := by simp [toVs_eq_map]

theorem run_loadCells_mid (P : Program) {w : World} {g : Nat} {cs : Array Value} {e : TypeId} {f : Nat × Nat} (h : w.heap[g]? = some (.cells cs e f)) (c s : Nat) (hs : c + s ≤ cs.size) :
    (loadCells ⟨g, c, none⟩ s).run P w = .ok ((cs.toList.drop c).take s).toArray w := by
  have hl : ((cs.toList.drop c).take s).length = s := by simp; omega
  have := run_loadCells_list (P := P) w ⟨g, c, none⟩ ((cs.toList.drop c).take s) (fun j v hv => by
    rw [addr_add, cell_cells h]
    rw [List.getElem?_take] at hv
    split at hv
    · simpa using hv
    · cases hv)
  rw [hl] at this
  exact this

section
variable {P : Program} {Ctr : FuncId → List (AV L0) → List (ABlock L0) → AV L0 → List Nat → List (ABlock L0) → Prop} {Iso : ObRest}

theorem prLoad_ok {tm : Tm L0} {A : AH L0} {o : Oper} {t : TypeId} {x : Operand} {r : PR L0} (ho : o.op = .load t x)
    (h : prLoad P tm A t x = some r) (hob : ∀ q, q ∈ r.ob → Obs Ctr Iso q) : OpOk P o (evT tm) (getH A) r := by
  unfold prLoad at h
  split at h
  case h_2 => cases h
  rename_i id c e n hx
  have hmem : x ∈ o.op.operands := by simp [ho, Op.operands]
  split at h
  · rename_i el vs hA
    split at h
    case isFalse => cases h
    rename_i hn
    subst hn
    split at h
    · rename_i hagg
      split at h
      case h_2 => cases h
      rename_i s hs
      split at h
      case isFalse => cases h
      rename_i hle
      cases h
      refine OpOk.of_value fun ρ fps w a B hev hH hB => ?_
      have hb := hH.rep id
      rw [hB id (by simp), hA] at hb
      obtain ⟨_, h0, h2⟩ := hb
      simp only [execOp, ho, hev x _ hmem hx, toV, Instr.loadAt, Instr.sureAddr, loadVar, addrOf, Sem.run_bind, Sem.run_pure, Result.andThen_ok, run_aggT hagg, run_size hs, if_true, h0, Nat.mul_zero, Nat.add_zero, Nat.zero_add]
      rw [run_loadCells_mid P h2 c s (by simpa using hle)]
      simp [toVs_take, toVs_drop]
    · rename_i hagg
      split at h
      case h_2 => cases h
      rename_i v hv
      cases h
      refine OpOk.of_value fun ρ fps w a B hev hH hB => ?_
      have hb := hH.rep id
      rw [hB id (by simp), hA] at hb
      obtain ⟨_, h0, h2⟩ := hb
      have hc : w.cell? ⟨(ρ id).block, c, none⟩ = some (toV ρ v) := by
        rw [cell_cells h2]; simp [toVs_eq_map, hv]
      simp only [execOp, ho, hev x _ hmem hx, toV, Instr.loadAt, Instr.sureAddr, loadVar, addrOf, Sem.run_bind, Sem.run_pure, Result.andThen_ok, run_aggT hagg, h0, Nat.mul_zero, Nat.add_zero, Nat.zero_add, Bool.false_eq_true, if_false]
      rw [run_load_at P hc]; rfl
    · cases h
  · rename_i el k sa hA
    split at h
    case isFalse => cases h
    rename_i hagg
    cases h
    have hin : c + (denI e).toNat * n < (denA sa).length := hob (.inb c e n sa) (by simp)
    refine OpOk.of_value fun ρ fps w a B hev hH hB => ?_
    have hb := hH.rep id
    rw [hB id (by simp), hA] at hb
    obtain ⟨_, h0, cc, h2, _, _, _, h3⟩ := hb
    have hc : w.cell? ⟨(ρ id).block, c + (denI e).toNat * n, none⟩ = some (.int k ((denA sa).getD (c + (denI e).toNat * n) 0)) := by
      rw [cell_cells h2, ← Array.getElem?_toList]
      have : (cc.toList.take (denA sa).length)[c + (denI e).toNat * n]? = cc.toList[c + (denI e).toNat * n]? := by rw [List.getElem?_take, if_pos hin]
      rw [← this, h3]
      simp [List.getD, List.getElem?_eq_getElem hin]
    simp only [execOp, ho, hev x _ hmem hx, toV, Instr.loadAt, Instr.sureAddr, loadVar, addrOf, Sem.run_bind, Sem.run_pure, Result.andThen_ok, run_aggT hagg, h0, Nat.zero_add, Bool.false_eq_true, if_false, denI]
    rw [run_load_at P hc]; rfl
  · rename_i k sa hA
    split at h
    case isFalse => cases h
    rename_i hagg
    cases h
    have hin : c + (denI e).toNat * n < (denA sa).length := hob (.inb c e n sa) (by simp)
    refine OpOk.of_value fun ρ fps w a B hev hH hB => ?_
    have hb := hH.rep id
    rw [hB id (by simp), hA] at hb
    have hc := hb.2.2 _ hin
    simp only [execOp, ho, hev x _ hmem hx, toV, Instr.loadAt, Instr.sureAddr, loadVar, addrOf, Sem.run_bind, Sem.run_pure, Result.andThen_ok, run_aggT hagg, Bool.false_eq_true, if_false, denI]
    rw [run_load_at P hc]; rfl
  · cases h

end
end Go.Fl
