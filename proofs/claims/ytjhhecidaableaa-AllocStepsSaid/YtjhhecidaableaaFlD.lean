/- The operations that write or make memory, and those on addresses, on symbolic values. Conditions: none. -/
import Derived.Test.YtjhhecidaableaaFlC
set_option linter.unusedSimpArgs false
set_option linter.unusedVariables false
set_option linter.unusedSectionVars false
namespace Go.Fl
open Go Go.RowKit
variable [Objs]

section
variable {P : Program} {Ctr : FuncId → List (AV L0) → List (ABlock L0) → AV L0 → List Nat → List (ABlock L0) → Prop} {Iso : ObRest}

/-! ### Stores -/

def prStore {L : Lf} (P : Program) (tm : Tm L) (A : AH L) (t : TypeId) (x y : Operand) : Option (PR L) :=
  match evT tm x, evT tm y with
  | some (.ptr id c e n), some v =>
    match getH A id with
    | .cells el vs =>
      if n = 0 ∧ tySize P t = some v.cellsL.length ∧ c + v.cellsL.length ≤ vs.length ∧ v.cellsL.all (·.one) = true then
        some { val := .flat undef, tch := [id], wr := [id], upd := [(id, .cells el (vs.take c ++ v.cellsL ++ vs.drop (c + v.cellsL.length)))] }
      else none
    | .arr el k a =>
      match v with
      | .int k' e' =>
        if k' = k ∧ tySize P t = some 1 then
          some { val := .flat undef, tch := [id], wr := [id], upd := [(id, .arr el k (.set a c e n e'))], ob := [.inb c e n a] }
        else none
      | _ => none
    | _ => none
  | _, _ => none

theorem Fr.setRow (w : World) (g : Nat) (cs : Array Value) : Fr (fun b => b = g) w (w.setRow g cs) :=
  ⟨rfl, rfl, rfl, by simp, fun b _ hb => setRow_other w g b cs hb⟩

theorem run_storeVar_at {w : World} {t : TypeId} {g o : Nat} {el : TypeId} {v : Value} {cur : Array Value} (hs : tySize P t = some v.cells.toList.length) (hg : w.heap[g]? = some (.cells cur el (0, 0)))
    (hl : o + v.cells.toList.length ≤ cur.size) (h1 : ∀ u ∈ v.cells.toList, u.oneCell' = true) :
    (storeVar t ⟨g, o, none⟩ v).run P w = .ok () (w.setRow g (cur.toList.take o ++ v.cells.toList ++ cur.toList.drop (o + v.cells.toList.length)).toArray) := by
  have := run_storeCells_at P g o el v.cells.toList 0 cur w hg (by simpa using hl) h1
  simp only [Nat.add_zero] at this
  unfold storeVar
  simp only [Sem.run_bind, run_size hs, Result.andThen_ok]
  rw [if_neg (by simp)]
  simpa using this

theorem toVs_one (ρ : Rho) {l : List (AV L0)} (h : l.all (·.one) = true) : ∀ u ∈ toVs ρ l, u.oneCell' = true := by
  intro u hu
  rw [toVs_eq_map] at hu
  obtain ⟨v, hv, rfl⟩ := List.mem_map.1 hu
  exact one_oneCell ρ (List.all_eq_true.1 h v hv)

theorem OpOk.of_write {o : Oper} {vals : Operand → Option (AV L0)} {A : AHF} {id : Nat} {blk : ABlock L0} {ob : List (Ob L0)} (hro : blk.isRo = false)
    (h : ∀ (ρ : Rho) (fps : Fps) (w : World) (a : Act) (B : AHF), (∀ x v, x ∈ o.op.operands → vals x = some v → a.eval x = toV ρ v) → HS B ρ fps w → B id = A id →
      (∀ b, fps id b ↔ b = (ρ id).block) ∧ ∃ cs : Array Value, (execOp a.eval o).run P w = .ok .skip (w.setRow (ρ id).block cs) ∧ Rep ρ (w.setRow (ρ id).block cs) (ρ id) (fps id) blk) :
    OpOk P o vals A { val := .flat undef, tch := [id], wr := [id], upd := [(id, blk)], ob := ob } := by
  intro ρ fps w a next Q B hx hs ht _ _ hn
  obtain ⟨hfp, cs, hrun, hrep⟩ := h ρ fps w a B hx hs (ht id (by simp))
  unfold Oper.wp
  rw [hrun]
  exact hn ρ fps _ (Post.write hs hfp (Fr.setRow w _ cs) hrep hro)

theorem prStore_ok {tm : Tm L0} {A : AH L0} {o : Oper} {t : TypeId} {x y : Operand} {r : PR L0} (ho : o.op = .store t x y)
    (h : prStore P tm A t x y = some r) (hob : ∀ q, q ∈ r.ob → Obs Ctr Iso q) : OpOk P o (evT tm) (getH A) r := by
  unfold prStore at h
  split at h
  case h_2 => cases h
  rename_i id c e n v hx hy
  have hmx : x ∈ o.op.operands := by simp [ho, Op.operands]
  have hmy : y ∈ o.op.operands := by simp [ho, Op.operands]
  split at h
  · rename_i el vs hA
    split at h
    case isFalse => cases h
    rename_i hc
    obtain ⟨rfl, hsz, hle, hone⟩ := hc
    cases h
    refine OpOk.of_write rfl fun ρ fps w a B hev hH hB => ?_
    have hb := hH.rep id
    rw [hB, hA] at hb
    obtain ⟨h1, h0, h2⟩ := hb
    refine ⟨h1, (toVs ρ (vs.take c ++ v.cellsL ++ vs.drop (c + v.cellsL.length))).toArray, ?_, h1, h0, setRow_heap w _ _ _ _ _ h2⟩
    · simp only [execOp, ho, hev x _ hmx hx, hev y _ hmy hy, toV, Instr.storeAt, Instr.sureAddr, addrOf, Sem.run_bind, Sem.run_pure, Result.andThen_ok, h0, Nat.mul_zero, Nat.add_zero, Nat.zero_add]
      have hcl := cells_cellsL ρ v
      rw [run_storeVar_at (v := toV ρ v) (by rw [hcl]; simpa using hsz) h2 (by rw [hcl]; simpa using hle) (by rw [hcl]; exact toVs_one ρ hone)]
      simp [hcl, toVs_append, toVs_take, toVs_drop]
  · rename_i el k sa hA
    split at h
    case h_2 => cases h
    rename_i k' e'
    split at h
    case isFalse => cases h
    rename_i hc
    obtain ⟨rfl, hsz⟩ := hc
    cases h
    have hin : c + (denI e).toNat * n < (denA sa).length := hob (.inb c e n sa) (by simp)
    refine OpOk.of_write rfl fun ρ fps w a B hev hH hB => ?_
    have hb := hH.rep id
    rw [hB, hA] at hb
    obtain ⟨h1, h0, cc, h2, hcs, hml, hlen, h3⟩ := hb
    have hlt : c + (denI e).toNat * n < cc.size := by omega
    refine ⟨h1, (cc.toList.take (c + (denI e).toNat * n) ++ [Value.int k' (denI e')] ++ cc.toList.drop (c + (denI e).toNat * n + 1)).toArray, ?_, h1, h0, _, setRow_heap w _ _ _ _ _ h2, ?_, hml, ?_, ?_⟩
    · simp only [execOp, ho, hev x _ hmx hx, hev y _ hmy hy, toV, Instr.storeAt, Instr.sureAddr, addrOf, Sem.run_bind, Sem.run_pure, Result.andThen_ok, h0, Nat.zero_add]
      rw [run_storeVar_at (P := P) (v := .int k' (denI e')) (by simpa [Value.cells] using hsz) h2 (by simp [Value.cells]; omega) (by simp [Value.cells, Value.oneCell'])]
      simp [Value.cells]
    · rw [← hcs]; simp; omega
    · simpa [denA] using hlen
    · simp only [denA, List.length_set, List.map_set, ← h3]
      apply List.ext_getElem?
      intro i
      simp only [List.getElem?_take, List.getElem?_set, List.length_take, Array.length_toList]
      by_cases hi : i < (denA sa).length
      · simp only [if_pos hi]
        by_cases hic : c + (denI e).toNat * n = i
        · subst hic
          have hl1 : (cc.toList.take (c + (denI e).toNat * n)).length = c + (denI e).toNat * n := by simp; omega
          rw [List.append_assoc, List.getElem?_append_right (by omega), hl1]
          simp; omega
        · rw [if_neg hic]
          rw [List.append_assoc]
          have hl1 : (cc.toList.take (c + (denI e).toNat * n)).length = c + (denI e).toNat * n := by simp; omega
          by_cases hlt2 : i < c + (denI e).toNat * n
          · rw [List.getElem?_append_left (by omega), List.getElem?_take, if_pos hlt2]
          · rw [List.getElem?_append_right (by omega), hl1]
            have : i - (c + (denI e).toNat * n) = (i - (c + (denI e).toNat * n) - 1) + 1 := by omega
            rw [this, List.singleton_append, List.getElem?_cons_succ, List.getElem?_drop]
            congr 1
            omega
      · simp only [if_neg hi]
        split
        · omega
        · rfl
  · cases h

/-! ### New memory -/

def prAlloc {L : Lf} (P : Program) (A : AH L) (elem : TypeId) : Option (PR L) :=
  match (P.info? elem).bind (·.zero) with
  | some z => some { val := .ptr A.length 0 (.lit 0) 0, news := [A.length], upd := [(A.length, .cells elem (z.cells.toList.map ofCell))] }
  | none => none

theorem OpOk.of_new {o : Oper} {vals : Operand → Option (AV L0)} {A : AHF} {n : Nat} {blk : ABlock L0} {v : AV L0} {t : List Nat} {ob : List (Ob L0)} (hro : blk.isRo = false)
    (h : ∀ (ρ : Rho) (fps : Fps) (w : World) (a : Act) (B : AHF), (∀ x v, x ∈ o.op.operands → vals x = some v → a.eval x = toV ρ v) → HS B ρ fps w → (∀ i, i ∈ t → B i = A i) → (∀ i, n ∉ (B i).ids) →
      ∃ (w1 : World) (x : Obj) (cap : Nat), w1.heap.size = w.heap.size ∧ Fr (fun _ => False) w w1 ∧ (execOp a.eval o).run P w = .ok (.value (toV (setRho ρ n { block := w.heap.size, base := 0, cap := cap }) v)) (w1.alloc x) ∧
        Rep (setRho ρ n { block := w.heap.size, base := 0, cap := cap }) (w1.alloc x) { block := w.heap.size, base := 0, cap := cap } (fun b => b = w.heap.size) blk) :
    OpOk P o vals A { val := v, tch := t, news := [n], upd := [(n, blk)], ob := ob } := by
  intro ρ fps w a next Q B hx hs ht hg hid hn
  obtain ⟨w1, x, cap, hsz, hfr, hrun, hrep⟩ := h ρ fps w a B hx hs ht (fun i => hid i n (by simp))
  unfold Oper.wp
  rw [hrun]
  exact hn _ _ _ (Post.new hs hfr (hg n (by simp)) (fun i => hid i n (by simp)) hrep hro)

theorem run_zeroT {t : TypeId} {z : Value} (h : (P.info? t).bind (·.zero) = some z) (w : World) : (zeroValue t).run P w = .ok z w := by
  cases hi : P.info? t with
  | none => simp [hi] at h
  | some i => simp [hi] at h; simp [zeroValue, typeInfo, hi, h]

theorem toVs_ofCell (ρ : Rho) (l : List Value) : toVs ρ (l.map ofCell) = l := by
  rw [toVs_eq_map, List.map_map]
  conv => rhs; rw [← List.map_id l]
  exact List.map_congr_left fun v _ => toV_ofCell ρ v

theorem rep_new_cells {ρ : Rho} {w1 : World} {el : TypeId} {vs : List (AV L0)} {cs : Array Value} {n m cap : Nat} (hm : w1.heap.size = m) (hcs : (toVs (setRho ρ n { block := m, base := 0, cap := cap }) vs).toArray = cs) :
    Rep (setRho ρ n { block := m, base := 0, cap := cap }) (w1.alloc (.cells cs el)) { block := m, base := 0, cap := cap } (fun b => b = m) (.cells el vs) := by
  subst hm hcs
  exact ⟨fun _ => Iff.rfl, rfl, heap_alloc_at _ _⟩

theorem prAlloc_ok {tm : Tm L0} {A : AH L0} {o : Oper} {t : TypeId} {r : PR L0} (ho : o.op = .alloc t)
    (h : prAlloc P A t = some r) : OpOk P o (evT tm) (getH A) r := by
  unfold prAlloc at h
  split at h
  case h_2 => cases h
  rename_i z hz
  cases h
  refine OpOk.of_new rfl fun ρ fps w a B hev hH hB hid => ⟨w, .cells z.cells t, 0, rfl, Fr.refl _ _, ?_, rep_new_cells rfl (by rw [toVs_ofCell])⟩
  simp [execOp, ho, Instr.alloc, run_zeroT hz, newVar, newRow, toV, addrOf, setRho]

def prBox {L : Lf} (tm : Tm L) (A : AH L) (elem : TypeId) (x : Operand) : Option (PR L) :=
  match evT tm x with
  | some v => some { val := .ptr A.length 0 (.lit 0) 0, news := [A.length], upd := [(A.length, .cells elem v.cellsL)] }
  | none => none

mutual
theorem toV_setRho {ρ : Rho} {n : Nat} {p : Place} (v : AV L0) (h : n ∉ v.ids) : toV (setRho ρ n p) v = toV ρ v :=
  toV_congr v fun i hi => by
    have : i ≠ n := fun e => h (e ▸ hi)
    simp [setRho, this]
end

end
end Go.Fl
