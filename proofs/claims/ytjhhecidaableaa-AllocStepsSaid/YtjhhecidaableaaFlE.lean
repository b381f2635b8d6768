/- More operations on symbolic values: new variables and literals, addresses, parts. Conditions: none. -/
import Derived.Test.YtjhhecidaableaaFlD
set_option linter.unusedSimpArgs false
set_option linter.unusedVariables false
set_option linter.unusedSectionVars false
namespace Go.Fl
open Go Go.RowKit
variable [Objs]

section
variable {P : Program}

theorem idsL_append {L : Lf} : ∀ (a b : List (AV L)), AV.idsL (a ++ b) = AV.idsL a ++ AV.idsL b
  | [], b => by simp [AV.idsL]
  | v :: r, b => by simp [AV.idsL, idsL_append r b]

theorem mem_idsL {L : Lf} {i : Nat} : ∀ {l : List (AV L)}, i ∈ AV.idsL l ↔ ∃ v, v ∈ l ∧ i ∈ v.ids
  | [] => by simp [AV.idsL]
  | v :: r => by simp [AV.idsL, mem_idsL (l := r)]

theorem ids_cellsL {L : Lf} {i : Nat} {v : AV L} (h : i ∈ AV.idsL v.cellsL) : i ∈ v.ids := by
  cases v with
  | flat x =>
    rw [mem_idsL] at h
    obtain ⟨u, hu, hi⟩ := h
    cases x <;> simp [AV.cellsL] at hu <;> first | (subst hu; exact hi) | (obtain ⟨y, _, rfl⟩ := hu; simp [AV.ids] at hi)
  | agg vs => simpa [AV.cellsL, AV.ids] using h
  | _ => simpa [AV.cellsL, AV.idsL] using h

theorem toVs_setRho {ρ : Rho} {n : Nat} {p : Place} (l : List (AV L0)) (h : n ∉ AV.idsL l) : toVs (setRho ρ n p) l = toVs ρ l :=
  toVs_congr l fun i hi => by
    have : i ≠ n := fun e => h (e ▸ hi)
    simp [setRho, this]

theorem cells_arr (ρ : Rho) (v : AV L0) : (toV ρ v).cells = (toVs ρ v.cellsL).toArray := by
  rw [← cells_cellsL]

def prBox' {L : Lf} (tm : Tm L) (A : AH L) (elem : TypeId) (x : Operand) : Option (PR L) :=
  match evT tm x with
  | some v => if v.ids.contains A.length then none else some { val := .ptr A.length 0 (.lit 0) 0, news := [A.length], upd := [(A.length, .cells elem v.cellsL)] }
  | none => none

theorem prBox_ok {tm : Tm L0} {A : AH L0} {o : Oper} {t : TypeId} {x : Operand} {r : PR L0} (ho : o.op = .box t x)
    (h : prBox' tm A t x = some r) : OpOk P o (evT tm) (getH A) r := by
  unfold prBox' at h
  split at h
  case h_2 => cases h
  rename_i v hx
  split at h
  case isTrue => cases h
  rename_i hni
  have hni' : A.length ∉ AV.idsL v.cellsL := fun hc => hni (by simpa using ids_cellsL hc)
  cases h
  have hmx : x ∈ o.op.operands := by simp [ho, Op.operands]
  refine OpOk.of_new rfl fun ρ fps w a B hev hH hB hid => ⟨w, .cells (toV ρ v).cells t, 0, rfl, Fr.refl _ _, ?_, rep_new_cells rfl (by rw [toVs_setRho _ hni', cells_arr])⟩
  simp [execOp, ho, hev x _ hmx hx, Instr.box, newVar, newRow, toV, addrOf, setRho]

/-! ### Literals -/

def fillL {L : Lf} (place : Nat → Option (Nat × Nat)) (cells : List (AV L)) : List (Nat × AV L) → Option (List (AV L))
  | [] => some cells
  | (i, v) :: rest =>
    match place i with
    | none => none
    | some (off, size) =>
      if v.cellsL.length = size ∧ off + size ≤ cells.length then fillL place (cells.take off ++ v.cellsL ++ cells.drop (off + size)) rest
      else none

theorem foldl_set (off : Nat) : ∀ (vs : List Value) (j : Nat) (cs : Array Value), off + j + vs.length ≤ cs.size →
    ((vs.zipIdx j).foldl (fun cs x => cs.setIfInBounds (off + x.2) x.1) cs).toList = cs.toList.take (off + j) ++ vs ++ cs.toList.drop (off + j + vs.length)
  | [], j, cs, _ => by simp
  | v :: r, j, cs, h => by
    simp only [List.length_cons] at h
    simp only [List.zipIdx_cons, List.foldl_cons]
    rw [foldl_set off r (j + 1) _ (by simp; omega)]
    have hlt : off + j < cs.toList.length := by simp; omega
    simp only [Array.toList_setIfInBounds, List.length_cons]
    rw [show off + (j + 1) = off + j + 1 from by omega, List.take_set, List.drop_set_of_lt (by omega), List.take_succ_eq_append_getElem hlt]
    have e : (List.take (off + j) cs.toList ++ [cs.toList[off + j]]).set (off + j) v = List.take (off + j) cs.toList ++ [v] := by
      rw [List.set_append, if_neg (by simp; omega)]
      simp only [List.length_take]
      rw [show off + j - min (off + j) cs.toList.length = 0 from by omega]
      rfl
    rw [e]
    simp
    congr 1
    omega

theorem fill_ok {ρ : Rho} {place : Nat → Option (Nat × Nat)} : ∀ {ps : List (Nat × AV L0)} {cells out : List (AV L0)}, fillL place cells ps = some out →
    Instr.fill place (toVs ρ cells).toArray (ps.map fun p => (p.1, toV ρ p.2)) = some (toVs ρ out).toArray
  | [], cells, out, h => by simp [fillL] at h; subst h; simp [Instr.fill]
  | (i, v) :: rest, cells, out, h => by
    simp only [fillL] at h
    simp only [List.map_cons, Instr.fill]
    cases hp : place i with
    | none => simp [hp] at h
    | some os =>
      obtain ⟨off, size⟩ := os
      simp only [hp] at h ⊢
      split at h
      case isFalse => cases h
      rename_i hc
      obtain ⟨rfl, hle⟩ := hc
      have hlen : (toV ρ v).cells.size = v.cellsL.length := by rw [cells_arr]; simp
      rw [if_neg (by simp [hlen]; omega)]
      rw [← fill_ok h]
      congr 1
      apply Array.ext'
      rw [cells_arr, ← Array.foldl_toList]
      simp only [Array.toList_zipIdx, List.toList_toArray]
      have := foldl_set off (toVs ρ v.cellsL) 0 (toVs ρ cells).toArray (by simpa using hle)
      simp only [Nat.add_zero] at this
      rw [this]
      simp [toVs_append, toVs_take, toVs_drop]

def evParts {L : Lf} (tm : Tm L) : List (Nat × Operand) → Option (List (Nat × AV L))
  | [] => some []
  | (i, x) :: r =>
    match evT tm x, evParts tm r with
    | some v, some l => some ((i, v) :: l)
    | _, _ => none

theorem evParts_ok {tm : Tm L0} {ρ : Rho} {e : Operand → Value} : ∀ {ps : List (Nat × Operand)} {l : List (Nat × AV L0)}, evParts tm ps = some l →
    (∀ x v, x ∈ ps.map (·.2) → evT tm x = some v → e x = toV ρ v) → ps.map (fun (i, x) => (i, e x)) = l.map fun p => (p.1, toV ρ p.2)
  | [], l, h, _ => by simp [evParts] at h; subst h; rfl
  | (i, x) :: r, l, h, hev => by
    simp only [evParts] at h
    cases hx : evT tm x with
    | none => simp [hx] at h
    | some v =>
      cases hr : evParts tm r with
      | none => simp [hx, hr] at h
      | some l' =>
        simp [hx, hr] at h
        subst h
        simp only [List.map_cons]
        rw [hev x v (by simp) hx, evParts_ok hr fun y u hy => hev y u (by simp at hy ⊢; exact .inr hy)]

def placesOf (P : Program) (fields : Array Field) : Option (Array (Nat × Nat)) :=
  if fields.toList.all (fun f => (tySize P f.type).isSome) then some (fields.map fun f => (f.offset, (tySize P f.type).getD 0)) else none

theorem run_places {fields : Array Field} {pl : Array (Nat × Nat)} (h : placesOf P fields = some pl) (w : World) :
    (fields.mapM (fun f => do pure (f.offset, ← sizeOf f.type)) : Sem (Array (Nat × Nat))).run P w = .ok pl w := by
  unfold placesOf at h
  split at h
  case isFalse => cases h
  rename_i hall
  cases h
  rw [Array.mapM_eq_mapM_toList, Sem.run_map]
  obtain ⟨l⟩ := fields
  simp only at hall ⊢
  have : ∀ l : List Field, l.all (fun f => (tySize P f.type).isSome) = true →
      (l.mapM (fun f => do pure (f.offset, ← sizeOf f.type)) : Sem (List (Nat × Nat))).run P w = .ok (l.map fun f => (f.offset, (tySize P f.type).getD 0)) w := by
    intro l
    induction l with
    | nil => intro _; simp
    | cons f r ih =>
      intro hl
      simp only [List.all_cons, Bool.and_eq_true] at hl
      obtain ⟨n, hn⟩ := Option.isSome_iff_exists.1 hl.1
      simp only [List.mapM_cons, Sem.run_bind, run_size hn, Result.andThen_ok, Sem.run_pure, ih hl.2, List.map_cons, hn, Option.getD_some]
  rw [this l hall]
  simp

def prBuild {L : Lf} (P : Program) (tm : Tm L) (t : TypeId) (parts : List (Nat × Operand)) : Option (PR L) :=
  match (P.info? t).bind (·.zero), P.underlying t, evParts tm parts with
  | some z, some (.struct fields), some ps =>
    match placesOf P fields with
    | some pl =>
      match fillL (pl[·]?) (z.cells.toList.map ofCell) ps with
      | some cs => some { val := .agg cs }
      | none => none
    | none => none
  | some z, some (.array _ elem), some ps =>
    match tySize P elem with
    | some size =>
      match fillL (fun i => some (i * size, size)) (z.cells.toList.map ofCell) ps with
      | some cs => some { val := .agg cs }
      | none => none
    | none => none
  | _, _, _ => none

theorem prBuild_ok {tm : Tm L0} {A : AH L0} {o : Oper} {t : TypeId} {parts : Array (Nat × Operand)} {r : PR L0} (ho : o.op = .build t parts)
    (h : prBuild P tm t parts.toList = some r) : OpOk P o (evT tm) (getH A) r := by
  have hops : ∀ x v (e : Operand → Value) (ρ : Rho), (∀ x v, x ∈ o.op.operands → evT tm x = some v → e x = toV ρ v) → x ∈ parts.toList.map (·.2) → evT tm x = some v → e x = toV ρ v := by
    intro x v e ρ he hx hv
    exact he x v (by simpa [ho, Op.operands] using hx) hv
  unfold prBuild at h
  split at h
  · rename_i z fields ps hz hu hps
    split at h
    case h_2 => cases h
    rename_i pl hpl
    split at h
    case h_2 => cases h
    rename_i cs hcs
    cases h
    refine OpOk.of_value fun ρ fps w a B hev hH hB => ?_
    have hp := evParts_ok (ρ := ρ) (e := a.eval) hps fun x v hx hv => hops x v _ ρ hev hx hv
    have hf := fill_ok (ρ := ρ) hcs
    rw [toVs_ofCell] at hf
    simp only [execOp, ho, Instr.build, Sem.run_bind, run_zeroT hz, Result.andThen_ok, run_und hu, run_places hpl]
    rw [Array.toList_map, hp, hf]
    simp [toV]
  · rename_i z m elem ps hz hu hps
    split at h
    case h_2 => cases h
    rename_i size hsize
    split at h
    case h_2 => cases h
    rename_i cs hcs
    cases h
    refine OpOk.of_value fun ρ fps w a B hev hH hB => ?_
    have hp := evParts_ok (ρ := ρ) (e := a.eval) hps fun x v hx hv => hops x v _ ρ hev hx hv
    have hf := fill_ok (ρ := ρ) hcs
    rw [toVs_ofCell] at hf
    simp only [execOp, ho, Instr.build, Sem.run_bind, run_zeroT hz, Result.andThen_ok, run_und hu, run_size hsize]
    rw [Array.toList_map, hp, hf]
    simp [toV]
  · cases h

def prBuildSlice {L : Lf} (P : Program) (tm : Tm L) (A : AH L) (t : TypeId) (len : Nat) (parts : List (Nat × Operand)) : Option (PR L) :=
  match P.underlying t, evParts tm parts with
  | some (.slice elem), some ps =>
    match tySize P elem, (P.info? elem).bind (·.zero) with
    | some size, some z =>
      if len * size ≤ 2 ^ 24 then
        match fillL (fun i => some (i * size, size)) ((List.range (len * size)).map fun i => ofCell (z.cells[i % z.cells.size]!)) ps with
        | some cs => if (AV.idsL cs).contains A.length then none else
          some { val := .slice A.length 0 (.lit 0) 0 (.lit len) (.known (.lit len)), news := [A.length], upd := [(A.length, .cells elem cs)] }
        | none => none
      else none
    | _, _ => none
  | _, _ => none

theorem prBuildSlice_ok {tm : Tm L0} {A : AH L0} {o : Oper} {t : TypeId} {len : Nat} {parts : Array (Nat × Operand)} {r : PR L0} (ho : o.op = .buildSlice t len parts)
    (h : prBuildSlice P tm A t len parts.toList = some r) : OpOk P o (evT tm) (getH A) r := by
  have hops : ∀ x v (e : Operand → Value) (ρ : Rho), (∀ x v, x ∈ o.op.operands → evT tm x = some v → e x = toV ρ v) → x ∈ parts.toList.map (·.2) → evT tm x = some v → e x = toV ρ v := by
    intro x v e ρ he hx hv
    exact he x v (by simpa [ho, Op.operands] using hx) hv
  unfold prBuildSlice at h
  split at h
  case h_2 => cases h
  rename_i elem ps hu hps
  split at h
  case h_2 => cases h
  rename_i size z hsize hz
  split at h
  case isFalse => cases h
  rename_i h24
  split at h
  case h_2 => cases h
  rename_i cs hcs
  split at h
  case isTrue => cases h
  rename_i hni
  have hni' : A.length ∉ AV.idsL cs := by simpa using hni
  cases h
  refine OpOk.of_new rfl fun ρ fps w a B hev hH hB hid => ⟨w, .cells (toVs ρ cs).toArray elem, 0, rfl, Fr.refl _ _, ?_, rep_new_cells rfl (by rw [toVs_setRho _ hni'])⟩
  have hp := evParts_ok (ρ := ρ) (e := a.eval) hps fun x v hx hv => hops x v _ ρ hev hx hv
  have hf := fill_ok (ρ := ρ) hcs
  have hzz : ((Array.range (len * size)).map (fun i => (if len * size = 0 then (#[] : Array Value) else z.cells)[i % (if len * size = 0 then (#[] : Array Value) else z.cells).size]!)) = (toVs ρ ((List.range (len * size)).map fun i => ofCell (z.cells[i % z.cells.size]!))).toArray := by
    by_cases h0 : len * size = 0
    · simp [h0, toVs]
    · simp only [if_neg h0]
      apply Array.ext'
      simp only [Array.toList_map, Array.toList_range, List.toList_toArray, toVs_eq_map, List.map_map]
      exact List.map_congr_left fun i _ => (toV_ofCell ρ _).symm
  simp only [execOp, ho, Instr.buildSlice, Sem.run_bind, run_und hu, Result.andThen_ok, run_size hsize]
  rw [if_neg (by omega)]
  by_cases h0 : len * size = 0
  · simp only [if_pos h0] at hzz ⊢
    simp only [Sem.run_bind, Sem.run_pure, Result.andThen_ok]
    rw [hzz, Array.toList_map, hp, hf]
    simp [newRow, toV, addrOf, setRho, denI, denCap]
  · simp only [if_neg h0] at hzz ⊢
    simp only [Sem.run_bind, run_zeroT hz, Sem.run_pure, Result.andThen_ok]
    rw [hzz, Array.toList_map, hp, hf]
    simp [newRow, toV, addrOf, setRho, denI, denCap]

end
end Go.Fl
