/- A call goes by the callee's contract, in whatever memory. Conditions: none. -/
import Derived.Test.YtjhhecidaableaaFlK
set_option linter.unusedSimpArgs false
set_option linter.unusedVariables false
set_option linter.unusedSectionVars false
namespace Go.Fl
open Go Go.RowKit
variable [Objs]

section
variable {P : Program} {Iso : ObRest}

theorem toVs_append' (ρ : Rho) (l m : List (AV L0)) : toVs ρ (l ++ m) = toVs ρ l ++ toVs ρ m := by simp [toVs_eq_map]

/-- From a memory to the part of it that is handed over. -/
theorem HS.part {B : AHF} {ρ : Rho} {fps : Fps} {w : World} (h : HS B ρ fps w) {ids : List Nat} (hn : ids.Nodup) {N : Nat} (hcl : ∀ i, i ∈ ids → ∀ j, j ∈ (B i).ids → j ∈ ids) :
    HS (getH (ids.map fun i => (B i).rn fun i => ids.idxOf i)) (fun j => ρ (mapIds ids N j)) (fun j => if j < ids.length then fps (ids.getD j 0) else fun _ => False) w := by
  have hget : ∀ j, j < ids.length → getH (ids.map fun i => (B i).rn fun i => ids.idxOf i) j = (B (ids.getD j 0)).rn fun i => ids.idxOf i := by
    intro j hj
    simp [getH, List.getD, List.getElem?_eq_getElem hj]
  have hgone : ∀ j, ¬ j < ids.length → getH (ids.map fun i => (B i).rn fun i => ids.idxOf i) j = .gone := by
    intro j hj
    simp [getH, List.getElem?_eq_none (Nat.le_of_not_lt hj)]
  have hmem : ∀ j, j < ids.length → ids.getD j 0 ∈ ids := by
    intro j hj
    simp [List.getD, List.getElem?_eq_getElem hj]
  refine ⟨fun j => ?_, ?_, ?_⟩
  · by_cases hj : j < ids.length
    · rw [hget j hj, rep_rn]
      simp only [if_pos hj]
      have hm : mapIds ids N j = ids.getD j 0 := by simp only [mapIds, if_pos hj]
      rw [hm]
      refine Rep_congr (h.rep (ids.getD j 0)) fun i hi => ?_
      have hi' := hcl _ (hmem j hj) i hi
      have hlt : ids.idxOf i < ids.length := List.idxOf_lt_length_iff.2 hi'
      simp only [mapIds, if_pos hlt, getD_idxOf hi']
    · rw [hgone j hj]
      simp only [if_neg hj]
      exact fun b hb => hb
  · intro i j hij b hb
    split at hb
    case isFalse => exact hb.elim
    rename_i hi
    split
    case isFalse => exact fun x => x
    rename_i hj
    refine h.disj _ _ (fun e => hij ?_) b hb
    have := congrArg (fun x => ids.idxOf x) e
    rwa [idxOf_getD hn hi, idxOf_getD hn hj] at this
  · intro i hr j
    by_cases hi : i < ids.length
    · rw [hget i hi, isRo_rn] at hr
      simp only [mapIds, if_pos hi]
      split
      · exact h.ro _ hr _
      · exact fun x => x
    · rw [hgone i hi] at hr
      simp [ABlock.isRo] at hr

theorem prCall_ok {tm : Tm L0} {A : AH L0} {o : Oper} {c : Call} {fo : Operand} {f : FuncId} {first caps as : List (AV L0)} {ids : List Nat} {v : AV L0} {ws : List Nat} {H' : List (ABlock L0)} {r : PR L0}
    (ho : o.op = .call c) (hc : c.callee = .value fo) (hf : evT tm fo = some (.func f first caps)) (has : evList tm c.args.toList = some as)
    (h : prCall A f (first ++ as ++ caps) ids v ws H' = some r) (hob : ∀ q, q ∈ r.ob → Obs (Contract P) Iso q) : OpOk P o (evT tm) (getH A) r := by
  unfold prCall at h
  simp only at h
  split at h
  case isFalse => cases h
  rename_i hck
  obtain ⟨hnd, hlt, hca, hcb, hws, hlen, hcv, hcH, hro1, hro2⟩ := hck
  cases h
  have hcon : Contract P f (AV.rnL (fun i => ids.idxOf i) (first ++ as ++ caps)) (ids.map fun i => (getH A i).rn fun i => ids.idxOf i) v ws H' := hob (.call _ _ _ _ _ _) (by simp)
  have hlt' : ∀ i, i ∈ ids → i < A.length := fun i hi => by have := List.all_eq_true.1 hlt i hi; simpa using this
  have hws' : ∀ k, k ∈ ws → k < ids.length := fun k hk => by have := List.all_eq_true.1 hws k hk; simpa using this
  intro ρ fps w a next Q B hev hH hB hg hid hn
  have hcl : ∀ i, i ∈ ids → ∀ j, j ∈ (B i).ids → j ∈ ids := by
    intro i hi j hj
    rw [hB i hi] at hj
    have := List.all_eq_true.1 hcb i hi
    have := List.all_eq_true.1 this j hj
    simpa using this
  have hpart := hH.part hnd (N := A.length) hcl
  have hmap : (ids.map fun i => (B i).rn fun i => ids.idxOf i) = ids.map fun i => (getH A i).rn fun i => ids.idxOf i :=
    List.map_congr_left fun i hi => by rw [hB i hi]
  rw [hmap] at hpart
  have hcalls := hcon.2 _ _ w hpart
  -- the arguments are the same
  have hargs : toVs (fun j => ρ (mapIds ids A.length j)) (AV.rnL (fun i => ids.idxOf i) (first ++ as ++ caps)) = toVs ρ (first ++ as ++ caps) := by
    rw [toVs_rn]
    refine toVs_congr _ fun i hi => ?_
    rw [mem_idsL] at hi
    obtain ⟨u, hu, hiu⟩ := hi
    have h1 := List.all_eq_true.1 hca u hu
    have h2 := List.all_eq_true.1 h1 i hiu
    have hi' : i ∈ ids := by simpa using h2
    have hl : ids.idxOf i < ids.length := List.idxOf_lt_length_iff.2 hi'
    simp only [mapIds, if_pos hl, getD_idxOf hi']
  rw [hargs] at hcalls
  have hfo : fo ∈ o.op.operands := by simp [ho, Op.operands, Call.operands, hc]
  have hal : c.args.toList.map a.eval = toVs ρ as := evList_ok has fun x v hx hv => hev x v (by simp [ho, Op.operands, Call.operands, hc]; exact .inr (by simpa using hx)) hv
  have hrun : (execOp a.eval o).run P w = .ok (.enter f (toVs ρ (first ++ as ++ caps)).toArray) w := by
    have e1 : c.args.map a.eval = (toVs ρ as).toArray := by apply Array.ext'; simp [hal]
    simp only [execOp, ho, resolve, hc, hev fo _ hfo hf, toV, Deferred.ofValue, e1, Sem.run_bind, Sem.run_pure, Result.andThen_ok, invoke]
    rw [hcon.1]
    simp [toVs_append']
  unfold Oper.wp
  rw [hrun, Oper.upon_enter]
  refine hcalls.mono fun e w' => ?_
  rintro ⟨ρ1, fps1, rfl, hp⟩
  -- back to the caller's memory
  have hwrm : ∀ i, i ∈ ws.map (fun k => ids.getD k 0) → i ∈ ids ∧ ids.idxOf i ∈ ws ∧ i < A.length := by
    intro i hi
    obtain ⟨k, hk, rfl⟩ := List.mem_map.1 hi
    have hkl := hws' k hk
    have hmem : ids.getD k 0 ∈ ids := by simp [List.getD, List.getElem?_eq_getElem hkl]
    exact ⟨hmem, by rw [idxOf_getD hnd hkl]; exact hk, hlt' _ hmem⟩
  have hnewm : ∀ i, i ∈ List.range' A.length (H'.length - ids.length) ↔ A.length ≤ i ∧ i < A.length + (H'.length - ids.length) := fun i => by simp [List.mem_range'_1]
  let ρ' : Rho := fun i => if A.length ≤ i ∧ i < A.length + (H'.length - ids.length) then ρ1 (ids.length + (i - A.length)) else ρ i
  let fps' : Fps := fun i => if A.length ≤ i ∧ i < A.length + (H'.length - ids.length) then fps1 (ids.length + (i - A.length)) else if i ∈ ws.map (fun k => ids.getD k 0) then fps1 (ids.idxOf i) else fps i
  have hρm : ∀ j, j < H'.length → ρ' (mapIds ids A.length j) = ρ1 j := by
    intro j hj
    by_cases hjl : j < ids.length
    · have hmem : ids.getD j 0 ∈ ids := by simp [List.getD, List.getElem?_eq_getElem hjl]
      have := hlt' _ hmem
      simp only [ρ', mapIds, if_pos hjl]
      rw [if_neg (by omega)]
      have := hp.rho j (by simpa using hjl)
      simp only [mapIds, if_pos hjl] at this
      exact this.symm
    · simp only [ρ', mapIds, if_neg hjl]
      rw [if_pos (by omega)]
      congr 1
      omega
  have hrepB : ∀ (b : ABlock L0) pl fp, idsInB (· < H'.length) b = true → Rep ρ1 w' pl fp b → Rep ρ' w' pl fp (b.rn (mapIds ids A.length)) := by
    intro b pl fp hb hr
    rw [rep_rn]
    refine Rep_congr hr fun i hi => ?_
    have := List.all_eq_true.1 hb i hi
    exact (hρm i (by simpa using this)).symm
  have hH'cl : ∀ j, idsInB (· < H'.length) (getH H' j) = true := by
    intro j
    unfold getH
    cases hj : H'[j]? with
    | none => rfl
    | some b => exact List.all_eq_true.1 hcH b (List.mem_of_getElem? hj)
  -- what the callee may have written
  have hWin : ∀ b, (∃ i, i ∈ ws ∧ (if i < ids.length then fps (ids.getD i 0) else fun _ => False) b) ↔ ∃ i, i ∈ ws.map (fun k => ids.getD k 0) ∧ fps i b := by
    intro b
    constructor
    · rintro ⟨k, hk, hb⟩
      rw [if_pos (hws' k hk)] at hb
      exact ⟨_, List.mem_map.2 ⟨k, hk, rfl⟩, hb⟩
    · rintro ⟨i, hi, hb⟩
      obtain ⟨k, hk, rfl⟩ := List.mem_map.1 hi
      exact ⟨k, hk, by rw [if_pos (hws' k hk)]; exact hb⟩
  have hfr : Fr (fun b => ∃ i, i ∈ ws.map (fun k => ids.getD k 0) ∧ fps i b) w w' := hp.fr.mono fun b hb => (hWin b).1 hb
  have hfrom : ∀ k, k ∈ ws ∨ ids.length ≤ k → ∀ b, fps1 k b → (∃ i, i ∈ ws.map (fun k => ids.getD k 0) ∧ fps i b) ∨ w.heap.size ≤ b := by
    intro k hk b hb
    exact (hp.from_ k (by simpa using hk) b hb).imp (hWin b).1 id
  have hkeep : ∀ i, i ∉ ws.map (fun k => ids.getD k 0) → Rep ρ w' (ρ i) (fps i) (B i) := fun i hi =>
    (hH.rep i).keep hfr.size (fun b hb => hfr.block b (hH.lt i b hb) fun ⟨j, hj, hjb⟩ => hH.disj i j (fun e => hi (e ▸ hj)) b hb hjb)
      (fun hr => hfr.block _ (by
        have := hH.rep i
        cases hBi : B i <;> rw [hBi] at hr this <;> simp [ABlock.isRo] at hr
        exact this.2.1) fun ⟨j, hj, hjb⟩ => hH.ro i hr j hjb)
  have hf0 : ∀ i, A.length ≤ i ∧ i < A.length + (H'.length - ids.length) → ∀ b, ¬ fps i b := by
    intro i hi b hb
    have := hH.rep i
    rw [hg i (by simpa using (hnewm i).2 hi)] at this
    exact this b hb
  have hupd : ∀ i, updF B ((List.range' A.length (H'.length - ids.length)).map (fun i => (i, (getH H' (ids.length + (i - A.length))).rn (mapIds ids A.length))) ++ ws.map (fun k => (ids.getD k 0, (getH H' k).rn (mapIds ids A.length)))) i =
      if A.length ≤ i ∧ i < A.length + (H'.length - ids.length) then (getH H' (ids.length + (i - A.length))).rn (mapIds ids A.length)
      else if i ∈ ws.map (fun k => ids.getD k 0) then (getH H' (ids.idxOf i)).rn (mapIds ids A.length) else B i := by
    intro i
    by_cases hi : A.length ≤ i ∧ i < A.length + (H'.length - ids.length)
    · rw [if_pos hi]
      refine updF_mem (f := fun j => if A.length ≤ j then (getH H' (ids.length + (j - A.length))).rn (mapIds ids A.length) else (getH H' (ids.idxOf j)).rn (mapIds ids A.length)) ?_ ?_ |>.trans (by simp [hi.1])
      · intro p hp'
        rcases List.mem_append.1 hp' with hp' | hp'
        · obtain ⟨j, hj, rfl⟩ := List.mem_map.1 hp'
          have := (hnewm j).1 hj
          simp [this.1]
        · obtain ⟨k, hk, rfl⟩ := List.mem_map.1 hp'
          have h1 := hwrm _ (List.mem_map.2 ⟨k, hk, rfl⟩)
          have : ¬ A.length ≤ ids.getD k 0 := by omega
          simp only [if_neg this, idxOf_getD hnd (hws' k hk)]
      · simp only [List.map_append, List.map_map, List.mem_append]
        exact .inl (List.mem_map.2 ⟨i, (hnewm i).2 hi, rfl⟩)
    · rw [if_neg hi]
      by_cases hw : i ∈ ws.map (fun k => ids.getD k 0)
      · rw [if_pos hw]
        have h1 := hwrm i hw
        refine updF_mem (f := fun j => if A.length ≤ j then (getH H' (ids.length + (j - A.length))).rn (mapIds ids A.length) else (getH H' (ids.idxOf j)).rn (mapIds ids A.length)) ?_ ?_ |>.trans (by simp; omega)
        · intro p hp'
          rcases List.mem_append.1 hp' with hp' | hp'
          · obtain ⟨j, hj, rfl⟩ := List.mem_map.1 hp'
            have := (hnewm j).1 hj
            simp [this.1]
          · obtain ⟨k, hk, rfl⟩ := List.mem_map.1 hp'
            have h1 := hwrm _ (List.mem_map.2 ⟨k, hk, rfl⟩)
            have : ¬ A.length ≤ ids.getD k 0 := by omega
            simp only [if_neg this, idxOf_getD hnd (hws' k hk)]
        · simp only [List.map_append, List.map_map, List.mem_append]
          refine .inr ?_
          obtain ⟨k, hk, rfl⟩ := List.mem_map.1 hw
          exact List.mem_map.2 ⟨k, hk, rfl⟩
      · rw [if_neg hw]
        refine updF_not ?_
        simp only [List.map_append, List.map_map, List.mem_append, not_or]
        refine ⟨fun hc => hi ?_, fun hc => hw ?_⟩
        · obtain ⟨j, hj, rfl⟩ := List.mem_map.1 hc
          exact (hnewm j).1 hj
        · obtain ⟨k, hk, rfl⟩ := List.mem_map.1 hc
          exact List.mem_map.2 ⟨k, hk, rfl⟩
  have hval : toV ρ' (v.rn (mapIds ids A.length)) = toV ρ1 v := by
    rw [toV_rn]
    refine toV_congr v fun i hi => ?_
    have := List.all_eq_true.1 hcv i hi
    exact hρm i (by simpa using this)
  have hfin : next (a.put o.dst (toV ρ' (v.rn (mapIds ids A.length)))) w' := by
    refine hn ρ' fps' w' ⟨fun i hi => ?_, ⟨fun i => ?_, ?_, ?_⟩, hfr, fun i hi1 hi2 b => ?_, fun i hi b hb => ?_⟩
    · simp only [hnewm] at hi
      simp only [ρ', if_neg hi]
    · rw [hupd]
      by_cases hi : A.length ≤ i ∧ i < A.length + (H'.length - ids.length)
      · simp only [if_pos hi, ρ', fps']
        exact hrepB _ _ _ (hH'cl _) (hp.hs.rep _)
      · simp only [if_neg hi, ρ', fps']
        by_cases hw : i ∈ ws.map (fun k => ids.getD k 0)
        · simp only [if_pos hw]
          have h1 := hwrm i hw
          have hlt1 : ids.idxOf i < ids.length := List.idxOf_lt_length_iff.2 h1.1
          have hr := hp.hs.rep (ids.idxOf i)
          have hrho : ρ1 (ids.idxOf i) = ρ i := by
            have := hp.rho (ids.idxOf i) (by simpa using hlt1)
            simp only [mapIds, if_pos hlt1, getD_idxOf h1.1] at this
            exact this
          rw [hrho] at hr
          exact hrepB _ _ _ (hH'cl _) hr
        · simp only [if_neg hw]
          refine Rep_congr (hkeep i hw) fun j hj => ?_
          have hjn : ¬ (A.length ≤ j ∧ j < A.length + (H'.length - ids.length)) := fun hc => hid i j ((hnewm j).2 hc) hj
          simp only [ρ', if_neg hjn]
    · -- disjointness
      have hcase : ∀ i b, fps' i b → (∃ k, (k ∈ ws ∨ ids.length ≤ k) ∧ k < H'.length ∧ fps1 k b ∧ mapIds ids A.length k = i) ∨ (i ∉ ws.map (fun k => ids.getD k 0) ∧ fps i b) := by
        intro i b hb
        simp only [fps'] at hb
        split at hb
        · rename_i hi
          exact .inl ⟨_, .inr (by omega), by omega, hb, by simp only [mapIds]; rw [if_neg (by omega)]; omega⟩
        · rename_i hi
          split at hb
          · rename_i hw
            have h1 := hwrm i hw
            have hl := List.idxOf_lt_length_iff.2 h1.1
            exact .inl ⟨_, .inl h1.2.1, by omega, hb, by simp only [mapIds, if_pos hl, getD_idxOf h1.1]⟩
          · rename_i hw
            exact .inr ⟨hw, hb⟩
      intro i j hij b hb hc
      rcases hcase i b hb with ⟨k, hk, hkl, hkb, rfl⟩ | ⟨hi, hib⟩ <;> rcases hcase j b hc with ⟨l, hl, hll, hlb, rfl⟩ | ⟨hj, hjb⟩
      · exact hp.hs.disj k l (fun e => hij (e ▸ rfl)) b hkb hlb
      · rcases hfrom k hk b hkb with ⟨q, hq, hqb⟩ | hge
        · exact hH.disj j q (fun e => hj (e ▸ hq)) b hjb hqb
        · have := hH.lt j b hjb; omega
      · rcases hfrom l hl b hlb with ⟨q, hq, hqb⟩ | hge
        · exact hH.disj i q (fun e => hi (e ▸ hq)) b hib hqb
        · have := hH.lt i b hib; omega
      · exact hH.disj i j hij b hib hjb
    · intro i hr j hb
      rw [hupd] at hr
      by_cases hi : A.length ≤ i ∧ i < A.length + (H'.length - ids.length)
      · rw [if_pos hi, isRo_rn] at hr
        exfalso
        have hlt1 : ids.length + (i - A.length) < H'.length := by omega
        have hm : getH H' (ids.length + (i - A.length)) ∈ H'.drop ids.length := by
          rw [List.mem_iff_getElem?]
          refine ⟨i - A.length, ?_⟩
          rw [List.getElem?_drop]
          simp [getH, List.getElem?_eq_getElem hlt1]
        have := List.all_eq_true.1 hro2 _ hm
        simp [hr] at this
      · rw [if_neg hi] at hr
        by_cases hw : i ∈ ws.map (fun k => ids.getD k 0)
        · rw [if_pos hw, isRo_rn] at hr
          exfalso
          have h1 := hwrm i hw
          have := List.all_eq_true.1 hro1 _ h1.2.1
          simp [hr] at this
        · rw [if_neg hw] at hr
          have hlt1 : (ρ i).block < w.heap.size := by
            have := hH.rep i
            cases hBi : B i <;> rw [hBi] at hr this <;> simp [ABlock.isRo] at hr
            exact this.2.1
          have hold : ∀ k, k ∈ ws ∨ ids.length ≤ k → ¬ fps1 k (ρ i).block := by
            intro k hk hc
            rcases hfrom k hk _ hc with ⟨q, hq, hqb⟩ | hge
            · exact hH.ro i hr q hqb
            · omega
          simp only [ρ', if_neg hi, fps'] at hb
          split at hb
          · rename_i hj; exact hold _ (.inr (by omega)) hb
          · split at hb
            · rename_i hj; exact hold _ (.inl (hwrm j hj).2.1) hb
            · exact hH.ro i hr j hb
    · simp only [hnewm] at hi2
      simp only [fps', if_neg hi2, if_neg hi1]
    · rcases hi with hi | hi
      · have h1 := hwrm i hi
        simp only [fps'] at hb
        rw [if_neg (by omega), if_pos hi] at hb
        exact hfrom _ (.inl h1.2.1) b hb
      · simp only [hnewm] at hi
        simp only [fps', if_pos hi] at hb
        exact hfrom _ (.inr (by omega)) b hb
  rw [hval] at hfin
  exact hfin

end
end Go.Fl
