/- Pieces of code and whole functions on symbolic values. Conditions: none. -/
import Derived.Test.YtjhhecidaableaaFlQ
import Derived.LoopN
import Derived.Scope
set_option linter.unusedSimpArgs false
set_option linter.unusedVariables false
set_option linter.unusedSectionVars false
namespace Go.Fl
open Go Go.RowKit
variable [Objs]

def Ex.to : Ex → Exit
  | .normal => .normal
  | .exit id => .exit id
  | .ret => .ret

/-- The code c, begun in tm and A, ends so. -/
def CodeOk (P : Program) (c : Code) (n0 : Nat) (ws : List Nat) (tm : Tm L0) (A : AH L0) (e : Ex) (tm' : Tm L0) (A' : AH L0) : Prop :=
  ∀ (ρ0 : Rho) (fps0 : Fps) (w0 : World) (ρ : Rho) (fps : Fps) (w : World) (a : Act) (Q : Exit → Act → World → Prop),
    SR tm A ρ fps w a → Tr n0 ws ρ0 fps0 w0 ρ fps w →
    (∀ ρ' fps' w' a', SR tm' A' ρ' fps' w' a' → Tr n0 ws ρ0 fps0 w0 ρ' fps' w' → Q e.to a' w') → c.wp P Q a w

/-- The object o is what these blocks make. -/
def isoP (o : TO) (bs : List (ABlock L0)) : Prop := ∀ pl fp w, objRep o pl fp w ↔ (subP bs).rep pl fp w

/-- What the obligations of objects and code mean over P. -/
def restOf (P : Program) : ObRest where
  iso o bs := isoP o bs
  code c n0 ws tm A e tm' A' := CodeOk P c n0 ws tm A e tm' A'

abbrev Holds (P : Program) (q : Ob L0) : Prop := Obs (Contract P) (restOf P) q

/-! ### Taking objects apart, putting them together -/

def prUnf {L : Lf} (A : AH L) (id : Nat) (bs : List (ABlock L)) : Option (PR L) :=
  let N := A.length
  let m := fun k => if k = 0 then id else N + (k - 1)
  match getH A id with
  | .obj o =>
    if 0 < bs.length ∧ bs.all (idsInB (· < bs.length)) = true ∧ bs.all (fun b => !b.isRo) = true ∧ id < N then
      some { val := .flat undef, tch := [id], wr := [id], news := List.range' N (bs.length - 1),
             upd := (id, (getH bs 0).rn m) :: (List.range' N (bs.length - 1)).map (fun i => (i, (getH bs (i - N + 1)).rn m)), ob := [.isobj o bs] }
    else none
  | _ => none

def prFold {L : Lf} (A : AH L) (ids : List Nat) (o : L.O) : Option (PR L) :=
  match ids with
  | [] => none
  | i0 :: rest =>
    let bs := ids.map fun i => (getH A i).rn fun i => ids.idxOf i
    if ids.Nodup ∧ ids.all (· < A.length) = true ∧ ids.all (fun i => idsInB (fun j => ids.contains j) (getH A i)) = true ∧ bs.all (fun b => !b.isRo) = true then
      some { val := .flat undef, tch := ids, wr := ids, upd := (i0, .obj o) :: rest.map (fun i => (i, .gone)), ob := [.isobj o bs] }
    else none

section
variable {P : Program} {n0 : Nat} {ws : List Nat}

theorem prUnf_ok {A : AH L0} {id : Nat} {bs : List (ABlock L0)} {r : PR L0} (h : prUnf A id bs = some r) (hob : ∀ q, q ∈ r.ob → Holds P q)
    {ρ : Rho} {fps : Fps} {w : World} (hH : HS (getH A) ρ fps w) (hacl : ∀ i j, j ∈ (getH A i).ids → j < A.length) : ∃ ρ' fps', Post r (getH A) ρ fps w ρ' fps' w := by
  unfold prUnf at h
  simp only at h
  split at h
  case h_2 => cases h
  rename_i o hA
  split at h
  case isFalse => cases h
  rename_i hc
  obtain ⟨hpos, hcl, hro, hidN⟩ := hc
  cases h
  have hiso : isoP o bs := hob (.isobj o bs) (by simp)
  have hr := hH.rep id
  rw [hA] at hr
  obtain ⟨_, ρs, fpss, h0, hs, hf⟩ : (subP bs).rep (ρ id) (fps id) w := (hiso _ _ _).1 hr
  have hnew : ∀ i, i ∈ List.range' A.length (bs.length - 1) ↔ A.length ≤ i ∧ i < A.length + (bs.length - 1) := fun i => by simp [List.mem_range'_1]
  have hfN : ∀ i, A.length ≤ i → ∀ b, ¬ fps i b := by
    intro i hi b hb
    have := hH.rep i
    rw [show getH A i = .gone by simp [getH, List.getElem?_eq_none hi]] at this
    exact this b hb
  let ρ' : Rho := fun i => if A.length ≤ i ∧ i < A.length + (bs.length - 1) then ρs (i - A.length + 1) else ρ i
  let fps' : Fps := fun i => if A.length ≤ i ∧ i < A.length + (bs.length - 1) then fpss (i - A.length + 1) else if i = id then fpss 0 else fps i
  have hρm : ∀ k, k < bs.length → ρ' (if k = 0 then id else A.length + (k - 1)) = ρs k := by
    intro k hk
    by_cases hk0 : k = 0
    · subst hk0
      simp only [if_true, ρ']
      rw [if_neg (by omega), h0]
    · simp only [if_neg hk0, ρ']
      rw [if_pos (by omega)]
      congr 1
      omega
  have hgone : ∀ k, bs.length ≤ k → ∀ b, ¬ fpss k b := by
    intro k hk b hb
    have := hs.rep k
    rw [show getH bs k = .gone by simp [getH, List.getElem?_eq_none hk]] at this
    exact this b hb
  have hrepk : ∀ k, k < bs.length → Rep ρ' w (ρs k) (fpss k) ((getH bs k).rn fun k => if k = 0 then id else A.length + (k - 1)) := by
    intro k hk
    rw [rep_rn]
    refine Rep_congr (hs.rep k) fun j hj => ?_
    have hm : getH bs k ∈ bs := by simp [getH, List.getElem?_eq_getElem hk]
    have := List.all_eq_true.1 (List.all_eq_true.1 hcl _ hm) j hj
    exact (hρm j (by simpa using this)).symm
  have hupd : ∀ i, updF (getH A) ((id, (getH bs 0).rn fun k => if k = 0 then id else A.length + (k - 1)) :: (List.range' A.length (bs.length - 1)).map (fun i => (i, (getH bs (i - A.length + 1)).rn fun k => if k = 0 then id else A.length + (k - 1)))) i =
      if i = id then (getH bs 0).rn (fun k => if k = 0 then id else A.length + (k - 1))
      else if A.length ≤ i ∧ i < A.length + (bs.length - 1) then (getH bs (i - A.length + 1)).rn (fun k => if k = 0 then id else A.length + (k - 1)) else getH A i := by
    intro i
    simp only [updF]
    by_cases hi : i = id
    · simp [hi]
    · rw [if_neg hi, if_neg hi]
      by_cases hn : A.length ≤ i ∧ i < A.length + (bs.length - 1)
      · rw [if_pos hn]
        refine updF_mem (f := fun i => (getH bs (i - A.length + 1)).rn fun k => if k = 0 then id else A.length + (k - 1)) ?_ ?_
        · intro p hp
          obtain ⟨j, _, rfl⟩ := List.mem_map.1 hp
          rfl
        · rw [List.map_map]
          exact List.mem_map.2 ⟨i, (hnew i).2 hn, rfl⟩
      · rw [if_neg hn]
        refine updF_not ?_
        rw [List.map_map]
        intro hc
        obtain ⟨j, hj, rfl⟩ := List.mem_map.1 hc
        exact hn ((hnew j).1 hj)
  have hcase : ∀ i b, fps' i b → (∃ k, k < bs.length ∧ fpss k b ∧ (if k = 0 then id else A.length + (k - 1)) = i) ∨ (i ≠ id ∧ fps i b) := by
    intro i b hb
    simp only [fps'] at hb
    split at hb
    · rename_i hi
      exact .inl ⟨i - A.length + 1, by omega, hb, by rw [if_neg (by omega)]; omega⟩
    · split at hb
      · rename_i he
        exact .inl ⟨0, hpos, hb, by simp [he]⟩
      · rename_i he
        exact .inr ⟨he, hb⟩
  refine ⟨ρ', fps', fun i hi => ?_, ⟨fun i => ?_, ?_, ?_⟩, Fr.refl _ _, fun i hi1 hi2 b => ?_, fun i hi b hb => ?_⟩
  · simp only [hnew] at hi; simp only [ρ', if_neg hi]
  · rw [hupd]
    by_cases hn : A.length ≤ i ∧ i < A.length + (bs.length - 1)
    · have : i ≠ id := by omega
      simp only [if_neg this, if_pos hn, ρ', fps']
      exact hrepk _ (by omega)
    · by_cases hi : i = id
      · subst hi
        simp only [if_true, ρ', fps', if_neg hn]
        rw [← h0]
        exact hrepk 0 hpos
      · simp only [if_neg hi, if_neg hn, ρ', fps']
        refine Rep_congr (hH.rep i) fun j hj => ?_
        have := hacl i j hj
        rw [if_neg (by omega)]
  · intro i j hij b hb hc
    rcases hcase i b hb with ⟨k, hk, hkb, rfl⟩ | ⟨hi, hib⟩ <;> rcases hcase j b hc with ⟨l, hl, hlb, rfl⟩ | ⟨hj, hjb⟩
    · exact hs.disj k l (fun e => hij (e ▸ rfl)) b hkb hlb
    · exact hH.disj j id hj b hjb ((hf b).2 ⟨k, hkb⟩)
    · exact hH.disj i id hi b hib ((hf b).2 ⟨l, hlb⟩)
    · exact hH.disj i j hij b hib hjb
  · intro i hr' j hb
    rw [hupd] at hr'
    have hnoro : ∀ k, (getH bs k).isRo = false := by
      intro k
      unfold getH
      cases hk : bs[k]? with
      | none => rfl
      | some b =>
        have := List.all_eq_true.1 hro b (List.mem_of_getElem? hk)
        simpa using this
    by_cases hi : i = id
    · rw [if_pos hi, isRo_rn, hnoro] at hr'; cases hr'
    · rw [if_neg hi] at hr'
      by_cases hn : A.length ≤ i ∧ i < A.length + (bs.length - 1)
      · rw [if_pos hn, isRo_rn, hnoro] at hr'; cases hr'
      · rw [if_neg hn] at hr'
        simp only [ρ', if_neg hn] at hb
        rcases hcase j _ hb with ⟨k, hk, hkb, _⟩ | ⟨_, hjb⟩
        · exact hH.ro i hr' id ((hf _).2 ⟨k, hkb⟩)
        · exact hH.ro i hr' j hjb
  · simp only [List.mem_singleton] at hi1
    simp only [hnew] at hi2
    simp only [fps', if_neg hi2, if_neg hi1]
  · refine .inl ⟨id, by simp, (hf b).2 ?_⟩
    rcases hcase i b hb with ⟨k, _, hkb, _⟩ | ⟨hne, hib⟩
    · exact ⟨k, hkb⟩
    · exfalso
      rcases hi with hi | hi
      · simp at hi; exact hne hi
      · simp only [hnew] at hi; exact hfN i hi.1 b hib

theorem prFold_ok {A : AH L0} {ids : List Nat} {o : TO} {r : PR L0} (h : prFold (L := L0) A ids o = some r) (hob : ∀ q, q ∈ r.ob → Holds P q)
    {ρ : Rho} {fps : Fps} {w : World} (hH : HS (getH A) ρ fps w) : ∃ ρ' fps', Post r (getH A) ρ fps w ρ' fps' w := by
  unfold prFold at h
  split at h
  case h_1 => cases h
  rename_i i0 rest
  simp only at h
  split at h
  case isFalse => cases h
  rename_i hc
  obtain ⟨hnd, hlt, hcb, hro⟩ := hc
  cases h
  have hiso : isoP o ((i0 :: rest).map fun i => (getH A i).rn fun i => (i0 :: rest).idxOf i) := hob (.isobj (L := L0) o _) (by simp)
  have hcl : ∀ i, i ∈ i0 :: rest → ∀ j, j ∈ (getH A i).ids → j ∈ i0 :: rest := by
    intro i hi j hj
    have := List.all_eq_true.1 hcb i hi
    have := List.all_eq_true.1 this j hj
    simpa using this
  have hpart := hH.part hnd (N := A.length) hcl
  have hi0 : i0 ∉ rest := (List.nodup_cons.1 hnd).1
  let fps' : Fps := fun i => if i = i0 then (fun b => ∃ j, j ∈ i0 :: rest ∧ fps j b) else if i ∈ rest then (fun _ => False) else fps i
  have hf0 : ∀ b, (∃ k, (if k < (i0 :: rest).length then fps ((i0 :: rest).getD k 0) else fun _ => False) b) ↔ ∃ j, j ∈ i0 :: rest ∧ fps j b := by
    intro b
    constructor
    · rintro ⟨k, hk⟩
      split at hk
      · rename_i hkl
        exact ⟨_, by simp only [List.getD, List.getElem?_eq_getElem hkl, Option.getD_some]; exact List.getElem_mem _, hk⟩
      · exact hk.elim
    · rintro ⟨j, hj, hb⟩
      refine ⟨(i0 :: rest).idxOf j, ?_⟩
      rw [if_pos (List.idxOf_lt_length_iff.2 hj), getD_idxOf hj]
      exact hb
  have hupd : ∀ i, updF (getH A) ((i0, .obj o) :: rest.map (fun i => (i, .gone))) i = if i = i0 then .obj o else if i ∈ rest then .gone else getH A i := by
    intro i
    simp only [updF]
    by_cases hi : i = i0
    · simp [hi]
    · rw [if_neg hi, if_neg hi]
      by_cases hr : i ∈ rest
      · rw [if_pos hr]
        exact updF_mem (f := fun _ => .gone) (fun p hp => by obtain ⟨j, _, rfl⟩ := List.mem_map.1 hp; rfl) (by rw [List.map_map]; exact List.mem_map.2 ⟨i, hr, rfl⟩)
      · rw [if_neg hr]
        refine updF_not ?_
        rw [List.map_map]
        intro hc
        obtain ⟨j, hj, rfl⟩ := List.mem_map.1 hc
        exact hr hj
  refine ⟨ρ, fps', fun _ _ => rfl, ⟨fun i => ?_, ?_, ?_⟩, Fr.refl _ _, fun i hi1 _ b => ?_, fun i hi b hb => ?_⟩
  · rw [hupd]
    by_cases hi : i = i0
    · subst hi
      simp only [if_true, fps']
      show objRep o (ρ i) _ w
      rw [hiso]
      refine ⟨hro, _, _, ?_, hpart, fun b => (hf0 b).symm⟩
      simp [mapIds]
    · by_cases hr : i ∈ rest
      · simp only [if_neg hi, if_pos hr, fps']; exact fun b hb => hb
      · simp only [if_neg hi, if_neg hr, fps']; exact hH.rep i
  · intro i j hij b hb hc
    simp only [fps'] at hb hc
    by_cases hi : i = i0 <;> by_cases hj : j = i0
    · omega
    · simp only [if_pos hi] at hb
      simp only [if_neg hj] at hc
      by_cases hr : j ∈ rest
      · simp [hr] at hc
      · simp only [if_neg hr] at hc
        obtain ⟨k, hk, hkb⟩ := hb
        exact hH.disj k j (fun e => by exact (List.mem_cons.1 hk).elim (fun h1 => hj (e ▸ h1)) (fun h1 => hr (e ▸ h1))) b hkb hc
    · simp only [if_neg hi] at hb
      simp only [if_pos hj] at hc
      by_cases hr : i ∈ rest
      · simp [hr] at hb
      · simp only [if_neg hr] at hb
        obtain ⟨k, hk, hkb⟩ := hc
        exact hH.disj k i (fun e => by exact (List.mem_cons.1 hk).elim (fun h1 => hi (e ▸ h1)) (fun h1 => hr (e ▸ h1))) b hkb hb
    · simp only [if_neg hi] at hb
      simp only [if_neg hj] at hc
      by_cases hr : i ∈ rest
      · simp [hr] at hb
      · by_cases hr2 : j ∈ rest
        · simp [hr2] at hc
        · simp only [if_neg hr] at hb
          simp only [if_neg hr2] at hc
          exact hH.disj i j hij b hb hc
  · intro i hr' j hb
    rw [hupd] at hr'
    by_cases hi : i = i0
    · simp [hi, ABlock.isRo] at hr'
    · by_cases hr : i ∈ rest
      · simp [hi, hr, ABlock.isRo] at hr'
      · simp only [if_neg hi, if_neg hr] at hr'
        simp only [fps'] at hb
        by_cases hj : j = i0
        · simp only [if_pos hj] at hb
          obtain ⟨k, _, hkb⟩ := hb
          exact hH.ro i hr' k hkb
        · simp only [if_neg hj] at hb
          by_cases hr2 : j ∈ rest
          · simp [hr2] at hb
          · simp only [if_neg hr2] at hb
            exact hH.ro i hr' j hb
  · simp only [List.mem_cons, not_or] at hi1
    simp only [fps', if_neg hi1.1, if_neg hi1.2]
  · simp only [fps'] at hb
    by_cases hi' : i = i0
    · simp only [if_pos hi'] at hb; exact .inl hb
    · simp only [if_neg hi'] at hb
      rcases hi with hi | hi
      · rcases List.mem_cons.1 hi with h1 | h1
        · exact absurd h1 hi'
        · simp [h1] at hb
      · simp at hi

end
end Go.Fl
