/- The evaluator of code over summaries, and that what it tells is so. Conditions: none. -/
import Derived.Test.YtjhhecidaableaaFlPl
import Derived.LoopN
import Derived.Scope
set_option linter.unusedSimpArgs false
set_option linter.unusedVariables false
set_option linter.unusedSectionVars false
namespace Go.Fl
open Go Go.RowKit
variable [Objs]

/-! ### Patterns of states -/
abbrev TmP := List (Option (AV LU))

def fillTm (ls : Ls) : TmP → Nat → Tm L0 × Nat
  | [], n => ([], n)
  | none :: r, n => (none :: (fillTm ls r n).1, (fillTm ls r n).2)
  | some p :: r, n => (some (fillV ls p n).1 :: (fillTm ls r (fillV ls p n).2).1, (fillTm ls r (fillV ls p n).2).2)
def takeTm : TmP → Tm L0 → Option Ls
  | [], [] => some []
  | none :: r, none :: r' => takeTm r r'
  | some p :: r, some v :: r' => cat2 (takeV p v) (takeTm r r')
  | _, _ => none

theorem cat_lens {x y : Ls} (pre post : Ls) : pre ++ (x ++ y) ++ post = pre ++ x ++ (y ++ post) := by simp

def tdenV (ρ : Rho) (tm : Tm L0) : List (Option Value) := tm.map (Option.map (toV ρ))

theorem takeTm_ok : ∀ {p : TmP} {tm : Tm L0} {l : Ls}, takeTm p tm = some l → ∀ pre post : Ls,
    (fillTm (pre ++ l ++ post) p pre.length).2 = pre.length + l.length ∧ ∀ ρ, tdenV ρ (fillTm (pre ++ l ++ post) p pre.length).1 = tdenV ρ tm := by
  intro p
  induction p with
  | nil =>
    intro tm l h pre post
    cases tm with
    | nil => simp only [takeTm, Option.some.injEq] at h; subst h; simp [fillTm]
    | cons v r => simp [takeTm] at h
  | cons p r ih =>
    intro tm l h pre post
    cases tm with
    | nil => cases p <;> simp [takeTm] at h
    | cons v r' =>
      cases p with
      | none =>
        cases v with
        | some v => simp [takeTm] at h
        | none =>
          simp only [takeTm] at h
          have := ih h pre post
          simp only [fillTm, tdenV, List.map_cons, Option.map_none]
          exact ⟨this.1, fun ρ => by rw [show List.map (Option.map (toV ρ)) _ = _ from this.2 ρ]; rfl⟩
      | some p =>
        cases v with
        | none => simp [takeTm] at h
        | some v =>
          simp only [takeTm] at h
          obtain ⟨x, y, h1, h2, rfl⟩ := cat2_some h
          have := cat_ok (f := fun ls n => fillV ls p n) (g := fun ls n => fillTm ls r n) (Qa := fun e => ∀ ρ, toV ρ e = toV ρ v) (Qb := fun e => ∀ ρ, tdenV ρ e = tdenV ρ r') (takeV_ok h1) (ih h2) pre post
          simp only [fillTm, tdenV, List.map_cons, Option.map_some]
          exact ⟨this.1, fun ρ => by rw [this.2.1 ρ, show List.map (Option.map (toV ρ)) _ = _ from this.2.2 ρ]; rfl⟩

mutual
theorem fillV_ids {ls : Ls} : ∀ (p : AV LU) (n : Nat), (fillV ls p n).1.ids = p.ids
  | .int .., _ => rfl
  | .bool .., _ => rfl
  | .flat .., _ => rfl
  | .nilp, _ => rfl
  | .ptr .., _ => by simp only [fillV]; split <;> rfl
  | .nils, _ => rfl
  | .slice .., _ => by simp only [fillV]; split <;> rfl
  | .nilf, _ => rfl
  | .unk .., _ => rfl
  | .opt .., _ => rfl
  | .fsel .., _ => rfl
  | .sl .., _ => rfl
  | .func f a b, n => by simp only [fillV, AV.ids]; rw [fillVs_ids a, fillVs_ids b]
  | .agg vs, n => by simp only [fillV, AV.ids]; rw [fillVs_ids vs]
  | .tuple vs, n => by simp only [fillV, AV.ids]; rw [fillVs_ids vs]
theorem fillVs_ids {ls : Ls} : ∀ (p : List (AV LU)) (n : Nat), AV.idsL (fillVs ls p n).1 = AV.idsL p
  | [], _ => rfl
  | v :: r, n => by simp only [fillVs, AV.idsL]; rw [fillV_ids v, fillVs_ids r]
end

mutual
theorem takeV_ids : ∀ {p : AV LU} {v : AV L0} {l : Ls}, takeV p v = some l → v.ids = p.ids := by
  intro p v l h
  match p, v, h with
  | .int .., .int .., h => rfl
  | .bool .., .bool .., h => rfl
  | .nilp, .nilp, h => rfl
  | .ptr i c t n, .ptr i' c' t' n', h =>
    simp only [takeV] at h
    split at h
    · rename_i hc; obtain ⟨rfl, _⟩ := hc; rfl
    · cases h
  | .nils, .nils, h => rfl
  | .slice i c t n len cap, .slice i' c' t' n' len' cap', h =>
    simp only [takeV] at h
    split at h
    · rename_i hc; obtain ⟨rfl, _⟩ := hc; rfl
    · cases h
  | .nilf, .nilf, h => rfl
  | .unk i, .unk i', h =>
    simp only [takeV] at h
    split at h
    · rename_i hc; subst hc; rfl
    · cases h
  | .opt i, .opt i', h =>
    simp only [takeV] at h
    split at h
    · rename_i hc; subst hc; rfl
    · cases h
  | .fsel e fs, .fsel e' fs', h =>
    simp only [takeV] at h
    split at h
    · rename_i hk; subst hk; rfl
    · cases h
  | .sl i, .sl i', h =>
    simp only [takeV] at h
    split at h
    · rename_i hc; subst hc; rfl
    · cases h
  | .func f a b, .func f' a' b', h =>
    simp only [takeV] at h
    split at h
    · obtain ⟨x, y, h1, h2, rfl⟩ := cat2_some h
      simp only [AV.ids]
      rw [takeVs_ids h1, takeVs_ids h2]
    · cases h
  | .agg vs, .agg vs', h => simp only [takeV] at h; simp only [AV.ids]; exact takeVs_ids h
  | .tuple vs, .tuple vs', h => simp only [takeV] at h; simp only [AV.ids]; exact takeVs_ids h
theorem takeVs_ids : ∀ {p : List (AV LU)} {v : List (AV L0)} {l : Ls}, takeVs p v = some l → AV.idsL v = AV.idsL p := by
  intro p v l h
  match p, v, h with
  | [], [], h => rfl
  | p :: r, v :: r', h =>
    simp only [takeVs] at h
    obtain ⟨x, y, h1, h2, rfl⟩ := cat2_some h
    simp only [AV.idsL]
    rw [takeV_ids h1, takeVs_ids h2]
end

theorem fillBl_ids {ls : Ls} (p : ABlock LU) (n : Nat) : (fillBl ls p n).1.ids = p.ids := by
  match p with
  | .gone => rfl
  | .cells e vs => simp only [fillBl, ABlock.ids]; exact fillVs_ids vs n
  | .arr .. => rfl
  | .opq .. => rfl
  | .esl => rfl
  | .lst .. => rfl
  | .olst .. => rfl
  | .ro .. => rfl
  | .obj (t, false) => rfl
  | .obj (t, true) => rfl

theorem takeBl_ids {p : ABlock LU} {b : ABlock L0} {l : Ls} (h : takeBl p b = some l) : b.ids = p.ids := by
  match p, b, h with
  | .gone, .gone, h => rfl
  | .cells e vs, .cells e' vs', h =>
    simp only [takeBl] at h
    split at h
    · exact takeVs_ids h
    · cases h
  | .arr .., .arr .., h => rfl
  | .opq .., .opq .., h => rfl
  | .esl, .esl, h => rfl
  | .lst .., .lst .., h => rfl
  | .olst .., .olst .., h => rfl
  | .ro .., .ro .., h => rfl
  | .obj (t, false), .obj (.one ..), h => rfl
  | .obj (t, true), .obj (.opt ..), h => rfl

theorem takeBs_ids {ls : Ls} : ∀ {p : List (ABlock LU)} {b : List (ABlock L0)} {l : Ls}, takeBs p b = some l → ∀ n, b.map ABlock.ids = (fillBs ls p n).1.map ABlock.ids := by
  intro p
  induction p with
  | nil => intro b l h n; cases b with
    | nil => rfl
    | cons b r => simp [takeBs] at h
  | cons p r ih =>
    intro b l h n
    cases b with
    | nil => simp [takeBs] at h
    | cons b r' =>
      simp only [takeBs] at h
      obtain ⟨x, y, h1, h2, rfl⟩ := cat2_some h
      simp only [fillBs, List.map_cons]
      rw [takeBl_ids h1, fillBl_ids, ih h2]

theorem takeTm_ids {ls : Ls} : ∀ {p : TmP} {tm : Tm L0} {l : Ls}, takeTm p tm = some l → ∀ n, tm.map (Option.map AV.ids) = (fillTm ls p n).1.map (Option.map AV.ids) := by
  intro p
  induction p with
  | nil => intro tm l h n; cases tm with
    | nil => rfl
    | cons b r => simp [takeTm] at h
  | cons p r ih =>
    intro tm l h n
    cases tm with
    | nil => cases p <;> simp [takeTm] at h
    | cons v r' =>
      cases p with
      | none =>
        cases v with
        | some v => simp [takeTm] at h
        | none => simp only [takeTm] at h; simp only [fillTm, List.map_cons]; rw [ih h n]
      | some p =>
        cases v with
        | none => simp [takeTm] at h
        | some v =>
          simp only [takeTm] at h
          obtain ⟨x, y, h1, h2, rfl⟩ := cat2_some h
          simp only [fillTm, List.map_cons, Option.map_some]
          rw [takeV_ids h1, fillV_ids, ih h2]

/-! ### States told in other words -/
theorem SR.conv {tm tm' : Tm L0} {A A' : AH L0} {ρ : Rho} {fps : Fps} {w : World} {a : Act} (h : SR tm A ρ fps w a) (ht : tdenV ρ tm = tdenV ρ tm') (hi : tm.map (Option.map AV.ids) = tm'.map (Option.map AV.ids))
    (hA : A.map (bden ρ) = A'.map (bden ρ)) (hAi : A.map ABlock.ids = A'.map ABlock.ids) : SR tm' A' ρ fps w a := by
  have hlen : tm.length = tm'.length := by have := congrArg List.length hi; simpa using this
  have hlA : A.length = A'.length := by have := congrArg List.length hAi; simpa using this
  have hget : ∀ i, (getH A i).ids = (getH A' i).ids := by
    intro i
    have := congrArg (fun l : List (List Nat) => l[i]?) hAi
    simp only [List.getElem?_map] at this
    unfold getH
    cases h1 : A[i]? <;> cases h2 : A'[i]? <;> simp_all
  refine ⟨by rw [h.sz, hlen], fun t v hv => ?_, fun t v hv i hiv => ?_, h.hs.conv hA, fun i j hj => ?_, h.nd⟩
  · have h2 := congrArg (fun l : List (Option Value) => l[t]?) ht
    simp only [tdenV, List.getElem?_map, hv] at h2
    cases hq : tm[t]? with
    | none => simp [hq] at h2
    | some u =>
      cases u with
      | none => simp [hq] at h2
      | some u =>
        simp [hq] at h2
        rw [h.tmps t u hq, h2]
  · have h2 := congrArg (fun l : List (Option (List Nat)) => l[t]?) hi
    simp only [List.getElem?_map, hv] at h2
    cases hq : tm[t]? with
    | none => simp [hq] at h2
    | some u =>
      cases u with
      | none => simp [hq] at h2
      | some u =>
        simp [hq] at h2
        rw [← hlA]
        exact h.tcl t u hq i (by rw [h2]; exact hiv)
  · rw [← hget] at hj
    rw [← hlA]
    exact h.acl i j hj

def takeSt (tmP : TmP) (AP : List (ABlock LU)) (tm : Tm L0) (A : AH L0) : Option Ls := cat2 (takeTm tmP tm) (takeBs AP A)
def fillSt (ls : Ls) (tmP : TmP) (AP : List (ABlock LU)) : Tm L0 × AH L0 := ((fillTm ls tmP 0).1, (fillBs ls AP (fillTm ls tmP 0).2).1)

theorem SR.take {tmP : TmP} {AP : List (ABlock LU)} {tm : Tm L0} {A : AH L0} {ls : Ls} (h : takeSt tmP AP tm A = some ls) {ρ : Rho} {fps : Fps} {w : World} {a : Act} (hs : SR tm A ρ fps w a) :
    SR (fillSt ls tmP AP).1 (fillSt ls tmP AP).2 ρ fps w a := by
  obtain ⟨x, y, h1, h2, rfl⟩ := cat2_some h
  have := cat_ok (f := fun ls n => fillTm ls tmP n) (g := fun ls n => fillBs ls AP n) (Qa := fun e => ∀ ρ, tdenV ρ e = tdenV ρ tm) (Qb := fun e => ∀ ρ, e.map (bden ρ) = A.map (bden ρ)) (takeTm_ok h1) (takeBs_ok h2) [] []
  simp only [List.nil_append, List.append_nil, List.length_nil] at this
  exact hs.conv (this.2.1 ρ).symm (takeTm_ids h1 0) (this.2.2 ρ).symm (takeBs_ids h2 _)

/-! ### What a state keeps -/
def keepSt (n0 : Nat) (ids : List Nat) (tm : Tm L0) (A : AH L0) : Option (Tm L0 × AH L0) :=
  if ids.Nodup ∧ ids.all (· < A.length) = true ∧ n0 ≤ ids.length ∧ (List.range n0).all (fun i => ids.getD i 0 == i) = true ∧ (ids.drop n0).all (fun i => decide (n0 ≤ i)) = true ∧
      ids.all (fun i => idsInB (fun j => ids.contains j) (getH A i)) = true then
    some (tm.map (fun v => match v with | some v => if idsIn (fun j => ids.contains j) v then some (v.rn fun i => ids.idxOf i) else none | none => none),
      ids.map fun i => (getH A i).rn fun i => ids.idxOf i)
  else none

section
variable {P : Program} {n0 : Nat} {ws : List Nat}
theorem keepSt_ok {ids : List Nat} {tm tm' : Tm L0} {A A' : AH L0} (h : keepSt n0 ids tm A = some (tm', A')) {ρ0 : Rho} {fps0 : Fps} {w0 : World} {ρ : Rho} {fps : Fps} {w : World} {a : Act}
    (hs : SR tm A ρ fps w a) (ht : Tr n0 ws ρ0 fps0 w0 ρ fps w) (hws : ∀ i, i ∈ ws → i < n0) : ∃ ρ' fps', SR tm' A' ρ' fps' w a ∧ Tr n0 ws ρ0 fps0 w0 ρ' fps' w := by
  unfold keepSt at h
  split at h
  case isFalse => cases h
  rename_i hc
  obtain ⟨hnd, hlt, hlen, hpre, hge, hcb⟩ := hc
  simp only [Option.some.injEq, Prod.mk.injEq] at h
  obtain ⟨rfl, rfl⟩ := h
  have hcl : ∀ i, i ∈ ids → ∀ j, j ∈ (getH A i).ids → j ∈ ids := by
    intro i hi j hj
    have := List.all_eq_true.1 (List.all_eq_true.1 hcb i hi) j hj
    simpa using this
  have hpart := hs.hs.part hnd (N := A.length) hcl
  have hget : ∀ i, i < n0 → ids.getD i 0 = i := by
    intro i hi
    have := List.all_eq_true.1 hpre i (List.mem_range.2 hi)
    simpa using this
  refine ⟨_, _, ⟨by simpa using hs.sz, fun t v hv => ?_, fun t v hv i hi => ?_, hpart, fun i j hj => ?_, hs.nd⟩, ⟨fun i hi => ?_, ht.fr, fun i hi hiw b => ?_, fun i hi b hb => ?_⟩⟩
  · simp only [List.getElem?_map] at hv
    cases hq : tm[t]? with
    | none => simp [hq] at hv
    | some u =>
      cases u with
      | none => simp [hq] at hv
      | some u =>
        simp only [hq, Option.map_some, Option.some.injEq] at hv
        split at hv
        case isFalse => cases hv
        rename_i hin
        simp only [Option.some.injEq] at hv
        subst hv
        rw [hs.tmps t u hq]
        congr 1
        rw [toV_rn]
        refine toV_congr _ fun i hi => ?_
        have h1 := List.all_eq_true.1 hin i hi
        have hi' : i ∈ ids := by simpa using h1
        have hl := List.idxOf_lt_length_iff.2 hi'
        simp only [mapIds, if_pos hl, getD_idxOf hi']
  · simp only [List.getElem?_map] at hv
    cases hq : tm[t]? with
    | none => simp [hq] at hv
    | some u =>
      cases u with
      | none => simp [hq] at hv
      | some u =>
        simp only [hq, Option.map_some, Option.some.injEq] at hv
        split at hv
        case isFalse => cases hv
        rename_i hin
        simp only [Option.some.injEq] at hv
        subst hv
        rw [ids_rn, List.mem_map] at hi
        obtain ⟨j, hj, rfl⟩ := hi
        have h1 := List.all_eq_true.1 hin j hj
        have hj' : j ∈ ids := by simpa using h1
        simpa using List.idxOf_lt_length_iff.2 hj'
  · simp only [getH, List.getElem?_map] at hj
    cases hq : ids[i]? with
    | none => simp [hq, ABlock.ids] at hj
    | some u =>
      simp only [hq, Option.map_some, Option.getD_some] at hj
      rw [bids_rn, List.mem_map] at hj
      obtain ⟨k, hk, rfl⟩ := hj
      have hk' := hcl u (List.mem_of_getElem? hq) k hk
      simpa using List.idxOf_lt_length_iff.2 hk'
  · simp only [mapIds, if_pos (show i < ids.length by omega), hget i hi]
    exact ht.rho i hi
  · simp only [if_pos (show i < ids.length by omega), hget i hi]
    exact ht.same i hi hiw b
  · split at hb
    case isFalse => exact hb.elim
    rename_i hil
    by_cases hi0 : i < n0
    · rw [hget i hi0] at hb
      rcases hi with hi | hi
      · exact ht.from_ i (.inl hi) b hb
      · omega
    · refine ht.from_ _ (.inr ?_) b hb
      have hm : ids.getD i 0 ∈ ids.drop n0 := by
        rw [List.mem_drop_iff_getElem]
        refine ⟨i - n0, by omega, ?_⟩
        simp only [List.getD, List.getElem?_eq_getElem hil, Option.getD_some]
        congr 1
        omega
      have := List.all_eq_true.1 hge _ hm
      simpa using this
end

/-! ### Loops -/

/-- What a loop does: the pattern of its head, and those of its ends. -/
structure LSumm where
  r : Nat
  n0 : Nat
  ws : List Nat
  tm : TmP
  A : List (ABlock LU)
  exits : List (Ex × TmP × List (ABlock LU))
  pre : Ls → List Bool
  out : Ls → Nat × Ls

def LSumm.Ok (P : Program) (L : LSumm) (x : Code) : Prop := ∀ ls, (∀ b, b ∈ L.pre ls → b = true) → ∀ e, L.exits[(L.out ls).1]? = some e →
  CodeOk P (.loop x) L.n0 L.ws (fillSt ls L.tm L.A).1 (fillSt ls L.tm L.A).2 e.1 (fillSt (L.out ls).2 e.2.1 e.2.2).1 (fillSt (L.out ls).2 e.2.1 e.2.2).2

def firstReg : Code → Option Nat
  | .region id _ _ => some id
  | .seq a _ => firstReg a
  | .scope a => firstReg a
  | .block _ a => firstReg a
  | .loop a => firstReg a
  | _ => none

def loopsOf : Code → List Code
  | .seq a b => loopsOf a ++ loopsOf b
  | .cond _ a b => loopsOf a ++ loopsOf b
  | .block _ a => loopsOf a
  | .scope a => loopsOf a
  | .loop a => a :: loopsOf a
  | _ => []

/-- A state brought into a pattern's form. -/
def adaptSt (x : Ctx) (tmP : TmP) (AP : List (ABlock LU)) (s : S2) (ch : List Nat) : Res (Ls × List (Ob L0) × List Nat) :=
  (planTm x tmP AP s ch).bind fun p =>
    match execCs x.n0 x.ws p.cs.reverse s with
    | some s1 =>
      match keepSt x.n0 p.ids s1.tm s1.A with
      | some (tm2, A2) =>
        match takeSt tmP AP tm2 A2 with
        | some ls => .ok (ls, s1.ob, p.ch)
        | none => .bad 40 []
      | none => .bad 41 p.ids
    | none => .bad 42 []

/-! ### The evaluator -/

def seqOp (P : Program) (tab : List TypeId) (sg : List Summ) (x : Ctx) (ops : Array Oper) (i : Nat) : Nat → S2 → List Nat → Res (S2 × List Nat)
  | 0, _, _ => .bad 50 [i]
  | k + 1, s, ch =>
    (opHints P ops i s ch).bind fun h =>
      match opStep P tab sg x.n0 x.ws ops i (mkSt s h.1) with
      | some (_, st1) => .ok (ofSt st1, h.2)
      | none => (planOp x sg ops i s ch).bind fun p =>
        match execCs x.n0 x.ws p.cs.reverse s with
        | some s' => if p.cs.isEmpty then .bad 51 [i] else seqOp P tab sg x ops i k s' p.ch
        | none => .bad 52 [i]

def seqAll (P : Program) (tab : List TypeId) (sg : List Summ) (x : Ctx) (ops : Array Oper) : List Nat → S2 → List Nat → Res (S2 × List Nat)
  | [], s, ch => .ok (s, ch)
  | i :: r, s, ch => (seqOp P tab sg x ops i 8 s ch).bind fun q => seqAll P tab sg x ops r q.1 q.2

def evReg (P : Program) (tab : List TypeId) (sg : List Summ) (x : Ctx) (ops : Array Oper) (draw : Bool) (s : S2) (ch : List Nat) : Res (S2 × List Nat) :=
  if draw then
    (planDraw P tab sg x ops (ops.size * 6 + 20) (List.range ops.size) s s [] [] ch ch).bind fun d =>
      match execCs x.n0 x.ws d.1 s with
      | some s1 =>
        match runOps P tab sg x.n0 x.ws ops (List.range ops.size) (mkSt s1 d.2.1) with
        | some (ss, st') => if drawOk ops ss then .ok (ofSt st', d.2.2) else .bad 60 []
        | none => .bad 61 []
      | none => .bad 62 []
  else seqAll P tab sg x ops (List.range ops.size) s ch

def evLoop2 (f : S2 → List Nat → Res (Ex × S2 × List Nat)) : Nat → S2 → List Nat → Res (Ex × S2 × List Nat)
  | 0, _, _ => .bad 70 []
  | j + 1, s, ch => (f s ch).bind fun q => match q.1 with
    | .normal => evLoop2 f j q.2.1 q.2.2
    | _ => .ok q

def evC (P : Program) (tab : List TypeId) (sg : List Summ) (lo : List LSumm) (x : Ctx) : Nat → Code → S2 → List Nat → Res (Ex × S2 × List Nat)
  | 0, _, _, _ => .bad 80 []
  | k + 1, c, s, ch =>
    match c with
    | .skip => .ok (.normal, s, ch)
    | .label _ => .ok (.normal, s, ch)
    | .ret => .ok (.ret, s, ch)
    | .exit id => .ok (.exit id, s, ch)
    | .region id ops draw => match evReg P tab sg x ops draw s ch with
      | .ok q => .ok (.normal, q)
      | .more n => .more n
      | .bad m l => .bad m (id :: l)
    | .seq a b => (evC P tab sg lo x k a s ch).bind fun q => match q.1 with
      | .normal => evC P tab sg lo x k b q.2.1 q.2.2
      | _ => .ok q
    | .cond c a b =>
      match evT s.tm c with
      | some (.bool (.lit v)) => evC P tab sg lo x k (if v then a else b) s ch
      | some (.bool sb) => (pick 2 ch).bind fun q =>
          evC P tab sg lo x k (if q.1 == 1 then a else b) ⟨s.tm, s.A, s.ob ++ [.tst sb (q.1 == 1)]⟩ q.2
      | _ => .bad 81 []
    | .block id a => (evC P tab sg lo x k a s ch).bind fun q => match q.1 with
      | .exit id' => if id' = id then .ok (.normal, q.2) else .ok q
      | _ => .ok q
    | .loop a =>
      match lo.find? fun L => firstReg a == some L.r with
      | some L =>
        if L.n0 = x.n0 ∧ L.ws = x.ws then
          (adaptSt x L.tm L.A s ch).bind fun q =>
            (if L.exits.length = 1 then Res.ok (0, q.2.2) else pick L.exits.length q.2.2).bind fun j =>
              match L.exits[j.1]? with
              | some e => .ok (e.1, ⟨(fillSt (L.out q.1).2 e.2.1 e.2.2).1, (fillSt (L.out q.1).2 e.2.1 e.2.2).2, q.2.1 ++ (preOb (L.pre q.1) ++ [.tst (.lf ((L.out q.1).1 == j.1)) true])⟩, j.2)
              | none => .bad 82 []
        else .bad 83 []
      | none => evLoop2 (evC P tab sg lo x k a) k s ch
    | .scope a => evC P tab sg lo x k a s ch
    | _ => .bad 84 []

theorem Res.bind_ok {α β : Type} {r : Res α} {f : α → Res β} {b : β} (h : r.bind f = .ok b) : ∃ a, r = .ok a ∧ f a = .ok b := by
  cases r with
  | ok a => exact ⟨a, rfl, h⟩
  | more n => cases h
  | bad m l => cases h

section
variable {P : Program} {tab : List TypeId} {sg : List Summ} {lo : List LSumm} {x : Ctx}

theorem CodeOk.mono {c : Code} {n0 : Nat} {ws : List Nat} {tm tm' : Tm L0} {A A' : AH L0} {e : Ex} (h : CodeOk P c n0 ws tm A e tm' A') {ρ0 : Rho} {fps0 : Fps} {w0 : World} {ρ : Rho} {fps : Fps} {w : World} {a : Act} {Q : Exit → Act → World → Prop}
    (hs : SR tm A ρ fps w a) (ht : Tr n0 ws ρ0 fps0 w0 ρ fps w) (hq : ∀ ρ' fps' w' a', SR tm' A' ρ' fps' w' a' → Tr n0 ws ρ0 fps0 w0 ρ' fps' w' → Q e.to a' w') : c.wp P Q a w :=
  h ρ0 fps0 w0 ρ fps w a Q hs ht hq

theorem adaptSt_ok [ObjsOk] (hg : GlueOk) (hws : ∀ i, i ∈ x.ws → i < x.n0) {tmP : TmP} {AP : List (ABlock LU)} {s : S2} {ch ch' : List Nat} {ls : Ls} {ob : List (Ob L0)} (h : adaptSt x tmP AP s ch = .ok (ls, ob, ch')) :
    (∀ q, q ∈ s.ob → q ∈ ob) ∧ ((∀ q, q ∈ ob → Holds P q) → ∀ {ρ0 : Rho} {fps0 : Fps} {w0 : World} {ρ : Rho} {fps : Fps} {w : World} {a : Act}, SR s.tm s.A ρ fps w a → Tr x.n0 x.ws ρ0 fps0 w0 ρ fps w →
      ∃ ρ' fps', SR (fillSt ls tmP AP).1 (fillSt ls tmP AP).2 ρ' fps' w a ∧ Tr x.n0 x.ws ρ0 fps0 w0 ρ' fps' w) := by
  unfold adaptSt at h
  obtain ⟨p, _, h⟩ := Res.bind_ok h
  split at h
  case h_2 => cases h
  rename_i s1 h1
  split at h
  case h_2 => cases h
  rename_i tm2 A2 h2
  split at h
  case h_2 => cases h
  rename_i ls' h3
  cases h
  obtain ⟨m1, g1⟩ := execCs_ok (P := P) hg h1
  refine ⟨m1, fun hob ρ0 fps0 w0 ρ fps w a hs ht => ?_⟩
  obtain ⟨ρ1, fps1, hs1, ht1⟩ := g1 hob hs ht
  obtain ⟨ρ2, fps2, hs2, ht2⟩ := keepSt_ok h2 hs1 ht1 hws
  exact ⟨ρ2, fps2, hs2.take h3, ht2⟩

theorem seqOp_ok [ObjsOk] (hg : GlueOk) (het : EqTab P tab) (hsg : ∀ s, s ∈ sg → s.Ok P) {ops : Array Oper} {i : Nat} : ∀ {k : Nat} {s s' : S2} {ch ch' : List Nat}, seqOp P tab sg x ops i k s ch = .ok (s', ch') → (∀ q, q ∈ s'.ob → Holds P q) →
    (∀ {ρ0 : Rho} {fps0 : Fps} {w0 : World} {Q : Exit → Act → World → Prop} {K : Act → World → Prop} (_ : ∀ ρ' fps' w' a', SR s'.tm s'.A ρ' fps' w' a' → Tr x.n0 x.ws ρ0 fps0 w0 ρ' fps' w' → K a' w')
      {ρ : Rho} {fps : Fps} {w : World} {a : Act}, SR s.tm s.A ρ fps w a → Tr x.n0 x.ws ρ0 fps0 w0 ρ fps w → wpOp P ops Q i K a w) ∧ ∀ q, q ∈ s.ob → q ∈ s'.ob := by
  intro k
  induction k with
  | zero => intro s s' ch ch' h; simp [seqOp] at h
  | succ k ih =>
    intro s s' ch ch' h hob
    simp only [seqOp] at h
    obtain ⟨hh, _, h⟩ := Res.bind_ok h
    split at h
    · rename_i step st1 h1
      cases h
      obtain ⟨hso, m1⟩ := opStep_ok (Iso := restOf P) het hsg h1 hob
      exact ⟨fun hK ρ fps w a hs ht => hso.wp hs ht hK, m1⟩
    · obtain ⟨p, _, h⟩ := Res.bind_ok h
      split at h
      case h_2 => cases h
      rename_i s1 h1
      split at h
      · cases h
      · obtain ⟨g2, m2⟩ := ih h hob
        obtain ⟨m1, g1⟩ := execCs_ok (P := P) hg h1
        refine ⟨fun hK ρ fps w a hs ht => ?_, fun q hq => m2 q (m1 q hq)⟩
        obtain ⟨ρ1, fps1, hs1, ht1⟩ := g1 (fun q hq => hob q (m2 q hq)) hs ht
        exact g2 hK hs1 ht1

theorem seqAll_ok [ObjsOk] (hg : GlueOk) (het : EqTab P tab) (hsg : ∀ s, s ∈ sg → s.Ok P) {ops : Array Oper} : ∀ {is : List Nat} {s s' : S2} {ch ch' : List Nat}, seqAll P tab sg x ops is s ch = .ok (s', ch') → (∀ q, q ∈ s'.ob → Holds P q) →
    (∀ {ρ0 : Rho} {fps0 : Fps} {w0 : World} {Q : Exit → Act → World → Prop} (_ : ∀ ρ' fps' w' a', SR s'.tm s'.A ρ' fps' w' a' → Tr x.n0 x.ws ρ0 fps0 w0 ρ' fps' w' → Q .normal a' w')
      {ρ : Rho} {fps : Fps} {w : World} {a : Act}, SR s.tm s.A ρ fps w a → Tr x.n0 x.ws ρ0 fps0 w0 ρ fps w → wpOps P ops Q is a w) ∧ ∀ q, q ∈ s.ob → q ∈ s'.ob := by
  intro is
  induction is with
  | nil =>
    intro s s' ch ch' h hob
    simp only [seqAll, Res.ok.injEq, Prod.mk.injEq] at h
    obtain ⟨rfl, rfl⟩ := h
    exact ⟨by intro ρ0 fps0 w0 Q hK ρ fps w a hs ht; simp only [wpOps]; exact hK ρ fps w a hs ht, fun _ h => h⟩
  | cons i r ih =>
    intro s s' ch ch' h hob
    simp only [seqAll] at h
    obtain ⟨⟨s1, ch1⟩, h1, h2⟩ := Res.bind_ok h
    obtain ⟨g2, m2⟩ := ih h2 hob
    obtain ⟨g1, m1⟩ := seqOp_ok hg het hsg h1 fun q hq => hob q (m2 q hq)
    refine ⟨?_, fun q hq => m2 q (m1 q hq)⟩
    intro ρ0 fps0 w0 Q hK ρ fps w a hs ht
    rw [wpOps_cons]
    exact g1 (fun ρ' fps' w' a' hs' ht' => g2 hK hs' ht') hs ht

theorem evReg_ok [ObjsOk] (hg : GlueOk) (het : EqTab P tab) (hsg : ∀ s, s ∈ sg → s.Ok P) (hmix : P.follows .mixedOrders = true) {id : Nat} {ops : Array Oper} {draw : Bool} {s s' : S2} {ch ch' : List Nat}
    (h : evReg P tab sg x ops draw s ch = .ok (s', ch')) (hob : ∀ q, q ∈ s'.ob → Holds P q) :
    CodeOk P (.region id ops draw) x.n0 x.ws s.tm s.A .normal s'.tm s'.A ∧ ∀ q, q ∈ s.ob → q ∈ s'.ob := by
  unfold evReg at h
  cases draw with
  | false =>
    simp only [Bool.false_eq_true, if_false] at h
    obtain ⟨g, m⟩ := seqAll_ok hg het hsg h hob
    exact ⟨fun ρ0 fps0 w0 ρ fps w a Q hs ht hq => wp_region (g hq hs ht), m⟩
  | true =>
    simp only [if_true] at h
    obtain ⟨d, _, h⟩ := Res.bind_ok h
    split at h
    case h_2 => cases h
    rename_i s1 h1
    split at h
    case h_2 => cases h
    rename_i ss st' hr
    split at h
    case isFalse => cases h
    rename_i hdraw
    cases h
    obtain ⟨hch, hmem⟩ := runOps_chain (Iso := restOf P) het hsg hr hob
    obtain ⟨m1, g1⟩ := execCs_ok (P := P) hg h1
    refine ⟨fun ρ0 fps0 w0 ρ fps w a Q hs ht hq => ?_, fun q hq => hmem q (m1 q hq)⟩
    obtain ⟨ρ1, fps1, hs1, ht1⟩ := g1 (fun q hq => hob q (hmem q hq)) hs ht
    refine wp_region_any hmix (any_all (ρ := ρ1) (fps := fps1) hch hdraw hs1.tcl hs1.acl hq ops.size (Array.replicate ops.size false) (by simp) ?_ ?_ ?_)
    · exact Nat.le_trans (List.countP_le_length) (by simp)
    · intro j o _ hj
      exfalso
      simp only [Array.getD_eq_getD_getElem?, Array.getElem?_replicate] at hj
      split at hj <;> simp at hj
    · have hf : ss.filter (fun s => (Array.replicate ops.size false).getD s.i false) = [] := by
        rw [List.filter_eq_nil_iff]
        intro s _
        simp only [Array.getD_eq_getD_getElem?, Array.getElem?_replicate]
        split <;> simp
      have hfr : Fr (fun _ => False) w { w with drawn := w.drawn + 1 } := ⟨rfl, rfl, rfl, Nat.le_refl _, fun _ _ _ => rfl⟩
      refine ⟨hs1.sz, fun t v _ hv => ?_, ?_, ?_, hs1.nd⟩
      · rw [hf] at hv
        exact hs1.tmps t v (getD_some hv)
      · have : (fun i => lastW (wrH i) (getH s1.A i) (ss.filter fun s => (Array.replicate ops.size false).getD s.i false)) = getH s1.A := by
          funext i; rw [hf]; rfl
        show HS (fun i => lastW (wrH i) (getH s1.A i) (ss.filter fun s => (Array.replicate ops.size false).getD s.i false)) ρ1 fps1 _
        rw [this]
        exact hs1.hs.frame hfr
      · exact ⟨ht1.rho, ht1.fr.trans hfr (fun _ _ hf => hf.elim), ht1.same, ht1.from_⟩

theorem evC_ok [ObjsOk] (hg : GlueOk) (het : EqTab P tab) (hsg : ∀ s, s ∈ sg → s.Ok P) (hmix : P.follows .mixedOrders = true) (hws : ∀ i, i ∈ x.ws → i < x.n0) : ∀ (k : Nat) {c : Code} {s s' : S2} {ch ch' : List Nat} {e : Ex},
    (∀ L, L ∈ lo → ∀ b, b ∈ loopsOf c → firstReg b = some L.r → L.Ok P b) →
    evC P tab sg lo x k c s ch = .ok (e, s', ch') → (∀ q, q ∈ s'.ob → Holds P q) → CodeOk P c x.n0 x.ws s.tm s.A e s'.tm s'.A ∧ ∀ q, q ∈ s.ob → q ∈ s'.ob := by
  intro k
  induction k with
  | zero => intro c s s' ch ch' e _ h; simp [evC] at h
  | succ k ih =>
    intro c s s' ch ch' e hlo h hob
    cases c with
    | skip => simp only [evC, Res.ok.injEq, Prod.mk.injEq] at h; obtain ⟨rfl, rfl, _⟩ := h; exact ⟨fun ρ0 fps0 w0 ρ fps w a Q hs ht hq => wp_skip (hq ρ fps w a hs ht), fun _ h => h⟩
    | label l => simp only [evC, Res.ok.injEq, Prod.mk.injEq] at h; obtain ⟨rfl, rfl, _⟩ := h; exact ⟨fun ρ0 fps0 w0 ρ fps w a Q hs ht hq => wp_label (hq ρ fps w a hs ht), fun _ h => h⟩
    | ret => simp only [evC, Res.ok.injEq, Prod.mk.injEq] at h; obtain ⟨rfl, rfl, _⟩ := h; exact ⟨fun ρ0 fps0 w0 ρ fps w a Q hs ht hq => wp_ret (hq ρ fps w a hs ht), fun _ h => h⟩
    | exit id => simp only [evC, Res.ok.injEq, Prod.mk.injEq] at h; obtain ⟨rfl, rfl, _⟩ := h; exact ⟨fun ρ0 fps0 w0 ρ fps w a Q hs ht hq => wp_exit (hq ρ fps w a hs ht), fun _ h => h⟩
    | region rid ops draw =>
      simp only [evC] at h
      split at h
      · rename_i q hq
        simp only [Res.ok.injEq, Prod.mk.injEq] at h
        obtain ⟨rfl, h⟩ := h
        subst h
        exact evReg_ok hg het hsg hmix hq hob
      · cases h
      · cases h
    | seq a b =>
      simp only [evC] at h
      obtain ⟨⟨e1, s1, ch1⟩, h1, h2⟩ := Res.bind_ok h
      simp only at h2
      split at h2
      · obtain ⟨g2, m2⟩ := ih (fun L hL b' hb' => hlo L hL b' (by simp [loopsOf, hb'])) h2 hob
        obtain ⟨g1, m1⟩ := ih (fun L hL b' hb' => hlo L hL b' (by simp [loopsOf, hb'])) h1 fun q hq => hob q (m2 q hq)
        refine ⟨fun ρ0 fps0 w0 ρ fps w a Q hs ht hq => wp_seq (g1.mono hs ht fun ρ' fps' w' a' hs' ht' => ?_), fun q hq => m2 q (m1 q hq)⟩
        exact g2.mono hs' ht' hq
      · rename_i hne
        simp only [Res.ok.injEq, Prod.mk.injEq] at h2
        obtain ⟨rfl, rfl, _⟩ := h2
        obtain ⟨g1, m1⟩ := ih (fun L hL b' hb' => hlo L hL b' (by simp [loopsOf, hb'])) h1 hob
        refine ⟨fun ρ0 fps0 w0 ρ fps w a Q hs ht hq => wp_seq (g1.mono hs ht fun ρ' fps' w' a' hs' ht' => ?_), m1⟩
        cases e1 with
        | normal => exact absurd rfl hne
        | exit id => exact hq ρ' fps' w' a' hs' ht'
        | ret => exact hq ρ' fps' w' a' hs' ht'
    | cond c a b =>
      simp only [evC] at h
      split at h
      · rename_i v hc
        obtain ⟨g1, m1⟩ := ih (fun L hL b' hb' => hlo L hL b' (by simp only [loopsOf, List.mem_append]; cases v <;> simp_all)) h hob
        refine ⟨fun ρ0 fps0 w0 ρ fps w a Q hs ht hq => ?_, m1⟩
        exact wp_cond (t := v) (by rw [evT_eval hs hc]; simp [toV, denB]) (g1.mono hs ht hq)
      · rename_i sb _ hc
        obtain ⟨q, _, h⟩ := Res.bind_ok h
        obtain ⟨g1, m1⟩ := ih (fun L hL b' hb' => hlo L hL b' (by simp only [loopsOf, List.mem_append]; split at hb' <;> simp [hb'])) h hob
        have hb : denB sb = (q.1 == 1) := hob (.tst sb _) (m1 _ (by simp))
        refine ⟨fun ρ0 fps0 w0 ρ fps w a Q hs ht hq' => ?_, fun q' hq' => m1 q' (by simp [hq'])⟩
        exact wp_cond (t := q.1 == 1) (by rw [evT_eval hs hc]; simp [toV, hb]) (g1.mono hs ht hq')
      · cases h
    | block id a =>
      simp only [evC] at h
      obtain ⟨⟨e1, s1, ch1⟩, h1, h2⟩ := Res.bind_ok h
      have hst : s' = s1 := by
        simp only at h2
        split at h2
        · split at h2 <;> (simp only [Res.ok.injEq, Prod.mk.injEq] at h2; exact h2.2.1.symm)
        · simp only [Res.ok.injEq, Prod.mk.injEq] at h2; exact h2.2.1.symm
      subst hst
      obtain ⟨g1, m1⟩ := ih (fun L hL b' hb' => hlo L hL b' (by simp [loopsOf, hb'])) h1 hob
      refine ⟨fun ρ0 fps0 w0 ρ fps w a Q hs ht hq => wp_block (g1.mono hs ht fun ρ' fps' w' a' hs' ht' => ?_), m1⟩
      simp only at h2
      split at h2
      · rename_i id'
        split at h2
        · rename_i hid
          simp only [Res.ok.injEq, Prod.mk.injEq] at h2
          obtain ⟨rfl, _⟩ := h2
          simp only [Ex.to, Exit.inBlock, if_pos hid]
          exact hq ρ' fps' w' a' hs' ht'
        · rename_i hid
          simp only [Res.ok.injEq, Prod.mk.injEq] at h2
          obtain ⟨rfl, _⟩ := h2
          simp only [Ex.to, Exit.inBlock, if_neg hid]
          exact hq ρ' fps' w' a' hs' ht'
      · rename_i hne
        simp only [Res.ok.injEq, Prod.mk.injEq] at h2
        obtain ⟨rfl, _⟩ := h2
        cases e1 with
        | normal => exact hq ρ' fps' w' a' hs' ht'
        | exit id' => exact absurd rfl (hne id')
        | ret => exact hq ρ' fps' w' a' hs' ht'
    | loop a =>
      simp only [evC] at h
      split at h
      · rename_i L hL
        have hLm := List.mem_of_find?_eq_some hL
        have hLr : firstReg a = some L.r := by have := List.find?_some hL; simpa using this
        have hok := hlo L hLm a (by simp [loopsOf]) hLr
        split at h
        case isFalse => cases h
        rename_i hnw
        obtain ⟨⟨ls, ob, ch1⟩, h1, h⟩ := Res.bind_ok h
        obtain ⟨j, _, h⟩ := Res.bind_ok h
        split at h
        case h_2 => cases h
        rename_i e0 he0
        simp only [Res.ok.injEq, Prod.mk.injEq] at h
        obtain ⟨rfl, rfl, _⟩ := h
        obtain ⟨m1, g1⟩ := adaptSt_ok (P := P) hg hws h1
        refine ⟨fun ρ0 fps0 w0 ρ fps w a' Q hs ht hq => ?_, fun q hq => by simp [m1 q hq]⟩
        obtain ⟨ρ1, fps1, hs1, ht1⟩ := g1 (fun q hq => hob q (by simp [hq])) hs ht
        have hpre : ∀ b, b ∈ L.pre ls → b = true := by
          intro b hb
          have := hob (.tst (.lf b) true) (by simp only [List.mem_append]; exact .inr (.inl (by simp only [preOb]; exact List.mem_map.2 ⟨b, hb, rfl⟩)))
          simpa [Holds, Obs, denB] using this
        have hj : (L.out ls).1 = j.1 := by
          have := hob (.tst (.lf ((L.out ls).1 == j.1)) true) (by simp)
          simpa [Holds, Obs, denB] using this
        have hcode := hok ls hpre e0 (by rw [hj]; exact he0)
        rw [hnw.1, hnw.2] at hcode
        exact hcode.mono hs1 ht1 hq
      · have key : ∀ (j : Nat) {s s' : S2} {ch ch' : List Nat} {e : Ex}, evLoop2 (evC P tab sg lo x k a) j s ch = .ok (e, s', ch') → (∀ q, q ∈ s'.ob → Holds P q) →
            (∀ {ρ0 : Rho} {fps0 : Fps} {w0 : World} {ρ : Rho} {fps : Fps} {w : World} {a' : Act} {Q : Exit → Act → World → Prop}, SR s.tm s.A ρ fps w a' → Tr x.n0 x.ws ρ0 fps0 w0 ρ fps w →
              (∀ ρ' fps' w' a', SR s'.tm s'.A ρ' fps' w' a' → Tr x.n0 x.ws ρ0 fps0 w0 ρ' fps' w' → Q e.to a' w') → Code.rounds P a Q j a' w) ∧ e ≠ .normal ∧ ∀ q, q ∈ s.ob → q ∈ s'.ob := by
          intro j
          induction j with
          | zero => intro s s' ch ch' e h; simp [evLoop2] at h
          | succ j ihj =>
            intro s s' ch ch' e h hob
            simp only [evLoop2] at h
            obtain ⟨⟨e1, s1, ch1⟩, h1, h2⟩ := Res.bind_ok h
            simp only at h2
            split at h2
            · obtain ⟨g2, e2, m2⟩ := ihj h2 hob
              obtain ⟨g1, m1⟩ := ih (fun L hL b' hb' => hlo L hL b' (by simp [loopsOf, hb'])) h1 fun q hq => hob q (m2 q hq)
              refine ⟨fun hs ht hq => ?_, e2, fun q hq => m2 q (m1 q hq)⟩
              exact g1.mono hs ht fun ρ' fps' w' a' hs' ht' => g2 hs' ht' hq
            · rename_i hne
              simp only [Res.ok.injEq, Prod.mk.injEq] at h2
              obtain ⟨rfl, rfl, _⟩ := h2
              obtain ⟨g1, m1⟩ := ih (fun L hL b' hb' => hlo L hL b' (by simp [loopsOf, hb'])) h1 hob
              refine ⟨fun hs ht hq => ?_, hne, m1⟩
              refine g1.mono hs ht fun ρ' fps' w' a' hs' ht' => ?_
              have := hq ρ' fps' w' a' hs' ht'
              cases e1 with
              | normal => exact absurd rfl hne
              | exit id => exact this
              | ret => exact this
        obtain ⟨g, _, m⟩ := key k h hob
        exact ⟨fun ρ0 fps0 w0 ρ fps w a Q hs ht hq => wp_loop_rounds k (g hs ht hq), m⟩
    | scope a =>
      simp only [evC] at h
      obtain ⟨g1, m1⟩ := ih (fun L hL b' hb' => hlo L hL b' (by simp [loopsOf, hb'])) h hob
      refine ⟨fun ρ0 fps0 w0 ρ fps w a Q hs ht hq => wp_scope_straight (g1.mono hs ht fun ρ' fps' w' a' hs' ht' => ?_), m1⟩
      have := hq ρ' fps' w' a' hs' ht'
      cases e <;> exact this
    | rangeFunc f ps as b => simp [evC] at h
    | goto l => simp [evC] at h
    | refuse w => simp [evC] at h

end
end Go.Fl
