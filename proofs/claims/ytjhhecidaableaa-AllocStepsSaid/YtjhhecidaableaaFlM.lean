/- One operation of a region, and regions in their text's order, on symbolic values. Conditions: none. -/
import Derived.Test.YtjhhecidaableaaFlW
set_option linter.unusedSimpArgs false
set_option linter.unusedVariables false
set_option linter.unusedSectionVars false
namespace Go.Fl
open Go Go.RowKit
variable [Objs]

inductive Hint (L : Lf) : Type
  | br (o : Bool)
  | fix (t : Nat) (m : Int)
  | call (ids : List Nat) (v : AV L) (ws : List Nat) (H' : List (ABlock L))
  | unf (id : Nat) (bs : List (ABlock L))
  | fold (ids : List Nat) (o : L.O)
  | drop (ts : List Nat)
  | code (k : Nat) (e : Ex) (tm' : Tm L) (A' : AH L)
  | keep (ks : List Nat)
  | atop (i : Nat)

structure St (L : Lf) where
  tm : Tm L
  A : AH L
  hs : List (Hint L)
  ob : List (Ob L)

def noH {L : Lf} (hs : List (Hint L)) (r : Option (PR L)) : Option (PR L × List (Hint L)) := r.map fun r => (r, hs)

def fselA : Option (FuncId × Option Nat) → AV L0
  | none => .nilf
  | some (f, none) => .func f [] []
  | some (f, some id) => .func f [.ptr id 0 (.lit 0) 0] []

def isEql : BinOp → Bool
  | .eql => true
  | _ => false

def litRes (b : Bool) : PR L0 → Bool
  | ⟨.bool (.lit c), [], [], [], [], []⟩ => b == c
  | _ => false

/-- A function value told by a number, held against nil. -/
def prNilF (P : Program) (tab : List TypeId) (tm : Tm L0) (op : BinOp) (t : TypeId) (x y : Operand) : Option (PR L0) :=
  match x, y with
  | .tmp u, .const .nilFunc =>
    match tm.getD u none with
    | some (.fsel e fs) =>
      if (none :: fs).all (fun alt => match prBin P tab (tm.set u (some (fselA alt))) op t x y with
          | some r => litRes (isEql op == alt.isNone) r
          | none => false) then
        some { val := .bool (if isEql op then .lf (fs.getD (denI e).toNat none).isNone else .not (.lf (fs.getD (denI e).toNat none).isNone)) }
      else none
    | _ => none
  | _, _ => none

def prim (P : Program) (tab : List TypeId) (sg : List Summ) (tm : Tm L0) (A : AH L0) (o : Oper) (hs : List (Hint L0)) : Option (PR L0 × List (Hint L0)) :=
  match o.op with
  | .move x => noH hs (prMove tm x)
  | .assign x => noH hs (prMove tm x)
  | .pick c x y => noH hs (prPick tm c x y)
  | .alloc t => noH hs (prAlloc P A t)
  | .box t x => noH hs (prBox' tm A t x)
  | .build t ps => noH hs (prBuild P tm t ps.toList)
  | .buildSlice t n ps => noH hs (prBuildSlice P tm A t n ps.toList)
  | .load t x => noH hs (prLoad P tm A t x)
  | .store t x y => noH hs (prStore P tm A t x y)
  | .nilCheck x => noH hs (prNil tm x)
  | .binOp op t x y _ => match prNilF P tab tm op t x y with
    | some r => noH hs (some r)
    | none => noH hs (prBin P tab tm op t x y)
  | .unOp op _ x => noH hs (prUn tm op x)
  | .convert s d x => noH hs (prConv P tm s d x)
  | .makeFunc fn a b => noH hs (prMakeFunc tm fn a.toList b.toList)
  | .makeSlice t l c => noH hs (prMakeSlice P tm A t l c)
  | .slice t x l h m => noH hs (prSlice P tm A t x l h m)
  | .fieldAddr s x f => noH hs (prFieldAddr P tm s x f)
  | .field s x f => noH hs (prField P tm s x f)
  | .indexAddr t x i => noH hs (prIndexAddr P tm t x i)
  | .index t x i => noH hs (prIndex P tm t x i)
  | .extract x i => noH hs (prExtract tm x i)
  | .call c =>
    match c.callee with
    | .builtin .len => match c.args.toList, c.argTypes.toList with
      | [x], [t] => noH hs (prLen P tm t x)
      | _, _ => none
    | .builtin .max => match c.args.toList with
      | [x, y] => noH hs (prMax tm x y)
      | _ => none
    | .builtin .append => match c.args.toList, c.argTypes.toList with
      | [x, y], [t, t'] => if t = t' then noH hs (prAppend P tm A t x y) else none
      | _, _ => none
    | .value fo =>
      match evT tm fo, evList tm c.args.toList with
      | some (.func f first caps), some as => noH hs (prCallS sg A f (first ++ as ++ caps))
      | _, _ => none
    | _ => none
  | _ => none

section
variable {P : Program} {Iso : ObRest}

theorem arr_of_list {α : Type} {a : Array α} {l : List α} (h : a.toList = l) : a = l.toArray := by
  rw [← h]

theorem fselA_toV (ρ : Rho) (x : Option (FuncId × Option Nat)) : toV ρ (fselA x) = fselV ρ x := by
  rcases x with _ | ⟨f, _ | id⟩
  · rfl
  · simp [fselA, fselV, toV, toVs]
  · simp [fselA, fselV, toV, toVs, addrOf]

theorem litRes_ok {b : Bool} {r : PR L0} (h : litRes b r = true) : r = { val := .bool (.lit b) } := by
  unfold litRes at h
  split at h
  · simp only [beq_iff_eq] at h; subst h; rfl
  · cases h

theorem prNilF_ok {tab : List TypeId} (ht : EqTab P tab) {tm : Tm L0} {A : AH L0} {o : Oper} {op : BinOp} {t t' : TypeId} {x y : Operand} {r : PR L0} (ho : o.op = .binOp op t x y t')
    (h : prNilF P tab tm op t x y = some r) : OpOk P o (evT tm) (getH A) r := by
  unfold prNilF at h
  split at h
  case h_2 => cases h
  rename_i u
  split at h
  case h_2 => cases h
  rename_i e fs hu
  split at h
  case isFalse => cases h
  rename_i hall
  cases h
  have hmem : fs.getD (denI e).toNat none ∈ none :: fs := by
    simp only [List.getD]
    cases hq : fs[(denI e).toNat]? with
    | none => simp
    | some z => simp only [Option.getD_some]; exact List.mem_cons_of_mem _ (List.mem_of_getElem? hq)
  generalize halt : fs.getD (denI e).toNat none = alt at hmem ⊢
  have h1 := List.all_eq_true.1 hall alt hmem
  split at h1
  case h_2 => cases h1
  rename_i r1 hr1
  have hr2 := litRes_ok h1
  subst hr2
  have hop := prBin_ok (Ctr := Contract P) (Iso := ⟨fun _ _ => True, fun _ _ _ _ _ _ _ _ => True⟩) ht ho hr1 (fun q hq => by cases hq) (A := A)
  intro ρ fps w a next Q B hev hH hB hg hid hn
  refine hop ρ fps w a next Q B (fun z v hz hv => ?_) hH (fun i hi => by cases hi) (fun i hi => by cases hi) (fun i n hn => by cases hn) fun ρ' fps' w' hp => ?_
  · cases z with
    | tmp q =>
      by_cases hq : q = u
      · subst hq
        have h0 := hev (.tmp q) (.fsel e fs) hz (by simp only [evT]; exact hu)
        have hl : q < tm.length := by
          rcases Nat.lt_or_ge q tm.length with h2 | h2
          · exact h2
          · rw [List.getD, List.getElem?_eq_none h2] at hu; simp at hu
        simp only [evT, List.getD, List.getElem?_set_self hl, Option.getD_some, Option.some.injEq] at hv
        subst hv
        rw [h0, fselA_toV]
        simp only [toV, halt]
      · refine hev (.tmp q) v hz ?_
        simp only [evT, List.getD] at hv ⊢
        rw [List.getElem?_set_ne (fun e => hq e.symm)] at hv
        exact hv
    | const c => exact hev (.const c) v hz hv
    | global g => exact hev (.global g) v hz hv
    | func f => exact hev (.func f) v hz hv
  · have hv : toV ρ' (.bool (if isEql op then .lf alt.isNone else .not (.lf alt.isNone)) : AV L0) = toV ρ' (.bool (.lit (isEql op == alt.isNone))) := by
      cases isEql op <;> cases alt.isNone <;> rfl
    have := hn ρ' fps' w' ⟨hp.rho, hp.hs, hp.fr, hp.same, hp.from_⟩
    rw [hv] at this
    exact this

theorem prim_ok {tab : List TypeId} (ht : EqTab P tab) {sg : List Summ} (hsg : ∀ s, s ∈ sg → s.Ok P) {tm : Tm L0} {A : AH L0} {o : Oper} {hs hs' : List (Hint L0)} {r : PR L0}
    (h : prim P tab sg tm A o hs = some (r, hs')) (hob : ∀ q, q ∈ r.ob → Obs (Contract P) Iso q) : OpOk P o (evT tm) (getH A) r := by
  have noH_eq : ∀ {x : Option (PR L0)} {hs : List (Hint L0)}, noH hs x = some (r, hs') → x = some r := by
    intro x hs hx
    unfold noH at hx
    cases x with
    | none => simp at hx
    | some y => simp at hx; rw [hx.1]
  unfold prim at h
  split at h
  · rename_i ho; exact prMove_ok (.inl ho) (noH_eq h)
  · rename_i ho; exact prMove_ok (.inr ho) (noH_eq h)
  · rename_i ho; exact prPick_ok ho (noH_eq h)
  · rename_i ho; exact prAlloc_ok ho (noH_eq h)
  · rename_i ho; exact prBox_ok ho (noH_eq h)
  · rename_i ho; exact prBuild_ok ho (noH_eq h)
  · rename_i ho; exact prBuildSlice_ok ho (noH_eq h)
  · rename_i ho; exact prLoad_ok ho (noH_eq h) hob
  · rename_i ho; exact prStore_ok ho (noH_eq h) hob
  · rename_i ho; exact prNil_ok ho (noH_eq h)
  · rename_i ho
    split at h
    · rename_i r' hr
      have := noH_eq h
      simp only [Option.some.injEq] at this
      subst this
      exact prNilF_ok ht ho hr
    · exact prBin_ok ht ho (noH_eq h) hob
  · rename_i ho; exact prUn_ok ho (noH_eq h)
  · rename_i ho; exact prConv_ok ho (noH_eq h)
  · rename_i ho; exact prMakeFunc_ok ho (noH_eq h)
  · rename_i ho; exact prMakeSlice_ok ho (noH_eq h) hob
  · rename_i ho; exact prSlice_ok ho (noH_eq h) hob
  · rename_i ho; exact prFieldAddr_ok ho (noH_eq h)
  · rename_i ho; exact prField_ok ho (noH_eq h)
  · rename_i ho; exact prIndexAddr_ok ho (noH_eq h) hob
  · rename_i ho; exact prIndex_ok ho (noH_eq h)
  · rename_i ho; exact prExtract_ok ho (noH_eq h)
  · rename_i c ho
    obtain ⟨callee, args, argTypes⟩ := c
    simp only at h
    split at h
    · split at h
      case h_2 => cases h
      rename_i x t h1 h2
      obtain rfl := arr_of_list h1
      obtain rfl := arr_of_list h2
      exact prLen_ok ho (noH_eq h) hob
    · split at h
      case h_2 => cases h
      rename_i x y h1
      obtain rfl := arr_of_list h1
      exact prMax_ok ho (noH_eq h)
    · split at h
      case h_2 => cases h
      rename_i x y t t' h1 h2
      split at h
      case isFalse => cases h
      rename_i htt
      subst htt
      obtain rfl := arr_of_list h1
      obtain rfl := arr_of_list h2
      exact prAppend_ok ho (noH_eq h) hob
    · rename_i fo
      split at h
      case h_2 => cases h
      rename_i f first caps as hf has
      exact prCallS_ok hsg ho rfl hf has (noH_eq h) hob
    · cases h
  · cases h

/-! ### The state -/

structure SR (tm : Tm L0) (A : AH L0) (ρ : Rho) (fps : Fps) (w : World) (a : Act) : Prop where
  sz : a.tmps.size = tm.length
  tmps : ∀ (t : Nat) (v : AV L0), tm[t]? = some (some v) → a.tmps[t]? = some (toV ρ v)
  tcl : ∀ (t : Nat) (v : AV L0), tm[t]? = some (some v) → ∀ i, i ∈ v.ids → i < A.length
  hs : HS (getH A) ρ fps w
  acl : ∀ i j, j ∈ (getH A i).ids → j < A.length
  nd : a.defers = []

/-- What a function has done of the world so far: it began at w0, where it was handed n0 objects; it may write those in ws. -/
structure Tr (n0 : Nat) (ws : List Nat) (ρ0 : Rho) (fps0 : Fps) (w0 : World) (ρ : Rho) (fps : Fps) (w : World) : Prop where
  rho : ∀ i, i < n0 → ρ i = ρ0 i
  fr : Fr (fun b => ∃ i, i ∈ ws ∧ fps0 i b) w0 w
  same : ∀ i, i < n0 → i ∉ ws → ∀ b, fps i b ↔ fps0 i b
  from_ : ∀ i, i ∈ ws ∨ n0 ≤ i → ∀ b, fps i b → (∃ j, j ∈ ws ∧ fps0 j b) ∨ w0.heap.size ≤ b

theorem evT_eval {tm : Tm L0} {A : AH L0} {ρ : Rho} {fps : Fps} {w : World} {a : Act} (h : SR tm A ρ fps w a) {x : Operand} {v : AV L0} (hx : evT tm x = some v) : a.eval x = toV ρ v := by
  cases x with
  | tmp t =>
    have ht : tm[t]? = some (some v) := by
      simp only [evT, List.getD] at hx
      cases hq : tm[t]? with
      | none => simp [hq] at hx
      | some y => simp [hq] at hx; rw [hx]
    have := h.tmps t v ht
    simp [Act.eval, this]
  | const c => simp only [evT, Option.some.injEq] at hx; subst hx; simp [Act.eval, toV_ofConst]
  | global g => simp only [evT, Option.some.injEq] at hx; subst hx; simp [Act.eval, toV]
  | func f => simp only [evT, Option.some.injEq] at hx; subst hx; simp [Act.eval, toV, toVs]

def putT {L : Lf} (tm : Tm L) (d : Option Tmp) (v : AV L) : Tm L :=
  match d with
  | some d => tm.set d (some v)
  | none => tm

def setAll {L : Lf} (A : AH L) : List (Nat × ABlock L) → AH L
  | [] => A
  | (i, b) :: r => (setAll A r).set i b

def applyU {L : Lf} (A : AH L) (r : PR L) : AH L := setAll (A ++ List.replicate r.news.length .gone) r.upd

def stepOk {L : Lf} (n0 : Nat) (ws : List Nat) (A : AH L) (r : PR L) : Bool :=
  let N' := A.length + r.news.length
  decide (r.news = List.range' A.length r.news.length) && r.upd.all (fun p => (r.wr.contains p.1 || r.news.contains p.1) && idsInB (· < N') p.2) &&
  r.wr.all (fun i => decide (i < A.length) && (decide (n0 ≤ i) || ws.contains i)) && idsIn (· < N') r.val && decide (n0 ≤ A.length)

theorem length_setAll {L : Lf} (A : AH L) : ∀ l : List (Nat × ABlock L), (setAll A l).length = A.length
  | [] => rfl
  | (i, b) :: r => by simp [setAll, length_setAll A r]

theorem length_applyU {L : Lf} (A : AH L) (r : PR L) : (applyU A r).length = A.length + r.news.length := by
  simp [applyU, length_setAll]

theorem getH_setAll {A : AH L0} : ∀ {l : List (Nat × ABlock L0)}, (∀ p, p ∈ l → p.1 < A.length) → ∀ j, getH (setAll A l) j = updF (getH A) l j
  | [], _, j => rfl
  | (i, b) :: r, h, j => by
    have hi : i < (setAll A r).length := by rw [length_setAll]; exact h (i, b) (by simp)
    simp only [setAll, updF]
    rw [← getH_setAll (fun p hp => h p (by simp [hp])) j]
    unfold getH
    rw [List.getElem?_set]
    by_cases hj : i = j
    · subst hj; simp [hi]
    · rw [if_neg hj, if_neg (fun e => hj e.symm)]

theorem getH_append_gone {A : AH L0} {k : Nat} : getH (A ++ List.replicate k .gone) = getH A := by
  funext j
  unfold getH
  by_cases h : j < A.length
  · rw [List.getElem?_append_left h]
  · rw [List.getElem?_append_right (by omega), List.getElem?_eq_none (Nat.le_of_not_lt h)]
    by_cases h2 : j - A.length < k
    · simp [List.getElem?_replicate, h2]
    · simp [List.getElem?_replicate, h2]

structure StepOk (n0 : Nat) (ws : List Nat) (A : AH L0) (r : PR L0) : Prop where
  news : r.news = List.range' A.length r.news.length
  upd : ∀ p, p ∈ r.upd → (p.1 ∈ r.wr ∨ p.1 ∈ r.news) ∧ ∀ i, i ∈ p.2.ids → i < A.length + r.news.length
  wr : ∀ i, i ∈ r.wr → i < A.length ∧ (n0 ≤ i ∨ i ∈ ws)
  val : ∀ i, i ∈ r.val.ids → i < A.length + r.news.length
  n0 : n0 ≤ A.length

theorem stepOk_ok {n0 : Nat} {ws : List Nat} {A : AH L0} {r : PR L0} (h : stepOk n0 ws A r = true) : StepOk n0 ws A r := by
  unfold stepOk at h
  simp only [Bool.and_eq_true, decide_eq_true_eq, List.all_eq_true, Bool.or_eq_true, List.contains_iff_mem] at h
  obtain ⟨⟨⟨⟨h1, h2⟩, h3⟩, h4⟩, h5⟩ := h
  refine ⟨h1, fun p hp => ⟨(h2 p hp).1, fun i hi => ?_⟩, h3, fun i hi => ?_, h5⟩
  · have := List.all_eq_true.1 (h2 p hp).2 i hi
    simpa using this
  · have := List.all_eq_true.1 h4 i hi
    simpa using this

theorem getH_applyU {n0 : Nat} {ws : List Nat} {A : AH L0} {r : PR L0} (h : StepOk n0 ws A r) : getH (applyU A r) = updF (getH A) r.upd := by
  funext j
  unfold applyU
  rw [getH_setAll, getH_append_gone]
  intro p hp
  simp only [List.length_append, List.length_replicate]
  rcases (h.upd p hp).1 with hw | hn
  · have := (h.wr _ hw).1; omega
  · rw [h.news, List.mem_range'_1] at hn; omega

theorem updF_ids {H : AHF} {N : Nat} : ∀ {l : List (Nat × ABlock L0)}, (∀ i j, j ∈ (H i).ids → j < N) → (∀ p, p ∈ l → ∀ j, j ∈ p.2.ids → j < N) → ∀ i j, j ∈ (updF H l i).ids → j < N
  | [], h, _, i, j, hj => h i j hj
  | (k, b) :: r, h, hl, i, j, hj => by
    simp only [updF] at hj
    split at hj
    · exact hl (k, b) (by simp) j hj
    · exact updF_ids h (fun p hp => hl p (by simp [hp])) i j hj

theorem Tr.step {n0 : Nat} {ws : List Nat} {ρ0 : Rho} {fps0 : Fps} {w0 : World} {ρ : Rho} {fps : Fps} {w : World} (h : Tr n0 ws ρ0 fps0 w0 ρ fps w) {r : PR L0} {B : AHF} {ρ' : Rho} {fps' : Fps} {w' : World}
    (hp : Post r B ρ fps w ρ' fps' w') (hw : ∀ i, i ∈ r.wr → n0 ≤ i ∨ i ∈ ws) (hn : ∀ i, i ∈ r.news → n0 ≤ i) : Tr n0 ws ρ0 fps0 w0 ρ' fps' w' := by
  have hold : ∀ b, (∃ i, i ∈ r.wr ∧ fps i b) → (∃ j, j ∈ ws ∧ fps0 j b) ∨ w0.heap.size ≤ b := by
    rintro b ⟨i, hi, hb⟩
    exact h.from_ i (hw i hi).symm b hb
  refine ⟨fun i hi => ?_, ?_, fun i hi hiw b => ?_, fun i hi b hb => ?_⟩
  · rw [hp.rho i fun hc => by have := hn i hc; omega]; exact h.rho i hi
  · refine h.fr.trans hp.fr fun b hb hc => ?_
    rcases hold b hc with h1 | h1
    · exact h1
    · omega
  · have h1 : i ∉ r.wr := fun hc => by
      rcases hw i hc with h2 | h2
      · omega
      · exact hiw h2
    have h2 : i ∉ r.news := fun hc => by have := hn i hc; omega
    rw [hp.same i h1 h2 b]; exact h.same i hi hiw b
  · by_cases h1 : i ∈ r.wr ∨ i ∈ r.news
    · rcases hp.from_ i h1 b hb with h2 | h2
      · exact hold b h2
      · exact .inr (Nat.le_trans h.fr.size h2)
    · simp only [not_or] at h1
      rw [hp.same i h1.1 h1.2 b] at hb
      exact h.from_ i hi b hb

theorem putT_get {L : Lf} {tm : Tm L} {d : Option Tmp} {v : AV L} {t : Nat} {u : AV L} (h : (putT tm d v)[t]? = some (some u)) : (d = some t ∧ u = v ∧ t < tm.length) ∨ (d ≠ some t ∧ tm[t]? = some (some u)) := by
  cases d with
  | none => exact .inr ⟨by simp, h⟩
  | some d =>
    simp only [putT, List.getElem?_set] at h
    split at h
    · rename_i hd
      subst hd
      split at h
      · simp only [Option.some.injEq] at h; exact .inl ⟨rfl, h.symm, by assumption⟩
      · cases h
    · rename_i hd
      exact .inr ⟨by simpa using hd, h⟩

theorem put_at {a : Act} {d : Option Tmp} {v : Value} {t : Nat} : (d = some t → t < a.tmps.size → (a.put d v).tmps[t]? = some v) ∧ (d ≠ some t → (a.put d v).tmps[t]? = a.tmps[t]?) := by
  cases d with
  | none => exact ⟨fun h => by simp at h, fun _ => rfl⟩
  | some d =>
    refine ⟨fun h hl => ?_, fun h => ?_⟩
    · simp only [Option.some.injEq] at h; subst h
      simp [Act.put, hl]
    · simp only [ne_eq, Option.some.injEq] at h
      simp [Act.put, Array.getElem?_setIfInBounds, h]

theorem put_size {a : Act} {d : Option Tmp} {v : Value} : (a.put d v).tmps.size = a.tmps.size := by cases d <;> simp [Act.put]
theorem put_defers {a : Act} {d : Option Tmp} {v : Value} : (a.put d v).defers = a.defers := by cases d <;> rfl
theorem putT_length {L : Lf} {tm : Tm L} {d : Option Tmp} {v : AV L} : (putT tm d v).length = tm.length := by cases d <;> simp [putT]

theorem SR.step {n0 : Nat} {ws : List Nat} {tm : Tm L0} {A : AH L0} {ρ : Rho} {fps : Fps} {w : World} {a : Act} (h : SR tm A ρ fps w a) {r : PR L0} (hok : StepOk n0 ws A r) {ρ' : Rho} {fps' : Fps} {w' : World}
    (hp : Post r (getH A) ρ fps w ρ' fps' w') (d : Option Tmp) : SR (putT tm d r.val) (applyU A r) ρ' fps' w' (a.put d (toV ρ' r.val)) := by
  have hnews : ∀ i, i ∈ r.news → A.length ≤ i := fun i hi => by rw [hok.news, List.mem_range'_1] at hi; exact hi.1
  refine ⟨by rw [put_size, putT_length]; exact h.sz, fun t v hv => ?_, fun t v hv i hi => ?_, by rw [getH_applyU hok]; exact hp.hs, ?_, by rw [put_defers]; exact h.nd⟩
  · rcases putT_get hv with ⟨hd, rfl, hl⟩ | ⟨hd, hv⟩
    · exact put_at.1 hd (by rw [h.sz]; exact hl)
    · rw [put_at.2 hd, h.tmps t v hv]
      congr 1
      refine toV_congr v fun i hi => (hp.rho i fun hc => ?_).symm
      have := h.tcl t v hv i hi
      have := hnews i hc
      omega
  · rw [length_applyU]
    rcases putT_get hv with ⟨_, rfl, _⟩ | ⟨_, hv⟩
    · exact hok.val i hi
    · have := h.tcl t v hv i hi; omega
  · rw [getH_applyU hok, length_applyU]
    refine updF_ids (fun i j hj => ?_) fun p hp j hj => (hok.upd p hp).2 j hj
    have := h.acl i j hj; omega

/-- A temporary that nothing was put in since. -/
theorem SR.skip {tm : Tm L0} {A : AH L0} {ρ : Rho} {fps : Fps} {w : World} {a : Act} (h : SR tm A ρ fps w a) (d : Option Tmp) (v : Value) : SR (putT tm d (.flat v)) A ρ fps w (a.put d v) := by
  refine ⟨by rw [put_size, putT_length]; exact h.sz, fun t u hu => ?_, fun t u hu i hi => ?_, h.hs, h.acl, by rw [put_defers]; exact h.nd⟩
  · rcases putT_get hu with ⟨hd, rfl, hl⟩ | ⟨hd, hu⟩
    · exact put_at.1 hd (by rw [h.sz]; exact hl)
    · rw [put_at.2 hd]; exact h.tmps t u hu
  · rcases putT_get hu with ⟨_, rfl, _⟩ | ⟨_, hu⟩
    · simp [AV.ids] at hi
    · exact h.tcl t u hu i hi

end
end Go.Fl
