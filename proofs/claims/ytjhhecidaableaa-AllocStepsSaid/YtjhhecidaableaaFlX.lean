/- Steps that tell a state in another way: objects taken apart and put together, pointers that may be nil, slices. Conditions: none. -/
import Derived.Test.YtjhhecidaableaaFlR
import Derived.Test.YtjhhecidaableaaFlZB
set_option linter.unusedSimpArgs false
set_option linter.unusedVariables false
set_option linter.unusedSectionVars false
namespace Go.Fl
open Go Go.RowKit
variable [Objs]

/-- The objects are what their types' patterns say. -/
class ObjsOk : Prop where
  eq : ∀ t x, Objs.R t x = subP (fillBs (toL t x) (tplT t) 0).1

inductive Loc
  | tm (t : Nat)
  | cell (g k : Nat)

structure S2 where
  tm : Tm L0
  A : AH L0
  ob : List (Ob L0)

inductive Cmd
  | unf (id : Nat)
  | fold (t : Nat) (ids : List Nat)
  | optN (id : Nat)
  | optS (id : Nat)
  | unSl (id : Nat)
  | unOl (id : Nat) (nil : Bool)
  | mkN (t : Nat) (l : Loc)
  | mkS (l : Loc)
  | foL (l : Loc)
  | foO (l : Loc)
  | foO0 (e s : Nat) (l : Loc)
  | fselC (l : Loc) (fs : List (Option (FuncId × Option Nat))) (i : Nat)
  | fselT (t i : Nat)
  | drop (ts : List Nat)

mutual
def AV.sub (key : AV L0 → Bool) (u : AV L0) : AV L0 → AV L0
  | .func f a b => .func f (AV.subL key u a) (AV.subL key u b)
  | .agg vs => .agg (AV.subL key u vs)
  | .tuple vs => .tuple (AV.subL key u vs)
  | v => if key v then u else v
def AV.subL (key : AV L0 → Bool) (u : AV L0) : List (AV L0) → List (AV L0)
  | [] => []
  | v :: r => AV.sub key u v :: AV.subL key u r
end
def ABlock.sub (key : AV L0 → Bool) (u : AV L0) : ABlock L0 → ABlock L0
  | .cells e vs => .cells e (AV.subL key u vs)
  | b => b

def isOpt (id : Nat) : AV L0 → Bool
  | .opt j => j == id
  | _ => false
def isSl (id : Nat) : AV L0 → Bool
  | .sl j => j == id
  | _ => false

theorem isOpt_eq {id : Nat} {v : AV L0} (h : isOpt id v = true) : v = .opt id := by
  cases v <;> simp [isOpt] at h
  rw [h]
theorem isSl_eq {id : Nat} {v : AV L0} (h : isSl id v = true) : v = .sl id := by
  cases v <;> simp [isSl] at h
  rw [h]

mutual
theorem toV_sub {ρ : Rho} {key : AV L0 → Bool} {u : AV L0} (hk : ∀ v, key v = true → toV ρ u = toV ρ v) : ∀ v : AV L0, toV ρ (AV.sub key u v) = toV ρ v
  | .func f a b => by simp only [AV.sub, toV, toVs_sub hk a, toVs_sub hk b]
  | .agg vs => by simp only [AV.sub, toV, toVs_sub hk vs]
  | .tuple vs => by simp only [AV.sub, toV, toVs_sub hk vs]
  | .int .. => by simp only [AV.sub]; split <;> first | exact hk _ (by assumption) | rfl
  | .bool .. => by simp only [AV.sub]; split <;> first | exact hk _ (by assumption) | rfl
  | .flat .. => by simp only [AV.sub]; split <;> first | exact hk _ (by assumption) | rfl
  | .nilp => by simp only [AV.sub]; split <;> first | exact hk _ (by assumption) | rfl
  | .ptr .. => by simp only [AV.sub]; split <;> first | exact hk _ (by assumption) | rfl
  | .nils => by simp only [AV.sub]; split <;> first | exact hk _ (by assumption) | rfl
  | .slice .. => by simp only [AV.sub]; split <;> first | exact hk _ (by assumption) | rfl
  | .nilf => by simp only [AV.sub]; split <;> first | exact hk _ (by assumption) | rfl
  | .unk .. => by simp only [AV.sub]; split <;> first | exact hk _ (by assumption) | rfl
  | .opt .. => by simp only [AV.sub]; split <;> first | exact hk _ (by assumption) | rfl
  | .fsel .. => by simp only [AV.sub]; split <;> first | exact hk _ (by assumption) | rfl
  | .sl .. => by simp only [AV.sub]; split <;> first | exact hk _ (by assumption) | rfl
theorem toVs_sub {ρ : Rho} {key : AV L0 → Bool} {u : AV L0} (hk : ∀ v, key v = true → toV ρ u = toV ρ v) : ∀ l : List (AV L0), toVs ρ (AV.subL key u l) = toVs ρ l
  | [] => rfl
  | v :: r => by simp only [AV.subL, toVs, toV_sub hk v, toVs_sub hk r]
end

mutual
theorem ids_sub {key : AV L0 → Bool} {u : AV L0} {i : Nat} : ∀ v : AV L0, i ∈ (AV.sub key u v).ids → i ∈ v.ids ∨ i ∈ u.ids
  | .func f a b, h => by
    simp only [AV.sub, AV.ids, List.mem_append] at h ⊢
    rcases h with h | h
    · rcases idsL_sub a h with h | h
      · exact .inl (.inl h)
      · exact .inr h
    · rcases idsL_sub b h with h | h
      · exact .inl (.inr h)
      · exact .inr h
  | .agg vs, h => by simp only [AV.sub, AV.ids] at h ⊢; exact idsL_sub vs h
  | .tuple vs, h => by simp only [AV.sub, AV.ids] at h ⊢; exact idsL_sub vs h
  | .int .., h => by simp only [AV.sub] at h; split at h <;> simp_all
  | .bool .., h => by simp only [AV.sub] at h; split at h <;> simp_all
  | .flat .., h => by simp only [AV.sub] at h; split at h <;> simp_all
  | .nilp, h => by simp only [AV.sub] at h; split at h <;> simp_all
  | .ptr .., h => by simp only [AV.sub] at h; split at h <;> simp_all
  | .nils, h => by simp only [AV.sub] at h; split at h <;> simp_all
  | .slice .., h => by simp only [AV.sub] at h; split at h <;> simp_all
  | .nilf, h => by simp only [AV.sub] at h; split at h <;> simp_all
  | .unk .., h => by simp only [AV.sub] at h; split at h <;> simp_all
  | .opt .., h => by simp only [AV.sub] at h; split at h <;> simp_all
  | .fsel .., h => by simp only [AV.sub] at h; split at h <;> simp_all
  | .sl .., h => by simp only [AV.sub] at h; split at h <;> simp_all
theorem idsL_sub {key : AV L0 → Bool} {u : AV L0} {i : Nat} : ∀ l : List (AV L0), i ∈ AV.idsL (AV.subL key u l) → i ∈ AV.idsL l ∨ i ∈ u.ids
  | [], h => .inl h
  | v :: r, h => by
    simp only [AV.subL, AV.idsL, List.mem_append] at h ⊢
    rcases h with h | h
    · rcases ids_sub v h with h | h
      · exact .inl (.inl h)
      · exact .inr h
    · rcases idsL_sub r h with h | h
      · exact .inl (.inr h)
      · exact .inr h
end

/-! ### The same world, told otherwise -/

theorem SR.re {tm tm' : Tm L0} {A A' : AH L0} {ρ : Rho} {fps : Fps} {w : World} {a : Act} (h : SR tm A ρ fps w a) (hl : tm'.length = tm.length)
    (ht : ∀ (t : Nat) (v' : AV L0), tm'[t]? = some (some v') → ∃ v, tm[t]? = some (some v) ∧ toV ρ v' = toV ρ v ∧ ∀ i, i ∈ v'.ids → i < A.length)
    (hlen : A'.length = A.length) (hr : ∀ i, Rep ρ w (ρ i) (fps i) (getH A' i)) (hro : ∀ i, (getH A' i).isRo = true → (getH A i).isRo = true) (hid : ∀ i j, j ∈ (getH A' i).ids → j < A.length) :
    SR tm' A' ρ fps w a :=
  ⟨by rw [h.sz, hl], fun t v hv => by obtain ⟨u, h1, h2, _⟩ := ht t v hv; rw [h.tmps t u h1, h2], fun t v hv i hi => by obtain ⟨u, _, _, h3⟩ := ht t v hv; rw [hlen]; exact h3 i hi,
    ⟨hr, h.hs.disj, fun i hi => h.hs.ro i (hro i hi)⟩, fun i j hj => by rw [hlen]; exact hid i j hj, h.nd⟩

def subTm (key : AV L0 → Bool) (u : AV L0) (tm : Tm L0) : Tm L0 := tm.map (Option.map (AV.sub key u))
def subA (key : AV L0 → Bool) (u : AV L0) (A : AH L0) : AH L0 := A.map (ABlock.sub key u)

theorem getH_map {A : AH L0} {f : ABlock L0 → ABlock L0} (hf : f .gone = .gone) (i : Nat) : getH (A.map f) i = f (getH A i) := by
  unfold getH
  rw [List.getElem?_map]
  cases A[i]? with
  | none => simp [hf]
  | some b => rfl

theorem getH_set {A : AH L0} {i j : Nat} {b : ABlock L0} (hi : i < A.length) : getH (A.set i b) j = if j = i then b else getH A j := by
  unfold getH
  rw [List.getElem?_set]
  by_cases h : i = j
  · subst h; simp [hi]
  · rw [if_neg h, if_neg (fun e => h e.symm)]

theorem getH_snoc {A : AH L0} {j : Nat} {b : ABlock L0} : getH (A ++ [b]) j = if j = A.length then b else getH A j := by
  unfold getH
  by_cases h : j < A.length
  · rw [List.getElem?_append_left h, if_neg (by omega)]
  · rw [List.getElem?_append_right (by omega)]
    by_cases h2 : j = A.length
    · subst h2; simp
    · rw [if_neg h2, List.getElem?_eq_none (by simp; omega), List.getElem?_eq_none (by omega)]

/-- Values that are another way of telling a value. -/
theorem SR.subst {tm : Tm L0} {A : AH L0} {ρ : Rho} {fps : Fps} {w : World} {a : Act} (h : SR tm A ρ fps w a) {key : AV L0 → Bool} {u : AV L0} (hk : ∀ v, key v = true → toV ρ u = toV ρ v) (hu : ∀ i, i ∈ u.ids → i < A.length) :
    SR (subTm key u tm) (subA key u A) ρ fps w a := by
  have hbl : ∀ b : ABlock L0, (ABlock.sub key u b).isRo = b.isRo := fun b => by cases b <;> rfl
  refine h.re (by simp [subTm]) (fun t v hv => ?_) (by simp [subA]) (fun i => ?_) (fun i hi => ?_) (fun i j hj => ?_)
  · simp only [subTm, List.getElem?_map] at hv
    cases hq : tm[t]? with
    | none => simp [hq] at hv
    | some x =>
      cases x with
      | none => simp [hq] at hv
      | some x =>
        simp [hq] at hv
        subst hv
        refine ⟨x, rfl, toV_sub hk x, fun i hi => ?_⟩
        rcases ids_sub x hi with hi | hi
        · exact h.tcl t x hq i hi
        · exact hu i hi
  · rw [subA, getH_map rfl]
    have := h.hs.rep i
    cases hb : getH A i with
    | cells e vs =>
      rw [hb] at this
      simp only [ABlock.sub, Rep, toVs_sub hk]
      exact this
    | _ => rw [hb] at this; exact this
  · rw [subA, getH_map rfl, hbl] at hi; exact hi
  · rw [subA, getH_map rfl] at hj
    cases hb : getH A i with
    | cells e vs =>
      rw [hb] at hj
      simp only [ABlock.sub, ABlock.ids] at hj
      rcases idsL_sub vs hj with hj | hj
      · exact h.acl i j (by rw [hb]; exact hj)
      · exact hu j hj
    | _ => rw [hb] at hj; simp [ABlock.sub, ABlock.ids] at hj

/-- One block told otherwise. -/
theorem SR.reblk {tm : Tm L0} {A : AH L0} {ρ : Rho} {fps : Fps} {w : World} {a : Act} (h : SR tm A ρ fps w a) {g : Nat} {b : ABlock L0} (hg : g < A.length)
    (hr : Rep ρ w (ρ g) (fps g) b) (hro : b.isRo = false) (hid : ∀ j, j ∈ b.ids → j < A.length) : SR tm (A.set g b) ρ fps w a := by
  refine h.re rfl (fun t v hv => ⟨v, hv, rfl, h.tcl t v hv⟩) (by simp) (fun i => ?_) (fun i hi => ?_) (fun i j hj => ?_)
  · rw [getH_set hg]
    split
    · rename_i he; subst he; exact hr
    · exact h.hs.rep i
  · rw [getH_set hg] at hi
    split at hi
    · rw [hro] at hi; cases hi
    · exact hi
  · rw [getH_set hg] at hj
    split at hj
    · exact hid j hj
    · exact h.acl i j hj

/-! ### A value at a place -/

def getLoc (s : S2) : Loc → Option (AV L0)
  | .tm t => s.tm.getD t none
  | .cell g k => match getH s.A g with
    | .cells _ vs => vs[k]?
    | _ => none
def setLoc (tm : Tm L0) (A : AH L0) (v : AV L0) : Loc → Tm L0 × AH L0
  | .tm t => (tm.set t (some v), A)
  | .cell g k => match getH A g with
    | .cells e vs => (tm, A.set g (.cells e (vs.set k v)))
    | _ => (tm, A)

theorem toVs_set {ρ : Rho} : ∀ {l : List (AV L0)} {k : Nat} {v u : AV L0}, l[k]? = some u → toV ρ v = toV ρ u → toVs ρ (l.set k v) = toVs ρ l
  | [], k, v, u, h, _ => by simp at h
  | x :: r, 0, v, u, h, he => by simp at h; subst h; simp [toVs, he]
  | x :: r, k + 1, v, u, h, he => by simp at h; simp only [List.set_cons_succ, toVs]; rw [toVs_set h he]
theorem idsL_set {i : Nat} : ∀ {l : List (AV L0)} {k : Nat} {v : AV L0}, i ∈ AV.idsL (l.set k v) → i ∈ AV.idsL l ∨ i ∈ v.ids
  | [], k, v, h => .inl h
  | x :: r, 0, v, h => by simp [AV.idsL] at h ⊢; rcases h with h | h <;> simp [h]
  | x :: r, k + 1, v, h => by
    simp only [List.set_cons_succ, AV.idsL, List.mem_append] at h ⊢
    rcases h with h | h
    · exact .inl (.inl h)
    · rcases idsL_set h with h | h
      · exact .inl (.inr h)
      · exact .inr h

theorem SR.setLoc {tm : Tm L0} {A : AH L0} {ob : List (Ob L0)} {ρ : Rho} {fps : Fps} {w : World} {a : Act} (h : SR tm A ρ fps w a) {l : Loc} {v u : AV L0} (hl : getLoc ⟨tm, A, ob⟩ l = some u)
    (he : toV ρ v = toV ρ u) (hid : ∀ i, i ∈ v.ids → i < A.length) : SR (Go.Fl.setLoc tm A v l).1 (Go.Fl.setLoc tm A v l).2 ρ fps w a := by
  cases l with
  | tm t =>
    simp only [getLoc] at hl
    have hl := getD_some hl
    refine h.re (by simp [Go.Fl.setLoc]) (fun t' v' hv => ?_) rfl h.hs.rep (fun _ h => h) h.acl
    simp only [Go.Fl.setLoc, List.getElem?_set] at hv
    split at hv
    · rename_i e; subst e
      split at hv
      · simp only [Option.some.injEq] at hv; subst hv; exact ⟨u, hl, he, hid⟩
      · cases hv
    · exact ⟨v', hv, rfl, h.tcl t' v' hv⟩
  | cell g k =>
    simp only [getLoc] at hl
    split at hl
    case h_2 => cases hl
    rename_i e vs hb
    simp only [Go.Fl.setLoc, hb]
    have hg : g < A.length := by
      rcases Nat.lt_or_ge g A.length with h1 | h1
      · exact h1
      · rw [show getH A g = .gone by simp [getH, List.getElem?_eq_none h1]] at hb; cases hb
    refine h.reblk hg ?_ rfl fun j hj => ?_
    · have := h.hs.rep g
      rw [hb] at this
      simp only [Rep, toVs_set hl he]
      exact this
    · simp only [ABlock.ids] at hj
      rcases idsL_set hj with hj | hj
      · exact h.acl g j (by rw [hb]; exact hj)
      · exact hid j hj

/-! ### A new number -/

theorem Tr.newRho {n0 : Nat} {ws : List Nat} {ρ0 : Rho} {fps0 : Fps} {w0 : World} {ρ : Rho} {fps : Fps} {w : World} (h : Tr n0 ws ρ0 fps0 w0 ρ fps w) {N : Nat} {p : Place} (hN : n0 ≤ N) : Tr n0 ws ρ0 fps0 w0 (setRho ρ N p) fps w :=
  ⟨fun i hi => by rw [show setRho ρ N p i = ρ i from by simp only [setRho]; rw [if_neg (by omega)]]; exact h.rho i hi, h.fr, h.same, h.from_⟩

def swapF (fps : Fps) (j N : Nat) : Fps := fun i => if i = N then fps j else if i = j then (fun _ => False) else fps i

theorem SR.newE {tm : Tm L0} {A : AH L0} {ρ : Rho} {fps : Fps} {w : World} {a : Act} (h : SR tm A ρ fps w a) {p : Place} {b : ABlock L0} (hr : ∀ ρ fp, (∀ b, ¬ fp b) → Rep ρ w p fp b) (hro : b.isRo = false) (hid : b.ids = []) :
    SR tm (A ++ [b]) (setRho ρ A.length p) fps w a := by
  have hne : ∀ x, ¬ fps A.length x := by
    have := h.hs.rep A.length
    rw [show getH A A.length = .gone by simp [getH]] at this
    exact this
  have hold : ∀ i, i ≠ A.length → setRho ρ A.length p i = ρ i := fun i hi => by simp only [setRho, if_neg hi]
  refine ⟨h.sz, fun t v hv => ?_, fun t v hv i hi => ?_, ⟨fun i => ?_, h.hs.disj, fun i hi j => ?_⟩, fun i j hj => ?_, h.nd⟩
  · rw [h.tmps t v hv]
    congr 1
    exact toV_congr v fun i hi => (hold i (by have := h.tcl t v hv i hi; omega)).symm
  · have := h.tcl t v hv i hi; simp; omega
  · rw [getH_snoc]
    split
    · rename_i hi; subst hi; simp only [setRho, if_true]; exact hr _ _ hne
    · rename_i hi
      rw [hold i hi]
      exact Rep_congr (h.hs.rep i) fun j hj => (hold j (by have := h.acl i j hj; omega)).symm
  · rw [getH_snoc] at hi
    split at hi
    · rw [hro] at hi; cases hi
    · rename_i hn; rw [hold i hn]; exact h.hs.ro i hi j
  · rw [getH_snoc] at hj
    split at hj
    · rw [hid] at hj; simp at hj
    · have := h.acl i j hj; simp; omega

theorem SR.swap {tm : Tm L0} {A : AH L0} {ρ : Rho} {fps : Fps} {w : World} {a : Act} (h : SR tm A ρ fps w a) {j : Nat} {p : Place} {b : ABlock L0} (hj : j < A.length) (hr : ∀ ρ, Rep ρ w p (fps j) b) (hro : b.isRo = false) (hid : b.ids = []) :
    SR tm (A.set j .gone ++ [b]) (setRho ρ A.length p) (swapF fps j A.length) w a := by
  have hne : ∀ x, ¬ fps A.length x := by
    have := h.hs.rep A.length
    rw [show getH A A.length = .gone by simp [getH]] at this
    exact this
  have hold : ∀ i, i ≠ A.length → setRho ρ A.length p i = ρ i := fun i hi => by simp only [setRho, if_neg hi]
  have hlen : (A.set j .gone).length = A.length := by simp
  refine ⟨h.sz, fun t v hv => ?_, fun t v hv i hi => ?_, ⟨fun i => ?_, fun i k hik x hx hy => ?_, fun i hi k hk => ?_⟩, fun i k hk => ?_, h.nd⟩
  · rw [h.tmps t v hv]
    congr 1
    exact toV_congr v fun i hi => (hold i (by have := h.tcl t v hv i hi; omega)).symm
  · have := h.tcl t v hv i hi; simp; omega
  · rw [getH_snoc, hlen, getH_set hj]
    split
    · rename_i hi; subst hi; simp only [setRho, swapF, if_true]; exact hr _
    · rename_i hi
      rw [hold i hi]
      split
      · rename_i hij; subst hij; simp only [swapF, if_neg hi, if_true]; intro x hx; exact hx
      · rename_i hij
        simp only [swapF, if_neg hi, if_neg hij]
        exact Rep_congr (h.hs.rep i) fun k hk => (hold k (by have := h.acl i k hk; omega)).symm
  · simp only [swapF] at hx hy
    by_cases h1 : i = A.length
    · rw [if_pos h1] at hx
      rw [if_neg (by omega)] at hy
      split at hy
      · exact hy
      · rename_i hkj; exact h.hs.disj j k (fun e => hkj e.symm) x hx hy
    · rw [if_neg h1] at hx
      split at hx
      · exact hx
      · rename_i hij
        by_cases h2 : k = A.length
        · rw [if_pos h2] at hy
          exact h.hs.disj i j hij x hx hy
        · rw [if_neg h2] at hy
          split at hy
          · exact hy
          · exact h.hs.disj i k hik x hx hy
  · rw [getH_snoc, hlen, getH_set hj] at hi
    split at hi
    · rw [hro] at hi; cases hi
    · rename_i hn
      rw [hold i hn] at hk
      split at hi
      · simp [ABlock.isRo] at hi
      · simp only [swapF] at hk
        split at hk
        · exact h.hs.ro i hi j hk
        · split at hk
          · exact hk
          · exact h.hs.ro i hi k hk
  · rw [getH_snoc, hlen, getH_set hj] at hk
    split at hk
    · rw [hid] at hk; simp at hk
    · split at hk
      · simp [ABlock.ids] at hk
      · have := h.acl i k hk; simp; omega

theorem Tr.swap {n0 : Nat} {ws : List Nat} {ρ0 : Rho} {fps0 : Fps} {w0 : World} {ρ : Rho} {fps : Fps} {w : World} (h : Tr n0 ws ρ0 fps0 w0 ρ fps w) {j N : Nat} {p : Place} (hN : n0 ≤ N) (hj : n0 ≤ j ∨ j ∈ ws) :
    Tr n0 ws ρ0 fps0 w0 (setRho ρ N p) (swapF fps j N) w := by
  refine ⟨(h.newRho hN).rho, h.fr, fun i hi hw b => ?_, fun i hi b hb => ?_⟩
  · simp only [swapF]
    rw [if_neg (by omega), if_neg (fun e => by subst e; rcases hj with h1 | h1; omega; exact hw h1)]
    exact h.same i hi hw b
  · simp only [swapF] at hb
    split at hb
    · exact h.from_ j hj.symm b hb
    · split at hb
      · exact hb.elim
      · exact h.from_ i hi b hb

end Go.Fl
