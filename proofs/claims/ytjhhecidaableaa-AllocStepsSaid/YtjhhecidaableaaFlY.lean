/- The steps that tell a state in another way, carried out. Conditions: none. -/
import Derived.Test.YtjhhecidaableaaFlX
set_option linter.unusedSimpArgs false
set_option linter.unusedVariables false
set_option linter.unusedSectionVars false
namespace Go.Fl
open Go Go.RowKit
variable [Objs]

def dropT (tm : Tm L0) : List Nat → Tm L0
  | [] => tm
  | t :: r => dropT (tm.set t none) r

def mayTake (n0 : Nat) (ws : List Nat) (A : AH L0) (j : Nat) : Bool := decide (j < A.length) && (decide (n0 ≤ j) || ws.contains j) && decide (n0 ≤ A.length)

/-- Is v this way of a function value? -/
def isFsel : Option (FuncId × Option Nat) → AV L0 → Bool
  | none, .nilf => true
  | some (f, none), .func f' [] [] => f == f'
  | some (f, some id), .func f' [.ptr id' 0 _ 0] [] => f == f' && id == id'
  | _, _ => false

def notIn (l : Loc) (j : Nat) : Bool :=
  match l with
  | .cell g _ => g != j
  | _ => true
def idOk (N : Nat) (x : Option (FuncId × Option Nat)) : Bool :=
  match x with
  | some (_, some id) => decide (id < N)
  | _ => true

def tstsNe (e : SE L0) : Nat → List (Ob L0)
  | 0 => []
  | n + 1 => tstsNe e n ++ [.tst (.cmp .eql e (.lit ((n + 1 : Nat) : Int))) false]

def prS (n0 : Nat) (ws : List Nat) (s : S2) (r : Option (PR L0)) : Option S2 :=
  match r with
  | some r => if stepOk n0 ws s.A r then some { s with A := applyU s.A r } else none
  | none => none

def execC (n0 : Nat) (ws : List Nat) (c : Cmd) (s : S2) : Option S2 :=
  match c with
  | .unf id =>
    match getH s.A id with
    | .obj (.one t x) => prS n0 ws s (prUnf s.A id (fillBs (toL t x) (tplT t) 0).1)
    | _ => none
  | .fold t ids =>
    match takeBs (tplT t) (ids.map fun i => (getH s.A i).rn fun i => ids.idxOf i) with
    | some ls => prS n0 ws s (prFold s.A ids (.one t (ofL t ls)))
    | none => none
  | .optN id =>
    match getH s.A id with
    | .obj (.opt t x) => some ⟨subTm (isOpt id) .nilp s.tm, subA (isOpt id) .nilp (s.A.set id .gone), s.ob ++ [.tst (.lf x.isNone) true]⟩
    | _ => none
  | .optS id =>
    match getH s.A id with
    | .obj (.opt t x) => if mayTake n0 ws s.A id then
        some ⟨subTm (isOpt id) (.ptr s.A.length 0 (.lit 0) 0) s.tm, subA (isOpt id) (.ptr s.A.length 0 (.lit 0) 0) (s.A.set id .gone ++ [.obj (.one t (x.getD (dflt t)))]), s.ob ++ [.tst (.lf x.isSome) true]⟩ else none
    | _ => none
  | .unSl id =>
    match getH s.A id with
    | .lst e k a => some ⟨subTm (isSl id) (.slice id 0 (.lit 0) 0 (.len a) (.rest (.lit 0))) s.tm, subA (isSl id) (.slice id 0 (.lit 0) 0 (.len a) (.rest (.lit 0))) (s.A.set id (.arr e k a)), s.ob⟩
    | _ => none
  | .unOl id nil =>
    match getH s.A id with
    | .olst e sz n =>
      if nil then some ⟨subTm (isSl id) .nils s.tm, subA (isSl id) .nils (s.A.set id .gone), s.ob ++ [.tst (.cmp .eql n (.lit 0)) true]⟩
      else some ⟨subTm (isSl id) (.slice id 0 (.lit 0) 0 n (.rest (.lit 0))) s.tm, subA (isSl id) (.slice id 0 (.lit 0) 0 n (.rest (.lit 0))) (s.A.set id (.opq e sz n)), s.ob ++ [.tst (.cmp .eql n (.lit 0)) false]⟩
    | _ => none
  | .mkN t l =>
    match getLoc s l with
    | some .nilp => if n0 ≤ s.A.length then let r := setLoc s.tm (s.A ++ [.obj (.opt t none)]) (.opt s.A.length) l; some ⟨r.1, r.2, s.ob⟩ else none
    | _ => none
  | .mkS l =>
    match getLoc s l with
    | some (.ptr j 0 _ 0) =>
      match getH s.A j with
      | .obj (.one t x) => if mayTake n0 ws s.A j && notIn l j then
          let r := setLoc s.tm (s.A.set j .gone ++ [.obj (.opt t (some x))]) (.opt s.A.length) l; some ⟨r.1, r.2, s.ob⟩ else none
      | _ => none
    | _ => none
  | .foL l =>
    match getLoc s l with
    | some (.slice j 0 _ 0 len (.rest (.lit 0))) =>
      match getH s.A j with
      | .arr e k a => if mayTake n0 ws s.A j && notIn l j then
          let r := setLoc s.tm (s.A.set j .gone ++ [.lst e k a]) (.sl s.A.length) l; some ⟨r.1, r.2, s.ob ++ [.alen len a]⟩ else none
      | _ => none
    | _ => none
  | .foO l =>
    match getLoc s l with
    | some (.slice j 0 _ 0 len (.rest (.lit 0))) =>
      match getH s.A j with
      | .opq e sz n => if mayTake n0 ws s.A j && notIn l j then
          let r := setLoc s.tm (s.A.set j .gone ++ [.olst e sz n]) (.sl s.A.length) l; some ⟨r.1, r.2, s.ob ++ [.tst (.cmp .eql len n) true, .ilt (.lit 0) n]⟩ else none
      | _ => none
    | _ => none
  | .foO0 e sz l =>
    match getLoc s l with
    | some .nils => if n0 ≤ s.A.length then let r := setLoc s.tm (s.A ++ [.olst e sz (.lit 0)]) (.sl s.A.length) l; some ⟨r.1, r.2, s.ob⟩ else none
    | _ => none
  | .fselC l fs i =>
    match getLoc s l, fs[i]? with
    | some v, some x => if isFsel x v && fs.all (idOk s.A.length) then
        let r := setLoc s.tm s.A (.fsel (.lit i) fs) l; some ⟨r.1, r.2, s.ob⟩ else none
    | _, _ => none
  | .fselT t i =>
    match s.tm.getD t none with
    | some (.fsel e fs) =>
      match i with
      | 0 => if fs[0]? = some none then some ⟨s.tm.set t (some .nilf), s.A, s.ob ++ tstsNe e (fs.length - 1)⟩ else none
      | i + 1 =>
        match fs[i + 1]? with
        | some x => if idOk s.A.length x then some ⟨s.tm.set t (some (fselA x)), s.A, s.ob ++ [.ieq e ((i + 1 : Nat) : Int)]⟩ else none
        | none => none
    | _ => none
  | .drop ts => some ⟨dropT s.tm ts, s.A, s.ob⟩

/-- The table of objects fits. -/
def GlueOk : Prop := ∀ t ls, fillBs (toL t (ofL t ls)) (tplT t) 0 = fillBs ls (tplT t) 0

section
variable {P : Program} {n0 : Nat} {ws : List Nat}

theorem getH_lt {A : AH L0} {i : Nat} (h : getH A i ≠ .gone) : i < A.length := by
  rcases Nat.lt_or_ge i A.length with h1 | h1
  · exact h1
  · exact absurd (by simp [getH, List.getElem?_eq_none h1]) h

theorem getLoc_snoc {s : S2} {b : ABlock L0} {l : Loc} {v : AV L0} (h : getLoc s l = some v) : getLoc ⟨s.tm, s.A ++ [b], s.ob⟩ l = some v := by
  cases l with
  | tm t => exact h
  | cell g k =>
    simp only [getLoc] at h ⊢
    split at h
    case h_2 => cases h
    rename_i e vs hb
    have := getH_lt (A := s.A) (i := g) (by rw [hb]; simp)
    rw [getH_snoc, if_neg (by omega), hb]
    exact h
theorem getLoc_swap {s : S2} {b : ABlock L0} {l : Loc} {v : AV L0} {j : Nat} (h : getLoc s l = some v) (hj : j < s.A.length) (hl : notIn l j = true) :
    getLoc ⟨s.tm, s.A.set j .gone ++ [b], s.ob⟩ l = some v := by
  cases l with
  | tm t => exact h
  | cell g k =>
    simp only [getLoc] at h ⊢
    simp only [notIn, bne_iff_ne, ne_eq] at hl
    split at h
    case h_2 => cases h
    rename_i e vs hb
    have := getH_lt (A := s.A) (i := g) (by rw [hb]; simp)
    rw [getH_snoc, if_neg (by simp; omega), getH_set hj, if_neg hl, hb]
    exact h

theorem prS_ok {s s' : S2} {r : Option (PR L0)} (h : prS n0 ws s r = some s')
    (hr : ∀ r', r = some r' → ∀ {ρ : Rho} {fps : Fps} {w : World} {a : Act}, SR s.tm s.A ρ fps w a → ∃ ρ' fps', Post r' (getH s.A) ρ fps w ρ' fps' w) :
    (∀ q, q ∈ s.ob → q ∈ s'.ob) ∧ ∀ {ρ0 : Rho} {fps0 : Fps} {w0 : World} {ρ : Rho} {fps : Fps} {w : World} {a : Act}, SR s.tm s.A ρ fps w a → Tr n0 ws ρ0 fps0 w0 ρ fps w →
      ∃ ρ' fps', SR s'.tm s'.A ρ' fps' w a ∧ Tr n0 ws ρ0 fps0 w0 ρ' fps' w := by
  unfold prS at h
  split at h
  case h_2 => cases h
  rename_i r'
  split at h
  case isFalse => cases h
  rename_i hok
  cases h
  refine ⟨fun q hq => hq, fun hs ht => ?_⟩
  obtain ⟨ρ1, fps1, hp⟩ := hr r' rfl hs
  have hok' := stepOk_ok hok
  refine ⟨ρ1, fps1, hs.step hok' hp none, ht.step hp (fun j hj => (hok'.wr j hj).2) fun j hj => ?_⟩
  rw [hok'.news, List.mem_range'_1] at hj
  have := hok'.n0; omega

theorem tstsNe_ok {e : SE L0} : ∀ {n : Nat}, (∀ q, q ∈ tstsNe e n → Holds P q) → ∀ j : Nat, 1 ≤ j → j ≤ n → denI e ≠ (j : Int)
  | 0, _, j, h1, h2 => by omega
  | n + 1, h, j, h1, h2 => by
    rcases Nat.lt_or_ge n j with h3 | h3
    · obtain rfl : j = n + 1 := by omega
      have := h (.tst (.cmp .eql e (.lit ((n + 1 : Nat) : Int))) false) (by simp [tstsNe])
      simp only [Holds, Obs, denB, cmpI, denI, beq_eq_false_iff_ne] at this
      exact this
    · exact tstsNe_ok (fun q hq => h q (by simp [tstsNe, hq])) j h1 h3

theorem mayTake_ok {A : AH L0} {j : Nat} (h : mayTake n0 ws A j = true) : j < A.length ∧ (n0 ≤ j ∨ j ∈ ws) ∧ n0 ≤ A.length := by
  simp only [mayTake, Bool.and_eq_true, decide_eq_true_eq, Bool.or_eq_true, List.contains_iff_mem] at h
  exact ⟨h.1.1, h.1.2, h.2⟩

theorem TmRef.forget {tm : Tm L0} {t : Nat} : TmRef tm (tm.set t none) := by
  refine ⟨by simp, fun u v h => ?_⟩
  rw [List.getElem?_set] at h
  split at h
  · split at h <;> simp at h
  · exact ⟨v, h, fun _ => rfl, fun _ h => h⟩

theorem TmRef.drops : ∀ (ts : List Nat) {tm : Tm L0}, TmRef tm (dropT tm ts)
  | [], tm => TmRef.refl tm
  | t :: r, tm => by simp only [dropT]; exact TmRef.forget.trans (TmRef.drops r)

theorem setRho_at (ρ : Rho) (N : Nat) (p : Place) : setRho ρ N p N = p := by simp [setRho]

theorem execC_ok [ObjsOk] (hg : GlueOk) {c : Cmd} {s s' : S2} (h : execC n0 ws c s = some s') : (∀ q, q ∈ s.ob → q ∈ s'.ob) ∧ ((∀ q, q ∈ s'.ob → Holds P q) →
    ∀ {ρ0 : Rho} {fps0 : Fps} {w0 : World} {ρ : Rho} {fps : Fps} {w : World} {a : Act}, SR s.tm s.A ρ fps w a → Tr n0 ws ρ0 fps0 w0 ρ fps w →
      ∃ ρ' fps', SR s'.tm s'.A ρ' fps' w a ∧ Tr n0 ws ρ0 fps0 w0 ρ' fps' w) := by
  have hn0 : ∀ {A : AH L0} {j : Nat}, mayTake n0 ws A j = true → n0 ≤ A.length := fun h => (mayTake_ok h).2.2
  cases c with
  | unf id =>
    simp only [execC] at h
    split at h
    case h_2 => cases h
    rename_i t x hb
    obtain ⟨h1, h2⟩ := prS_ok h fun r' hr ρ fps w a hs => by
      obtain ⟨ρ', fps', hp⟩ := prUnf_ok (P := P) hr (fun q hq => by
        have : r'.ob = [.isobj (.one t x) (fillBs (toL t x) (tplT t) 0).1] := by
          unfold prUnf at hr
          simp only [hb] at hr
          split at hr
          · cases hr; rfl
          · cases hr
        rw [this] at hq
        simp only [List.mem_singleton] at hq
        subst hq
        show isoP _ _
        intro pl fp w
        show (Objs.R t x).rep pl fp w ↔ _
        rw [ObjsOk.eq]) hs.hs hs.acl
      exact ⟨ρ', fps', hp⟩
    exact ⟨h1, fun _ => h2⟩
  | fold t ids =>
    simp only [execC] at h
    split at h
    case h_2 => cases h
    rename_i ls hl
    have hiso : isoP (.one t (ofL t ls)) (ids.map fun i => (getH s.A i).rn fun i => ids.idxOf i) := by
      intro pl fp w
      show (Objs.R t (ofL t ls)).rep pl fp w ↔ _
      rw [ObjsOk.eq, hg t ls]
      have := (takeBs_ok hl [] []).2
      simp only [List.nil_append, List.append_nil, List.length_nil] at this
      rw [subP_congr this]
    obtain ⟨h1, h2⟩ := prS_ok h fun r' hr ρ fps w a hs => by
      exact prFold_ok (P := P) hr (fun q hq => by
        have : r'.ob = [.isobj (.one t (ofL t ls)) (ids.map fun i => (getH s.A i).rn fun i => ids.idxOf i)] := by
          unfold prFold at hr
          split at hr
          · cases hr
          · simp only at hr
            split at hr
            · cases hr; rfl
            · cases hr
        rw [this] at hq
        simp only [List.mem_singleton] at hq
        subst hq
        exact hiso) hs.hs
    exact ⟨h1, fun _ => h2⟩
  | optN id =>
    simp only [execC] at h
    split at h
    case h_2 => cases h
    rename_i t x hb
    cases h
    refine ⟨fun q hq => by simp [hq], fun hob ρ0 fps0 w0 ρ fps w a hs ht => ⟨ρ, fps, ?_, ht⟩⟩
    have hx : x.isNone = true := hob (.tst (.lf x.isNone) true) (by simp)
    have hx : x = none := by simpa using hx
    subst hx
    have hid := getH_lt (A := s.A) (i := id) (by rw [hb]; simp)
    have hr := hs.hs.rep id
    rw [hb] at hr
    obtain ⟨hn, hf⟩ : (ρ id).nil = true ∧ ∀ b, ¬ fps id b := hr
    refine (hs.reblk hid (b := .gone) hf rfl (by simp [ABlock.ids])).subst (fun v hv => ?_) (by simp [AV.ids])
    rw [isOpt_eq hv]
    simp [toV, hn]
  | optS id =>
    simp only [execC] at h
    split at h
    case h_2 => cases h
    rename_i t x hb
    split at h
    case isFalse => cases h
    rename_i hm
    obtain ⟨m1, m2, m3⟩ := mayTake_ok hm
    cases h
    refine ⟨fun q hq => by simp [hq], fun hob ρ0 fps0 w0 ρ fps w a hs ht => ?_⟩
    have hx : x.isSome = true := hob (.tst (.lf x.isSome) true) (by simp)
    obtain ⟨y, rfl⟩ := Option.isSome_iff_exists.1 hx
    have hr := hs.hs.rep id
    rw [hb] at hr
    obtain ⟨hn, p, hp1, hp2, hp3⟩ : (ρ id).nil = false ∧ ∃ pl0 : Place, pl0.block = (ρ id).block ∧ pl0.base = (ρ id).base ∧ (Objs.R t y).rep pl0 (fps id) w := hr
    have hsw := hs.swap (j := id) (p := p) (b := .obj (.one t y)) m1 (fun _ => hp3) rfl rfl
    refine ⟨setRho ρ s.A.length p, swapF fps id s.A.length, ?_, ht.swap m3 m2⟩
    refine hsw.subst (fun v hv => ?_) (by simp [AV.ids])
    rw [isOpt_eq hv]
    simp only [toV, addrOf, setRho_at, hp1, hp2, denI]
    rw [show setRho ρ s.A.length p id = ρ id from by simp only [setRho]; rw [if_neg (by omega)]]
    simp [hn]
  | unSl id =>
    simp only [execC] at h
    split at h
    case h_2 => cases h
    rename_i e k x hb
    cases h
    refine ⟨fun q hq => hq, fun hob ρ0 fps0 w0 ρ fps w a hs ht => ⟨ρ, fps, ?_, ht⟩⟩
    have hid := getH_lt (A := s.A) (i := id) (by rw [hb]; simp)
    have hr := hs.hs.rep id
    rw [hb] at hr
    obtain ⟨hn, hl, h1, h0, c, h2⟩ := hr
    refine (hs.reblk hid (b := .arr e k x) ⟨h1, h0, c, h2⟩ rfl (by simp [ABlock.ids])).subst (fun v hv => ?_) (by simp [AV.ids]; exact hid)
    rw [isSl_eq hv]
    simp [toV, hn, hl, addrOf, denCap, denI]
  | unOl id nil =>
    simp only [execC] at h
    split at h
    case h_2 => cases h
    rename_i e sz x hb
    have hid := getH_lt (A := s.A) (i := id) (by rw [hb]; simp)
    split at h
    · cases h
      refine ⟨fun q hq => by simp [hq], fun hob ρ0 fps0 w0 ρ fps w a hs ht => ⟨ρ, fps, ?_, ht⟩⟩
      have hx : denI x = 0 := by
        have := hob (.tst (.cmp .eql x (.lit 0)) true) (by simp)
        simpa [Holds, Obs, denB, cmpI, denI] using this
      have hr := hs.hs.rep id
      rw [hb] at hr
      rcases hr with ⟨hn, _, hf⟩ | ⟨_, hp, _⟩
      · refine (hs.reblk hid (b := .gone) hf rfl (by simp [ABlock.ids])).subst (fun v hv => ?_) (by simp [AV.ids])
        rw [isSl_eq hv]
        simp [toV, hn]
      · omega
    · cases h
      refine ⟨fun q hq => by simp [hq], fun hob ρ0 fps0 w0 ρ fps w a hs ht => ⟨ρ, fps, ?_, ht⟩⟩
      have hx : denI x ≠ 0 := by
        have := hob (.tst (.cmp .eql x (.lit 0)) false) (by simp)
        simpa [Holds, Obs, denB, cmpI, denI] using this
      have hr := hs.hs.rep id
      rw [hb] at hr
      rcases hr with ⟨_, h0, _⟩ | ⟨hn, hp, hl, h1, h0, c, h2⟩
      · exact absurd h0 hx
      · refine (hs.reblk hid (b := .opq e sz x) ⟨h1, h0, c, h2⟩ rfl (by simp [ABlock.ids])).subst (fun v hv => ?_) (by simp [AV.ids]; exact hid)
        rw [isSl_eq hv]
        simp [toV, hn, hl, addrOf, denCap, denI]
  | mkN t l =>
    simp only [execC] at h
    split at h
    case h_2 => cases h
    rename_i hl
    split at h
    case isFalse => cases h
    rename_i hn
    cases h
    refine ⟨fun q hq => hq, fun hob ρ0 fps0 w0 ρ fps w a hs ht => ?_⟩
    refine ⟨setRho ρ s.A.length { block := 0, base := 0, cap := 0, nil := true }, fps, ?_, ht.newRho hn⟩
    refine SR.setLoc (ob := s.ob) (hs.newE (p := { block := 0, base := 0, cap := 0, nil := true }) (b := .obj (.opt t none)) (fun _ fp hf => ⟨rfl, hf⟩) rfl rfl) (getLoc_snoc hl) ?_ (by simp [AV.ids])
    simp [toV, setRho_at]
  | mkS l =>
    simp only [execC] at h
    split at h
    case h_2 => cases h
    rename_i j e0 hl
    split at h
    case h_2 => cases h
    rename_i t x hb
    split at h
    case isFalse => cases h
    rename_i hm
    simp only [Bool.and_eq_true] at hm
    obtain ⟨hm, hlj⟩ := hm
    obtain ⟨m1, m2, m3⟩ := mayTake_ok hm
    cases h
    refine ⟨fun q hq => hq, fun hob ρ0 fps0 w0 ρ fps w a hs ht => ?_⟩
    have hr := hs.hs.rep j
    rw [hb] at hr
    refine ⟨setRho ρ s.A.length { ρ j with nil := false }, swapF fps j s.A.length, ?_, ht.swap m3 m2⟩
    refine SR.setLoc (ob := s.ob) (hs.swap (p := { ρ j with nil := false }) (b := .obj (.opt t (some x))) m1 (fun _ => ⟨rfl, ρ j, rfl, rfl, hr⟩) rfl rfl) (getLoc_swap hl m1 hlj) ?_ (by simp [AV.ids])
    simp only [toV, setRho_at, addrOf]
    rw [show setRho ρ s.A.length { ρ j with nil := false } j = ρ j from by simp only [setRho]; rw [if_neg (by omega)]]
    simp
  | foL l =>
    simp only [execC] at h
    split at h
    case h_2 => cases h
    rename_i j e0 len hl
    split at h
    case h_2 => cases h
    rename_i e k x hb
    split at h
    case isFalse => cases h
    rename_i hm
    simp only [Bool.and_eq_true] at hm
    obtain ⟨hm, hlj⟩ := hm
    obtain ⟨m1, m2, m3⟩ := mayTake_ok hm
    cases h
    refine ⟨fun q hq => by simp [hq], fun hob ρ0 fps0 w0 ρ fps w a hs ht => ?_⟩
    have hlen : (denI len).toNat = (denA x).length := hob (.alen len x) (by simp)
    have hr := hs.hs.rep j
    rw [hb] at hr
    obtain ⟨r1, r2, c, r3⟩ := hr
    refine ⟨setRho ρ s.A.length { ρ j with nil := false, len := (denA x).length }, swapF fps j s.A.length, ?_, ht.swap m3 m2⟩
    refine SR.setLoc (ob := s.ob) (hs.swap (p := { ρ j with nil := false, len := (denA x).length }) (b := .lst e k x) m1 (fun _ => ⟨rfl, rfl, r1, r2, c, r3⟩) rfl rfl) (getLoc_swap hl m1 hlj) ?_ (by simp [AV.ids])
    simp only [toV, setRho_at, addrOf, denCap, denI]
    rw [show setRho ρ s.A.length { ρ j with nil := false, len := (denA x).length } j = ρ j from by simp only [setRho]; rw [if_neg (by omega)]]
    simp [hlen]
  | foO l =>
    simp only [execC] at h
    split at h
    case h_2 => cases h
    rename_i j e0 len hl
    split at h
    case h_2 => cases h
    rename_i e k x hb
    split at h
    case isFalse => cases h
    rename_i hm
    simp only [Bool.and_eq_true] at hm
    obtain ⟨hm, hlj⟩ := hm
    obtain ⟨m1, m2, m3⟩ := mayTake_ok hm
    cases h
    refine ⟨fun q hq => by simp [hq], fun hob ρ0 fps0 w0 ρ fps w a hs ht => ?_⟩
    have hlen : denI len = denI x := by
      have := hob (.tst (.cmp .eql len x) true) (by simp)
      simpa [Holds, Obs, denB, cmpI] using this
    have hpos : 0 < denI x := by
      have := hob (.ilt (.lit 0) x) (by simp)
      simpa [Holds, Obs, denI] using this
    have hr := hs.hs.rep j
    rw [hb] at hr
    obtain ⟨r1, r2, c, r3⟩ := hr
    refine ⟨setRho ρ s.A.length { ρ j with nil := false, len := (denI x).toNat }, swapF fps j s.A.length, ?_, ht.swap m3 m2⟩
    refine SR.setLoc (ob := s.ob) (hs.swap (p := { ρ j with nil := false, len := (denI x).toNat }) (b := .olst e k x) m1 (fun _ => .inr ⟨rfl, hpos, rfl, r1, r2, c, r3⟩) rfl rfl) (getLoc_swap hl m1 hlj) ?_ (by simp [AV.ids])
    simp only [toV, setRho_at, addrOf, denCap, denI]
    rw [show setRho ρ s.A.length { ρ j with nil := false, len := (denI x).toNat } j = ρ j from by simp only [setRho]; rw [if_neg (by omega)]]
    simp [hlen]
  | foO0 e sz l =>
    simp only [execC] at h
    split at h
    case h_2 => cases h
    rename_i hl
    split at h
    case isFalse => cases h
    rename_i hn
    cases h
    refine ⟨fun q hq => hq, fun hob ρ0 fps0 w0 ρ fps w a hs ht => ?_⟩
    refine ⟨setRho ρ s.A.length { block := 0, base := 0, cap := 0, nil := true }, fps, ?_, ht.newRho hn⟩
    refine SR.setLoc (ob := s.ob) (hs.newE (p := { block := 0, base := 0, cap := 0, nil := true }) (b := .olst e sz (.lit 0)) (fun _ fp hf => .inl ⟨rfl, rfl, hf⟩) rfl rfl) (getLoc_snoc hl) ?_ (by simp [AV.ids])
    simp [toV, setRho_at]
  | fselC l fs i =>
    simp only [execC] at h
    split at h
    case h_2 => cases h
    rename_i v x hl hx
    split at h
    case isFalse => cases h
    rename_i hm
    simp only [Bool.and_eq_true] at hm
    obtain ⟨hm, hall⟩ := hm
    cases h
    refine ⟨fun q hq => hq, fun hob ρ0 fps0 w0 ρ fps w a hs ht => ⟨ρ, fps, ?_, ht⟩⟩
    refine hs.setLoc hl ?_ (fun id hid => ?_)
    · simp only [toV, denI, Int.toNat_natCast, List.getD, hx, Option.getD_some]
      unfold isFsel at hm
      split at hm
      · rfl
      · simp only [beq_iff_eq] at hm; subst hm; simp [fselV, toV, toVs]
      · simp only [Bool.and_eq_true, beq_iff_eq] at hm; obtain ⟨rfl, rfl⟩ := hm; simp [fselV, toV, toVs, addrOf]
      · cases hm
    · simp only [AV.ids, List.mem_filterMap] at hid
      obtain ⟨y, hy, hyi⟩ := hid
      have := List.all_eq_true.1 hall y hy
      rcases y with _ | ⟨f, _ | id'⟩ <;> simp at hyi
      subst hyi
      simpa [idOk] using this
  | fselT t i =>
    simp only [execC] at h
    split at h
    case h_2 => cases h
    rename_i e fs ht0
    split at h
    · split at h
      case isFalse => cases h
      rename_i h00
      cases h
      refine ⟨fun q hq => by simp [hq], fun hob ρ0 fps0 w0 ρ fps w a hs ht => ⟨ρ, fps, ?_, ht⟩⟩
      refine hs.ref (TmRef.set (getD_some ht0) (fun ρ => ?_) (fun i hi => by simp [AV.ids] at hi))
      have hne := tstsNe_ok (P := P) (e := e) (n := fs.length - 1) fun q hq => hob q (by simp [hq])
      have : fs.getD (denI e).toNat none = none := by
        rcases Nat.lt_or_ge (denI e).toNat fs.length with h1 | h1
        · rcases Nat.eq_zero_or_pos (denI e).toNat with h2 | h2
          · rw [h2]; simp [List.getD, h00]
          · exact absurd (by omega) (hne (denI e).toNat h2 (by omega))
        · simp [List.getD, List.getElem?_eq_none h1]
      simp only [toV, this, fselV]
    · rename_i i
      split at h
      case h_2 => cases h
      rename_i x hx
      split at h
      case isFalse => cases h
      rename_i hid
      cases h
      refine ⟨fun q hq => by simp [hq], fun hob ρ0 fps0 w0 ρ fps w a hs ht => ⟨ρ, fps, ?_, ht⟩⟩
      have he : denI e = ((i + 1 : Nat) : Int) := hob (.ieq e _) (by simp)
      refine hs.ref (TmRef.set (getD_some ht0) (fun ρ => ?_) (fun id hi => ?_))
      · have e2 : (denI e).toNat = i + 1 := by rw [he]; simp
        simp only [toV, e2, List.getD, hx, Option.getD_some]
        rcases x with _ | ⟨f, _ | id⟩
        · rfl
        · simp [fselA, fselV, toV, toVs]
        · simp [fselA, fselV, toV, toVs, addrOf]
      · simp only [AV.ids, List.mem_filterMap]
        refine ⟨x, List.mem_of_getElem? hx, ?_⟩
        rcases x with _ | ⟨f, _ | id'⟩ <;> simp [fselA, AV.ids, AV.idsL] at hi
        subst hi
        rfl
  | drop ts =>
    simp only [execC, Option.some.injEq] at h
    subst h
    exact ⟨fun q hq => hq, fun hob ρ0 fps0 w0 ρ fps w a hs ht => ⟨ρ, fps, hs.ref (TmRef.drops ts), ht⟩⟩

def execCs (n0 : Nat) (ws : List Nat) : List Cmd → S2 → Option S2
  | [], s => some s
  | c :: r, s => match execC n0 ws c s with
    | some s' => execCs n0 ws r s'
    | none => none

theorem execCs_ok [ObjsOk] (hg : GlueOk) : ∀ {cs : List Cmd} {s s' : S2}, execCs n0 ws cs s = some s' → (∀ q, q ∈ s.ob → q ∈ s'.ob) ∧ ((∀ q, q ∈ s'.ob → Holds P q) →
    ∀ {ρ0 : Rho} {fps0 : Fps} {w0 : World} {ρ : Rho} {fps : Fps} {w : World} {a : Act}, SR s.tm s.A ρ fps w a → Tr n0 ws ρ0 fps0 w0 ρ fps w →
      ∃ ρ' fps', SR s'.tm s'.A ρ' fps' w a ∧ Tr n0 ws ρ0 fps0 w0 ρ' fps' w)
  | [], s, s', h => by
    simp only [execCs, Option.some.injEq] at h
    subst h
    exact ⟨fun q hq => hq, fun _ ρ0 fps0 w0 ρ fps w a hs ht => ⟨ρ, fps, hs, ht⟩⟩
  | c :: r, s, s', h => by
    simp only [execCs] at h
    split at h
    case h_2 => cases h
    rename_i s1 h1
    obtain ⟨a1, b1⟩ := execC_ok (P := P) hg h1
    obtain ⟨a2, b2⟩ := execCs_ok hg h
    refine ⟨fun q hq => a2 q (a1 q hq), fun hob ρ0 fps0 w0 ρ fps w a hs ht => ?_⟩
    obtain ⟨ρ1, fps1, hs1, ht1⟩ := b1 (fun q hq => hob q (a2 q hq)) hs ht
    exact b2 hob hs1 ht1

end
end Go.Fl
