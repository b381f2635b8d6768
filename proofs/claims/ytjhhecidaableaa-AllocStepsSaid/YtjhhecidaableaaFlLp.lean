/- Loops, round by round. Conditions: none. -/
import Derived.Test.YtjhhecidaableaaFlFn
set_option linter.unusedSimpArgs false
set_option linter.unusedVariables false
set_option linter.unusedSectionVars false
namespace Go.Fl
open Go Go.RowKit
variable [Objs]

/-- Temporaries, n of them: those told are so. -/
def tmP (i : Nat) : Nat → List (Nat × AV LU) → TmP
  | 0, _ => []
  | n + 1, [] => none :: tmP (i + 1) n []
  | n + 1, (j, v) :: r => if j = i then some v :: tmP (i + 1) n r else none :: tmP (i + 1) n ((j, v) :: r)

/-- The loops of a function that begin with the region r. -/
def loopIn (r : Nat) : Code → Option Code
  | .seq a b => (loopIn r a).orElse fun _ => loopIn r b
  | .cond _ a b => (loopIn r a).orElse fun _ => loopIn r b
  | .block _ a => loopIn r a
  | .scope a => loopIn r a
  | .loop a => if firstReg a = some r then some a else loopIn r a
  | _ => none
def loopAt (r : Nat) (f : Func) : Code := ((f.body.bind (loopIn r))).getD .skip

def exIdx (e : Ex) : List (Ex × TmP × List (ABlock LU)) → Nat → Option Nat
  | [], _ => none
  | x :: r, k => if x.1 = e then some k else exIdx e r (k + 1)

/-- A round from a head's leaves: to a head's again, or to an end's. -/
def runBody (P : Program) (tab : List TypeId) (sg : List Summ) (lo : List LSumm) (k : Nat) (body : Code) (L : LSumm) (ls : Ls) (ch : List Nat) : Res (Option Nat × Ls × List (Ob L0)) :=
  let x : Ctx := ⟨L.n0, L.ws⟩
  if L.ws.all (· < L.n0) = true then
    (evC P tab sg lo x k body ⟨(fillSt ls L.tm L.A).1, (fillSt ls L.tm L.A).2, []⟩ ch).bind fun q =>
      match q.1 with
      | .normal => (adaptSt x L.tm L.A q.2.1 q.2.2).bind fun r => if r.2.2.isEmpty then .ok (none, r.1, r.2.1) else .bad 100 r.2.2
      | e => match exIdx e L.exits 0 with
        | none => .bad 101
        | some j => match L.exits[j]? with
          | none => .bad 102
          | some X => if X.1 = e then (adaptSt x X.2.1 X.2.2 q.2.1 q.2.2).bind fun r => if r.2.2.isEmpty then .ok (some j, r.1, r.2.1) else .bad 103 r.2.2 else .bad 104
  else .bad 105

section
variable {P : Program} {tab : List TypeId} {sg : List Summ} {lo : List LSumm}

def LoopOk (P : Program) (x : Code) (n0 : Nat) (ws : List Nat) (n : Nat) (tm : Tm L0) (A : AH L0) (e : Ex) (tm' : Tm L0) (A' : AH L0) : Prop :=
  ∀ (ρ0 : Rho) (fps0 : Fps) (w0 : World) (ρ : Rho) (fps : Fps) (w : World) (a : Act) (Q : Exit → Act → World → Prop),
    SR tm A ρ fps w a → Tr n0 ws ρ0 fps0 w0 ρ fps w →
    (∀ ρ' fps' w' a', SR tm' A' ρ' fps' w' a' → Tr n0 ws ρ0 fps0 w0 ρ' fps' w' → Q e.to a' w') → Code.rounds P x Q n a w

def LoopsTo (P : Program) (x : Code) (L : LSumm) (ls : Ls) (o : Nat × Ls) : Prop :=
  ∀ e, L.exits[o.1]? = some e → ∃ n, LoopOk P x L.n0 L.ws n (fillSt ls L.tm L.A).1 (fillSt ls L.tm L.A).2 e.1 (fillSt o.2 e.2.1 e.2.2).1 (fillSt o.2 e.2.1 e.2.2).2

theorem LSumm.ok_of {L : LSumm} {x : Code} (h : ∀ ls, (∀ b, b ∈ L.pre ls → b = true) → LoopsTo P x L ls (L.out ls)) : L.Ok P x := by
  intro ls hp e he ρ0 fps0 w0 ρ fps w a Q hs ht hq
  obtain ⟨n, hn⟩ := h ls hp e he
  exact wp_loop_rounds n (hn ρ0 fps0 w0 ρ fps w a Q hs ht hq)

def viewB (L : LSumm) (r : Res (Option Nat × Ls × List (Ob L0))) : Option (List (Bool × Bool) × Option Nat × (Tm L0 × AH L0)) :=
  match r with
  | .ok (none, l, ob) => some (ob.map tst, none, fillSt l L.tm L.A)
  | .ok (some j, l, ob) => match L.exits[j]? with
    | some e => some (ob.map tst, some j, fillSt l e.2.1 e.2.2)
    | none => none
  | _ => none

theorem runBody_ok (B : Base P tab sg) {body : Code} {L : LSumm} (hlo : ∀ M, M ∈ lo → ∀ b, b ∈ loopsOf body → firstReg b = some M.r → M.Ok P b) {k : Nat} {ls : Ls} {ch : List Nat} {j : Option Nat} {l : Ls} {ob : List (Ob L0)}
    (h : runBody P tab sg lo k body L ls ch = .ok (j, l, ob)) (hob : ∀ q, q ∈ ob → Holds P q) :
    match j with
    | none => CodeOk P body L.n0 L.ws (fillSt ls L.tm L.A).1 (fillSt ls L.tm L.A).2 .normal (fillSt l L.tm L.A).1 (fillSt l L.tm L.A).2
    | some j => ∀ e, L.exits[j]? = some e → e.1 ≠ .normal ∧ CodeOk P body L.n0 L.ws (fillSt ls L.tm L.A).1 (fillSt ls L.tm L.A).2 e.1 (fillSt l e.2.1 e.2.2).1 (fillSt l e.2.1 e.2.2).2 := by
  have := B.oo
  unfold runBody at h
  simp only at h
  split at h
  case isFalse => cases h
  rename_i hws
  have hws' : ∀ i, i ∈ L.ws → i < L.n0 := fun i hi => by have := List.all_eq_true.1 hws i hi; simpa using this
  obtain ⟨⟨e, s, ch1⟩, hev, h⟩ := Res.bind_ok h
  have key : ∀ {tmQ : TmP} {AQ : List (ABlock LU)} {l' : Ls} {ob' : List (Ob L0)} {ch2 : List Nat}, adaptSt ⟨L.n0, L.ws⟩ tmQ AQ s ch1 = .ok (l', ob', ch2) → (∀ q, q ∈ ob' → Holds P q) →
      CodeOk P body L.n0 L.ws (fillSt ls L.tm L.A).1 (fillSt ls L.tm L.A).2 e (fillSt l' tmQ AQ).1 (fillSt l' tmQ AQ).2 := by
    intro tmQ AQ l' ob' ch2 ha hob'
    obtain ⟨m, g⟩ := adaptSt_ok (P := P) (x := ⟨L.n0, L.ws⟩) B.hg hws' ha
    obtain ⟨hc, _⟩ := evC_ok (x := ⟨L.n0, L.ws⟩) B.hg B.het B.hsg B.hmix hws' k hlo hev fun q hq => hob' q (m q hq)
    intro ρ0 fps0 w0 ρ fps w a Q hs ht hq
    refine hc ρ0 fps0 w0 ρ fps w a Q hs ht fun ρ' fps' w' a' hs' ht' => ?_
    obtain ⟨ρ2, fps2, h1, h2⟩ := g hob' hs' ht'
    exact hq ρ2 fps2 w' a' h1 h2
  simp only at h
  cases e with
  | normal =>
    simp only at h
    obtain ⟨r, hr, h⟩ := Res.bind_ok h
    split at h
    case isFalse => cases h
    cases h
    exact key hr hob
  | exit id =>
    simp only at h
    split at h
    · cases h
    rename_i j' hj
    split at h
    · cases h
    rename_i X hX
    split at h
    case isFalse => cases h
    rename_i hXe
    obtain ⟨r, hr, h⟩ := Res.bind_ok h
    split at h
    case isFalse => cases h
    cases h
    intro e he
    rw [hX] at he
    cases he
    rw [hXe]
    exact ⟨by simp, key hr hob⟩
  | ret =>
    simp only at h
    split at h
    · cases h
    rename_i j' hj
    split at h
    · cases h
    rename_i X hX
    split at h
    case isFalse => cases h
    rename_i hXe
    obtain ⟨r, hr, h⟩ := Res.bind_ok h
    split at h
    case isFalse => cases h
    cases h
    intro e he
    rw [hX] at he
    cases he
    rw [hXe]
    exact ⟨by simp, key hr hob⟩

theorem view_obs {ob : List (Ob L0)} {ts : List Kn} (h : ob.map tst = ts.map fun t => (t.b, t.o)) : ∀ q, q ∈ ob → Holds P q := by
  intro q hq
  refine tst_ok ?_
  have : tst q ∈ ts.map (fun t => (t.b, t.o)) := by rw [← h]; exact List.mem_map.2 ⟨q, hq, rfl⟩
  obtain ⟨t, _, ht⟩ := List.mem_map.1 this
  rw [← ht]
  exact t.h

/-- A round, and then the rest. -/
theorem goOn (B : Base P tab sg) {body : Code} {L : LSumm} (hlo : ∀ M, M ∈ lo → ∀ b, b ∈ loopsOf body → firstReg b = some M.r → M.Ok P b) (k : Nat) {ls ls' : Ls} (ch : List Nat) (ts : List Kn)
    (h : viewB L (runBody P tab sg lo k body L ls ch) = some (ts.map (fun t => (t.b, t.o)), none, fillSt ls' L.tm L.A)) {o : Nat × Ls} (hr : LoopsTo P body L ls' o) : LoopsTo P body L ls o := by
  intro e he
  obtain ⟨n, hn⟩ := hr e he
  unfold viewB at h
  split at h
  · rename_i l ob hb
    simp only [Option.some.injEq, Prod.mk.injEq, true_and] at h
    have h1 := runBody_ok B hlo hb (view_obs h.1)
    simp only at h1
    rw [h.2] at h1
    refine ⟨n + 1, fun ρ0 fps0 w0 ρ fps w a Q hs ht hq => ?_⟩
    exact h1.mono hs ht fun ρ' fps' w' a' hs' ht' => hn ρ0 fps0 w0 ρ' fps' w' a' Q hs' ht' hq
  · split at h <;> simp at h
  · cases h

/-- The last round. -/
theorem goOut (B : Base P tab sg) {body : Code} {L : LSumm} (hlo : ∀ M, M ∈ lo → ∀ b, b ∈ loopsOf body → firstReg b = some M.r → M.Ok P b) (k : Nat) {ls l' : Ls} {j : Nat} (e : Ex × TmP × List (ABlock LU)) (he : L.exits[j]? = some e) (ch : List Nat) (ts : List Kn)
    (h : viewB L (runBody P tab sg lo k body L ls ch) = some (ts.map (fun t => (t.b, t.o)), some j, fillSt l' e.2.1 e.2.2)) : LoopsTo P body L ls (j, l') := by
  intro e' he'
  rw [he] at he'
  cases he'
  unfold viewB at h
  split at h
  · simp at h
  · rename_i j' l ob hb
    split at h
    case h_2 => cases h
    rename_i e2 he2
    simp only [Option.some.injEq, Prod.mk.injEq] at h
    obtain ⟨h0, rfl, h2⟩ := h
    rw [he] at he2
    cases he2
    obtain ⟨hne, hc⟩ := runBody_ok B hlo hb (view_obs h0) e he
    rw [h2] at hc
    refine ⟨1, fun ρ0 fps0 w0 ρ fps w a Q hs ht hq => ?_⟩
    refine hc.mono hs ht fun ρ' fps' w' a' hs' ht' => ?_
    have := hq ρ' fps' w' a' hs' ht'
    generalize e.1 = ex at hne this
    cases ex with
    | normal => exact absurd rfl hne
    | exit id => exact this
    | ret => exact this
  · cases h

/-- The loops of a function, each with its summary. -/
theorem hloOne {fn : Func} {L : LSumm} {x : Code} (h : L.Ok P x) (hx : (loopsOf (fn.body.getD .skip)).filter (fun b => firstReg b == some L.r) = [x]) :
    ∀ M, M ∈ [L] → ∀ b, b ∈ loopsOf (fn.body.getD .skip) → firstReg b = some M.r → M.Ok P b := by
  intro M hM b hb hr
  simp only [List.mem_singleton] at hM
  subst hM
  have : b ∈ (loopsOf (fn.body.getD .skip)).filter (fun b => firstReg b == some M.r) := List.mem_filter.2 ⟨hb, by simp [hr]⟩
  rw [hx] at this
  simp only [List.mem_singleton] at this
  rw [this]
  exact h

theorem hloCons {c : Code} {lo : List LSumm} {L : LSumm} {x : Code} (h : L.Ok P x) (hx : (loopsOf c).filter (fun b => firstReg b == some L.r) = [x])
    (hr : ∀ M, M ∈ lo → ∀ b, b ∈ loopsOf c → firstReg b = some M.r → M.Ok P b) : ∀ M, M ∈ L :: lo → ∀ b, b ∈ loopsOf c → firstReg b = some M.r → M.Ok P b := by
  intro M hM b hb hf
  rcases List.mem_cons.1 hM with rfl | hM
  · have : b ∈ (loopsOf c).filter (fun b => firstReg b == some M.r) := List.mem_filter.2 ⟨hb, by simp [hf]⟩
    rw [hx] at this
    simp only [List.mem_singleton] at this
    rw [this]
    exact h
  · exact hr M hM b hb hf
theorem hloNil {c : Code} : ∀ M, M ∈ ([] : List LSumm) → ∀ b, b ∈ loopsOf c → firstReg b = some M.r → M.Ok P b := fun M h => by cases h

end
end Go.Fl
