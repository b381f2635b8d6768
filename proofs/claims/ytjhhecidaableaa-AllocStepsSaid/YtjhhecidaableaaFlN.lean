/- Regions on symbolic values: in their text's order, and in every order that they allow. Conditions: none. -/
import Derived.Test.YtjhhecidaableaaFlM
set_option linter.unusedSimpArgs false
set_option linter.unusedVariables false
set_option linter.unusedSectionVars false
namespace Go.Fl
open Go Go.RowKit
variable [Objs]

structure Step (L : Lf) where
  i : Nat
  o : Oper
  go : Bool
  tm : Tm L
  A : AH L
  r : PR L

def guardSlot (ops : Array Oper) (o : Oper) : Option Nat :=
  match o.guard with
  | some (j, _) => (ops[j]?).bind (·.dst)
  | none => none

def guardGo {L : Lf} (tm : Tm L) (ops : Array Oper) (o : Oper) (hs : List (Hint L)) : Option (Bool × Tm L × List (Hint L) × List (Ob L)) :=
  match o.guard with
  | none => some (true, tm, hs, [])
  | some (j, want) =>
    match (ops[j]?).bind (·.dst) with
    | none => none
    | some d =>
      match tm.getD d none with
      | some (.bool (.lit b)) => some (b == want, tm, hs, [])
      | some (.bool sb) =>
        match hs with
        | .br b :: hs' => some (b == want, tm.set d (some (.bool (.lit b))), hs', [.tst sb b])
        | _ => none
      | some (.flat (.tuple _)) => some (false, tm, hs, [])
      | _ => none

def fixT {L : Lf} (tm : Tm L) : List (Hint L) → Tm L × List (Hint L) × List (Ob L)
  | .fix t m :: hs =>
    match tm.getD t none with
    | some (.int k e) => let r := fixT (tm.set t (some (.int k (.lit m)))) hs; (r.1, r.2.1, .ieq e m :: r.2.2)
    | _ => (tm, .fix t m :: hs, [])
  | hs => (tm, hs, [])

def opStep (P : Program) (tab : List TypeId) (sg : List Summ) (n0 : Nat) (ws : List Nat) (ops : Array Oper) (i : Nat) (st : St L0) : Option (Step L0 × St L0) :=
  match ops[i]? with
  | none => none
  | some o =>
    match guardGo st.tm ops o st.hs with
    | none => none
    | some (go, tm, hs, ob) =>
      if go then
        let f := fixT tm hs
        match prim P tab sg f.1 st.A o f.2.1 with
        | none => none
        | some (r, hs') =>
          if stepOk n0 ws st.A r then
            some (⟨i, o, true, f.1, st.A, r⟩, { tm := putT f.1 o.dst r.val, A := applyU st.A r, hs := hs', ob := st.ob ++ (ob ++ (f.2.2 ++ r.ob)) })
          else none
      else
        if stepOk n0 ws st.A ({ val := .flat undef } : PR L0) then
          some (⟨i, o, false, tm, st.A, { val := .flat undef }⟩, { tm := putT tm o.dst (.flat undef), A := applyU st.A ({ val := .flat undef } : PR L0), hs := hs, ob := st.ob ++ ob })
        else none

def runOps (P : Program) (tab : List TypeId) (sg : List Summ) (n0 : Nat) (ws : List Nat) (ops : Array Oper) : List Nat → St L0 → Option (List (Step L0) × St L0)
  | [], st => some ([], st)
  | i :: rest, st =>
    match opStep P tab sg n0 ws ops i st with
    | none => none
    | some (s, st1) =>
      match runOps P tab sg n0 ws ops rest st1 with
      | none => none
      | some (ss, st2) => some (s :: ss, st2)

section
variable {P : Program} {Iso : ObRest}

/-- The temporaries told in another way: what is told is the same. -/
structure TmRef (tm tm' : Tm L0) : Prop where
  len : tm'.length = tm.length
  get : ∀ (t : Nat) (v : AV L0), tm'[t]? = some (some v) → ∃ v', tm[t]? = some (some v') ∧ (∀ ρ, toV ρ v = toV ρ v') ∧ ∀ i, i ∈ v.ids → i ∈ v'.ids

theorem TmRef.refl (tm : Tm L0) : TmRef tm tm := ⟨rfl, fun t v h => ⟨v, h, fun _ => rfl, fun _ h => h⟩⟩
theorem TmRef.trans {a b c : Tm L0} (h : TmRef a b) (k : TmRef b c) : TmRef a c :=
  ⟨k.len.trans h.len, fun t v hv => by
    obtain ⟨v1, h1, e1, i1⟩ := k.get t v hv
    obtain ⟨v2, h2, e2, i2⟩ := h.get t v1 h1
    exact ⟨v2, h2, fun ρ => (e1 ρ).trans (e2 ρ), fun i hi => i2 i (i1 i hi)⟩⟩

theorem getD_some {tm : Tm L0} {t : Nat} {v : AV L0} (h : tm.getD t none = some v) : tm[t]? = some (some v) := by
  simp only [List.getD] at h
  cases hq : tm[t]? with
  | none => simp [hq] at h
  | some y => simp [hq] at h; rw [h]

theorem TmRef.set {tm : Tm L0} {t : Nat} {v v' : AV L0} (h : tm[t]? = some (some v')) (he : ∀ ρ, toV ρ v = toV ρ v') (hi : ∀ i, i ∈ v.ids → i ∈ v'.ids) : TmRef tm (tm.set t (some v)) := by
  refine ⟨by simp, fun u w hw => ?_⟩
  rw [List.getElem?_set] at hw
  split at hw
  · rename_i e
    subst e
    split at hw
    · simp only [Option.some.injEq] at hw; subst hw; exact ⟨v', h, he, hi⟩
    · cases hw
  · exact ⟨w, hw, fun _ => rfl, fun _ h => h⟩

theorem SR.ref {tm tm' : Tm L0} {A : AH L0} {ρ : Rho} {fps : Fps} {w : World} {a : Act} (h : SR tm A ρ fps w a) (k : TmRef tm tm') : SR tm' A ρ fps w a := by
  refine ⟨by rw [h.sz, k.len], fun t v hv => ?_, fun t v hv i hi => ?_, h.hs, h.acl, h.nd⟩
  · obtain ⟨v', h1, h2, h3⟩ := k.get t v hv
    rw [h.tmps t v' h1, h2]
  · obtain ⟨v', h1, h2, h3⟩ := k.get t v hv
    exact h.tcl t v' h1 i (h3 i hi)

theorem fixT_ok : ∀ {hs : List (Hint L0)} {tm : Tm L0}, (∀ q, q ∈ (fixT tm hs).2.2 → Obs (Contract P) Iso q) → TmRef tm (fixT tm hs).1
  | [], tm, _ => by simp only [fixT]; exact TmRef.refl tm
  | .fix t m :: hs, tm, hob => by
    simp only [fixT] at hob ⊢
    split
    · rename_i k e hq
      rw [hq] at hob
      simp only at hob ⊢
      refine TmRef.trans ?_ (fixT_ok fun q hq => hob q (List.mem_cons_of_mem _ hq))
      have : denI e = m := hob (.ieq e m) (by simp)
      exact TmRef.set (getD_some hq) (fun ρ => by simp [toV, denI, this]) (fun i hi => by simp [AV.ids] at hi)
    · exact TmRef.refl tm
  | .br _ :: _, tm, _ => by simp only [fixT]; exact TmRef.refl tm
  | .call .. :: _, tm, _ => by simp only [fixT]; exact TmRef.refl tm
  | .unf .. :: _, tm, _ => by simp only [fixT]; exact TmRef.refl tm
  | .fold .. :: _, tm, _ => by simp only [fixT]; exact TmRef.refl tm
  | .drop .. :: _, tm, _ => by simp only [fixT]; exact TmRef.refl tm
  | .code .. :: _, tm, _ => by simp only [fixT]; exact TmRef.refl tm
  | .keep .. :: _, tm, _ => by simp only [fixT]; exact TmRef.refl tm
  | .atop .. :: _, tm, _ => by simp only [fixT]; exact TmRef.refl tm

theorem guardGo_ok {tm tm' : Tm L0} {ops : Array Oper} {o : Oper} {hs hs' : List (Hint L0)} {go : Bool} {ob : List (Ob L0)} (h : guardGo tm ops o hs = some (go, tm', hs', ob))
    (hob : ∀ q, q ∈ ob → Obs (Contract P) Iso q) :
    TmRef tm tm' ∧ ∀ (a : Act) (ρ : Rho), (∀ d v, guardSlot ops o = some d → tm[d]? = some (some v) → a.tmps[d]? = some (toV ρ v)) → Region.wanted o (yielded ops a.tmps) = go := by
  unfold guardGo at h
  split at h
  · rename_i hg
    cases h
    exact ⟨TmRef.refl tm, fun a ρ _ => by simp [Region.wanted, hg]⟩
  · rename_i j want hg
    split at h
    case h_1 => cases h
    rename_i d hd
    have hgs : guardSlot ops o = some d := by simp [guardSlot, hg, hd]
    have hw : ∀ (a : Act) (v : Value), a.tmps[d]? = some v → Region.wanted o (yielded ops a.tmps) = ((match v with | .bool b => some b | _ => none) == some want) := by
      intro a v hv
      simp only [Region.wanted, hg, yielded, hd, Option.bind_some, hv]
      cases v <;> rfl
    split at h
    · rename_i b hq
      cases h
      refine ⟨TmRef.refl tm, fun a ρ ha => ?_⟩
      rw [hw a _ (ha d _ hgs (getD_some hq))]
      simp [toV, denB]
    · rename_i sb _ hq
      split at h
      case h_2 => cases h
      rename_i b hs''
      cases h
      have hb : denB sb = b := hob (.tst sb b) (by simp)
      refine ⟨TmRef.set (getD_some hq) (fun ρ => by simp [toV, denB, hb]) (fun i hi => by simp [AV.ids] at hi), fun a ρ ha => ?_⟩
      rw [hw a _ (ha d _ hgs (getD_some hq))]
      simp [toV, hb]
    · rename_i x hq
      cases h
      refine ⟨TmRef.refl tm, fun a ρ ha => ?_⟩
      rw [hw a _ (ha d _ hgs (getD_some hq))]
      simp [toV]
    · cases h

/-- What a step of the evaluation tells. -/
structure SOk (P : Program) (n0 : Nat) (ws : List Nat) (ops : Array Oper) (tm : Tm L0) (A : AH L0) (i : Nat) (s : Step L0) (tm' : Tm L0) (A' : AH L0) : Prop where
  ei : s.i = i
  eo : ops[i]? = some s.o
  eA : s.A = A
  ref : TmRef tm s.tm
  want : ∀ (a : Act) (ρ : Rho), (∀ d v, guardSlot ops s.o = some d → tm[d]? = some (some v) → a.tmps[d]? = some (toV ρ v)) → Region.wanted s.o (yielded ops a.tmps) = s.go
  ok : StepOk n0 ws s.A s.r
  op : s.go = true → OpOk P s.o (evT s.tm) (getH s.A) s.r
  idle : s.go = false → s.r = { val := .flat undef }
  etm : tm' = putT s.tm s.o.dst s.r.val
  eA' : A' = applyU s.A s.r

theorem opStep_ok {tab : List TypeId} (ht : EqTab P tab) {sg : List Summ} (hsg : ∀ s, s ∈ sg → s.Ok P) {n0 : Nat} {ws : List Nat} {ops : Array Oper} {i : Nat} {st st1 : St L0} {s : Step L0}
    (h : opStep P tab sg n0 ws ops i st = some (s, st1)) (hob : ∀ q, q ∈ st1.ob → Obs (Contract P) Iso q) :
    SOk P n0 ws ops st.tm st.A i s st1.tm st1.A ∧ ∀ q, q ∈ st.ob → q ∈ st1.ob := by
  unfold opStep at h
  split at h
  case h_1 => cases h
  rename_i o ho
  split at h
  case h_1 => cases h
  rename_i go tm hs ob hg
  split at h
  · rename_i hgo
    simp only at h
    split at h
    case h_1 => cases h
    rename_i r hs' hp
    split at h
    case isFalse => cases h
    rename_i hok
    cases h
    obtain ⟨href, hwant⟩ := guardGo_ok hg fun q hq => hob q (by simp [hq])
    have hfix := fixT_ok (P := P) (Iso := Iso) (tm := tm) (hs := hs) fun q hq => hob q (by simp [hq])
    exact ⟨⟨rfl, ho, rfl, href.trans hfix, fun a ρ ha => by rw [hwant a ρ ha, hgo], stepOk_ok hok, fun _ => prim_ok ht hsg hp fun q hq => hob q (by simp [hq]), fun hc => by simp at hc, rfl, rfl⟩,
      fun q hq => by simp [hq]⟩
  · rename_i hgo
    split at h
    case isFalse => cases h
    rename_i hok
    cases h
    obtain ⟨href, hwant⟩ := guardGo_ok hg fun q hq => hob q (by simp [hq])
    exact ⟨⟨rfl, ho, rfl, href, fun a ρ ha => by rw [hwant a ρ ha]; simpa using hgo, stepOk_ok hok, fun hc => by simp at hc, fun _ => rfl, rfl, rfl⟩, fun q hq => by simp [hq]⟩

theorem SOk.wp {n0 : Nat} {ws : List Nat} {ops : Array Oper} {tm tm' : Tm L0} {A A' : AH L0} {i : Nat} {s : Step L0} (h : SOk P n0 ws ops tm A i s tm' A')
    {ρ0 : Rho} {fps0 : Fps} {w0 : World} {ρ : Rho} {fps : Fps} {w : World} {a : Act} {Q : Exit → Act → World → Prop} {K : Act → World → Prop}
    (hs : SR tm A ρ fps w a) (ht : Tr n0 ws ρ0 fps0 w0 ρ fps w) (hK : ∀ ρ' fps' w' a', SR tm' A' ρ' fps' w' a' → Tr n0 ws ρ0 fps0 w0 ρ' fps' w' → K a' w') : wpOp P ops Q i K a w := by
  have hs1 := hs.ref h.ref
  have hwant := h.want a ρ fun d v _ hv => hs.tmps d v hv
  unfold wpOp
  rw [h.eo]
  simp only [hwant]
  have hA := h.eA
  have htm' := h.etm
  have hA' := h.eA'
  subst hA htm' hA'
  cases hgo : s.go with
  | true =>
    simp only [if_true]
    refine .inl (h.op hgo ρ fps w a K Q (getH s.A) (fun x v _ hx => evT_eval hs1 hx) hs.hs (fun _ _ => rfl) (fun n hn => ?_) (fun k n hn hc => ?_) fun ρ' fps' w' hp => ?_)
    · rw [h.ok.news, List.mem_range'_1] at hn
      simp [getH, List.getElem?_eq_none hn.1]
    · rw [h.ok.news, List.mem_range'_1] at hn
      have := hs.acl k n hc; omega
    · refine hK ρ' fps' w' _ (hs1.step h.ok hp s.o.dst) (ht.step hp (fun j hj => (h.ok.wr j hj).2) fun j hj => ?_)
      rw [h.ok.news, List.mem_range'_1] at hj
      have := h.ok.n0; omega
  | false =>
    simp only [Bool.false_eq_true, if_false]
    have hr := h.idle hgo
    refine hK ρ fps w _ ?_ ht
    rw [hr]
    have : applyU s.A ({ val := .flat undef } : PR L0) = s.A := by simp [applyU, setAll]
    rw [this]
    exact hs1.skip s.o.dst undef

inductive Chain (P : Program) (n0 : Nat) (ws : List Nat) (ops : Array Oper) : List Nat → Tm L0 → AH L0 → List (Step L0) → Tm L0 → AH L0 → Prop
  | nil (tm : Tm L0) (A : AH L0) : Chain P n0 ws ops [] tm A [] tm A
  | cons {i : Nat} {is : List Nat} {tm tm1 tm2 : Tm L0} {A A1 A2 : AH L0} {s : Step L0} {ss : List (Step L0)} :
      SOk P n0 ws ops tm A i s tm1 A1 → Chain P n0 ws ops is tm1 A1 ss tm2 A2 → Chain P n0 ws ops (i :: is) tm A (s :: ss) tm2 A2

theorem runOps_chain {tab : List TypeId} (ht : EqTab P tab) {sg : List Summ} (hsg : ∀ s, s ∈ sg → s.Ok P) {n0 : Nat} {ws : List Nat} {ops : Array Oper} : ∀ {is : List Nat} {st st2 : St L0} {ss : List (Step L0)},
    runOps P tab sg n0 ws ops is st = some (ss, st2) → (∀ q, q ∈ st2.ob → Obs (Contract P) Iso q) →
    Chain P n0 ws ops is st.tm st.A ss st2.tm st2.A ∧ ∀ q, q ∈ st.ob → q ∈ st2.ob
  | [], st, st2, ss, h, hob => by simp only [runOps, Option.some.injEq, Prod.mk.injEq] at h; obtain ⟨rfl, rfl⟩ := h; exact ⟨.nil _ _, fun _ h => h⟩
  | i :: rest, st, st2, ss, h, hob => by
    simp only [runOps] at h
    split at h
    case h_1 => cases h
    rename_i s st1 h1
    split at h
    case h_1 => cases h
    rename_i ss' st2' h2
    cases h
    obtain ⟨hc, hm⟩ := runOps_chain ht hsg h2 hob
    obtain ⟨hs, hm1⟩ := opStep_ok ht hsg h1 fun q hq => hob q (hm q hq)
    exact ⟨.cons hs hc, fun q hq => hm q (hm1 q hq)⟩

theorem Chain.wp {n0 : Nat} {ws : List Nat} {ops : Array Oper} {is : List Nat} {tm tm2 : Tm L0} {A A2 : AH L0} {ss : List (Step L0)} (h : Chain P n0 ws ops is tm A ss tm2 A2)
    {ρ0 : Rho} {fps0 : Fps} {w0 : World} {Q : Exit → Act → World → Prop}
    (hK : ∀ ρ' fps' w' a', SR tm2 A2 ρ' fps' w' a' → Tr n0 ws ρ0 fps0 w0 ρ' fps' w' → Q .normal a' w') :
    ∀ {ρ : Rho} {fps : Fps} {w : World} {a : Act}, SR tm A ρ fps w a → Tr n0 ws ρ0 fps0 w0 ρ fps w → wpOps P ops Q is a w := by
  induction h with
  | nil tm A => intro ρ fps w a hs ht; simp only [wpOps]; exact hK ρ fps w a hs ht
  | cons hs1 _ ih =>
    intro ρ fps w a hs ht
    rw [wpOps_cons]
    exact hs1.wp hs ht fun ρ' fps' w' a' h1 h2 => ih hK h1 h2

end
end Go.Fl
