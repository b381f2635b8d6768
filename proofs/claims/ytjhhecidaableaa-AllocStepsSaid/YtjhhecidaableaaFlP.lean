/- A region whose order is open: the proof. Conditions: none. -/
import Derived.Test.YtjhhecidaableaaFlO
set_option linter.unusedSimpArgs false
set_option linter.unusedVariables false
set_option linter.unusedSectionVars false
namespace Go.Fl
open Go Go.RowKit
variable [Objs]

section
variable {P : Program} {Iso : ObRest} {n0 : Nat} {ws : List Nat} {ops : Array Oper}

theorem Chain.lens {is : List Nat} {tm tm2 : Tm L0} {A A2 : AH L0} {ss : List (Step L0)} (h : Chain P n0 ws ops is tm A ss tm2 A2) :
    tm2.length = tm.length ∧ A.length ≤ A2.length ∧ ∀ s, s ∈ ss → A.length ≤ s.A.length ∧ s.A.length + s.r.news.length ≤ A2.length ∧ StepOk n0 ws s.A s.r := by
  induction h with
  | nil tm A => exact ⟨rfl, Nat.le_refl _, by simp⟩
  | cons hs _ ih =>
    obtain ⟨h1, h2, h3⟩ := ih
    have e1 := hs.etm
    have e2 := hs.eA'
    have e3 := hs.eA
    subst e1 e2 e3
    rw [putT_length, hs.ref.len] at h1
    rw [length_applyU] at h2 h3
    refine ⟨h1, by omega, fun s hs' => ?_⟩
    rcases List.mem_cons.1 hs' with rfl | hs'
    · exact ⟨Nat.le_refl _, by omega, hs.ok⟩
    · have := h3 s hs'
      exact ⟨by omega, this.2⟩

theorem lastW_indep {σ ν : Type} {wr : σ → Option ν} : ∀ l : List σ, (∀ q, q ∈ l → wr q = none) ∨ ∀ b b', lastW wr b l = lastW wr b' l
  | [] => .inl (by simp)
  | s :: r => by
    cases hs : wr s with
    | some v => exact .inr fun b b' => by simp [lastW, hs]
    | none =>
      rcases lastW_indep (wr := wr) r with h | h
      · refine .inl fun q hq => ?_
        rcases List.mem_cons.1 hq with rfl | hq
        · exact hs
        · exact h q hq
      · exact .inr fun b b' => by simp only [lastW, hs, Option.getD_none]; exact h _ _

theorem Chain.tms {is : List Nat} {tm tm2 : Tm L0} {A A2 : AH L0} {ss : List (Step L0)} (h : Chain P n0 ws ops is tm A ss tm2 A2) :
    ∀ (t : Nat) (v : AV L0), tm2[t]? = some (some v) → ∃ v', lastW (wrT t) (tm.getD t none) ss = some v' ∧ (∀ ρ, toV ρ v = toV ρ v') ∧ ∀ i, i ∈ v.ids → i ∈ v'.ids := by
  induction h with
  | nil tm A => intro t v hv; exact ⟨v, by simp [lastW, List.getD, hv], fun _ => rfl, fun _ h => h⟩
  | @cons i is tm tm1 tm2 A A1 A2 s ss hs hc ih =>
    intro t v hv
    obtain ⟨v', h1, h2, h3⟩ := ih t v hv
    have e1 := hs.etm
    subst e1
    simp only [lastW]
    -- a step's own temporaries against those ahead of it
    by_cases hd : s.o.dst = some t
    · have : (putT s.tm s.o.dst s.r.val).getD t none = if t < s.tm.length then some s.r.val else none := by
        rw [hd]; simp only [putT, List.getD, List.getElem?_set]
        simp only [if_true]
        split <;> rfl
      rw [this] at h1
      simp only [wrT, if_pos hd, Option.getD_some]
      by_cases hlt : t < s.tm.length
      · rw [if_pos hlt] at h1; exact ⟨v', h1, h2, h3⟩
      · have hlen := hc.lens.1
        rw [putT_length] at hlen
        have := (List.getElem?_eq_some_iff.1 hv).1
        omega
    · have hget : (putT s.tm s.o.dst s.r.val).getD t none = s.tm.getD t none := by
        cases hdd : s.o.dst with
        | none => rfl
        | some d =>
          have : d ≠ t := fun e => hd (by rw [hdd, e])
          simp [putT, List.getD, List.getElem?_set, this]
      rw [hget] at h1
      simp only [wrT, if_neg hd, Option.getD_none]
      -- is t written later?
      rcases lastW_indep (wr := wrT t) ss with hw | hw
      · rw [lastW_skip hw] at h1 ⊢
        obtain ⟨v2, g1, g2, g3⟩ := hs.ref.get t v' (getD_some h1)
        exact ⟨v2, by simp [List.getD, g1], fun ρ => (h2 ρ).trans (g2 ρ), fun i hi => g3 i (h3 i hi)⟩
      · exact ⟨v', by rw [← h1]; exact hw _ _, h2, h3⟩

theorem Chain.mem {is : List Nat} {tm tm2 : Tm L0} {A A2 : AH L0} {ss : List (Step L0)} (h : Chain P n0 ws ops is tm A ss tm2 A2) :
    ∀ i, getH A2 i = lastW (wrH i) (getH A i) ss := by
  induction h with
  | nil tm A => intro i; rfl
  | cons hs _ ih =>
    intro i
    have e2 := hs.eA'
    have e3 := hs.eA
    subst e2 e3
    simp only [lastW]
    rw [ih i, getH_applyU hs.ok, updF_lk]
    rfl

theorem Chain.split {is : List Nat} {tm tm2 : Tm L0} {A A2 : AH L0} {ss : List (Step L0)} (h : Chain P n0 ws ops is tm A ss tm2 A2) :
    ∀ {k : Nat} {i : Nat}, is[k]? = some i → ∃ pre s post tmS tmS1 AS AS1, ss = pre ++ s :: post ∧ Chain P n0 ws ops (is.take k) tm A pre tmS AS ∧ SOk P n0 ws ops tmS AS i s tmS1 AS1 ∧
      Chain P n0 ws ops (is.drop (k + 1)) tmS1 AS1 post tm2 A2 := by
  induction h with
  | nil tm A => intro k i hk; simp at hk
  | @cons i is tm tm1 tm2 A A1 A2 s ss hs hc ih =>
    intro k j hk
    cases k with
    | zero =>
      simp only [List.getElem?_cons_zero, Option.some.injEq] at hk
      subst hk
      exact ⟨[], s, ss, tm, tm1, A, A1, rfl, .nil _ _, hs, hc⟩
    | succ k =>
      simp only [List.getElem?_cons_succ] at hk
      obtain ⟨pre, s', post, tmS, tmS1, AS, AS1, h1, h2, h3, h4⟩ := ih hk
      refine ⟨s :: pre, s', post, tmS, tmS1, AS, AS1, by rw [h1]; rfl, ?_, h3, h4⟩
      simp only [List.take_succ_cons]
      exact .cons hs h2

theorem Chain.idx {is : List Nat} {tm tm2 : Tm L0} {A A2 : AH L0} {ss : List (Step L0)} (h : Chain P n0 ws ops is tm A ss tm2 A2) : ss.map (·.i) = is ∧ ∀ s, s ∈ ss → ops[s.i]? = some s.o := by
  induction h with
  | nil tm A => exact ⟨rfl, by simp⟩
  | cons hs _ ih =>
    refine ⟨by simp [hs.ei, ih.1], fun s hs' => ?_⟩
    rcases List.mem_cons.1 hs' with rfl | hs'
    · rw [hs.ei]; exact hs.eo
    · exact ih.2 s hs'

theorem pairsOk_split {anc : List Nat} : ∀ {pre : List (Step L0)} {s : Step L0} {post : List (Step L0)}, pairsOk ops anc (pre ++ s :: post) = true →
    (∀ q, q ∈ pre → Nat.testBit (anc.getD s.i 0) q.i = true ∨ noConf ops q s = true) ∧ (∀ q, q ∈ post → Nat.testBit (anc.getD q.i 0) s.i = true ∨ noConf ops s q = true)
  | [], s, post, h => by
    simp only [List.nil_append, pairsOk, Bool.and_eq_true, List.all_eq_true, Bool.or_eq_true] at h
    exact ⟨by simp, h.1⟩
  | p :: pre, s, post, h => by
    simp only [List.cons_append, pairsOk, Bool.and_eq_true, List.all_eq_true, Bool.or_eq_true] at h
    obtain ⟨h1, h2⟩ := pairsOk_split h.2
    refine ⟨fun q hq => ?_, h2⟩
    rcases List.mem_cons.1 hq with rfl | hq
    · exact h.1 s (by simp)
    · exact h1 q hq

structure NoConf (s q : Step L0) : Prop where
  ap : Oper.apart ops s.o q.o = true
  kk : ∀ x, x ∈ s.r.upd.map (·.1) → x ∉ q.r.upd.map (·.1)
  kt : ∀ x, x ∈ s.r.upd.map (·.1) → x ∉ q.r.tch
  tk : ∀ x, x ∈ q.r.upd.map (·.1) → x ∉ s.r.tch
  nk : ∀ x, x ∈ s.r.news → x ∉ q.r.upd.map (·.1)
  nv : ∀ x, x ∈ s.r.news → x ∉ q.r.val.ids
  nu : ∀ x, x ∈ s.r.news → ∀ p, p ∈ q.r.upd → x ∉ p.2.ids
  kn : ∀ x, x ∈ q.r.upd.map (·.1) → x ∉ s.r.news

theorem noConf_ok {s q : Step L0} (h : noConf ops s q = true) : NoConf (ops := ops) s q := by
  unfold noConf at h
  simp only [Bool.and_eq_true] at h
  obtain ⟨⟨⟨⟨⟨⟨⟨h1, h2⟩, h3⟩, h4⟩, h5⟩, h6⟩, h7⟩, h8⟩ := h
  exact ⟨h1, fun x hx => disj_ok h2 hx, fun x hx => disj_ok h3 hx, fun x hx => disj_ok h4 hx, fun x hx => disj_ok h5 hx, fun x hx => disj_ok h6 hx,
    fun x hx p hp => disj_ok (List.all_eq_true.1 h7 p hp) hx, fun x hx => disj_ok h8 hx⟩

theorem wrT_none {t : Nat} {s : Step L0} (h : s.o.dst ≠ some t) : wrT t s = none := by simp [wrT, h]
theorem wrH_none {i : Nat} {s : Step L0} (h : i ∉ s.r.upd.map (·.1)) : wrH i s = none := by
  cases hw : wrH i s with
  | none => rfl
  | some b => exact absurd (List.mem_map.2 ⟨_, lk_mem hw, rfl⟩) h

end
end Go.Fl
