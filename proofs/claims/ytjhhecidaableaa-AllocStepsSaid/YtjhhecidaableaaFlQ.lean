/- A region whose order is open: every order. Conditions: none. -/
import Derived.Test.YtjhhecidaableaaFlP
set_option linter.unusedSimpArgs false
set_option linter.unusedVariables false
set_option linter.unusedSectionVars false
namespace Go.Fl
open Go Go.RowKit
variable [Objs]

section
variable {P : Program} {Iso : ObRest} {n0 : Nat} {ws : List Nat} {ops : Array Oper}

/-- Some of the steps are done: those in E. -/
structure AInv (n0 : Nat) (ws : List Nat) (tm : Tm L0) (A : AH L0) (ss : List (Step L0)) (E : Nat → Bool) (ρ0 : Rho) (fps0 : Fps) (w0 : World) (ρ : Rho) (fps : Fps) (w : World) (a : Act) : Prop where
  sz : a.tmps.size = tm.length
  tmps : ∀ (t : Nat) (v : AV L0), t < tm.length → lastW (wrT t) (tm.getD t none) (ss.filter fun s => E s.i) = some v → a.tmps[t]? = some (toV ρ v)
  hs : HS (fun i => lastW (wrH i) (getH A i) (ss.filter fun s => E s.i)) ρ fps w
  tr : Tr n0 ws ρ0 fps0 w0 ρ fps w
  nd : a.defers = []

theorem any_step {tm tmN : Tm L0} {A AN : AH L0} {ss : List (Step L0)} {N : Nat} (hch : Chain P n0 ws ops (List.range N) tm A ss tmN AN)
    (hok : drawOk ops ss = true) (htcl : ∀ (t : Nat) (v : AV L0), tm[t]? = some (some v) → ∀ i, i ∈ v.ids → i < A.length) (hacl : ∀ i j, j ∈ (getH A i).ids → j < A.length)
    (hN : N = ops.size) {E : Nat → Bool} {i : Nat} (hi : i < N) (hEi : E i = false)
    (hD : ∀ k o, ops[k]? = some o → E k = true → ∀ e, e ∈ o.after.toList → Region.binds .any e = true → E e.on = true)
    (hpred : ∀ o, ops[i]? = some o → ∀ e, e ∈ o.after.toList → Region.binds .any e = true → E e.on = true)
    {ρ0 : Rho} {fps0 : Fps} {w0 : World} {ρ : Rho} {fps : Fps} {w : World} {a : Act} {Q : Exit → Act → World → Prop} {K : Act → World → Prop}
    (h : AInv n0 ws tm A ss E ρ0 fps0 w0 ρ fps w a)
    (hK : ∀ ρ' fps' w' a', AInv n0 ws tm A ss (fun k => E k || k == i) ρ0 fps0 w0 ρ' fps' w' a' → K a' w') : wpOp P ops Q i K a w := by
  obtain ⟨pre, s, post, tmS, tmS1, AS, AS1, hss, hc1, hs, hc2⟩ := hch.split (k := i) (i := i) (by simp [hi])
  have hidx := hch.idx
  -- places
  have hpre : ∀ q, q ∈ pre → q.i < i := by
    intro q hq
    have h1 := hc1.idx.1
    have : q.i ∈ (List.range N).take i := by rw [← h1]; exact List.mem_map.2 ⟨q, hq, rfl⟩
    rw [List.take_range] at this
    simp at this; omega
  have hpost : ∀ q, q ∈ post → i < q.i := by
    intro q hq
    have h1 := hc2.idx.1
    have : q.i ∈ (List.range N).drop (i + 1) := by rw [← h1]; exact List.mem_map.2 ⟨q, hq, rfl⟩
    rw [List.range_eq_range', List.drop_range'] at this
    simp [List.mem_range'_1] at this; omega
  have hsi : s.i = i := hs.ei
  unfold drawOk at hok
  simp only [Bool.and_eq_true] at hok
  obtain ⟨hpairs, hedges⟩ := hok
  rw [hss] at hpairs
  obtain ⟨hp1, hp2⟩ := pairsOk_split hpairs
  have hanc : ∀ (S : Nat → Prop), (∀ k o, ops[k]? = some o → S k → ∀ e, e ∈ o.after.toList → Region.binds .any e = true → S e.on) → ∀ k, S k → ∀ j, Nat.testBit ((ancs [] ops.toList).getD k 0) j = true → S j :=
    fun S hS => ancs_ok ops.toList [] [] rfl (by simpa using hS) (by simp)
  -- what conflicts with s and is ahead of it in the text has been done
  have hF1 : ∀ q, q ∈ pre → E q.i = false → NoConf (ops := ops) q s := by
    intro q hq hE
    rcases hp1 q hq with hb | hb
    · exfalso
      have := hanc (fun k => E k = true ∨ k = i) (fun k o ho hk e he hbind => by
        rcases hk with hk | hk
        · exact .inl (hD k o ho hk e he hbind)
        · subst hk; exact .inl (hpred o ho e he hbind)) s.i (.inr hsi) q.i hb
      rcases this with h1 | h1
      · rw [hE] at h1; cases h1
      · have := hpre q hq; omega
    · exact noConf_ok hb
  have hF2 : ∀ q, q ∈ post → E q.i = true → NoConf (ops := ops) s q := by
    intro q hq hE
    rcases hp2 q hq with hb | hb
    · exfalso
      have := hanc (fun k => E k = true) (fun k o ho hk e he hbind => hD k o ho hk e he hbind) q.i hE s.i hb
      rw [hsi, hEi] at this; cases this
    · exact noConf_ok hb
  have hlen := hch.lens
  have hlen1 := hc1.lens
  have hsA : s.A = AS := hs.eA
  have hpreN : ∀ q, q ∈ pre → StepOk n0 ws q.A q.r ∧ q.A.length + q.r.news.length ≤ s.A.length := by
    intro q hq
    have := hlen1.2.2 q hq
    rw [hsA]; exact ⟨this.2.2, this.2.1⟩
  have hA0 : A.length ≤ s.A.length := by rw [hsA]; exact hlen1.2.1
  have hpostok : ∀ q, q ∈ post → StepOk n0 ws q.A q.r := fun q hq => (hc2.lens.2.2 q hq).2.2
  have hnews : ∀ n, n ∈ s.r.news → s.A.length ≤ n := by
    intro n hn
    rw [hs.ok.news, List.mem_range'_1] at hn
    exact hn.1
  -- the filtered lists
  have hfE : ss.filter (fun s => E s.i) = pre.filter (fun s => E s.i) ++ post.filter (fun s => E s.i) := by
    rw [hss, List.filter_append, List.filter_cons_of_neg (by simp [hsi, hEi])]
  have hfE' : ss.filter (fun q => E q.i || q.i == i) = pre.filter (fun s => E s.i) ++ s :: post.filter (fun s => E s.i) := by
    rw [hss, List.filter_append, List.filter_cons_of_pos (by simp [hsi])]
    congr 1
    · refine List.filter_congr fun q hq => ?_
      have := hpre q hq
      have : (q.i == i) = false := by simp; omega
      simp [this]
    · congr 1
      refine List.filter_congr fun q hq => ?_
      have := hpost q hq
      have : (q.i == i) = false := by simp; omega
      simp [this]
  have hmemE : ∀ q, q ∈ post.filter (fun s => E s.i) → q ∈ post ∧ E q.i = true := fun q hq => by simpa using hq
  have happ : ∀ {x y : Step L0}, NoConf (ops := ops) x y → (∀ d, x.o.dst = some d → d ∉ y.o.looksAt ops) ∧ (∀ d, x.o.dst = some d → y.o.dst ≠ some d) ∧ (∀ d, y.o.dst = some d → d ∉ x.o.looksAt ops) :=
    fun hc => Oper.apart_spec hc.ap
  -- a temporary that s looks at holds what it holds in the text's order
  have hread : ∀ t, t ∈ s.o.looksAt ops → lastW (wrT t) (tm.getD t none) (ss.filter fun s => E s.i) = lastW (wrT t) (tm.getD t none) pre := by
    intro t ht
    rw [hfE, lastW_append, lastW_skip]
    · refine lastW_filter fun q hq hw => ?_
      by_cases hE : E q.i = true
      · exact hE
      · exfalso
        have hn := hF1 q hq (by simpa using hE)
        have hd : q.o.dst = some t := Classical.byContradiction fun hc => hw (wrT_none hc)
        exact (happ hn).1 t hd ht
    · intro q hq
      obtain ⟨hq, hE⟩ := hmemE q hq
      refine wrT_none fun hd => ?_
      exact (happ (hF2 q hq hE)).2.2 t hd ht
  have htouch : ∀ j, j ∈ s.r.tch → lastW (wrH j) (getH A j) (ss.filter fun s => E s.i) = getH s.A j := by
    intro j hj
    rw [hsA, hc1.mem j, hfE, lastW_append, lastW_skip]
    · refine lastW_filter fun q hq hw => ?_
      by_cases hE : E q.i = true
      · exact hE
      · exfalso
        have hn := hF1 q hq (by simpa using hE)
        exact hn.kt j (Classical.byContradiction fun hc => hw (wrH_none hc)) hj
    · intro q hq
      obtain ⟨hq, hE⟩ := hmemE q hq
      refine wrH_none fun hk => ?_
      exact (hF2 q hq hE).tk j hk hj
  have hgoneN : ∀ n, n ∈ s.r.news → lastW (wrH n) (getH A n) (ss.filter fun s => E s.i) = .gone := by
    intro n hn
    have h1 := hnews n hn
    rw [lastW_skip]
    · simp [getH, List.getElem?_eq_none (show A.length ≤ n by omega)]
    · intro q hq
      rw [hfE] at hq
      rcases List.mem_append.1 hq with hq | hq
      · refine wrH_none fun hk => ?_
        have hq' : q ∈ pre := (List.mem_filter.1 hq).1
        obtain ⟨hq1, hq2⟩ := hpreN q hq'
        obtain ⟨p, hp, rfl⟩ := List.mem_map.1 hk
        rcases (hq1.upd p hp).1 with hw | hw
        · have := (hq1.wr _ hw).1; omega
        · rw [hq1.news, List.mem_range'_1] at hw; omega
      · obtain ⟨hq, hE⟩ := hmemE q hq
        exact wrH_none fun hk => (hF2 q hq hE).nk n hn hk
  have havoid : ∀ k n, n ∈ s.r.news → n ∉ (lastW (wrH k) (getH A k) (ss.filter fun s => E s.i)).ids := by
    intro k n hn hc
    have h1 := hnews n hn
    rcases lastW_from (wr := wrH k) (ss.filter fun s => E s.i) (getH A k) with he | ⟨q, hq, he⟩
    · rw [he] at hc
      have := hacl k n hc; omega
    · have hm := lk_mem (show lk q.r.upd k = _ from he)
      rw [hfE] at hq
      rcases List.mem_append.1 hq with hq | hq
      · have hq' : q ∈ pre := (List.mem_filter.1 hq).1
        obtain ⟨hq1, hq2⟩ := hpreN q hq'
        have := (hq1.upd _ hm).2 n hc; omega
      · obtain ⟨hq, hE⟩ := hmemE q hq
        exact (hF2 q hq hE).nu n hn _ hm hc
  have havoidT : ∀ (t : Nat) (v : AV L0), lastW (wrT t) (tm.getD t none) (ss.filter fun s => E s.i) = some v → ∀ n, n ∈ s.r.news → n ∉ v.ids := by
    intro t v hv n hn hc
    have h1 := hnews n hn
    rcases lastW_from (wr := wrT t) (ss.filter fun s => E s.i) (tm.getD t none) with he | ⟨q, hq, he⟩
    · rw [hv] at he
      have := htcl t v (getD_some he.symm) n hc; omega
    · rw [hv] at he
      have hqv : q.r.val = v := by
        simp only [wrT] at he
        split at he
        · simpa using he
        · cases he
      rw [hfE] at hq
      rcases List.mem_append.1 hq with hq | hq
      · have hq' : q ∈ pre := (List.mem_filter.1 hq).1
        obtain ⟨hq1, hq2⟩ := hpreN q hq'
        have := hq1.val n (by rw [hqv]; exact hc); omega
      · obtain ⟨hq, hE⟩ := hmemE q hq
        exact (hF2 q hq hE).nv n hn (by rw [hqv]; exact hc)
  -- the temporaries as s sees them
  have hsee : ∀ (t : Nat) (v : AV L0), t ∈ s.o.looksAt ops → tmS[t]? = some (some v) → a.tmps[t]? = some (toV ρ v) := by
    intro t v ht hv
    obtain ⟨v', h1, h2, _⟩ := hc1.tms t v hv
    have hl : t < tm.length := by
      have := (List.getElem?_eq_some_iff.1 hv).1
      rw [hlen1.1] at this; exact this
    rw [h2]
    exact h.tmps t v' hl (by rw [hread t ht]; exact h1)
  have hwant : Region.wanted s.o (yielded ops a.tmps) = s.go := by
    refine hs.want a ρ fun d v hd hv => hsee d v ?_ hv
    unfold Oper.looksAt
    unfold guardSlot at hd
    refine List.mem_append_right _ ?_
    cases hg : s.o.guard with
    | none => simp [hg] at hd
    | some g =>
      obtain ⟨j, want⟩ := g
      simp [hg] at hd
      simp [hd]
  have hops : ∀ x v, x ∈ s.o.op.operands → evT s.tm x = some v → a.eval x = toV ρ v := by
    intro x v hx hv
    cases x with
    | tmp t =>
      obtain ⟨v', h1, h2, _⟩ := hs.ref.get t v (getD_some hv)
      have ht : t ∈ s.o.looksAt ops := by
        unfold Oper.looksAt
        exact List.mem_append_left _ (List.mem_filterMap.2 ⟨.tmp t, by simpa using hx, rfl⟩)
      have := hsee t v' ht h1
      simp [Act.eval, this, h2]
    | const c => simp only [evT, Option.some.injEq] at hv; subst hv; simp [Act.eval, toV_ofConst]
    | global g => simp only [evT, Option.some.injEq] at hv; subst hv; simp [Act.eval, toV]
    | func f => simp only [evT, Option.some.injEq] at hv; subst hv; simp [Act.eval, toV, toVs]
  -- behind s
  have hdone : ∀ ρ' fps' w', Post s.r (fun j => lastW (wrH j) (getH A j) (ss.filter fun s => E s.i)) ρ fps w ρ' fps' w' →
      AInv n0 ws tm A ss (fun k => E k || k == i) ρ0 fps0 w0 ρ' fps' w' (a.put s.o.dst (toV ρ' s.r.val)) := by
    intro ρ' fps' w' hp
    refine ⟨by rw [put_size]; exact h.sz, fun t v hl hv => ?_, ?_, h.tr.step hp (fun j hj => (hs.ok.wr j hj).2) (fun j hj => ?_), by rw [put_defers]; exact h.nd⟩
    · rw [hfE', lastW_append] at hv
      simp only [lastW] at hv
      by_cases hd : s.o.dst = some t
      · have hws : wrT t s = some (some s.r.val) := by simp [wrT, hd]
        rw [hws, Option.getD_some] at hv
        have hsk : ∀ q, q ∈ post.filter (fun s => E s.i) → wrT t q = none := by
          intro q hq
          obtain ⟨hq, hE⟩ := hmemE q hq
          exact wrT_none fun hd' => (happ (hF2 q hq hE)).2.1 t hd hd'
        rw [lastW_skip hsk] at hv
        simp only [Option.some.injEq] at hv
        subst hv
        exact put_at.1 hd (by rw [h.sz]; exact hl)
      · rw [wrT_none hd, Option.getD_none, ← lastW_append, ← hfE] at hv
        rw [put_at.2 hd, h.tmps t v hl hv]
        congr 1
        exact toV_congr v fun j hj => (hp.rho j fun hc => havoidT t v hv j hc hj).symm
    · have : (fun j => lastW (wrH j) (getH A j) (ss.filter fun q => E q.i || q.i == i)) = updF (fun j => lastW (wrH j) (getH A j) (ss.filter fun s => E s.i)) s.r.upd := by
        funext j
        rw [updF_lk, hfE', lastW_append, hfE, lastW_append]
        simp only [lastW]
        cases hk : wrH j s with
        | none =>
          have : lk s.r.upd j = none := hk
          rw [this]; rfl
        | some b =>
          have hkb : lk s.r.upd j = some b := hk
          rw [hkb]
          simp only [Option.getD_some]
          refine lastW_skip fun q hq => ?_
          obtain ⟨hq, hE⟩ := hmemE q hq
          exact wrH_none ((hF2 q hq hE).kk j (List.mem_map.2 ⟨_, lk_mem hkb, rfl⟩))
      rw [this]
      exact hp.hs
    · have := hnews j hj
      have := hs.ok.n0; omega
  unfold wpOp
  rw [hs.eo]
  simp only [hwant]
  cases hgo : s.go with
  | true =>
    simp only [if_true]
    exact .inl (hs.op hgo ρ fps w a K Q _ hops h.hs htouch hgoneN havoid fun ρ' fps' w' hp => hK ρ' fps' w' _ (hdone ρ' fps' w' hp))
  | false =>
    simp only [Bool.false_eq_true, if_false]
    have hr := hs.idle hgo
    have hp : Post s.r (fun j => lastW (wrH j) (getH A j) (ss.filter fun s => E s.i)) ρ fps w ρ fps w := by
      rw [hr]; exact Post.pure h.hs (Fr.refl _ _)
    have := hdone ρ fps w hp
    rw [hr] at this
    exact hK ρ fps w _ this

theorem getD_set {l : Array Bool} {i k : Nat} (hi : i < l.size) : (l.setIfInBounds i true).getD k false = (l.getD k false || k == i) := by
  simp only [Array.getD_eq_getD_getElem?, Array.getElem?_setIfInBounds]
  by_cases h : i = k
  · subst h; simp [hi]
  · have : (k == i) = false := by simp; omega
    simp [h, this]

theorem getD_tf {l : Array Bool} {k : Nat} (hk : k < l.size) : l.getD k true = l.getD k false := by
  simp [Array.getD_eq_getD_getElem?, hk]

theorem countP_lt {p q : Nat → Bool} : ∀ {l : List Nat}, (∀ x, x ∈ l → q x = true → p x = true) → (∃ x, x ∈ l ∧ p x = true ∧ q x = false) → l.countP q < l.countP p
  | [], _, ⟨x, hx, _⟩ => by simp at hx
  | y :: r, h, ⟨x, hx, hp, hq⟩ => by
    have hle : r.countP q ≤ r.countP p := List.countP_mono_left fun z hz hqz => h z (by simp [hz]) hqz
    simp only [List.countP_cons]
    rcases List.mem_cons.1 hx with rfl | hx
    · simp [hp, hq]; omega
    · have := countP_lt (l := r) (fun z hz => h z (by simp [hz])) ⟨x, hx, hp, hq⟩
      have : (if q y = true then 1 else 0) ≤ (if p y = true then 1 else 0) := by
        cases hy : q y with
        | false => simp
        | true => simp [h y (by simp) hy]
      omega

theorem any_all {tm tmN : Tm L0} {A AN : AH L0} {ss : List (Step L0)} (hch : Chain P n0 ws ops (List.range ops.size) tm A ss tmN AN)
    (hok : drawOk ops ss = true) (htcl : ∀ (t : Nat) (v : AV L0), tm[t]? = some (some v) → ∀ i, i ∈ v.ids → i < A.length) (hacl : ∀ i j, j ∈ (getH A i).ids → j < A.length)
    {ρ0 : Rho} {fps0 : Fps} {w0 : World} {Q : Exit → Act → World → Prop}
    (hQ : ∀ ρ' fps' w' a', SR tmN AN ρ' fps' w' a' → Tr n0 ws ρ0 fps0 w0 ρ' fps' w' → Q .normal a' w') :
    ∀ (fuel : Nat) (listed : Array Bool), listed.size = ops.size → (List.range ops.size).countP (fun k => !listed.getD k false) ≤ fuel →
      (∀ k o, ops[k]? = some o → listed.getD k false = true → ∀ e, e ∈ o.after.toList → Region.binds .any e = true → listed.getD e.on false = true) →
      ∀ {ρ : Rho} {fps : Fps} {w : World} {a : Act}, AInv n0 ws tm A ss (fun k => listed.getD k false) ρ0 fps0 w0 ρ fps w a → wpAny P .any ops Q fuel listed a w := by
  have hlen := hch.lens
  have hidx := hch.idx
  have hedges : ∀ k o, ops[k]? = some o → ∀ e, e ∈ o.after.toList → Region.binds .any e = true → e.on < k := by
    intro k o ho e he hb
    unfold drawOk at hok
    simp only [Bool.and_eq_true, List.all_eq_true] at hok
    have hk : k < ops.size := (Array.getElem?_eq_some_iff.1 ho).1
    have : k ∈ ss.map (·.i) := by rw [hidx.1]; simpa using hk
    obtain ⟨s, hs, rfl⟩ := List.mem_map.1 this
    have hso := hidx.2 s hs
    rw [ho] at hso
    simp only [Option.some.injEq] at hso
    subst hso
    have := hok.2 s hs e he
    simpa [hb] using this
  have hready : ∀ (listed : Array Bool), listed.size = ops.size → Region.ready .any ops listed = [] → ∀ k, k < ops.size → listed.getD k false = true := by
    intro listed hsz hr k
    induction k using Nat.strongRecOn with
    | _ k ih =>
      intro hk
      cases hl : listed.getD k false with
      | true => rfl
      | false =>
        exfalso
        have : k ∈ Region.ready .any ops listed := by
          unfold Region.ready
          refine List.mem_filter.2 ⟨by simpa using hk, ?_⟩
          simp only [getD_tf (show k < listed.size by omega), hl, Bool.not_false, Bool.true_and, Array.getElem?_eq_getElem hk, Option.map_some, Option.getD_some]
          rw [Array.all_eq_true']
          intro e he
          cases hb : Region.binds .any e with
          | false => rfl
          | true =>
            have h1 := hedges k _ (Array.getElem?_eq_getElem hk) e (by simpa using he) hb
            simp [ih e.on h1 (by omega)]
        rw [hr] at this
        simp at this
  have hfin : ∀ (listed : Array Bool) {ρ : Rho} {fps : Fps} {w : World} {a : Act}, (∀ k, k < ops.size → listed.getD k false = true) →
      AInv n0 ws tm A ss (fun k => listed.getD k false) ρ0 fps0 w0 ρ fps w a → Q .normal a w := by
    intro listed ρ fps w a hall h
    have hf : ss.filter (fun s => listed.getD s.i false) = ss := by
      refine List.filter_eq_self.2 fun s hs => hall _ ?_
      have : s.i ∈ ss.map (·.i) := List.mem_map.2 ⟨s, hs, rfl⟩
      rw [hidx.1] at this
      simpa using this
    have hHfun : (fun i => lastW (wrH i) (getH A i) (ss.filter fun s => listed.getD s.i false)) = getH AN := by
      funext i
      rw [hf, ← hch.mem i]
    have hcl : ∀ (t : Nat) (v : AV L0), tmN[t]? = some (some v) → ∃ v', lastW (wrT t) (tm.getD t none) ss = some v' ∧ (∀ ρ, toV ρ v = toV ρ v') ∧ ∀ i, i ∈ v.ids → i ∈ v'.ids := hch.tms
    refine hQ ρ fps w a ⟨by rw [h.sz, hlen.1], fun t v hv => ?_, fun t v hv j hj => ?_, by rw [← hHfun]; exact h.hs, fun k j hj => ?_, h.nd⟩ h.tr
    · obtain ⟨v', h1, h2, _⟩ := hcl t v hv
      rw [h2]
      refine h.tmps t v' ?_ (by rw [hf]; exact h1)
      have := (List.getElem?_eq_some_iff.1 hv).1
      rw [hlen.1] at this; exact this
    · obtain ⟨v', h1, _, h3⟩ := hcl t v hv
      have hj' := h3 j hj
      rcases lastW_from (wr := wrT t) ss (tm.getD t none) with he | ⟨q, hq, he⟩
      · rw [h1] at he
        have := htcl t v' (getD_some he.symm) j hj'
        have := hlen.2.1; omega
      · rw [h1] at he
        have hqv : q.r.val = v' := by
          simp only [wrT] at he
          split at he
          · simpa using he
          · cases he
        have h4 := hlen.2.2 q hq
        have := h4.2.2.val j (by rw [hqv]; exact hj')
        omega
    · rw [hch.mem k] at hj
      rcases lastW_from (wr := wrH k) ss (getH A k) with he | ⟨q, hq, he⟩
      · rw [he] at hj
        have := hacl k j hj
        have := hlen.2.1; omega
      · have h4 := hlen.2.2 q hq
        have := (h4.2.2.upd _ (lk_mem (show lk q.r.upd k = _ from he))).2 j hj
        omega
  intro fuel
  induction fuel with
  | zero =>
    intro listed hsz hcnt hD ρ fps w a h
    have hall : ∀ k, k < ops.size → listed.getD k false = true := by
      intro k hk
      have h0 : (List.range ops.size).countP (fun k => !listed.getD k false) = 0 := by omega
      rw [List.countP_eq_zero] at h0
      have := h0 k (by simpa using hk)
      simpa using this
    refine ⟨?_, hfin listed hall h⟩
    unfold Region.ready
    rw [List.filter_eq_nil_iff]
    intro k hk
    have hk' : k < ops.size := by simpa using hk
    rw [getD_tf (by omega), hall k hk']
    simp
  | succ fuel ih =>
    intro listed hsz hcnt hD ρ fps w a h
    refine ⟨fun hr => hfin listed (hready listed hsz hr) h, fun i hi => ?_⟩
    unfold Region.ready at hi
    obtain ⟨hin, hcond⟩ := List.mem_filter.1 hi
    have hi' : i < ops.size := by simpa using hin
    simp only [Bool.and_eq_true, Array.getElem?_eq_getElem hi', Option.map_some, Option.getD_some] at hcond
    rw [getD_tf (by omega)] at hcond
    have hEi : listed.getD i false = false := by simpa using hcond.1
    have hpred : ∀ o, ops[i]? = some o → ∀ e, e ∈ o.after.toList → Region.binds .any e = true → listed.getD e.on false = true := by
      intro o ho e he hb
      rw [Array.getElem?_eq_getElem hi'] at ho
      simp only [Option.some.injEq] at ho
      subst ho
      have := Array.all_eq_true'.1 hcond.2 e (by simpa using he)
      simpa [hb] using this
    refine any_step hch hok htcl hacl rfl hi' hEi hD hpred h fun ρ' fps' w' a' h' => ?_
    have hfun : (fun k => (listed.setIfInBounds i true).getD k false) = fun k => listed.getD k false || k == i := funext fun k => getD_set (by omega)
    refine ih (listed.setIfInBounds i true) (by simp [hsz]) ?_ ?_ (by rw [hfun]; exact h')
    · have hlt : (List.range ops.size).countP (fun k => !(listed.setIfInBounds i true).getD k false) < (List.range ops.size).countP (fun k => !listed.getD k false) := by
        refine countP_lt (fun x _ hx => ?_) ⟨i, by simpa using hi', by rw [hEi]; rfl, by rw [congrFun hfun i]; simp⟩
        have hx' := congrFun hfun x
        rw [hx'] at hx
        cases hlx : listed.getD x false with
        | false => rfl
        | true => rw [hlx] at hx; simp at hx
      omega
    · intro k o ho hk e he hb
      have hk' := congrFun hfun k
      have he' := congrFun hfun e.on
      rw [hk'] at hk
      rw [he']
      simp only [Bool.or_eq_true, beq_iff_eq] at hk ⊢
      rcases hk with hk | hk
      · exact .inl (hD k o ho hk e he hb)
      · subst hk; exact .inl (hpred o ho e he hb)

end
end Go.Fl
