/- AllocSteps: that the walk's answer does not hang on what lies behind the slice's first cells. Conditions: none. -/
import Derived.Test.YtjhhecidaableaaFmP
set_option linter.unusedVariables false
set_option linter.unusedSectionVars false
set_option maxRecDepth 20000
namespace Go.Fl
open Go Go.RowKit Go.Proofs

def insL (l : List Int) (o : Nat × Ls) : Nat × Ls := (o.1, o.2.take 5 ++ (.A l :: o.2.drop 5))

theorem asB_ins : ∀ (n : Nat) (c b k : Int) (d : Bool) (i : Int) (l : List Int) (m : GMem) (x : GAlloc), asB_lp n c b k d i l m x = (asBN_lp n c b k d i m x).map (insL l) := by
  intro n
  induction n with
  | zero => intro c b k d i l m x; rfl
  | succ n ih =>
    intro c b k d i l m x
    unfold asB_lp asBN_lp
    cases decide (i < 60)
    · rfl
    · cases d
      · simp only
        cases (memOk m && allocOk x)
        · rfl
        · exact ih _ _ _ _ _ _ _ _
      · rfl

theorem asC_ins : ∀ (n : Nat) (c b k : Int) (d : Bool) (i : Int) (l : List Int) (m : GMem) (x : GAlloc), asC_lp n c b k d i l m x = (asCN_lp n c b k d i m x).map (insL l) := by
  intro n
  induction n with
  | zero => intro c b k d i l m x; rfl
  | succ n ih =>
    intro c b k d i l m x
    unfold asC_lp asCN_lp
    cases decide (i < c)
    · rfl
    · simp only
      cases (memOk m && !((memLoad m (binI .add .i64 (binI .add .i64 b 1) i)).1 != 0))
      · rfl
      · exact ih _ _ _ _ _ _ _ _

/-- What the walk behind the first loop needs of its leaves. -/
def cutA (c b i : Int) (p : GPlan) (m : GMem) : Ls := asAN_ls c b i p m

theorem asBN_shape : ∀ (n : Nat) (c b k : Int) (d : Bool) (i : Int) (m : GMem) (x : GAlloc) (o : Nat × Ls), asBN_lp n c b k d i m x = some o → ∃ c b k d i m x, o = (0, asBN_ls c b k d i m x) := by
  intro n
  induction n with
  | zero => intro c b k d i m x o h; cases h
  | succ n ih =>
    intro c b k d i m x o h
    unfold asBN_lp at h
    cases h1 : decide (i < 60)
    · rw [h1] at h; cases h
    · rw [h1] at h
      cases d
      · simp only at h
        cases h2 : (memOk m && allocOk x)
        · rw [h2] at h; cases h
        · rw [h2] at h; exact ih _ _ _ _ _ _ _ _ h
      · cases h; exact ⟨_, _, _, _, _, _, _, rfl⟩

theorem asCN_shape : ∀ (n : Nat) (c b k : Int) (d : Bool) (i : Int) (m : GMem) (x : GAlloc) (o : Nat × Ls), asCN_lp n c b k d i m x = some o → ∃ c b k d i m x, o = (0, asCN_ls c b k d i m x) := by
  intro n
  induction n with
  | zero => intro c b k d i m x o h; cases h
  | succ n ih =>
    intro c b k d i m x o h
    unfold asCN_lp at h
    cases h1 : decide (i < c)
    · rw [h1] at h; cases h; exact ⟨_, _, _, _, _, _, _, rfl⟩
    · rw [h1] at h
      simp only at h
      cases h2 : (memOk m && !((memLoad m (binI .add .i64 (binI .add .i64 b 1) i)).1 != 0))
      · rw [h2] at h; cases h
      · rw [h2] at h; exact ih _ _ _ _ _ _ _ _ h

theorem st_cut (ln lc c b i : Int) (l : List Int) (p : GPlan) (m : GMem) (h : stOk2N (asAN_ls c b i p m) = true) (h' : stResN (asAN_ls c b i p m) = true) :
    stOk2 (asA_ls ln lc c b i l p m) = true ∧ stRes (asA_ls ln lc c b i l p m) = true := by
  unfold stOk2N at h
  simp only [Bool.and_eq_true] at h
  obtain ⟨h1, h2, h3, h4⟩ := h
  obtain ⟨o, ho⟩ := Option.isSome_iff_exists.1 h1
  have eB : stB (asA_ls ln lc c b i l p m) = some (insL l o) := by
    have e : stB (asA_ls ln lc c b i l p m) = (stBN (asAN_ls c b i p m)).map (insL l) := asB_ins _ _ _ _ _ _ _ _ _
    rw [e, ho]; rfl
  obtain ⟨c1, b1, k1, d1, i1, m1, x1, rfl⟩ := asBN_shape _ _ _ _ _ _ _ _ _ ho
  have eR : stRB (asA_ls ln lc c b i l p m) = asB_ls c1 b1 k1 d1 i1 l m1 x1 := by unfold stRB; rw [eB]; rfl
  have eRN : stRBN (asAN_ls c b i p m) = asBN_ls c1 b1 k1 d1 i1 m1 x1 := by unfold stRBN; rw [ho]; rfl
  obtain ⟨q, hq⟩ := Option.isSome_iff_exists.1 h2
  rw [eRN] at hq
  have eC : stC (asB_ls c1 b1 k1 d1 i1 l m1 x1) = some (insL l q) := by
    have e : stC (asB_ls c1 b1 k1 d1 i1 l m1 x1) = (stCN (asBN_ls c1 b1 k1 d1 i1 m1 x1)).map (insL l) := asC_ins _ _ _ _ _ _ _ _ _
    rw [e, hq]; rfl
  obtain ⟨c2, b2, k2, d2, i2, m2, x2, rfl⟩ := asCN_shape _ _ _ _ _ _ _ _ _ hq
  have fR : stRC (asA_ls ln lc c b i l p m) = asC_ls c2 b2 k2 d2 i2 l m2 x2 := by unfold stRC; rw [eR, eC]; rfl
  have fN : stRCN (asAN_ls c b i p m) = asCN_ls c2 b2 k2 d2 i2 m2 x2 := by unfold stRCN; rw [eRN, hq]; rfl
  rw [fN] at h3 h4
  unfold stResN at h'
  rw [fN] at h'
  refine ⟨?_, ?_⟩
  · unfold stOk2
    simp only [Bool.and_eq_true]
    refine ⟨by rw [eB]; rfl, by rw [eR, eC]; rfl, ?_, ?_⟩
    · rw [fR]; exact h3
    · rw [fR]; exact h4
  · unfold stRes
    rw [fR]
    exact h'

theorem asA_cut (c : Nat) (hc : c ≤ 8) (l : List Int) (ln lc b : Int) (hln : ln = (l.length : Int)) (p : GPlan) : ∀ (n : Nat) (i : Int) (m : GMem) (o : Nat × Ls), 0 ≤ i →
    asA_lp n ((l.take c).length : Nat) 0 c b i (l.take c) p m = some o →
    ∃ i' m', o = (0, asA_ls ((l.take c).length : Nat) 0 c b i' (l.take c) p m') ∧ asA_lp n ln lc c b i l p m = some (0, asA_ls ln lc c b i' l p m') := by
  subst hln
  intro n
  induction n with
  | zero => intro i m o hi h; cases h
  | succ n ih =>
    intro i m o hi h
    unfold asA_lp at h ⊢
    have e0 : decide ((0 : Int) ≤ ((l.take c).length : Nat)) = true := by simp
    have e0' : decide ((0 : Int) ≤ (l.length : Int)) = true := by simp
    rw [e0] at h
    rw [e0']
    simp only at h ⊢
    have hlen : (l.take c).length = min c l.length := by simp
    cases h1 : decide (i < ((l.take c).length : Nat))
    · rw [h1] at h
      cases h
      refine ⟨i, m, rfl, ?_⟩
      simp only [decide_eq_false_iff_not] at h1
      cases h2 : decide (i < (l.length : Int))
      · rfl
      · simp only [decide_eq_true_eq] at h2
        have h3 : decide (i < (c : Int)) = false := by simp only [decide_eq_false_iff_not]; omega
        simp only [h3]
    · rw [h1] at h
      simp only [decide_eq_true_eq] at h1
      have h2 : decide (i < (l.length : Int)) = true := by simp only [decide_eq_true_eq]; omega
      have h3 : decide (i < (c : Int)) = true := by simp only [decide_eq_true_eq]; omega
      rw [h3] at h
      simp only [h2, h3]
      simp only at h
      cases h4 : (memOk m && (decide (0 ≤ i) && decide (0 + i.toNat * 1 < (l.take c).length)))
      · rw [h4] at h; cases h
      · rw [h4] at h
        simp only [Bool.and_eq_true, decide_eq_true_eq] at h4
        have h5 : (memOk m && (decide (0 ≤ i) && decide (0 + i.toNat * 1 < l.length))) = true := by
          simp only [Bool.and_eq_true, decide_eq_true_eq]
          exact ⟨h4.1, h4.2.1, by omega⟩
        rw [h5]
        simp only at h ⊢
        have e1 : binI .add .i64 i 1 = i + 1 := by
          show IntKind.i64.wrap (i + 1) = i + 1
          rw [IntKind.wrap_i64]; omega
        have e2 : (l.take c).getD (0 + i.toNat * 1) 0 = l.getD (0 + i.toNat * 1) 0 := by
          rw [List.getD_eq_getElem?_getD, List.getD_eq_getElem?_getD, List.getElem?_take_of_lt (by omega)]
        rw [e1, e2] at h
        rw [e1]
        exact ih (i + 1) _ o (by omega) h

/-- The closed part: c words, of which the first vs.length were written. -/
def stCk (c : Nat) (vs : List Int) : Bool :=
  match stA (vs.length : Nat) 0 c vs with
  | none => false
  | some o => stOk1 c && (stOk2N (asAN_ls (lI o.2 2) (lI o.2 3) (lI o.2 4) (plR o.2 6) (lO o.2 11 0)) && stResN (asAN_ls (lI o.2 2) (lI o.2 3) (lI o.2 4) (plR o.2 6) (lO o.2 11 0)))

theorem st_all (c : Nat) (hc : c ≤ 8) (l : List Int) (lc : Int) (h : stCk c (l.take c) = true) :
    stOk1 c = true ∧ (stA (l.length : Nat) lc c l).isSome = true ∧ stOk2 (stRA (l.length : Nat) lc c l) = true ∧ stRes (stRA (l.length : Nat) lc c l) = true := by
  unfold stCk at h
  cases ho : stA ((l.take c).length : Nat) 0 c (l.take c) with
  | none => rw [ho] at h; cases h
  | some o =>
    rw [ho] at h
    simp only [Bool.and_eq_true] at h
    obtain ⟨h1, h2, h3⟩ := h
    obtain ⟨i', m', rfl, h4⟩ := asA_cut c hc l (l.length : Nat) lc (r05Cell (ccP 2) 0 (r05Class c) 1) rfl (ccP 2) _ 0 _ o (by omega) ho
    have h5 := st_cut (l.length : Nat) lc c (r05Cell (ccP 2) 0 (r05Class c) 1) i' l (ccP 2) m' h2 h3
    have e : stA (l.length : Nat) lc c l = some (0, asA_ls (l.length : Nat) lc c (r05Cell (ccP 2) 0 (r05Class c) 1) i' l (ccP 2) m') := h4
    have e2 : stRA (l.length : Nat) lc c l = asA_ls (l.length : Nat) lc c (r05Cell (ccP 2) 0 (r05Class c) 1) i' l (ccP 2) m' := by unfold stRA; rw [e]; rfl
    exact ⟨h1, by rw [e]; rfl, by rw [e2]; exact h5.1, by rw [e2]; exact h5.2⟩

end Go.Fl
