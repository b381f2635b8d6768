/- CarveBack: its walk. Conditions: none. -/
import Derived.Test.YtjhhecidaableaaFmH
set_option linter.unusedVariables false
set_option linter.unusedSectionVars false
set_option maxRecDepth 20000
namespace Go.Fl
open Go Go.RowKit Go.Proofs

def cbA_ls (nn : Int) (c : Int) (i : Int) (p : GPlan) (m : GMem) : Ls := [.I nn, .I c, .I i, .I p.Threads, .I p.Blocks, .I p.Table, .I p.Heap, .I p.Size, .O 0 m]
def cbA_lp : Nat → (nn c i : Int) → (p : GPlan) → (m : GMem) → Option (Nat × Ls)
  | 0, _, _, _, _, _ => none
  | n + 1, nn, c, i, p, m => match decide (i < p.Blocks) with
    | false => some (0, cbA_ls nn c i p m)
    | true => match (l9taken_o 0 m p (newTake p c 1)).isSome && !((l9taken p m c).1 != i) with
      | false => none
      | true => cbA_lp n nn c (binI .add .i64 i 1) p (l9taken p m c).2
abbrev cbA_o (nn c i : Int) (p : GPlan) (m : GMem) : Option (Nat × Ls) := cbA_lp 9 nn c i p m

def L_cbA : LSumm := { r := 8, n0 := 0, ws := [], tm := tmP 0 118 [(2, pI64), (8, .ptr 0 0 (.lit 0) 0), (10, .ptr 1 0 (.lit 0) 0), (12, pI64), (13, pI64)], A := [.cells 24 [pI64, pI64, pI64, pI64, pI64], .obj (0, false)], exits := [(.exit 0, tmP 0 118 [(2, pI64), (8, .ptr 0 0 (.lit 0) 0), (10, .ptr 1 0 (.lit 0) 0), (12, pI64), (13, pI64)], [.cells 24 [pI64, pI64, pI64, pI64, pI64], .obj (0, false)])], pre := fun ls => [(cbA_o (lI ls 0) (lI ls 1) (lI ls 2) (⟨lI ls 3, lI ls 4, lI ls 5, lI ls 6, lI ls 7⟩) (lO ls 8 0)).isSome], out := fun ls => (cbA_o (lI ls 0) (lI ls 1) (lI ls 2) (⟨lI ls 3, lI ls 4, lI ls 5, lI ls 6, lI ls 7⟩) (lO ls 8 0)).getD (0, []) }
noncomputable def cbA_b : Code := loopAt 8 Try.f9
theorem cbA_e : ∀ (n : Nat) (nn : Int) (c : Int) (i : Int) (p : GPlan) (m : GMem) (o : Nat × Ls), cbA_lp n nn c i p m = some o → o.1 < 1 := by
  intro n
  induction n with
  | zero => intro nn c i p m o h; cases h
  | succ n ih =>
    intro nn c i p m o h
    unfold cbA_lp at h
    (repeat' split at h) <;> first | (cases h; done) | (cases h; simp) | exact ih _ _ _ _ _ _ h
theorem cbA_j (nn : Int) (c : Int) (i : Int) (p : GPlan) (m : GMem) (h : (cbA_o nn c i p m).isSome = true) : (((cbA_o nn c i p m).getD (0, [])).1 == 0) = true := by
  obtain ⟨o, ho⟩ := Option.isSome_iff_exists.1 h
  have := cbA_e _ _ _ _ _ _ o ho
  rw [ho]
  simp only [Option.getD_some, beq_iff_eq]
  omega
theorem cbA_t : ∀ (n : Nat) (nn : Int) (c : Int) (i : Int) (p : GPlan) (m : GMem) (o : Nat × Ls), cbA_lp n nn c i p m = some o → LoopsTo Try.prog cbA_b L_cbA (cbA_ls nn c i p m) o := by
  intro n
  induction n with
  | zero => intro nn c i p m o h; cases h
  | succ n ih =>
    intro nn c i p m o h
    unfold cbA_lp at h
    cases h1 : decide (i < p.Blocks)
    · rw [h1] at h
      cases h
      exact goOut (B1.cons l9taken_s) hloNil 400 (j := 0) _ rfl [0] [⟨_, _, h1⟩] (by kernel_rfl)
    · rw [h1] at h
      cases h2 : ((l9taken_o 0 m p (newTake p c 1)).isSome && !((l9taken p m c).1 != i))
      · rw [h2] at h; cases h
      · rw [h2] at h
        simp only [Bool.and_eq_true, Bool.not_eq_true'] at h2
        refine goOn (B1.cons l9taken_s) hloNil 400 (ls' := cbA_ls nn c (binI .add .i64 i 1) p (l9taken p m c).2) [1,0] [⟨_, _, h1⟩, ⟨_, _, h2.1⟩, ⟨_, _, h2.2⟩] (by kernel_rfl) ?_
        exact ih _ _ _ _ _ _ h
theorem cbA_l : L_cbA.Ok Try.prog cbA_b := LSumm.ok_of fun ls hp => by
  have h := hp _ (.head _)
  obtain ⟨o, ho⟩ := Option.isSome_iff_exists.1 h
  have e : L_cbA.out ls = o := by show (Option.getD _ _) = o; rw [ho]; rfl
  rw [e]
  intro e1 he1
  obtain ⟨n, hn⟩ := cbA_t _ (lI ls 0) (lI ls 1) (lI ls 2) (⟨lI ls 3, lI ls 4, lI ls 5, lI ls 6, lI ls 7⟩) (lO ls 8 0) o ho e1 he1
  exact ⟨n, hn⟩

def cbB_ls (c : Int) (b : Int) (i : Int) (p : GPlan) (m : GMem) : Ls := [.I c, .I b, .I i, .I p.Threads, .I p.Blocks, .I p.Table, .I p.Heap, .I p.Size, .O 0 m]
def give1 (p : GPlan) (b : Int) (m : GMem) : Bool × GGive × GMem := giveStep (newGive p b) m
def give2 (p : GPlan) (b : Int) (m : GMem) : Bool × GGive × GMem := giveStep (give1 p b m).2.1 (give1 p b m).2.2
def give3 (p : GPlan) (b : Int) (m : GMem) : Bool × GGive × GMem := giveStep (give2 p b m).2.1 (give2 p b m).2.2
def give3Ok (p : GPlan) (b : Int) (m : GMem) : Bool := memOk m && (memOk (give1 p b m).2.2 && memOk (give2 p b m).2.2)
def cbB_lp : Nat → (c b i : Int) → (p : GPlan) → (m : GMem) → Option (Nat × Ls)
  | 0, _, _, _, _, _ => none
  | n + 1, c, b, i, p, m => match decide (i < b) with
    | false => some (0, cbB_ls c b i p m)
    | true => match give3Ok p i m && (give3 p i m).1 with
      | false => none
      | true => cbB_lp n c b (binI .add .i64 i 1) p (give3 p i m).2.2
abbrev cbB_o (c b i : Int) (p : GPlan) (m : GMem) : Option (Nat × Ls) := cbB_lp 10 c b i p m

def L_cbB : LSumm := { r := 17, n0 := 0, ws := [], tm := tmP 0 118 [(8, .ptr 0 0 (.lit 0) 0), (10, .ptr 1 0 (.lit 0) 0), (12, pI64), (15, pI64), (16, pI64)], A := [.cells 24 [pI64, pI64, pI64, pI64, pI64], .obj (0, false)], exits := [(.exit 2, tmP 0 118 [(8, .ptr 0 0 (.lit 0) 0), (10, .ptr 1 0 (.lit 0) 0), (12, pI64), (15, pI64), (16, pI64)], [.cells 24 [pI64, pI64, pI64, pI64, pI64], .obj (0, false)])], pre := fun ls => [(cbB_o (lI ls 0) (lI ls 1) (lI ls 2) (⟨lI ls 3, lI ls 4, lI ls 5, lI ls 6, lI ls 7⟩) (lO ls 8 0)).isSome], out := fun ls => (cbB_o (lI ls 0) (lI ls 1) (lI ls 2) (⟨lI ls 3, lI ls 4, lI ls 5, lI ls 6, lI ls 7⟩) (lO ls 8 0)).getD (0, []) }
noncomputable def cbB_b : Code := loopAt 17 Try.f9
theorem cbB_e : ∀ (n : Nat) (c : Int) (b : Int) (i : Int) (p : GPlan) (m : GMem) (o : Nat × Ls), cbB_lp n c b i p m = some o → o.1 < 1 := by
  intro n
  induction n with
  | zero => intro c b i p m o h; cases h
  | succ n ih =>
    intro c b i p m o h
    unfold cbB_lp at h
    (repeat' split at h) <;> first | (cases h; done) | (cases h; simp) | exact ih _ _ _ _ _ _ h
theorem cbB_j (c : Int) (b : Int) (i : Int) (p : GPlan) (m : GMem) (h : (cbB_o c b i p m).isSome = true) : (((cbB_o c b i p m).getD (0, [])).1 == 0) = true := by
  obtain ⟨o, ho⟩ := Option.isSome_iff_exists.1 h
  have := cbB_e _ _ _ _ _ _ o ho
  rw [ho]
  simp only [Option.getD_some, beq_iff_eq]
  omega
theorem cbB_t : ∀ (n : Nat) (c : Int) (b : Int) (i : Int) (p : GPlan) (m : GMem) (o : Nat × Ls), cbB_lp n c b i p m = some o → LoopsTo Try.prog cbB_b L_cbB (cbB_ls c b i p m) o := by
  intro n
  induction n with
  | zero => intro c b i p m o h; cases h
  | succ n ih =>
    intro c b i p m o h
    unfold cbB_lp at h
    cases h1 : decide (i < b)
    · rw [h1] at h
      cases h
      exact goOut (B1.cons newGive_s|>.cons giveStep_s) hloNil 400 (j := 0) _ rfl [0] [⟨_, _, h1⟩] (by kernel_rfl)
    · rw [h1] at h
      cases h2 : (give3Ok p i m && (give3 p i m).1)
      · rw [h2] at h; cases h
      · rw [h2] at h
        unfold give3Ok at h2
        simp only [Bool.and_eq_true] at h2
        refine goOn (B1.cons newGive_s|>.cons giveStep_s) hloNil 400 (ls' := cbB_ls c b (binI .add .i64 i 1) p (give3 p i m).2.2) [1,0] [⟨_, _, h1⟩, ⟨_, _, h2.1.1⟩, ⟨_, _, h2.1.2.1⟩, ⟨_, _, h2.1.2.2⟩, ⟨_, _, h2.2⟩] (by kernel_rfl) ?_
        exact ih _ _ _ _ _ _ h
theorem cbB_l : L_cbB.Ok Try.prog cbB_b := LSumm.ok_of fun ls hp => by
  have h := hp _ (.head _)
  obtain ⟨o, ho⟩ := Option.isSome_iff_exists.1 h
  have e : L_cbB.out ls = o := by show (Option.getD _ _) = o; rw [ho]; rfl
  rw [e]
  intro e1 he1
  obtain ⟨n, hn⟩ := cbB_t _ (lI ls 0) (lI ls 1) (lI ls 2) (⟨lI ls 3, lI ls 4, lI ls 5, lI ls 6, lI ls 7⟩) (lO ls 8 0) o ho e1 he1
  exact ⟨n, hn⟩

def cbC_ls (c : Int) (i : Int) (p : GPlan) (m : GMem) : Ls := [.I c, .I i, .I p.Threads, .I p.Blocks, .I p.Table, .I p.Heap, .I p.Size, .O 0 m]
def cbC_lp : Nat → (c i : Int) → (p : GPlan) → (m : GMem) → Option (Nat × Ls)
  | 0, _, _, _, _ => none
  | n + 1, c, i, p, m => match decide (i ≥ -1) with
    | false => some (0, cbC_ls c i p m)
    | true => match (l9taken_o 0 m p (newTake p c 1)).isSome && !((l9taken p m c).1 != i) with
      | false => none
      | true => cbC_lp n c (binI .sub .i64 i 1) p (l9taken p m c).2
abbrev cbC_o (c i : Int) (p : GPlan) (m : GMem) : Option (Nat × Ls) := cbC_lp 11 c i p m

def L_cbC : LSumm := { r := 28, n0 := 0, ws := [], tm := tmP 0 118 [(8, .ptr 0 0 (.lit 0) 0), (10, .ptr 1 0 (.lit 0) 0), (12, pI64), (19, pI64)], A := [.cells 24 [pI64, pI64, pI64, pI64, pI64], .obj (0, false)], exits := [(.exit 4, tmP 0 118 [(8, .ptr 0 0 (.lit 0) 0), (10, .ptr 1 0 (.lit 0) 0), (12, pI64), (19, pI64)], [.cells 24 [pI64, pI64, pI64, pI64, pI64], .obj (0, false)])], pre := fun ls => [(cbC_o (lI ls 0) (lI ls 1) (⟨lI ls 2, lI ls 3, lI ls 4, lI ls 5, lI ls 6⟩) (lO ls 7 0)).isSome], out := fun ls => (cbC_o (lI ls 0) (lI ls 1) (⟨lI ls 2, lI ls 3, lI ls 4, lI ls 5, lI ls 6⟩) (lO ls 7 0)).getD (0, []) }
noncomputable def cbC_b : Code := loopAt 28 Try.f9
theorem cbC_e : ∀ (n : Nat) (c : Int) (i : Int) (p : GPlan) (m : GMem) (o : Nat × Ls), cbC_lp n c i p m = some o → o.1 < 1 := by
  intro n
  induction n with
  | zero => intro c i p m o h; cases h
  | succ n ih =>
    intro c i p m o h
    unfold cbC_lp at h
    (repeat' split at h) <;> first | (cases h; done) | (cases h; simp) | exact ih _ _ _ _ _ h
theorem cbC_j (c : Int) (i : Int) (p : GPlan) (m : GMem) (h : (cbC_o c i p m).isSome = true) : (((cbC_o c i p m).getD (0, [])).1 == 0) = true := by
  obtain ⟨o, ho⟩ := Option.isSome_iff_exists.1 h
  have := cbC_e _ _ _ _ _ o ho
  rw [ho]
  simp only [Option.getD_some, beq_iff_eq]
  omega
theorem cbC_t : ∀ (n : Nat) (c : Int) (i : Int) (p : GPlan) (m : GMem) (o : Nat × Ls), cbC_lp n c i p m = some o → LoopsTo Try.prog cbC_b L_cbC (cbC_ls c i p m) o := by
  intro n
  induction n with
  | zero => intro c i p m o h; cases h
  | succ n ih =>
    intro c i p m o h
    unfold cbC_lp at h
    cases h1 : decide (i ≥ -1)
    · rw [h1] at h
      cases h
      exact goOut (B1.cons l9taken_s) hloNil 400 (j := 0) _ rfl [0] [⟨_, _, h1⟩] (by kernel_rfl)
    · rw [h1] at h
      cases h2 : ((l9taken_o 0 m p (newTake p c 1)).isSome && !((l9taken p m c).1 != i))
      · rw [h2] at h; cases h
      · rw [h2] at h
        simp only [Bool.and_eq_true, Bool.not_eq_true'] at h2
        refine goOn (B1.cons l9taken_s) hloNil 400 (ls' := cbC_ls c (binI .sub .i64 i 1) p (l9taken p m c).2) [1,0] [⟨_, _, h1⟩, ⟨_, _, h2.1⟩, ⟨_, _, h2.2⟩] (by kernel_rfl) ?_
        exact ih _ _ _ _ _ h
theorem cbC_l : L_cbC.Ok Try.prog cbC_b := LSumm.ok_of fun ls hp => by
  have h := hp _ (.head _)
  obtain ⟨o, ho⟩ := Option.isSome_iff_exists.1 h
  have e : L_cbC.out ls = o := by show (Option.getD _ _) = o; rw [ho]; rfl
  rw [e]
  intro e1 he1
  obtain ⟨n, hn⟩ := cbC_t _ (lI ls 0) (lI ls 1) (⟨lI ls 2, lI ls 3, lI ls 4, lI ls 5, lI ls 6⟩) (lO ls 7 0) o ho e1 he1
  exact ⟨n, hn⟩

def cbOA (n c nn : Int) : Option (Nat × Ls) := cbA_o nn c 0 (ccP n) (ccM n)
def cbRA (n c nn : Int) : Ls := ((cbOA n c nn).getD (0, [])).2
def cbBack (A : Ls) : Int := kind09 (lI A 0) (binI .add .i64 (plR A 3).Blocks 1)
def cbT (A : Ls) : Bool × GTake × GMem := takeStep (newTake (plR A 3) (lI A 1) 0) (lO A 8 0)
def cbOB (A : Ls) (b : Int) : Option (Nat × Ls) := cbB_o (lI A 1) b 0 (plR A 3) (cbT A).2.2
def cbRB (A : Ls) (b : Int) : Ls := ((cbOB A b).getD (0, [])).2
def cbOC (A : Ls) (b : Int) : Option (Nat × Ls) := cbC_o (lI (cbRB A b) 0) (binI .sub .i64 (lI (cbRB A b) 1) 1) (plR (cbRB A b) 3) (lO (cbRB A b) 8 0)
def cbRC (A : Ls) (b : Int) : Ls := ((cbOC A b).getD (0, [])).2
def cbRes (A : Ls) (b : Int) : Bool := (memTraps (lO (cbRC A b) 7 0) == 0)
def cbOk1 (n c nn : Int) : Bool := newOk 1 n && (freshOk (ccP n) && (cbOA n c nn).isSome)
def cbOk2 (A : Ls) (b : Int) : Bool := memOk (lO A 8 0) && ((cbT A).1 && (!(takeCell (cbT A).2.1 != 0) && (!(binI .add .i64 (plR A 3).Blocks 1 == 0) && ((cbOB A b).isSome && (cbOC A b).isSome))))
def CarveBack (a b c : Int) : Bool := cbRes (cbRA (binI .add .i64 1 (kind09 a 8)) (kind09 b 3) c) (cbBack (cbRA (binI .add .i64 1 (kind09 a 8)) (kind09 b 3) c))

def CarveBack_pre (a : Int) (b : Int) (c : Int) : List Bool := [cbOk1 (binI .add .i64 1 (kind09 a 8)) (kind09 b 3) c, cbOk2 (cbRA (binI .add .i64 1 (kind09 a 8)) (kind09 b 3) c) (cbBack (cbRA (binI .add .i64 1 (kind09 a 8)) (kind09 b 3) c))]
def CarveBack_out (a : Int) (b : Int) (c : Int) : Ls := [.B (CarveBack a b c)]
def S_CarveBack : Summ := { f := 9, args := [pI64, pI64, pI64], H := [], v := pB, ws := [], H' := [], pre := fun ls => CarveBack_pre (lI ls 0) (lI ls 1) (lI ls 2), out := fun ls => CarveBack_out (lI ls 0) (lI ls 1) (lI ls 2) }
theorem CarveBack_w (a : Int) (b : Int) (c : Int) (q0 : (cbOk1 (binI .add .i64 1 (kind09 a 8)) (kind09 b 3) c) = true) (q1 : (cbOk2 (cbRA (binI .add .i64 1 (kind09 a 8)) (kind09 b 3) c) (cbBack (cbRA (binI .add .i64 1 (kind09 a 8)) (kind09 b 3) c))) = true) : S_CarveBack.At Try.prog [.I a, .I b, .I c] (CarveBack_out a b c) := by
  unfold CarveBack_out
  have hs : l9shown = true := by kernel_rfl
  unfold cbOk1 newOk freshOk at q0
  unfold cbOk2 at q1
  simp only [Bool.and_eq_true, Bool.not_eq_true'] at q0 q1
  obtain ⟨q0, ⟨q2, q3, q4, q5, q6⟩, q7⟩ := q0
  obtain ⟨p1, p2, p3, p4, p5, p6⟩ := q1
  have p4' : (!(binI .add .i64 (plR (cbRA (binI .add .i64 1 (kind09 a 8)) (kind09 b 3) c) 3).Blocks 1 == 0)) = true := by rw [p4]; rfl
  unfold cbOA at q7
  unfold cbOB at p5
  unfold cbOC at p6
  have hA := cbA_j _ _ _ _ _ q7
  have hB := cbB_j _ _ _ _ _ p5
  have hC := cbC_j _ _ _ _ p6
  exact way (B1.cons l9shown_s|>.cons kind09_s|>.cons r05New_s|>.cons l9fresh_s|>.cons newTake_s|>.cons takeStep_s|>.cons takeCell_s|>.cons memTraps_s) ⟨Try.func9, Try.call9⟩ (hloCons cbC_l (by kernel_rfl) (hloCons cbB_l (by kernel_rfl) (hloCons cbA_l (by kernel_rfl) hloNil))) 400 [0,1,0,0] [⟨true, true, rfl⟩, ⟨_, _, q0⟩, ⟨_, _, q2⟩, ⟨_, _, q3⟩, ⟨_, _, q4⟩, ⟨_, _, q5⟩, ⟨true, true, rfl⟩, ⟨_, _, hs⟩, ⟨_, _, q6⟩, ⟨_, _, q7⟩, ⟨_, _, hA⟩, ⟨_, _, p1⟩, ⟨true, true, rfl⟩, ⟨_, _, p2⟩, ⟨_, _, p3⟩, ⟨_, _, p4'⟩, ⟨_, _, p5⟩, ⟨_, _, hB⟩, ⟨_, _, p6⟩, ⟨_, _, hC⟩] (fun ρ => by kernel_rfl)
theorem CarveBack_s : S_CarveBack.Ok Try.prog := fun ls hp => Summ.at_canon (by kernel_rfl) (by kernel_rfl) (CarveBack_w (lI ls 0) (lI ls 1) (lI ls 2) (hp _ (.head _)) (hp _ (.tail _ (.head _))))

theorem cbA_nn : ∀ (n : Nat) (nn nn' c i : Int) (p : GPlan) (m : GMem), cbA_lp n nn c i p m = (cbA_lp n nn' c i p m).map (fun o => (o.1, .I nn :: o.2.tail)) := by
  intro n
  induction n with
  | zero => intro nn nn' c i p m; rfl
  | succ n ih =>
    intro nn nn' c i p m
    unfold cbA_lp
    cases h1 : decide (i < p.Blocks)
    · rfl
    · simp only
      cases h2 : ((l9taken_o 0 m p (newTake p c 1)).isSome && !((l9taken p m c).1 != i))
      · rfl
      · exact ih _ _ _ _ _ _
theorem cbRA_nn (n c nn : Int) (h : (cbOA n c 0).isSome = true) : cbRA n c nn = .I nn :: (cbRA n c 0).tail ∧ (cbOA n c nn).isSome = true := by
  have e : cbOA n c nn = (cbOA n c 0).map (fun o => (o.1, .I nn :: o.2.tail)) := cbA_nn _ _ _ _ _ _ _
  obtain ⟨o, ho⟩ := Option.isSome_iff_exists.1 h
  unfold cbRA
  rw [e, ho]
  exact ⟨rfl, rfl⟩
theorem cbT_nn (l : Ls) (nn : Int) : cbT (.I nn :: l.tail) = cbT l := by cases l <;> rfl
theorem cbRB_nn (l : Ls) (nn b : Int) : cbRB (.I nn :: l.tail) b = cbRB l b := by cases l <;> rfl
theorem cbOk2_nn (l : Ls) (nn b : Int) : cbOk2 (.I nn :: l.tail) b = cbOk2 l b := by cases l <;> rfl
theorem cbRes_nn (l : Ls) (nn b : Int) : cbRes (.I nn :: l.tail) b = cbRes l b := by cases l <;> rfl
theorem cbBack_nn (l : Ls) (nn : Int) : cbBack (.I nn :: l.tail) = kind09 nn (binI .add .i64 (plR l 3).Blocks 1) := by cases l <;> rfl

def cbCk (n c : Nat) : Bool := cbOk1 (binI .add .i64 1 (n : Int)) (c : Int) 0 && ((binI .add .i64 (plR (cbRA (binI .add .i64 1 (n : Int)) (c : Int) 0) 3).Blocks 1 == ((n + 2 : Nat) : Int)) &&
  (List.range (n + 2)).all (fun b => cbOk2 (cbRA (binI .add .i64 1 (n : Int)) (c : Int) 0) (b : Int) && cbRes (cbRA (binI .add .i64 1 (n : Int)) (c : Int) 0) (b : Int)))

end Go.Fl
