/- CarveCells: its walk. Conditions: none. -/
import Derived.Test.YtjhhecidaableaaFmG
set_option linter.unusedVariables false
set_option linter.unusedSectionVars false
set_option maxRecDepth 20000
namespace Go.Fl
open Go Go.RowKit Go.Proofs

def ccA_ls (c : Int) (s : Int) (d : Bool) (st : Int) (i : Int) (p : GPlan) (m : GMem) (x : GTake) : Ls := [.I c, .I s, .B d, .I st, .I i, .I p.Threads, .I p.Blocks, .I p.Table, .I p.Heap, .I p.Size, .O 0 m, .O 4 x]
def ccA_lp : Nat → (c s : Int) → (d : Bool) → (st i : Int) → (p : GPlan) → (m : GMem) → (x : GTake) → Option (Nat × Ls)
  | 0, _, _, _, _, _, _, _, _ => none
  | n + 1, c, s, d, st, i, p, m, x => match decide (i < 40) with
    | false => none
    | true => match d with
      | true => some (0, ccA_ls c s true st i p m x)
      | false => match (memOk m && (!(x.machine.next == 6) || x.push.isSome)) && !(takeCell x != 0) with
        | false => none
        | true => ccA_lp n c s (takeStep x m).1 (binI .add .i64 st 1) (binI .add .i64 i 1) p (takeStep x m).2.2 (takeStep x m).2.1
abbrev ccA_o (c s : Int) (d : Bool) (st i : Int) (p : GPlan) (m : GMem) (x : GTake) : Option (Nat × Ls) := ccA_lp 41 c s d st i p m x

def L_ccA : LSumm := { r := 12, n0 := 0, ws := [], tm := tmP 0 135 [(8, .ptr 0 0 (.lit 0) 0), (10, .ptr 1 0 (.lit 0) 0), (12, pI64), (13, pI64), (14, .ptr 2 0 (.lit 0) 0), (15, pB), (16, pI64), (17, pI64)], A := [.cells 24 [pI64, pI64, pI64, pI64, pI64], .obj (0, false), .obj (4, false)], exits := [(.exit 0, tmP 0 135 [(8, .ptr 0 0 (.lit 0) 0), (10, .ptr 1 0 (.lit 0) 0), (12, pI64), (13, pI64), (14, .ptr 2 0 (.lit 0) 0), (15, pB), (16, pI64), (17, pI64)], [.cells 24 [pI64, pI64, pI64, pI64, pI64], .obj (0, false), .obj (4, false)])], pre := fun ls => [(ccA_o (lI ls 0) (lI ls 1) (lB ls 2) (lI ls 3) (lI ls 4) (⟨lI ls 5, lI ls 6, lI ls 7, lI ls 8, lI ls 9⟩) (lO ls 10 0) (lO ls 11 4)).isSome], out := fun ls => (ccA_o (lI ls 0) (lI ls 1) (lB ls 2) (lI ls 3) (lI ls 4) (⟨lI ls 5, lI ls 6, lI ls 7, lI ls 8, lI ls 9⟩) (lO ls 10 0) (lO ls 11 4)).getD (0, []) }
noncomputable def ccA_b : Code := loopAt 12 Try.f6
theorem ccA_e : ∀ (n : Nat) (c : Int) (s : Int) (d : Bool) (st : Int) (i : Int) (p : GPlan) (m : GMem) (x : GTake) (o : Nat × Ls), ccA_lp n c s d st i p m x = some o → o.1 < 1 := by
  intro n
  induction n with
  | zero => intro c s d st i p m x o h; cases h
  | succ n ih =>
    intro c s d st i p m x o h
    unfold ccA_lp at h
    (repeat' split at h) <;> first | (cases h; done) | (cases h; simp) | exact ih _ _ _ _ _ _ _ _ _ h
theorem ccA_j (c : Int) (s : Int) (d : Bool) (st : Int) (i : Int) (p : GPlan) (m : GMem) (x : GTake) (h : (ccA_o c s d st i p m x).isSome = true) : (((ccA_o c s d st i p m x).getD (0, [])).1 == 0) = true := by
  obtain ⟨o, ho⟩ := Option.isSome_iff_exists.1 h
  have := ccA_e _ _ _ _ _ _ _ _ _ o ho
  rw [ho]
  simp only [Option.getD_some, beq_iff_eq]
  omega
theorem ccA_t : ∀ (n : Nat) (c : Int) (s : Int) (d : Bool) (st : Int) (i : Int) (p : GPlan) (m : GMem) (x : GTake) (o : Nat × Ls), ccA_lp n c s d st i p m x = some o → LoopsTo Try.prog ccA_b L_ccA (ccA_ls c s d st i p m x) o := by
  intro n
  induction n with
  | zero => intro c s d st i p m x o h; cases h
  | succ n ih =>
    intro c s d st i p m x o h
    unfold ccA_lp at h
    cases h1 : decide (i < 40)
    · rw [h1] at h
      cases h
    · rw [h1] at h
      cases d
      · simp only at h
        cases h2 : ((memOk m && (!(x.machine.next == 6) || x.push.isSome)) && !(takeCell x != 0))
        · rw [h2] at h; cases h
        · rw [h2] at h
          simp only [Bool.and_eq_true, Bool.not_eq_true'] at h2
          refine goOn (B1.cons takeStep_s|>.cons takeCell_s) hloNil 400 (ls' := ccA_ls c s (takeStep x m).1 (binI .add .i64 st 1) (binI .add .i64 i 1) p (takeStep x m).2.2 (takeStep x m).2.1) [1,1,0] [⟨_, _, h1⟩, ⟨false, false, rfl⟩, ⟨_, _, h2.2⟩, ⟨_, _, h2.1.1⟩, ⟨_, _, h2.1.2⟩] (by kernel_rfl) ?_
          exact ih _ _ _ _ _ _ _ _ _ h
      · cases h
        exact goOut (B1.cons takeStep_s|>.cons takeCell_s) hloNil 400 (j := 0) _ rfl [1,0] [⟨_, _, h1⟩, ⟨true, true, rfl⟩] (by kernel_rfl)
theorem ccA_l : L_ccA.Ok Try.prog ccA_b := LSumm.ok_of fun ls hp => by
  have h := hp _ (.head _)
  obtain ⟨o, ho⟩ := Option.isSome_iff_exists.1 h
  have e : L_ccA.out ls = o := by show (Option.getD _ _) = o; rw [ho]; rfl
  rw [e]
  intro e1 he1
  obtain ⟨n, hn⟩ := ccA_t _ (lI ls 0) (lI ls 1) (lB ls 2) (lI ls 3) (lI ls 4) (⟨lI ls 5, lI ls 6, lI ls 7, lI ls 8, lI ls 9⟩) (lO ls 10 0) (lO ls 11 4) o ho e1 he1
  exact ⟨n, hn⟩

def ccB_ls (c : Int) (s : Int) (k : Int) (p : GPlan) (m : GMem) : Ls := [.I c, .I s, .I k, .I p.Threads, .I p.Blocks, .I p.Table, .I p.Heap, .I p.Size, .O 0 m]
def pop1 (l : Int) (m : GMem) : Bool × GPop × GMem := popStep (newPop l) m
def pop2 (l : Int) (m : GMem) : Bool × GPop × GMem := popStep (pop1 l m).2.1 (pop1 l m).2.2
def pop3 (l : Int) (m : GMem) : Bool × GPop × GMem := popStep (pop2 l m).2.1 (pop2 l m).2.2
def pop3Ok (l : Int) (m : GMem) : Bool := memOk m && (memOk (pop1 l m).2.2 && memOk (pop2 l m).2.2)
def ccB_lp : Nat → (c s k : Int) → (p : GPlan) → (m : GMem) → Option (Nat × Ls)
  | 0, _, _, _, _, _ => none
  | n + 1, c, s, k, p, m => match decide (k ≤ r05Cells c) with
    | false => some (0, ccB_ls c s k p m)
    | true => match pop3Ok (r05List s c) m with
      | false => none
      | true => match (k == r05Cells c) with
        | true => match !((popResult (pop3 (r05List s c) m).2.1).1 != 0) with
          | false => none
          | true => ccB_lp n c s (binI .add .i64 k 1) p (pop3 (r05List s c) m).2.2
        | false => match !((popResult (pop3 (r05List s c) m).2.1).1 != r05Cell p 0 c k) with
          | false => none
          | true => ccB_lp n c s (binI .add .i64 k 1) p (pop3 (r05List s c) m).2.2
abbrev ccB_o (c s k : Int) (p : GPlan) (m : GMem) : Option (Nat × Ls) := ccB_lp 10 c s k p m

def L_ccB : LSumm := { r := 21, n0 := 0, ws := [], tm := tmP 0 135 [(8, .ptr 0 0 (.lit 0) 0), (10, .ptr 1 0 (.lit 0) 0), (12, pI64), (13, pI64), (18, pI64)], A := [.cells 24 [pI64, pI64, pI64, pI64, pI64], .obj (0, false)], exits := [(.exit 2, tmP 0 135 [(8, .ptr 0 0 (.lit 0) 0), (10, .ptr 1 0 (.lit 0) 0), (12, pI64), (13, pI64), (18, pI64)], [.cells 24 [pI64, pI64, pI64, pI64, pI64], .obj (0, false)])], pre := fun ls => [(ccB_o (lI ls 0) (lI ls 1) (lI ls 2) (⟨lI ls 3, lI ls 4, lI ls 5, lI ls 6, lI ls 7⟩) (lO ls 8 0)).isSome], out := fun ls => (ccB_o (lI ls 0) (lI ls 1) (lI ls 2) (⟨lI ls 3, lI ls 4, lI ls 5, lI ls 6, lI ls 7⟩) (lO ls 8 0)).getD (0, []) }
noncomputable def ccB_b : Code := loopAt 21 Try.f6
theorem ccB_e : ∀ (n : Nat) (c : Int) (s : Int) (k : Int) (p : GPlan) (m : GMem) (o : Nat × Ls), ccB_lp n c s k p m = some o → o.1 < 1 := by
  intro n
  induction n with
  | zero => intro c s k p m o h; cases h
  | succ n ih =>
    intro c s k p m o h
    unfold ccB_lp at h
    (repeat' split at h) <;> first | (cases h; done) | (cases h; simp) | exact ih _ _ _ _ _ _ h
theorem ccB_j (c : Int) (s : Int) (k : Int) (p : GPlan) (m : GMem) (h : (ccB_o c s k p m).isSome = true) : (((ccB_o c s k p m).getD (0, [])).1 == 0) = true := by
  obtain ⟨o, ho⟩ := Option.isSome_iff_exists.1 h
  have := ccB_e _ _ _ _ _ _ o ho
  rw [ho]
  simp only [Option.getD_some, beq_iff_eq]
  omega
theorem ccB_t : ∀ (n : Nat) (c : Int) (s : Int) (k : Int) (p : GPlan) (m : GMem) (o : Nat × Ls), ccB_lp n c s k p m = some o → LoopsTo Try.prog ccB_b L_ccB (ccB_ls c s k p m) o := by
  intro n
  induction n with
  | zero => intro c s k p m o h; cases h
  | succ n ih =>
    intro c s k p m o h
    unfold ccB_lp at h
    cases h1 : decide (k ≤ r05Cells c)
    · rw [h1] at h
      cases h
      exact goOut (B1.cons r05Cell_s|>.cons r05Cells_s|>.cons r05List_s|>.cons newPop_s|>.cons popStep_s|>.cons popResult_s) hloNil 400 (j := 0) _ rfl [0] [⟨_, _, h1⟩] (by kernel_rfl)
    · rw [h1] at h
      cases h2 : pop3Ok (r05List s c) m
      · rw [h2] at h; cases h
      · rw [h2] at h
        unfold pop3Ok at h2
        simp only [Bool.and_eq_true] at h2
        cases h3 : (k == r05Cells c)
        · rw [h3] at h
          cases h4 : !((popResult (pop3 (r05List s c) m).2.1).1 != r05Cell p 0 c k)
          · rw [h4] at h; cases h
          · rw [h4] at h
            rw [Bool.not_eq_true'] at h4
            refine goOn (B1.cons r05Cell_s|>.cons r05Cells_s|>.cons r05List_s|>.cons newPop_s|>.cons popStep_s|>.cons popResult_s) hloNil 400 (ls' := ccB_ls c s (binI .add .i64 k 1) p (pop3 (r05List s c) m).2.2) [1,0,0] [⟨_, _, h1⟩, ⟨_, _, h2.1⟩, ⟨_, _, h2.2.1⟩, ⟨_, _, h2.2.2⟩, ⟨_, _, h3⟩, ⟨_, _, h4⟩] (by kernel_rfl) ?_
            exact ih _ _ _ _ _ _ h
        · rw [h3] at h
          cases h4 : !((popResult (pop3 (r05List s c) m).2.1).1 != 0)
          · rw [h4] at h; cases h
          · rw [h4] at h
            rw [Bool.not_eq_true'] at h4
            refine goOn (B1.cons r05Cell_s|>.cons r05Cells_s|>.cons r05List_s|>.cons newPop_s|>.cons popStep_s|>.cons popResult_s) hloNil 400 (ls' := ccB_ls c s (binI .add .i64 k 1) p (pop3 (r05List s c) m).2.2) [1,1,0] [⟨_, _, h1⟩, ⟨_, _, h2.1⟩, ⟨_, _, h2.2.1⟩, ⟨_, _, h2.2.2⟩, ⟨_, _, h3⟩, ⟨_, _, h4⟩] (by kernel_rfl) ?_
            exact ih _ _ _ _ _ _ h
theorem ccB_l : L_ccB.Ok Try.prog ccB_b := LSumm.ok_of fun ls hp => by
  have h := hp _ (.head _)
  obtain ⟨o, ho⟩ := Option.isSome_iff_exists.1 h
  have e : L_ccB.out ls = o := by show (Option.getD _ _) = o; rw [ho]; rfl
  rw [e]
  intro e1 he1
  obtain ⟨n, hn⟩ := ccB_t _ (lI ls 0) (lI ls 1) (lI ls 2) (⟨lI ls 3, lI ls 4, lI ls 5, lI ls 6, lI ls 7⟩) (lO ls 8 0) o ho e1 he1
  exact ⟨n, hn⟩

def plR (R : Ls) (k : Nat) : GPlan := ⟨lI R k, lI R (k + 1), lI R (k + 2), lI R (k + 3), lI R (k + 4)⟩
def freshOk (p : GPlan) : Bool := (r04New p.Size).1.isSome && ((r09Fresh_o 0 p ((r04New p.Size).1.getD default)).isSome && (decide (2 < (r09FreshM p).W.length) && ((l9fresh_o 0 p (r09Fresh p) (memNew p.Size).1).isSome && (l9fresh p).1.isSome)))
def newOk (t n : Int) : Bool := (r05New_o n 0 ⟨0, 0, 0, 0, 0⟩ ⟨t, n, binI .add .i64 10 t, 0, 0⟩).isSome
def ccP (n : Int) : GPlan := (r05New 1 n).1
def ccM (n : Int) : GMem := (l9fresh (ccP n)).1.getD default
def ccOA (n c s : Int) : Option (Nat × Ls) := ccA_o c s false 0 0 (ccP n) (ccM n) (newTake (ccP n) c s)
def ccRA (n c s : Int) : Ls := ((ccOA n c s).getD (0, [])).2
def ccOB (n c s : Int) : Option (Nat × Ls) := ccB_o (lI (ccRA n c s) 0) (lI (ccRA n c s) 1) 1 (plR (ccRA n c s) 5) (lO (ccRA n c s) 10 0)
def ccRB (n c s : Int) : Ls := ((ccOB n c s).getD (0, [])).2
def ccW (n c s : Int) : GBlock := r03OfBlock (memLoad (lO (ccRB n c s) 8 0) (r05Entry (plR (ccRB n c s) 3) 0)).1
def ccRes (n c s : Int) : Bool := ((ccW n c s).State == 1) && (((ccW n c s).Class == lI (ccRB n c s) 0) && (((ccW n c s).Stamp == lI (ccRB n c s) 1) && ((ccW n c s).Next == 0)))
def ccOk (n c s : Int) : Bool := newOk 1 n && (freshOk (ccP n) && ((ccOA n c s).isSome && (lB (ccRA n c s) 2 && (!(takeCell (lO (ccRA n c s) 11 4) != r05Cell (plR (ccRA n c s) 5) 0 (lI (ccRA n c s) 0) 0) &&
  (!(lI (ccRA n c s) 3 != binI .add .i64 6 (r05Cells (lI (ccRA n c s) 0))) && ((ccOB n c s).isSome && memOk (lO (ccRB n c s) 8 0)))))))
def CarveCells (a b c : Int) : Bool := ccRes (binI .add .i64 1 (kind09 a 8)) (kind09 b 3) (kind09 c 2)

def CarveCells_pre (a : Int) (b : Int) (c : Int) : List Bool := [ccOk (binI .add .i64 1 (kind09 a 8)) (kind09 b 3) (kind09 c 2)]
def CarveCells_out (a : Int) (b : Int) (c : Int) : Ls := [.B (CarveCells a b c)]
def S_CarveCells : Summ := { f := 6, args := [pI64, pI64, pI64], H := [], v := pB, ws := [], H' := [], pre := fun ls => CarveCells_pre (lI ls 0) (lI ls 1) (lI ls 2), out := fun ls => CarveCells_out (lI ls 0) (lI ls 1) (lI ls 2) }
theorem CarveCells_w (a : Int) (b : Int) (c : Int) (q0 : (ccOk (binI .add .i64 1 (kind09 a 8)) (kind09 b 3) (kind09 c 2)) = true) : S_CarveCells.At Try.prog [.I a, .I b, .I c] (CarveCells_out a b c) := by
  unfold CarveCells_out
  have hs : l9shown = true := by kernel_rfl
  unfold ccOk newOk freshOk at q0
  simp only [Bool.and_eq_true, Bool.not_eq_true'] at q0
  obtain ⟨q0, ⟨q1, q2, q3, q4, q5⟩, q6, q7, q8, q9, qa, qb⟩ := q0
  unfold ccOA at q6
  unfold ccOB at qa
  have hA := ccA_j _ _ _ _ _ _ _ _ q6
  have hB := ccB_j _ _ _ _ _ qa
  exact way (B1.cons l9shown_s|>.cons kind09_s|>.cons r05New_s|>.cons l9fresh_s|>.cons newTake_s|>.cons takeStep_s|>.cons takeCell_s|>.cons r05Cell_s|>.cons r05Cells_s|>.cons memLoad_s|>.cons r05Entry_s|>.cons r03OfBlock_s) ⟨Try.func6, Try.call6⟩ (hloCons ccB_l (by kernel_rfl) (hloCons ccA_l (by kernel_rfl) hloNil)) 400 [0,1,0,0,0] [⟨true, true, rfl⟩, ⟨_, _, q0⟩, ⟨_, _, q1⟩, ⟨_, _, q2⟩, ⟨_, _, q3⟩, ⟨_, _, q4⟩, ⟨true, true, rfl⟩, ⟨true, true, rfl⟩, ⟨_, _, hs⟩, ⟨_, _, q5⟩, ⟨_, _, q6⟩, ⟨_, _, hA⟩, ⟨_, _, q7⟩, ⟨_, _, q8⟩, ⟨_, _, q9⟩, ⟨_, _, qa⟩, ⟨_, _, hB⟩, ⟨_, _, qb⟩] (fun ρ => by kernel_rfl)
theorem CarveCells_s : S_CarveCells.Ok Try.prog := fun ls hp => Summ.at_canon (by kernel_rfl) (by kernel_rfl) (CarveCells_w (lI ls 0) (lI ls 1) (lI ls 2) (hp _ (.head _)))

theorem cc_all : (List.range 8).all (fun n => (List.range 3).all (fun c => (List.range 2).all (fun s => ccOk (binI .add .i64 1 (n : Int)) (c : Int) (s : Int) && ccRes (binI .add .i64 1 (n : Int)) (c : Int) (s : Int)))) = true := by kernel_rfl

end Go.Fl
