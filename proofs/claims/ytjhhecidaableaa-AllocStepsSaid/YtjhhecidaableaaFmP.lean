/- AllocSteps on a slice that is nil: its walk. Conditions: none. -/
import Derived.Test.YtjhhecidaableaaFmO
set_option linter.unusedVariables false
set_option linter.unusedSectionVars false
set_option maxRecDepth 20000
namespace Go.Fl
open Go Go.RowKit Go.Proofs

def asAN_ls (c : Int) (b : Int) (i : Int) (p : GPlan) (m : GMem) : Ls := [.I c, .I b, .I i, .I p.Threads, .I p.Blocks, .I p.Table, .I p.Heap, .I p.Size, .O 0 m]
def asAN_lp : Nat → (c b i : Int) → (p : GPlan) → (m : GMem) → Option (Nat × Ls)
  | 0, _, _, _, _, _ => none
  | n + 1, c, b, i, p, m => match decide (i < 0) with
    | false => some (0, asAN_ls c b i p m)
    | true => none
abbrev asAN_o (c b i : Int) (p : GPlan) (m : GMem) : Option (Nat × Ls) := asAN_lp 9 c b i p m

def L_asAN : LSumm := { r := 9, n0 := 0, ws := [], tm := tmP 0 111 [(1, .nils), (6, .ptr 0 0 (.lit 0) 0), (8, .ptr 1 0 (.lit 0) 0), (10, pI64), (11, pI64), (12, pI64)], A := [.cells 24 [pI64, pI64, pI64, pI64, pI64], .obj (0, false)], exits := [(.exit 0, tmP 0 111 [(1, .nils), (6, .ptr 0 0 (.lit 0) 0), (8, .ptr 1 0 (.lit 0) 0), (10, pI64), (11, pI64), (12, pI64)], [.cells 24 [pI64, pI64, pI64, pI64, pI64], .obj (0, false)])], pre := fun ls => [(asAN_o (lI ls 0) (lI ls 1) (lI ls 2) (⟨lI ls 3, lI ls 4, lI ls 5, lI ls 6, lI ls 7⟩) (lO ls 8 0)).isSome], out := fun ls => (asAN_o (lI ls 0) (lI ls 1) (lI ls 2) (⟨lI ls 3, lI ls 4, lI ls 5, lI ls 6, lI ls 7⟩) (lO ls 8 0)).getD (0, []) }
noncomputable def asAN_b : Code := loopAt 9 Try.f14
theorem asAN_e : ∀ (n : Nat) (c : Int) (b : Int) (i : Int) (p : GPlan) (m : GMem) (o : Nat × Ls), asAN_lp n c b i p m = some o → o.1 < 1 := by
  intro n
  induction n with
  | zero => intro c b i p m o h; cases h
  | succ n ih =>
    intro c b i p m o h
    unfold asAN_lp at h
    (repeat' split at h) <;> first | (cases h; done) | (cases h; simp) | exact ih _ _ _ _ _ _ h
theorem asAN_j (c : Int) (b : Int) (i : Int) (p : GPlan) (m : GMem) (h : (asAN_o c b i p m).isSome = true) : (((asAN_o c b i p m).getD (0, [])).1 == 0) = true := by
  obtain ⟨o, ho⟩ := Option.isSome_iff_exists.1 h
  have := asAN_e _ _ _ _ _ _ o ho
  rw [ho]
  simp only [Option.getD_some, beq_iff_eq]
  omega
theorem asAN_t : ∀ (n : Nat) (c : Int) (b : Int) (i : Int) (p : GPlan) (m : GMem) (o : Nat × Ls), asAN_lp n c b i p m = some o → LoopsTo Try.prog asAN_b L_asAN (asAN_ls c b i p m) o := by
  intro n
  induction n with
  | zero => intro c b i p m o h; cases h
  | succ n ih =>
    intro c b i p m o h
    unfold asAN_lp at h
    simp only at h
    cases h1 : decide (i < 0)
    · rw [h1] at h
      cases h
      exact goOut (B1.cons memStore_s) hloNil 400 (j := 0) _ rfl [0] [⟨_, _, h1⟩] (by kernel_rfl)
    · rw [h1] at h
      cases h
theorem asAN_l : L_asAN.Ok Try.prog asAN_b := LSumm.ok_of fun ls hp => by
  have h := hp _ (.head _)
  obtain ⟨o, ho⟩ := Option.isSome_iff_exists.1 h
  have e : L_asAN.out ls = o := by show (Option.getD _ _) = o; rw [ho]; rfl
  rw [e]
  intro e1 he1
  obtain ⟨n, hn⟩ := asAN_t _ (lI ls 0) (lI ls 1) (lI ls 2) (⟨lI ls 3, lI ls 4, lI ls 5, lI ls 6, lI ls 7⟩) (lO ls 8 0) o ho e1 he1
  exact ⟨n, hn⟩

def asBN_ls (c : Int) (b : Int) (k : Int) (d : Bool) (i : Int) (m : GMem) (x : GAlloc) : Ls := [.I c, .I b, .I k, .B d, .I i, .O 0 m, .O 7 x]
def asBN_lp : Nat → (c b k : Int) → (d : Bool) → (i : Int) → (m : GMem) → (x : GAlloc) → Option (Nat × Ls)
  | 0, _, _, _, _, _, _, _ => none
  | n + 1, c, b, k, d, i, m, x => match decide (i < 60) with
    | false => none
    | true => match d with
      | true => some (0, asBN_ls c b k true i m x)
      | false => match memOk m && allocOk x with
        | false => none
        | true => asBN_lp n c b (binI .add .i64 k 1) (allocStep x m).1 (binI .add .i64 i 1) (allocStep x m).2.2 (allocStep x m).2.1
abbrev asBN_o (c b k : Int) (d : Bool) (i : Int) (m : GMem) (x : GAlloc) : Option (Nat × Ls) := asBN_lp 61 c b k d i m x

def L_asBN : LSumm := { r := 18, n0 := 0, ws := [], tm := tmP 0 111 [(8, .ptr 0 0 (.lit 0) 0), (10, pI64), (11, pI64), (13, .ptr 1 0 (.lit 0) 0), (14, pI64), (15, pB), (16, pI64)], A := [.obj (0, false), .obj (7, false)], exits := [(.exit 2, tmP 0 111 [(8, .ptr 0 0 (.lit 0) 0), (10, pI64), (11, pI64), (13, .ptr 1 0 (.lit 0) 0), (14, pI64), (15, pB), (16, pI64)], [.obj (0, false), .obj (7, false)])], pre := fun ls => [(asBN_o (lI ls 0) (lI ls 1) (lI ls 2) (lB ls 3) (lI ls 4) (lO ls 5 0) (lO ls 6 7)).isSome], out := fun ls => (asBN_o (lI ls 0) (lI ls 1) (lI ls 2) (lB ls 3) (lI ls 4) (lO ls 5 0) (lO ls 6 7)).getD (0, []) }
noncomputable def asBN_b : Code := loopAt 18 Try.f14
theorem asBN_e : ∀ (n : Nat) (c : Int) (b : Int) (k : Int) (d : Bool) (i : Int) (m : GMem) (x : GAlloc) (o : Nat × Ls), asBN_lp n c b k d i m x = some o → o.1 < 1 := by
  intro n
  induction n with
  | zero => intro c b k d i m x o h; cases h
  | succ n ih =>
    intro c b k d i m x o h
    unfold asBN_lp at h
    (repeat' split at h) <;> first | (cases h; done) | (cases h; simp) | exact ih _ _ _ _ _ _ _ _ h
theorem asBN_j (c : Int) (b : Int) (k : Int) (d : Bool) (i : Int) (m : GMem) (x : GAlloc) (h : (asBN_o c b k d i m x).isSome = true) : (((asBN_o c b k d i m x).getD (0, [])).1 == 0) = true := by
  obtain ⟨o, ho⟩ := Option.isSome_iff_exists.1 h
  have := asBN_e _ _ _ _ _ _ _ _ o ho
  rw [ho]
  simp only [Option.getD_some, beq_iff_eq]
  omega
theorem asBN_t : ∀ (n : Nat) (c : Int) (b : Int) (k : Int) (d : Bool) (i : Int) (m : GMem) (x : GAlloc) (o : Nat × Ls), asBN_lp n c b k d i m x = some o → LoopsTo Try.prog asBN_b L_asBN (asBN_ls c b k d i m x) o := by
  intro n
  induction n with
  | zero => intro c b k d i m x o h; cases h
  | succ n ih =>
    intro c b k d i m x o h
    unfold asBN_lp at h
    cases h1 : decide (i < 60)
    · rw [h1] at h
      cases h
    · rw [h1] at h
      cases d
      · simp only at h
        cases h2 : (memOk m && allocOk x)
        · rw [h2] at h; cases h
        · rw [h2] at h
          rw [Bool.and_eq_true] at h2
          refine goOn (B1.cons allocStep_s) hloNil 400 (ls' := asBN_ls c b (binI .add .i64 k 1) (allocStep x m).1 (binI .add .i64 i 1) (allocStep x m).2.2 (allocStep x m).2.1) [1,1] [⟨_, _, h1⟩, ⟨false, false, rfl⟩, ⟨_, _, h2.1⟩, ⟨_, _, h2.2⟩] (by kernel_rfl) ?_
          exact ih _ _ _ _ _ _ _ _ h
      · cases h
        exact goOut (B1.cons allocStep_s) hloNil 400 (j := 0) _ rfl [1,0] [⟨_, _, h1⟩, ⟨true, true, rfl⟩] (by kernel_rfl)
theorem asBN_l : L_asBN.Ok Try.prog asBN_b := LSumm.ok_of fun ls hp => by
  have h := hp _ (.head _)
  obtain ⟨o, ho⟩ := Option.isSome_iff_exists.1 h
  have e : L_asBN.out ls = o := by show (Option.getD _ _) = o; rw [ho]; rfl
  rw [e]
  intro e1 he1
  obtain ⟨n, hn⟩ := asBN_t _ (lI ls 0) (lI ls 1) (lI ls 2) (lB ls 3) (lI ls 4) (lO ls 5 0) (lO ls 6 7) o ho e1 he1
  exact ⟨n, hn⟩

def asCN_ls (c : Int) (b : Int) (k : Int) (d : Bool) (i : Int) (m : GMem) (x : GAlloc) : Ls := [.I c, .I b, .I k, .B d, .I i, .O 0 m, .O 7 x]
def asCN_lp : Nat → (c b k : Int) → (d : Bool) → (i : Int) → (m : GMem) → (x : GAlloc) → Option (Nat × Ls)
  | 0, _, _, _, _, _, _, _ => none
  | n + 1, c, b, k, d, i, m, x => match decide (i < c) with
    | false => some (0, asCN_ls c b k d i m x)
    | true => match memOk m && !((memLoad m (binI .add .i64 (binI .add .i64 b 1) i)).1 != 0) with
      | false => none
      | true => asCN_lp n c b k d (binI .add .i64 i 1) (memLoad m (binI .add .i64 (binI .add .i64 b 1) i)).2 x
abbrev asCN_o (c b k : Int) (d : Bool) (i : Int) (m : GMem) (x : GAlloc) : Option (Nat × Ls) := asCN_lp 9 c b k d i m x

def L_asCN : LSumm := { r := 23, n0 := 0, ws := [], tm := tmP 0 111 [(8, .ptr 0 0 (.lit 0) 0), (10, pI64), (11, pI64), (13, .ptr 1 0 (.lit 0) 0), (14, pI64), (15, pB), (17, pI64)], A := [.obj (0, false), .obj (7, false)], exits := [(.exit 4, tmP 0 111 [(8, .ptr 0 0 (.lit 0) 0), (10, pI64), (11, pI64), (13, .ptr 1 0 (.lit 0) 0), (14, pI64), (15, pB), (17, pI64)], [.obj (0, false), .obj (7, false)])], pre := fun ls => [(asCN_o (lI ls 0) (lI ls 1) (lI ls 2) (lB ls 3) (lI ls 4) (lO ls 5 0) (lO ls 6 7)).isSome], out := fun ls => (asCN_o (lI ls 0) (lI ls 1) (lI ls 2) (lB ls 3) (lI ls 4) (lO ls 5 0) (lO ls 6 7)).getD (0, []) }
noncomputable def asCN_b : Code := loopAt 23 Try.f14
theorem asCN_e : ∀ (n : Nat) (c : Int) (b : Int) (k : Int) (d : Bool) (i : Int) (m : GMem) (x : GAlloc) (o : Nat × Ls), asCN_lp n c b k d i m x = some o → o.1 < 1 := by
  intro n
  induction n with
  | zero => intro c b k d i m x o h; cases h
  | succ n ih =>
    intro c b k d i m x o h
    unfold asCN_lp at h
    (repeat' split at h) <;> first | (cases h; done) | (cases h; simp) | exact ih _ _ _ _ _ _ _ _ h
theorem asCN_j (c : Int) (b : Int) (k : Int) (d : Bool) (i : Int) (m : GMem) (x : GAlloc) (h : (asCN_o c b k d i m x).isSome = true) : (((asCN_o c b k d i m x).getD (0, [])).1 == 0) = true := by
  obtain ⟨o, ho⟩ := Option.isSome_iff_exists.1 h
  have := asCN_e _ _ _ _ _ _ _ _ o ho
  rw [ho]
  simp only [Option.getD_some, beq_iff_eq]
  omega
theorem asCN_t : ∀ (n : Nat) (c : Int) (b : Int) (k : Int) (d : Bool) (i : Int) (m : GMem) (x : GAlloc) (o : Nat × Ls), asCN_lp n c b k d i m x = some o → LoopsTo Try.prog asCN_b L_asCN (asCN_ls c b k d i m x) o := by
  intro n
  induction n with
  | zero => intro c b k d i m x o h; cases h
  | succ n ih =>
    intro c b k d i m x o h
    unfold asCN_lp at h
    cases h1 : decide (i < c)
    · rw [h1] at h
      cases h
      exact goOut (B1.cons memLoad_s) hloNil 400 (j := 0) _ rfl [0] [⟨_, _, h1⟩] (by kernel_rfl)
    · rw [h1] at h
      cases h2 : (memOk m && !((memLoad m (binI .add .i64 (binI .add .i64 b 1) i)).1 != 0))
      · rw [h2] at h; cases h
      · rw [h2] at h
        simp only [Bool.and_eq_true, Bool.not_eq_true'] at h2
        refine goOn (B1.cons memLoad_s) hloNil 400 (ls' := asCN_ls c b k d (binI .add .i64 i 1) (memLoad m (binI .add .i64 (binI .add .i64 b 1) i)).2 x) [1,0] [⟨_, _, h1⟩, ⟨_, _, h2.1⟩, ⟨_, _, h2.2⟩] (by kernel_rfl) ?_
        exact ih _ _ _ _ _ _ _ _ h
theorem asCN_l : L_asCN.Ok Try.prog asCN_b := LSumm.ok_of fun ls hp => by
  have h := hp _ (.head _)
  obtain ⟨o, ho⟩ := Option.isSome_iff_exists.1 h
  have e : L_asCN.out ls = o := by show (Option.getD _ _) = o; rw [ho]; rfl
  rw [e]
  intro e1 he1
  obtain ⟨n, hn⟩ := asCN_t _ (lI ls 0) (lI ls 1) (lI ls 2) (lB ls 3) (lI ls 4) (lO ls 5 0) (lO ls 6 7) o ho e1 he1
  exact ⟨n, hn⟩

def stAN (c : Int) : Option (Nat × Ls) := asAN_o c (r05Cell (ccP 2) 0 (r05Class c) 1) 0 (ccP 2) (stMd c).2
def stRAN (c : Int) : Ls := ((stAN c).getD (0, [])).2
def stBN (A : Ls) : Option (Nat × Ls) := asBN_o (lI A 0) (lI A 1) 0 false 0 (lO A 8 0) (newAlloc (plR A 3) (lI A 0) 1 0)
def stRBN (A : Ls) : Ls := ((stBN A).getD (0, [])).2
def stCN (B : Ls) : Option (Nat × Ls) := asCN_o (lI B 0) (lI B 1) (lI B 2) (lB B 3) 0 (lO B 5 0) (lO B 6 7)
def stRCN (A : Ls) : Ls := ((stCN (stRBN A)).getD (0, [])).2
def stResN (A : Ls) : Bool := (allocCell (lO (stRCN A) 6 7) == lI (stRCN A) 1)
def stOk2N (A : Ls) : Bool := (stBN A).isSome && ((stCN (stRBN A)).isSome && (lB (stRCN A) 3 && (lI (stRCN A) 2 == binI .add .i64 4 (lI (stRCN A) 0))))
def AllocStepsN (a : Int) : Bool := stResN (stRAN (kind10 a 8))

def AllocStepsN_pre (a : Int) : List Bool := [stOk1 (kind10 a 8), (stAN (kind10 a 8)).isSome, stOk2N (stRAN (kind10 a 8))]
def AllocStepsN_out (a : Int) : Ls := [.B (AllocStepsN a)]
def S_AllocStepsN : Summ := { f := 14, args := [pI64, .nils], H := [], v := pB, ws := [], H' := [], pre := fun ls => AllocStepsN_pre (lI ls 0), out := fun ls => AllocStepsN_out (lI ls 0) }
theorem AllocStepsN_w (a : Int) (q0 : (stOk1 (kind10 a 8)) = true) (q1 : ((stAN (kind10 a 8)).isSome) = true) (q2 : (stOk2N (stRAN (kind10 a 8))) = true) : S_AllocStepsN.At Try.prog [.I a] (AllocStepsN_out a) := by
  unfold AllocStepsN_out
  have hs : l10shown = true := by kernel_rfl
  unfold stOk1 newOk fresh10Ok at q0
  unfold stOk2N at q2
  simp only [Bool.and_eq_true, Bool.not_eq_true'] at q0 q2
  obtain ⟨q0, ⟨p1, p2, p3, p4, p5⟩, p6, p7⟩ := q0
  obtain ⟨r1, r2, r3, r4⟩ := q2
  unfold stAN at q1
  unfold stBN at r1
  unfold stCN at r2
  have hA := asAN_j _ _ _ _ _ q1
  have hB := asBN_j _ _ _ _ _ _ _ r1
  have hC := asCN_j _ _ _ _ _ _ _ r2
  exact way (B1.cons l10shown_s|>.cons kind10_s|>.cons r05New_s|>.cons l10fresh_s|>.cons l10made_s|>.cons r05Class_s|>.cons r05Cell_s|>.cons newAlloc_s|>.cons allocCell_s) ⟨Try.func14, Try.call14⟩ (hloCons asAN_l (by kernel_rfl) (hloCons asBN_l (by kernel_rfl) (hloCons asCN_l (by kernel_rfl) hloNil))) 400 [0,1,0,1,1] [⟨_, _, q0⟩, ⟨_, _, p1⟩, ⟨_, _, p2⟩, ⟨_, _, p3⟩, ⟨_, _, p4⟩, ⟨true, true, rfl⟩, ⟨_, _, hs⟩, ⟨_, _, p5⟩, ⟨_, _, p6⟩, ⟨_, _, p7⟩, ⟨_, _, q1⟩, ⟨_, _, hA⟩, ⟨_, _, r1⟩, ⟨_, _, hB⟩, ⟨_, _, r2⟩, ⟨_, _, hC⟩, ⟨_, _, r3⟩, ⟨_, _, r4⟩] (fun ρ => by kernel_rfl)
theorem AllocStepsN_s : S_AllocStepsN.Ok Try.prog := fun ls hp => Summ.at_canon (by kernel_rfl) (by kernel_rfl) (AllocStepsN_w (lI ls 0) (hp _ (.head _)) (hp _ (.tail _ (.head _))) (hp _ (.tail _ (.tail _ (.head _)))))

end Go.Fl
