/- AllocSteps: its walk. Conditions: none. -/
import Derived.Test.YtjhhecidaableaaFmM
set_option linter.unusedVariables false
set_option linter.unusedSectionVars false
set_option maxRecDepth 20000
namespace Go.Fl
open Go Go.RowKit Go.Proofs

def asA_ls (ln : Int) (lc : Int) (c : Int) (b : Int) (i : Int) (l : List Int) (p : GPlan) (m : GMem) : Ls := [.I ln, .I lc, .I c, .I b, .I i, .A l, .I p.Threads, .I p.Blocks, .I p.Table, .I p.Heap, .I p.Size, .O 0 m]
def asA_lp : Nat → (ln lc c b i : Int) → (l : List Int) → (p : GPlan) → (m : GMem) → Option (Nat × Ls)
  | 0, _, _, _, _, _, _, _, _ => none
  | n + 1, ln, lc, c, b, i, l, p, m => match decide (0 ≤ ln) with
    | false => none
    | true => match decide (i < ln) with
      | false => some (0, asA_ls ln lc c b i l p m)
      | true => match decide (i < c) with
        | false => some (0, asA_ls ln lc c b i l p m)
        | true => match memOk m && (decide (0 ≤ i) && decide (0 + i.toNat * 1 < l.length)) with
          | false => none
          | true => asA_lp n ln lc c b (binI .add .i64 i 1) l p (memStore m (binI .add .i64 (binI .add .i64 b 1) i) (l.getD (0 + i.toNat * 1) 0))
abbrev asA_o (ln lc c b i : Int) (l : List Int) (p : GPlan) (m : GMem) : Option (Nat × Ls) := asA_lp 9 ln lc c b i l p m

def L_asA : LSumm := { r := 9, n0 := 1, ws := [], tm := tmP 0 111 [(1, .slice 0 0 (.lit 0) 0 (.lf ()) (.known (.lf ()))), (6, .ptr 1 0 (.lit 0) 0), (8, .ptr 2 0 (.lit 0) 0), (10, pI64), (11, pI64), (12, pI64)], A := [.ro .u64 (.lf ()), .cells 24 [pI64, pI64, pI64, pI64, pI64], .obj (0, false)], exits := [(.exit 0, tmP 0 111 [(1, .slice 0 0 (.lit 0) 0 (.lf ()) (.known (.lf ()))), (6, .ptr 1 0 (.lit 0) 0), (8, .ptr 2 0 (.lit 0) 0), (10, pI64), (11, pI64), (12, pI64)], [.ro .u64 (.lf ()), .cells 24 [pI64, pI64, pI64, pI64, pI64], .obj (0, false)])], pre := fun ls => [(asA_o (lI ls 0) (lI ls 1) (lI ls 2) (lI ls 3) (lI ls 4) (lA ls 5) (⟨lI ls 6, lI ls 7, lI ls 8, lI ls 9, lI ls 10⟩) (lO ls 11 0)).isSome], out := fun ls => (asA_o (lI ls 0) (lI ls 1) (lI ls 2) (lI ls 3) (lI ls 4) (lA ls 5) (⟨lI ls 6, lI ls 7, lI ls 8, lI ls 9, lI ls 10⟩) (lO ls 11 0)).getD (0, []) }
noncomputable def asA_b : Code := loopAt 9 Try.f14
theorem asA_e : ∀ (n : Nat) (ln : Int) (lc : Int) (c : Int) (b : Int) (i : Int) (l : List Int) (p : GPlan) (m : GMem) (o : Nat × Ls), asA_lp n ln lc c b i l p m = some o → o.1 < 1 := by
  intro n
  induction n with
  | zero => intro ln lc c b i l p m o h; cases h
  | succ n ih =>
    intro ln lc c b i l p m o h
    unfold asA_lp at h
    (repeat' split at h) <;> first | (cases h; done) | (cases h; simp) | exact ih _ _ _ _ _ _ _ _ _ h
theorem asA_j (ln : Int) (lc : Int) (c : Int) (b : Int) (i : Int) (l : List Int) (p : GPlan) (m : GMem) (h : (asA_o ln lc c b i l p m).isSome = true) : (((asA_o ln lc c b i l p m).getD (0, [])).1 == 0) = true := by
  obtain ⟨o, ho⟩ := Option.isSome_iff_exists.1 h
  have := asA_e _ _ _ _ _ _ _ _ _ o ho
  rw [ho]
  simp only [Option.getD_some, beq_iff_eq]
  omega
theorem asA_t : ∀ (n : Nat) (ln : Int) (lc : Int) (c : Int) (b : Int) (i : Int) (l : List Int) (p : GPlan) (m : GMem) (o : Nat × Ls), asA_lp n ln lc c b i l p m = some o → LoopsTo Try.prog asA_b L_asA (asA_ls ln lc c b i l p m) o := by
  intro n
  induction n with
  | zero => intro ln lc c b i l p m o h; cases h
  | succ n ih =>
    intro ln lc c b i l p m o h
    unfold asA_lp at h
    cases h0 : decide (0 ≤ ln)
    · rw [h0] at h; cases h
    · rw [h0] at h
      cases h1 : decide (i < ln)
      · rw [h1] at h
        cases h
        exact goOut (B1.cons memStore_s) hloNil 400 (j := 0) _ rfl [0] [⟨_, _, h0⟩, ⟨_, _, h1⟩] (by kernel_rfl)
      · rw [h1] at h
        cases h2 : decide (i < c)
        · rw [h2] at h
          cases h
          exact goOut (B1.cons memStore_s) hloNil 400 (j := 0) _ rfl [1,0] [⟨_, _, h0⟩, ⟨_, _, h1⟩, ⟨_, _, h2⟩] (by kernel_rfl)
        · rw [h2] at h
          cases h3 : (memOk m && (decide (0 ≤ i) && decide (0 + i.toNat * 1 < l.length)))
          · rw [h3] at h; cases h
          · rw [h3] at h
            simp only [Bool.and_eq_true] at h3
            refine goOn (B1.cons memStore_s) hloNil 400 (ls' := asA_ls ln lc c b (binI .add .i64 i 1) l p (memStore m (binI .add .i64 (binI .add .i64 b 1) i) (l.getD (0 + i.toNat * 1) 0))) [1,1] [⟨_, _, h0⟩, ⟨_, _, h1⟩, ⟨_, _, h2⟩, ⟨_, _, h3.2.1⟩, ⟨_, _, h1⟩, ⟨_, _, h3.2.2⟩, ⟨_, _, h3.1⟩] (by kernel_rfl) ?_
            exact ih _ _ _ _ _ _ _ _ _ h
theorem asA_l : L_asA.Ok Try.prog asA_b := LSumm.ok_of fun ls hp => by
  have h := hp _ (.head _)
  obtain ⟨o, ho⟩ := Option.isSome_iff_exists.1 h
  have e : L_asA.out ls = o := by show (Option.getD _ _) = o; rw [ho]; rfl
  rw [e]
  intro e1 he1
  obtain ⟨n, hn⟩ := asA_t _ (lI ls 0) (lI ls 1) (lI ls 2) (lI ls 3) (lI ls 4) (lA ls 5) (⟨lI ls 6, lI ls 7, lI ls 8, lI ls 9, lI ls 10⟩) (lO ls 11 0) o ho e1 he1
  exact ⟨n, hn⟩

def asB_ls (c : Int) (b : Int) (k : Int) (d : Bool) (i : Int) (l : List Int) (m : GMem) (x : GAlloc) : Ls := [.I c, .I b, .I k, .B d, .I i, .A l, .O 0 m, .O 7 x]
def asB_lp : Nat → (c b k : Int) → (d : Bool) → (i : Int) → (l : List Int) → (m : GMem) → (x : GAlloc) → Option (Nat × Ls)
  | 0, _, _, _, _, _, _, _, _ => none
  | n + 1, c, b, k, d, i, l, m, x => match decide (i < 60) with
    | false => none
    | true => match d with
      | true => some (0, asB_ls c b k true i l m x)
      | false => match memOk m && allocOk x with
        | false => none
        | true => asB_lp n c b (binI .add .i64 k 1) (allocStep x m).1 (binI .add .i64 i 1) l (allocStep x m).2.2 (allocStep x m).2.1
abbrev asB_o (c b k : Int) (d : Bool) (i : Int) (l : List Int) (m : GMem) (x : GAlloc) : Option (Nat × Ls) := asB_lp 61 c b k d i l m x

def L_asB : LSumm := { r := 18, n0 := 1, ws := [], tm := tmP 0 111 [(8, .ptr 1 0 (.lit 0) 0), (10, pI64), (11, pI64), (13, .ptr 2 0 (.lit 0) 0), (14, pI64), (15, pB), (16, pI64)], A := [.ro .u64 (.lf ()), .obj (0, false), .obj (7, false)], exits := [(.exit 2, tmP 0 111 [(8, .ptr 1 0 (.lit 0) 0), (10, pI64), (11, pI64), (13, .ptr 2 0 (.lit 0) 0), (14, pI64), (15, pB), (16, pI64)], [.ro .u64 (.lf ()), .obj (0, false), .obj (7, false)])], pre := fun ls => [(asB_o (lI ls 0) (lI ls 1) (lI ls 2) (lB ls 3) (lI ls 4) (lA ls 5) (lO ls 6 0) (lO ls 7 7)).isSome], out := fun ls => (asB_o (lI ls 0) (lI ls 1) (lI ls 2) (lB ls 3) (lI ls 4) (lA ls 5) (lO ls 6 0) (lO ls 7 7)).getD (0, []) }
noncomputable def asB_b : Code := loopAt 18 Try.f14
theorem asB_e : ∀ (n : Nat) (c : Int) (b : Int) (k : Int) (d : Bool) (i : Int) (l : List Int) (m : GMem) (x : GAlloc) (o : Nat × Ls), asB_lp n c b k d i l m x = some o → o.1 < 1 := by
  intro n
  induction n with
  | zero => intro c b k d i l m x o h; cases h
  | succ n ih =>
    intro c b k d i l m x o h
    unfold asB_lp at h
    (repeat' split at h) <;> first | (cases h; done) | (cases h; simp) | exact ih _ _ _ _ _ _ _ _ _ h
theorem asB_j (c : Int) (b : Int) (k : Int) (d : Bool) (i : Int) (l : List Int) (m : GMem) (x : GAlloc) (h : (asB_o c b k d i l m x).isSome = true) : (((asB_o c b k d i l m x).getD (0, [])).1 == 0) = true := by
  obtain ⟨o, ho⟩ := Option.isSome_iff_exists.1 h
  have := asB_e _ _ _ _ _ _ _ _ _ o ho
  rw [ho]
  simp only [Option.getD_some, beq_iff_eq]
  omega
theorem asB_t : ∀ (n : Nat) (c : Int) (b : Int) (k : Int) (d : Bool) (i : Int) (l : List Int) (m : GMem) (x : GAlloc) (o : Nat × Ls), asB_lp n c b k d i l m x = some o → LoopsTo Try.prog asB_b L_asB (asB_ls c b k d i l m x) o := by
  intro n
  induction n with
  | zero => intro c b k d i l m x o h; cases h
  | succ n ih =>
    intro c b k d i l m x o h
    unfold asB_lp at h
    cases h1 : decide (i < 60)
    · rw [h1] at h
      cases h
    · rw [h1] at h
      cases d
      · simp only at h
        cases h2 : (memOk m && allocOk x)
        · rw [h2] at h; cases h
        · rw [h2] at h
          rw [Bool.and_eq_true] at h2
          refine goOn (B1.cons allocStep_s) hloNil 400 (ls' := asB_ls c b (binI .add .i64 k 1) (allocStep x m).1 (binI .add .i64 i 1) l (allocStep x m).2.2 (allocStep x m).2.1) [1,1] [⟨_, _, h1⟩, ⟨false, false, rfl⟩, ⟨_, _, h2.1⟩, ⟨_, _, h2.2⟩] (by kernel_rfl) ?_
          exact ih _ _ _ _ _ _ _ _ _ h
      · cases h
        exact goOut (B1.cons allocStep_s) hloNil 400 (j := 0) _ rfl [1,0] [⟨_, _, h1⟩, ⟨true, true, rfl⟩] (by kernel_rfl)
theorem asB_l : L_asB.Ok Try.prog asB_b := LSumm.ok_of fun ls hp => by
  have h := hp _ (.head _)
  obtain ⟨o, ho⟩ := Option.isSome_iff_exists.1 h
  have e : L_asB.out ls = o := by show (Option.getD _ _) = o; rw [ho]; rfl
  rw [e]
  intro e1 he1
  obtain ⟨n, hn⟩ := asB_t _ (lI ls 0) (lI ls 1) (lI ls 2) (lB ls 3) (lI ls 4) (lA ls 5) (lO ls 6 0) (lO ls 7 7) o ho e1 he1
  exact ⟨n, hn⟩

def asC_ls (c : Int) (b : Int) (k : Int) (d : Bool) (i : Int) (l : List Int) (m : GMem) (x : GAlloc) : Ls := [.I c, .I b, .I k, .B d, .I i, .A l, .O 0 m, .O 7 x]
def asC_lp : Nat → (c b k : Int) → (d : Bool) → (i : Int) → (l : List Int) → (m : GMem) → (x : GAlloc) → Option (Nat × Ls)
  | 0, _, _, _, _, _, _, _, _ => none
  | n + 1, c, b, k, d, i, l, m, x => match decide (i < c) with
    | false => some (0, asC_ls c b k d i l m x)
    | true => match memOk m && !((memLoad m (binI .add .i64 (binI .add .i64 b 1) i)).1 != 0) with
      | false => none
      | true => asC_lp n c b k d (binI .add .i64 i 1) l (memLoad m (binI .add .i64 (binI .add .i64 b 1) i)).2 x
abbrev asC_o (c b k : Int) (d : Bool) (i : Int) (l : List Int) (m : GMem) (x : GAlloc) : Option (Nat × Ls) := asC_lp 9 c b k d i l m x

def L_asC : LSumm := { r := 23, n0 := 1, ws := [], tm := tmP 0 111 [(8, .ptr 1 0 (.lit 0) 0), (10, pI64), (11, pI64), (13, .ptr 2 0 (.lit 0) 0), (14, pI64), (15, pB), (17, pI64)], A := [.ro .u64 (.lf ()), .obj (0, false), .obj (7, false)], exits := [(.exit 4, tmP 0 111 [(8, .ptr 1 0 (.lit 0) 0), (10, pI64), (11, pI64), (13, .ptr 2 0 (.lit 0) 0), (14, pI64), (15, pB), (17, pI64)], [.ro .u64 (.lf ()), .obj (0, false), .obj (7, false)])], pre := fun ls => [(asC_o (lI ls 0) (lI ls 1) (lI ls 2) (lB ls 3) (lI ls 4) (lA ls 5) (lO ls 6 0) (lO ls 7 7)).isSome], out := fun ls => (asC_o (lI ls 0) (lI ls 1) (lI ls 2) (lB ls 3) (lI ls 4) (lA ls 5) (lO ls 6 0) (lO ls 7 7)).getD (0, []) }
noncomputable def asC_b : Code := loopAt 23 Try.f14
theorem asC_e : ∀ (n : Nat) (c : Int) (b : Int) (k : Int) (d : Bool) (i : Int) (l : List Int) (m : GMem) (x : GAlloc) (o : Nat × Ls), asC_lp n c b k d i l m x = some o → o.1 < 1 := by
  intro n
  induction n with
  | zero => intro c b k d i l m x o h; cases h
  | succ n ih =>
    intro c b k d i l m x o h
    unfold asC_lp at h
    (repeat' split at h) <;> first | (cases h; done) | (cases h; simp) | exact ih _ _ _ _ _ _ _ _ _ h
theorem asC_j (c : Int) (b : Int) (k : Int) (d : Bool) (i : Int) (l : List Int) (m : GMem) (x : GAlloc) (h : (asC_o c b k d i l m x).isSome = true) : (((asC_o c b k d i l m x).getD (0, [])).1 == 0) = true := by
  obtain ⟨o, ho⟩ := Option.isSome_iff_exists.1 h
  have := asC_e _ _ _ _ _ _ _ _ _ o ho
  rw [ho]
  simp only [Option.getD_some, beq_iff_eq]
  omega
theorem asC_t : ∀ (n : Nat) (c : Int) (b : Int) (k : Int) (d : Bool) (i : Int) (l : List Int) (m : GMem) (x : GAlloc) (o : Nat × Ls), asC_lp n c b k d i l m x = some o → LoopsTo Try.prog asC_b L_asC (asC_ls c b k d i l m x) o := by
  intro n
  induction n with
  | zero => intro c b k d i l m x o h; cases h
  | succ n ih =>
    intro c b k d i l m x o h
    unfold asC_lp at h
    cases h1 : decide (i < c)
    · rw [h1] at h
      cases h
      exact goOut (B1.cons memLoad_s) hloNil 400 (j := 0) _ rfl [0] [⟨_, _, h1⟩] (by kernel_rfl)
    · rw [h1] at h
      cases h2 : (memOk m && !((memLoad m (binI .add .i64 (binI .add .i64 b 1) i)).1 != 0))
      · rw [h2] at h; cases h
      · rw [h2] at h
        simp only [Bool.and_eq_true, Bool.not_eq_true'] at h2
        refine goOn (B1.cons memLoad_s) hloNil 400 (ls' := asC_ls c b k d (binI .add .i64 i 1) l (memLoad m (binI .add .i64 (binI .add .i64 b 1) i)).2 x) [1,0] [⟨_, _, h1⟩, ⟨_, _, h2.1⟩, ⟨_, _, h2.2⟩] (by kernel_rfl) ?_
        exact ih _ _ _ _ _ _ _ _ _ h
theorem asC_l : L_asC.Ok Try.prog asC_b := LSumm.ok_of fun ls hp => by
  have h := hp _ (.head _)
  obtain ⟨o, ho⟩ := Option.isSome_iff_exists.1 h
  have e : L_asC.out ls = o := by show (Option.getD _ _) = o; rw [ho]; rfl
  rw [e]
  intro e1 he1
  obtain ⟨n, hn⟩ := asC_t _ (lI ls 0) (lI ls 1) (lI ls 2) (lB ls 3) (lI ls 4) (lA ls 5) (lO ls 6 0) (lO ls 7 7) o ho e1 he1
  exact ⟨n, hn⟩

def stMd (c : Int) : Int × GMem := l10made (ccP 2) (aaM 2) c
def stA (ln lc c : Int) (l : List Int) : Option (Nat × Ls) := asA_o ln lc c (r05Cell (ccP 2) 0 (r05Class c) 1) 0 l (ccP 2) (stMd c).2
def stRA (ln lc c : Int) (l : List Int) : Ls := ((stA ln lc c l).getD (0, [])).2
def stB (A : Ls) : Option (Nat × Ls) := asB_o (lI A 2) (lI A 3) 0 false 0 (lA A 5) (lO A 11 0) (newAlloc (plR A 6) (lI A 2) 1 0)
def stRB (A : Ls) : Ls := ((stB A).getD (0, [])).2
def stC (B : Ls) : Option (Nat × Ls) := asC_o (lI B 0) (lI B 1) (lI B 2) (lB B 3) 0 (lA B 5) (lO B 6 0) (lO B 7 7)
def stRC (A : Ls) : Ls := ((stC (stRB A)).getD (0, [])).2
def stRes (A : Ls) : Bool := (allocCell (lO (stRC A) 7 7) == lI (stRC A) 1)
def stOk1 (c : Int) : Bool := newOk 1 2 && (fresh10Ok (ccP 2) && ((l10made_o 0 (aaM 2) (newAlloc (ccP 2) c 0 0)).isSome && !(decide ((stMd c).1 < 0))))
def stOk2 (A : Ls) : Bool := (stB A).isSome && ((stC (stRB A)).isSome && (lB (stRC A) 3 && (lI (stRC A) 2 == binI .add .i64 4 (lI (stRC A) 0))))
def AllocSteps (a l_n l_c : Int) (l : List Int) : Bool := stRes (stRA l_n l_c (kind10 a 8) l)

def AllocSteps_pre (a : Int) (l_n : Int) (l_c : Int) (l : List Int) : List Bool := [stOk1 (kind10 a 8), (stA l_n l_c (kind10 a 8) l).isSome, stOk2 (stRA l_n l_c (kind10 a 8) l)]
def AllocSteps_out (a : Int) (l_n : Int) (l_c : Int) (l : List Int) : Ls := [.B (AllocSteps a l_n l_c l), .A (lA (stRC (stRA l_n l_c (kind10 a 8) l)) 5)]
def S_AllocSteps : Summ := { f := 14, args := [pI64, .slice 0 0 (.lit 0) 0 (.lf ()) (.known (.lf ()))], H := [.ro .u64 (.lf ())], v := pB, ws := [], H' := [.ro .u64 (.lf ())], pre := fun ls => AllocSteps_pre (lI ls 0) (lI ls 1) (lI ls 2) (lA ls 3), out := fun ls => AllocSteps_out (lI ls 0) (lI ls 1) (lI ls 2) (lA ls 3) }
theorem AllocSteps_w (a : Int) (l_n : Int) (l_c : Int) (l : List Int) (q0 : (stOk1 (kind10 a 8)) = true) (q1 : ((stA l_n l_c (kind10 a 8) l).isSome) = true) (q2 : (stOk2 (stRA l_n l_c (kind10 a 8) l)) = true) : S_AllocSteps.At Try.prog [.I a, .I l_n, .I l_c, .A l] (AllocSteps_out a l_n l_c l) := by
  unfold AllocSteps_out
  have hs : l10shown = true := by kernel_rfl
  unfold stOk1 newOk fresh10Ok at q0
  unfold stOk2 at q2
  simp only [Bool.and_eq_true, Bool.not_eq_true'] at q0 q2
  obtain ⟨q0, ⟨p1, p2, p3, p4, p5⟩, p6, p7⟩ := q0
  obtain ⟨r1, r2, r3, r4⟩ := q2
  unfold stA at q1
  unfold stB at r1
  unfold stC at r2
  have hA := asA_j _ _ _ _ _ _ _ _ q1
  have hB := asB_j _ _ _ _ _ _ _ _ r1
  have hC := asC_j _ _ _ _ _ _ _ _ r2
  exact way (B1.cons l10shown_s|>.cons kind10_s|>.cons r05New_s|>.cons l10fresh_s|>.cons l10made_s|>.cons r05Class_s|>.cons r05Cell_s|>.cons newAlloc_s|>.cons allocCell_s) ⟨Try.func14, Try.call14⟩ (hloCons asC_l (by kernel_rfl) (hloCons asB_l (by kernel_rfl) (hloCons asA_l (by kernel_rfl) hloNil))) 400 [0,1,0,1,1] [⟨_, _, q0⟩, ⟨_, _, p1⟩, ⟨_, _, p2⟩, ⟨_, _, p3⟩, ⟨_, _, p4⟩, ⟨true, true, rfl⟩, ⟨_, _, hs⟩, ⟨_, _, p5⟩, ⟨_, _, p6⟩, ⟨_, _, p7⟩, ⟨_, _, q1⟩, ⟨_, _, hA⟩, ⟨_, _, r1⟩, ⟨_, _, hB⟩, ⟨_, _, r2⟩, ⟨_, _, hC⟩, ⟨_, _, r3⟩, ⟨_, _, r4⟩] (fun ρ => by kernel_rfl)
theorem AllocSteps_s : S_AllocSteps.Ok Try.prog := fun ls hp => Summ.at_canon (by kernel_rfl) (by kernel_rfl) (AllocSteps_w (lI ls 0) (lI ls 1) (lI ls 2) (lA ls 3) (hp _ (.head _)) (hp _ (.tail _ (.head _))) (hp _ (.tail _ (.tail _ (.head _)))))

end Go.Fl
