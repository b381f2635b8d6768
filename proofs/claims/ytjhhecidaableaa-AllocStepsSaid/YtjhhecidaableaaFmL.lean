/- The statements of layer 10: their helpers, and their contracts. Conditions: none. -/
import Derived.Test.YtjhhecidaableaaFmK
import Derived.Test.YtjhhecidaableaaFmH
set_option linter.unusedVariables false
set_option linter.unusedSectionVars false
set_option maxRecDepth 20000
namespace Go.Fl
open Go Go.RowKit Go.Proofs

def l10fresh_ls (a : Int) (p : GPlan) (y : RMem) (m : Option GMem) : Ls := [.I a, .I p.Threads, .I p.Blocks, .I p.Table, .I p.Heap, .I p.Size, .O 1 y, .P 0 m]
def l10fresh_lp : Nat → (a : Int) → (p : GPlan) → (y : RMem) → (m : Option GMem) → Option (Nat × Ls)
  | 0, _, _, _, _ => none
  | n + 1, a, p, y, m => match decide (a < p.Size) with
    | false => some (0, l10fresh_ls a p y m)
    | true => match m.isSome with
      | false => some (0, l10fresh_ls a p y m)
      | true => match memOk (m.getD default) && (decide (0 ≤ a) && decide (a < ((y.W.length : Nat) : Int))) with
        | false => none
        | true => l10fresh_lp n (binI .add .i64 a 1) p y (some (memStore (m.getD default) a (y.W.getD (0 + a.toNat * 1) 0)))
abbrev l10fresh_o (a : Int) (p : GPlan) (y : RMem) (m : Option GMem) : Option (Nat × Ls) := l10fresh_lp (p.Size.toNat + 1) a p y m

def L_l10fresh : LSumm := { r := 4, n0 := 0, ws := [], tm := tmP 0 38 [(1, .ptr 0 0 (.lit 0) 0), (4, .ptr 1 0 (.lit 0) 0), (5, .opt 2), (7, pI64)], A := [.cells 24 [pI64, pI64, pI64, pI64, pI64], .obj (1, false), .obj (0, true)], exits := [(.exit 0, tmP 0 38 [(1, .ptr 0 0 (.lit 0) 0), (4, .ptr 1 0 (.lit 0) 0), (5, .opt 2), (7, pI64)], [.cells 24 [pI64, pI64, pI64, pI64, pI64], .obj (1, false), .obj (0, true)])], pre := fun ls => [(l10fresh_o (lI ls 0) (⟨lI ls 1, lI ls 2, lI ls 3, lI ls 4, lI ls 5⟩) (lO ls 6 1) (lP ls 7 0)).isSome], out := fun ls => (l10fresh_o (lI ls 0) (⟨lI ls 1, lI ls 2, lI ls 3, lI ls 4, lI ls 5⟩) (lO ls 6 1) (lP ls 7 0)).getD (0, []) }
noncomputable def l10fresh_b : Code := loopAt 4 Try.f73
theorem l10fresh_e : ∀ (n : Nat) (a : Int) (p : GPlan) (y : RMem) (m : Option GMem) (o : Nat × Ls), l10fresh_lp n a p y m = some o → o.1 < 1 := by
  intro n
  induction n with
  | zero => intro a p y m o h; cases h
  | succ n ih =>
    intro a p y m o h
    unfold l10fresh_lp at h
    (repeat' split at h) <;> first | (cases h; done) | (cases h; simp) | exact ih _ _ _ _ _ h
theorem l10fresh_j (a : Int) (p : GPlan) (y : RMem) (m : Option GMem) (h : (l10fresh_o a p y m).isSome = true) : (((l10fresh_o a p y m).getD (0, [])).1 == 0) = true := by
  obtain ⟨o, ho⟩ := Option.isSome_iff_exists.1 h
  have := l10fresh_e _ _ _ _ _ o ho
  rw [ho]
  simp only [Option.getD_some, beq_iff_eq]
  omega
theorem l10fresh_t : ∀ (n : Nat) (a : Int) (p : GPlan) (y : RMem) (m : Option GMem) (o : Nat × Ls), l10fresh_lp n a p y m = some o → LoopsTo Try.prog l10fresh_b L_l10fresh (l10fresh_ls a p y m) o := by
  intro n
  induction n with
  | zero => intro a p y m o h; cases h
  | succ n ih =>
    intro a p y m o h
    unfold l10fresh_lp at h
    cases h1 : decide (a < p.Size)
    · rw [h1] at h
      cases h
      exact goOut (B1.cons memStore_s) hloNil 400 (j := 0) _ rfl [0] [⟨_, _, h1⟩] (by kernel_rfl)
    · rw [h1] at h
      cases m with
      | none =>
        cases h
        exact goOut (B1.cons memStore_s) hloNil 400 (j := 0) _ rfl [1,0] [⟨_, _, h1⟩, ⟨true, true, rfl⟩] (by kernel_rfl)
      | some m =>
        simp only [Option.isSome_some, Option.getD_some] at h
        cases h2 : (memOk m && (decide (0 ≤ a) && decide (a < ((y.W.length : Nat) : Int))))
        · rw [h2] at h; cases h
        · rw [h2] at h
          rw [Bool.and_eq_true] at h2
          obtain ⟨x1, x2, x3⟩ := inbX h2.2
          refine goOn (B1.cons memStore_s) hloNil 400 (ls' := l10fresh_ls (binI .add .i64 a 1) p y (some (memStore m a (y.W.getD (0 + a.toNat * 1) 0)))) [1,1] [⟨_, _, h1⟩, ⟨true, true, rfl⟩, ⟨_, _, x1⟩, ⟨_, _, x2⟩, ⟨_, _, x3⟩, ⟨_, _, h2.1⟩, ⟨_, _, lenT y.W⟩] (by kernel_rfl) ?_
          exact ih _ _ _ _ _ h
theorem l10fresh_l : L_l10fresh.Ok Try.prog l10fresh_b := LSumm.ok_of fun ls hp => by
  have h := hp _ (.head _)
  obtain ⟨o, ho⟩ := Option.isSome_iff_exists.1 h
  have e : L_l10fresh.out ls = o := by show (Option.getD _ _) = o; rw [ho]; rfl
  rw [e]
  intro e1 he1
  obtain ⟨n, hn⟩ := l10fresh_t _ (lI ls 0) (⟨lI ls 1, lI ls 2, lI ls 3, lI ls 4, lI ls 5⟩) (lO ls 6 1) (lP ls 7 0) o ho e1 he1
  exact ⟨n, hn⟩

def l10freshR (p : GPlan) : Ls := ((l10fresh_o 0 p (r09Fresh p) (memNew p.Size).1).getD (0, [])).2
def l10fresh (p : GPlan) : Option GMem × RMem := (lP (l10freshR p) 7 0, lO (l10freshR p) 6 1)

def l10fresh_pre (p : GPlan) : List Bool := [(r04New p.Size).1.isSome, (r09Fresh_o 0 p ((r04New p.Size).1.getD default)).isSome, decide (2 < (r09FreshM p).W.length), (l10fresh_o 0 p (r09Fresh p) (memNew p.Size).1).isSome]
def l10fresh_out (p : GPlan) : Ls := [.P 0 (l10fresh p).1, .O 1 (l10fresh p).2]
def S_l10fresh : Summ := { f := 73, args := [.agg [pI64, pI64, pI64, pI64, pI64]], H := [], v := .tuple [.opt 0, .ptr 1 0 (.lit 0) 0], ws := [], H' := [.obj (0, true), .obj (1, false)], pre := fun ls => l10fresh_pre (⟨lI ls 0, lI ls 1, lI ls 2, lI ls 3, lI ls 4⟩), out := fun ls => l10fresh_out (⟨lI ls 0, lI ls 1, lI ls 2, lI ls 3, lI ls 4⟩) }
theorem l10fresh_w (p : GPlan) (q0 : ((r04New p.Size).1.isSome) = true) (q1 : ((r09Fresh_o 0 p ((r04New p.Size).1.getD default)).isSome) = true) (q2 : (decide (2 < (r09FreshM p).W.length)) = true) (q3 : ((l10fresh_o 0 p (r09Fresh p) (memNew p.Size).1).isSome) = true) : S_l10fresh.At Try.prog [.I p.Threads, .I p.Blocks, .I p.Table, .I p.Heap, .I p.Size] (l10fresh_out p) := by
  unfold l10fresh_out
  have hj := l10fresh_j 0 p (r09Fresh p) (memNew p.Size).1 q3
  exact way (B1.cons r09Fresh_s|>.cons memNew_s) ⟨Try.func73, Try.call73⟩ (hloCons l10fresh_l (by kernel_rfl) hloNil) 400 [] [⟨_, _, q0⟩, ⟨_, _, q1⟩, ⟨_, _, q2⟩, ⟨_, _, q3⟩, ⟨_, _, hj⟩] (fun ρ => by kernel_rfl)
theorem l10fresh_s : S_l10fresh.Ok Try.prog := fun ls hp => Summ.at_canon (by kernel_rfl) (by kernel_rfl) (l10fresh_w (⟨lI ls 0, lI ls 1, lI ls 2, lI ls 3, lI ls 4⟩) (hp _ (.head _)) (hp _ (.tail _ (.head _))) (hp _ (.tail _ (.tail _ (.head _)))) (hp _ (.tail _ (.tail _ (.tail _ (.head _))))))

def sA_ls (a : Bool) (b : Bool) (i : Int) (m : GMem) (x : GAlloc) (y : GReserve) : Ls := [.B a, .B b, .I i, .O 0 m, .O 7 x, .O 6 y]
def sA_lp : Nat → (a b : Bool) → (i : Int) → (m : GMem) → (x : GAlloc) → (y : GReserve) → Option (Nat × Ls)
  | 0, _, _, _, _, _, _ => none
  | n + 1, a, b, i, m, x, y => match decide (i < 60) with
    | false => some (0, sA_ls a b i m x y)
    | true => match (memOk m && allocOk x) with
      | false => none
      | true => sA_lp n (allocStep x m).1 b (binI .add .i64 i 1) (allocStep x m).2.2 (allocStep x m).2.1 y
abbrev sA_o (a b : Bool) (i : Int) (m : GMem) (x : GAlloc) (y : GReserve) : Option (Nat × Ls) := sA_lp 61 a b i m x y

def L_sA : LSumm := { r := 10, n0 := 0, ws := [], tm := tmP 0 77 [(3, .ptr 0 0 (.lit 0) 0), (5, .ptr 1 0 (.lit 0) 0), (6, .ptr 2 0 (.lit 0) 0), (7, pB), (8, pB), (9, pI64)], A := [.obj (0, false), .obj (7, false), .obj (6, false)], exits := [(.exit 0, tmP 0 77 [(3, .ptr 0 0 (.lit 0) 0), (5, .ptr 1 0 (.lit 0) 0), (6, .ptr 2 0 (.lit 0) 0), (7, pB), (8, pB), (9, pI64)], [.obj (0, false), .obj (7, false), .obj (6, false)])], pre := fun ls => [(sA_o (lB ls 0) (lB ls 1) (lI ls 2) (lO ls 3 0) (lO ls 4 7) (lO ls 5 6)).isSome], out := fun ls => (sA_o (lB ls 0) (lB ls 1) (lI ls 2) (lO ls 3 0) (lO ls 4 7) (lO ls 5 6)).getD (0, []) }
noncomputable def sA_b : Code := loopAt 10 Try.f71
theorem sA_e : ∀ (n : Nat) (a : Bool) (b : Bool) (i : Int) (m : GMem) (x : GAlloc) (y : GReserve) (o : Nat × Ls), sA_lp n a b i m x y = some o → o.1 < 1 := by
  intro n
  induction n with
  | zero => intro a b i m x y o h; cases h
  | succ n ih =>
    intro a b i m x y o h
    unfold sA_lp at h
    (repeat' split at h) <;> first | (cases h; done) | (cases h; simp) | exact ih _ _ _ _ _ _ _ h
theorem sA_j (a : Bool) (b : Bool) (i : Int) (m : GMem) (x : GAlloc) (y : GReserve) (h : (sA_o a b i m x y).isSome = true) : (((sA_o a b i m x y).getD (0, [])).1 == 0) = true := by
  obtain ⟨o, ho⟩ := Option.isSome_iff_exists.1 h
  have := sA_e _ _ _ _ _ _ _ o ho
  rw [ho]
  simp only [Option.getD_some, beq_iff_eq]
  omega
theorem sA_t : ∀ (n : Nat) (a : Bool) (b : Bool) (i : Int) (m : GMem) (x : GAlloc) (y : GReserve) (o : Nat × Ls), sA_lp n a b i m x y = some o → LoopsTo Try.prog sA_b L_sA (sA_ls a b i m x y) o := by
  intro n
  induction n with
  | zero => intro a b i m x y o h; cases h
  | succ n ih =>
    intro a b i m x y o h
    unfold sA_lp at h
    cases h1 : decide (i < 60)
    · rw [h1] at h
      cases h
      exact goOut (B1.cons allocStep_s|>.cons resStep_s) hloNil 400 (j := 0) _ rfl [0] [⟨_, _, h1⟩] (by kernel_rfl)
    · rw [h1] at h
      cases h2 : (memOk m && allocOk x)
      · rw [h2] at h; cases h
      · rw [h2] at h
        rw [Bool.and_eq_true] at h2
        refine goOn (B1.cons allocStep_s|>.cons resStep_s) hloNil 400 (ls' := sA_ls (allocStep x m).1 b (binI .add .i64 i 1) (allocStep x m).2.2 (allocStep x m).2.1 y) [1] [⟨_, _, h1⟩, ⟨_, _, h2.1⟩, ⟨_, _, h2.2⟩] (by kernel_rfl) ?_
        exact ih _ _ _ _ _ _ _ h
theorem sA_l : L_sA.Ok Try.prog sA_b := LSumm.ok_of fun ls hp => by
  have h := hp _ (.head _)
  obtain ⟨o, ho⟩ := Option.isSome_iff_exists.1 h
  have e : L_sA.out ls = o := by show (Option.getD _ _) = o; rw [ho]; rfl
  rw [e]
  intro e1 he1
  obtain ⟨n, hn⟩ := sA_t _ (lB ls 0) (lB ls 1) (lI ls 2) (lO ls 3 0) (lO ls 4 7) (lO ls 5 6) o ho e1 he1
  exact ⟨n, hn⟩

def sB_ls (a : Bool) (b : Bool) (i : Int) (m : GMem) (x : GAlloc) (y : GReserve) : Ls := [.B a, .B b, .I i, .O 0 m, .O 7 x, .O 6 y]
def sB_lp : Nat → (a b : Bool) → (i : Int) → (m : GMem) → (x : GAlloc) → (y : GReserve) → Option (Nat × Ls)
  | 0, _, _, _, _, _, _ => none
  | n + 1, a, b, i, m, x, y => match decide (i < 60) with
    | false => some (0, sB_ls a b i m x y)
    | true => match (memOk m && resOk y) with
      | false => none
      | true => sB_lp n a (resStep y m).1 (binI .add .i64 i 1) (resStep y m).2.2 x (resStep y m).2.1
abbrev sB_o (a b : Bool) (i : Int) (m : GMem) (x : GAlloc) (y : GReserve) : Option (Nat × Ls) := sB_lp 61 a b i m x y

def L_sB : LSumm := { r := 14, n0 := 0, ws := [], tm := tmP 0 77 [(3, .ptr 0 0 (.lit 0) 0), (5, .ptr 1 0 (.lit 0) 0), (6, .ptr 2 0 (.lit 0) 0), (7, pB), (8, pB), (10, pI64)], A := [.obj (0, false), .obj (7, false), .obj (6, false)], exits := [(.exit 2, tmP 0 77 [(3, .ptr 0 0 (.lit 0) 0), (5, .ptr 1 0 (.lit 0) 0), (6, .ptr 2 0 (.lit 0) 0), (7, pB), (8, pB), (10, pI64)], [.obj (0, false), .obj (7, false), .obj (6, false)])], pre := fun ls => [(sB_o (lB ls 0) (lB ls 1) (lI ls 2) (lO ls 3 0) (lO ls 4 7) (lO ls 5 6)).isSome], out := fun ls => (sB_o (lB ls 0) (lB ls 1) (lI ls 2) (lO ls 3 0) (lO ls 4 7) (lO ls 5 6)).getD (0, []) }
noncomputable def sB_b : Code := loopAt 14 Try.f71
theorem sB_e : ∀ (n : Nat) (a : Bool) (b : Bool) (i : Int) (m : GMem) (x : GAlloc) (y : GReserve) (o : Nat × Ls), sB_lp n a b i m x y = some o → o.1 < 1 := by
  intro n
  induction n with
  | zero => intro a b i m x y o h; cases h
  | succ n ih =>
    intro a b i m x y o h
    unfold sB_lp at h
    (repeat' split at h) <;> first | (cases h; done) | (cases h; simp) | exact ih _ _ _ _ _ _ _ h
theorem sB_j (a : Bool) (b : Bool) (i : Int) (m : GMem) (x : GAlloc) (y : GReserve) (h : (sB_o a b i m x y).isSome = true) : (((sB_o a b i m x y).getD (0, [])).1 == 0) = true := by
  obtain ⟨o, ho⟩ := Option.isSome_iff_exists.1 h
  have := sB_e _ _ _ _ _ _ _ o ho
  rw [ho]
  simp only [Option.getD_some, beq_iff_eq]
  omega
theorem sB_t : ∀ (n : Nat) (a : Bool) (b : Bool) (i : Int) (m : GMem) (x : GAlloc) (y : GReserve) (o : Nat × Ls), sB_lp n a b i m x y = some o → LoopsTo Try.prog sB_b L_sB (sB_ls a b i m x y) o := by
  intro n
  induction n with
  | zero => intro a b i m x y o h; cases h
  | succ n ih =>
    intro a b i m x y o h
    unfold sB_lp at h
    cases h1 : decide (i < 60)
    · rw [h1] at h
      cases h
      exact goOut (B1.cons allocStep_s|>.cons resStep_s) hloNil 400 (j := 0) _ rfl [0] [⟨_, _, h1⟩] (by kernel_rfl)
    · rw [h1] at h
      cases h2 : (memOk m && resOk y)
      · rw [h2] at h; cases h
      · rw [h2] at h
        rw [Bool.and_eq_true] at h2
        refine goOn (B1.cons allocStep_s|>.cons resStep_s) hloNil 400 (ls' := sB_ls a (resStep y m).1 (binI .add .i64 i 1) (resStep y m).2.2 x (resStep y m).2.1) [1] [⟨_, _, h1⟩, ⟨_, _, h2.1⟩, ⟨_, _, h2.2⟩] (by kernel_rfl) ?_
        exact ih _ _ _ _ _ _ _ h
theorem sB_l : L_sB.Ok Try.prog sB_b := LSumm.ok_of fun ls hp => by
  have h := hp _ (.head _)
  obtain ⟨o, ho⟩ := Option.isSome_iff_exists.1 h
  have e : L_sB.out ls = o := by show (Option.getD _ _) = o; rw [ho]; rfl
  rw [e]
  intro e1 he1
  obtain ⟨n, hn⟩ := sB_t _ (lB ls 0) (lB ls 1) (lI ls 2) (lO ls 3 0) (lO ls 4 7) (lO ls 5 6) o ho e1 he1
  exact ⟨n, hn⟩

def l10made_ls (i : Int) (m : GMem) (x : GAlloc) : Ls := [.I i, .O 0 m, .O 7 x]
def l10made_lp : Nat → Int → GMem → GAlloc → Option (Nat × Ls)
  | 0, _, _, _ => none
  | n + 1, i, m, x => match decide (i < 60) with
    | false => none
    | true => match (memOk m && allocOk x) with
      | false => none
      | true => match (allocStep x m).1 with
        | false => l10made_lp n (binI .add .i64 i 1) (allocStep x m).2.2 (allocStep x m).2.1
        | true => some (0, [.I (allocCell (allocStep x m).2.1), .O 0 (allocStep x m).2.2])
abbrev l10made_o (i : Int) (m : GMem) (x : GAlloc) : Option (Nat × Ls) := l10made_lp 61 i m x

def L_l10made : LSumm := { r := 3, n0 := 1, ws := [0], tm := tmP 0 27 [(1, .ptr 0 0 (.lit 0) 0), (7, .ptr 1 0 (.lit 0) 0), (8, pI64)], A := [.obj (0, false), .obj (7, false)], exits := [(.ret, tmP 0 27 [(6, pI64)], [.obj (0, false)])], pre := fun ls => [(l10made_o (lI ls 0) (lO ls 1 0) (lO ls 2 7)).isSome], out := fun ls => (l10made_o (lI ls 0) (lO ls 1 0) (lO ls 2 7)).getD (0, []) }
noncomputable def l10made_b : Code := loopAt 3 Try.f75
theorem l10made_e : ∀ (n : Nat) (i : Int) (m : GMem) (x : GAlloc) (o : Nat × Ls), l10made_lp n i m x = some o → o.1 < 1 := by
  intro n
  induction n with
  | zero => intro i m x o h; cases h
  | succ n ih =>
    intro i m x o h
    unfold l10made_lp at h
    (repeat' split at h) <;> first | (cases h; done) | (cases h; simp) | exact ih _ _ _ _ h
theorem l10made_j (i : Int) (m : GMem) (x : GAlloc) (h : (l10made_o i m x).isSome = true) : (((l10made_o i m x).getD (0, [])).1 == 0) = true := by
  obtain ⟨o, ho⟩ := Option.isSome_iff_exists.1 h
  have := l10made_e _ _ _ _ o ho
  rw [ho]
  simp only [Option.getD_some, beq_iff_eq]
  omega
theorem l10made_t : ∀ (n : Nat) (i : Int) (m : GMem) (x : GAlloc) (o : Nat × Ls), l10made_lp n i m x = some o → LoopsTo Try.prog l10made_b L_l10made (l10made_ls i m x) o := by
  intro n
  induction n with
  | zero => intro i m x o h; cases h
  | succ n ih =>
    intro i m x o h
    unfold l10made_lp at h
    cases h1 : decide (i < 60)
    · rw [h1] at h
      cases h
    · rw [h1] at h
      cases h2 : (memOk m && allocOk x)
      · rw [h2] at h; cases h
      · rw [h2] at h
        rw [Bool.and_eq_true] at h2
        cases h3 : (allocStep x m).1
        · rw [h3] at h
          refine goOn (B1.cons allocStep_s|>.cons allocCell_s) hloNil 400 (ls' := l10made_ls (binI .add .i64 i 1) (allocStep x m).2.2 (allocStep x m).2.1) [1,0] [⟨_, _, h1⟩, ⟨_, _, h2.1⟩, ⟨_, _, h2.2⟩, ⟨_, _, h3⟩] (by kernel_rfl) ?_
          exact ih _ _ _ _ h
        · rw [h3] at h
          cases h
          exact goOut (B1.cons allocStep_s|>.cons allocCell_s) hloNil 400 (j := 0) _ rfl [1,1] [⟨_, _, h1⟩, ⟨_, _, h2.1⟩, ⟨_, _, h2.2⟩, ⟨_, _, h3⟩] (by kernel_rfl)
theorem l10made_l : L_l10made.Ok Try.prog l10made_b := LSumm.ok_of fun ls hp => by
  have h := hp _ (.head _)
  obtain ⟨o, ho⟩ := Option.isSome_iff_exists.1 h
  have e : L_l10made.out ls = o := by show (Option.getD _ _) = o; rw [ho]; rfl
  rw [e]
  intro e1 he1
  obtain ⟨n, hn⟩ := l10made_t _ (lI ls 0) (lO ls 1 0) (lO ls 2 7) o ho e1 he1
  exact ⟨n, hn⟩

def l10madeR (p : GPlan) (m : GMem) (c : Int) : Ls := ((l10made_o 0 m (newAlloc p c 0 0)).getD (0, [])).2
def l10made (p : GPlan) (m : GMem) (c : Int) : Int × GMem := (lI (l10madeR p m c) 0, lO (l10madeR p m c) 1 0)

def l10made_pre (p : GPlan) (m : GMem) (c : Int) : List Bool := [(l10made_o 0 m (newAlloc p c 0 0)).isSome]
def l10made_out (p : GPlan) (m : GMem) (c : Int) : Ls := [.I (l10made p m c).1, .O 0 (l10made p m c).2]
def S_l10made : Summ := { f := 75, args := [.agg [pI64, pI64, pI64, pI64, pI64], .ptr 0 0 (.lit 0) 0, pI64], H := [.obj (0, false)], v := pI64, ws := [0], H' := [.obj (0, false)], pre := fun ls => l10made_pre (⟨lI ls 0, lI ls 1, lI ls 2, lI ls 3, lI ls 4⟩) (lO ls 6 0) (lI ls 5), out := fun ls => l10made_out (⟨lI ls 0, lI ls 1, lI ls 2, lI ls 3, lI ls 4⟩) (lO ls 6 0) (lI ls 5) }
theorem l10made_w (p : GPlan) (m : GMem) (c : Int) (q0 : ((l10made_o 0 m (newAlloc p c 0 0)).isSome) = true) : S_l10made.At Try.prog [.I p.Threads, .I p.Blocks, .I p.Table, .I p.Heap, .I p.Size, .I c, .O 0 m] (l10made_out p m c) := by
  unfold l10made_out
  have hj := l10made_j 0 m (newAlloc p c 0 0) q0
  exact way (B1.cons newAlloc_s) ⟨Try.func75, Try.call75⟩ (hloCons l10made_l (by kernel_rfl) hloNil) 400 [] [⟨_, _, q0⟩, ⟨_, _, hj⟩] (fun ρ => by kernel_rfl)
theorem l10made_s : S_l10made.Ok Try.prog := fun ls hp => Summ.at_canon (by kernel_rfl) (by kernel_rfl) (l10made_w (⟨lI ls 0, lI ls 1, lI ls 2, lI ls 3, lI ls 4⟩) (lO ls 6 0) (lI ls 5) (hp _ (.head _)))

def s10P : GPlan := (r05New 1 1).1
def s10M : GMem := (l10fresh s10P).1.getD default
def s10A : Option (Nat × Ls) := sA_o false false 0 s10M (newAlloc s10P 3 1 0) (newReserve s10P 1 0)
def s10RA : Ls := (s10A.getD (0, [])).2
def s10B : Option (Nat × Ls) := sB_o (lB s10RA 0) (lB s10RA 1) 0 (lO s10RA 3 0) (lO s10RA 4 7) (lO s10RA 5 6)
def s10RB : Ls := (s10B.getD (0, [])).2
def s10L1 : Int × GMem := memLoad (lO s10RB 3 0) 32
def s10L2 : Int × GMem := memLoad s10L1.2 33
def s10L3 : Int × GMem := memLoad s10L2.2 35
def l10shown : Bool := (resCell (lO s10RB 5 6) == 0)

def l10shown_out : Ls := [.B (l10shown)]
def S_l10shown : Summ := { f := 71, args := [], H := [], v := pB, ws := [], H' := [], pre := fun ls => [], out := fun ls => l10shown_out }
theorem l10shown_w : S_l10shown.At Try.prog [] (l10shown_out) := by
  unfold l10shown_out
  have q0 : (r05New_o 1 0 ⟨0, 0, 0, 0, 0⟩ ⟨1, 1, binI .add .i64 10 1, 0, 0⟩).isSome = true := by kernel_rfl
  have q1 : (r04New s10P.Size).1.isSome = true := by kernel_rfl
  have q2 : (r09Fresh_o 0 s10P ((r04New s10P.Size).1.getD default)).isSome = true := by kernel_rfl
  have q3 : decide (2 < (r09FreshM s10P).W.length) = true := by kernel_rfl
  have q4 : (l10fresh_o 0 s10P (r09Fresh s10P) (memNew s10P.Size).1).isSome = true := by kernel_rfl
  have q5 : (l10fresh s10P).1.isSome = true := by kernel_rfl
  have q6 : s10A.isSome = true := by kernel_rfl
  have q7 := sA_j false false 0 s10M (newAlloc s10P 3 1 0) (newReserve s10P 1 0) q6
  have q8 : s10B.isSome = true := by kernel_rfl
  have q9 := sB_j (lB s10RA 0) (lB s10RA 1) 0 (lO s10RA 3 0) (lO s10RA 4 7) (lO s10RA 5 6) q8
  have qa : lB s10RB 0 = true := by kernel_rfl
  have qb : (allocCell (lO s10RB 4 7) == 32) = true := by kernel_rfl
  have qc : memOk (lO s10RB 3 0) = true := by kernel_rfl
  have qd : (s10L1.1 == 177) = true := by kernel_rfl
  have qe : memOk s10L1.2 = true := by kernel_rfl
  have qf : (s10L2.1 == 0) = true := by kernel_rfl
  have qg : memOk s10L2.2 = true := by kernel_rfl
  have qh : (s10L3.1 == 0) = true := by kernel_rfl
  have qi : lB s10RB 1 = true := by kernel_rfl
  exact way (B1.cons r05New_s|>.cons l10fresh_s|>.cons newAlloc_s|>.cons newReserve_s|>.cons allocCell_s|>.cons resCell_s|>.cons memLoad_s) ⟨Try.func71, Try.call71⟩ (hloCons sB_l (by kernel_rfl) (hloCons sA_l (by kernel_rfl) hloNil)) 400 [1,1,1,1,1,1,1] [⟨_, _, q0⟩, ⟨_, _, q1⟩, ⟨_, _, q2⟩, ⟨_, _, q3⟩, ⟨_, _, q4⟩, ⟨_, _, q5⟩, ⟨_, _, q6⟩, ⟨_, _, q7⟩, ⟨_, _, q8⟩, ⟨_, _, q9⟩, ⟨_, _, qa⟩, ⟨_, _, qb⟩, ⟨_, _, qc⟩, ⟨_, _, qd⟩, ⟨_, _, qe⟩, ⟨_, _, qf⟩, ⟨_, _, qg⟩, ⟨_, _, qh⟩, ⟨_, _, qi⟩] (fun ρ => by kernel_rfl)
theorem l10shown_s : S_l10shown.Ok Try.prog := fun ls hp => Summ.at_canon (by kernel_rfl) (by kernel_rfl) (l10shown_w)

end Go.Fl
