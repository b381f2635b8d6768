/- The statements of layer 9: their helpers, and their contracts. Conditions: none. -/
import Derived.Test.YtjhhecidaableaaFmF
set_option linter.unusedVariables false
set_option linter.unusedSectionVars false
set_option maxRecDepth 20000
namespace Go.Fl
open Go Go.RowKit Go.Proofs

abbrev eqTab : List TypeId := [90, 65, 46, 51]

theorem B1 : Base Try.prog eqTab [] := ⟨objsOk, glue,
  ⟨fun t h => by simp only [List.mem_cons, List.not_mem_nil, or_false] at h; rcases h with h | h | h | h <;> (subst h; kernel_rfl),
   fun t h => by simp only [List.mem_cons, List.not_mem_nil, or_false] at h; rcases h with h | h | h | h <;> (subst h; kernel_rfl),
   fun t h f hf => by simp only [List.mem_cons, List.not_mem_nil, or_false] at h; rcases h with h | h | h | h <;> (subst h; revert f; exact of_decide_eq_true (by kernel_rfl))⟩, by simp, mix⟩

def l9fresh_ls (a : Int) (p : GPlan) (y : RMem) (m : Option GMem) : Ls := [.I a, .I p.Threads, .I p.Blocks, .I p.Table, .I p.Heap, .I p.Size, .O 1 y, .P 0 m]
def l9fresh_lp : Nat → (a : Int) → (p : GPlan) → (y : RMem) → (m : Option GMem) → Option (Nat × Ls)
  | 0, _, _, _, _ => none
  | n + 1, a, p, y, m => match decide (a < p.Size) with
    | false => some (0, l9fresh_ls a p y m)
    | true => match m.isSome with
      | false => some (0, l9fresh_ls a p y m)
      | true => match memOk (m.getD default) && (decide (0 ≤ a) && decide (a < ((y.W.length : Nat) : Int))) with
        | false => none
        | true => l9fresh_lp n (binI .add .i64 a 1) p y (some (memStore (m.getD default) a (y.W.getD (0 + a.toNat * 1) 0)))
abbrev l9fresh_o (a : Int) (p : GPlan) (y : RMem) (m : Option GMem) : Option (Nat × Ls) := l9fresh_lp (p.Size.toNat + 1) a p y m

def L_l9fresh : LSumm := { r := 4, n0 := 0, ws := [], tm := tmP 0 38 [(1, .ptr 0 0 (.lit 0) 0), (4, .ptr 1 0 (.lit 0) 0), (5, .opt 2), (7, pI64)], A := [.cells 24 [pI64, pI64, pI64, pI64, pI64], .obj (1, false), .obj (0, true)], exits := [(.exit 0, tmP 0 38 [(1, .ptr 0 0 (.lit 0) 0), (4, .ptr 1 0 (.lit 0) 0), (5, .opt 2), (7, pI64)], [.cells 24 [pI64, pI64, pI64, pI64, pI64], .obj (1, false), .obj (0, true)])], pre := fun ls => [(l9fresh_o (lI ls 0) (⟨lI ls 1, lI ls 2, lI ls 3, lI ls 4, lI ls 5⟩) (lO ls 6 1) (lP ls 7 0)).isSome], out := fun ls => (l9fresh_o (lI ls 0) (⟨lI ls 1, lI ls 2, lI ls 3, lI ls 4, lI ls 5⟩) (lO ls 6 1) (lP ls 7 0)).getD (0, []) }
noncomputable def l9fresh_b : Code := loopAt 4 Try.f38
theorem l9fresh_e : ∀ (n : Nat) (a : Int) (p : GPlan) (y : RMem) (m : Option GMem) (o : Nat × Ls), l9fresh_lp n a p y m = some o → o.1 < 1 := by
  intro n
  induction n with
  | zero => intro a p y m o h; cases h
  | succ n ih =>
    intro a p y m o h
    unfold l9fresh_lp at h
    (repeat' split at h) <;> first | (cases h; done) | (cases h; simp) | exact ih _ _ _ _ _ h
theorem l9fresh_j (a : Int) (p : GPlan) (y : RMem) (m : Option GMem) (h : (l9fresh_o a p y m).isSome = true) : (((l9fresh_o a p y m).getD (0, [])).1 == 0) = true := by
  obtain ⟨o, ho⟩ := Option.isSome_iff_exists.1 h
  have := l9fresh_e _ _ _ _ _ o ho
  rw [ho]
  simp only [Option.getD_some, beq_iff_eq]
  omega
theorem l9fresh_t : ∀ (n : Nat) (a : Int) (p : GPlan) (y : RMem) (m : Option GMem) (o : Nat × Ls), l9fresh_lp n a p y m = some o → LoopsTo Try.prog l9fresh_b L_l9fresh (l9fresh_ls a p y m) o := by
  intro n
  induction n with
  | zero => intro a p y m o h; cases h
  | succ n ih =>
    intro a p y m o h
    unfold l9fresh_lp at h
    cases h1 : decide (a < p.Size)
    · rw [h1] at h
      cases h
      exact goOut (B1.cons memStore_s) hloNil 400 (j := 0) _ rfl [0] [⟨_, _, h1⟩] (by kernel_rfl)
    · rw [h1] at h
      cases m with
      | none =>
        cases h
        exact goOut (B1.cons memStore_s) hloNil 400 (j := 0) _ rfl [1,0] [⟨_, _, h1⟩, ⟨true, true, rfl⟩] (by kernel_rfl)
      | some m =>
        simp only [Option.isSome_some, Option.getD_some] at h
        cases h2 : (memOk m && (decide (0 ≤ a) && decide (a < ((y.W.length : Nat) : Int))))
        · rw [h2] at h; cases h
        · rw [h2] at h
          rw [Bool.and_eq_true] at h2
          obtain ⟨x1, x2, x3⟩ := inbX h2.2
          refine goOn (B1.cons memStore_s) hloNil 400 (ls' := l9fresh_ls (binI .add .i64 a 1) p y (some (memStore m a (y.W.getD (0 + a.toNat * 1) 0)))) [1,1] [⟨_, _, h1⟩, ⟨true, true, rfl⟩, ⟨_, _, x1⟩, ⟨_, _, x2⟩, ⟨_, _, x3⟩, ⟨_, _, h2.1⟩, ⟨_, _, lenT y.W⟩] (by kernel_rfl) ?_
          exact ih _ _ _ _ _ h
theorem l9fresh_l : L_l9fresh.Ok Try.prog l9fresh_b := LSumm.ok_of fun ls hp => by
  have h := hp _ (.head _)
  obtain ⟨o, ho⟩ := Option.isSome_iff_exists.1 h
  have e : L_l9fresh.out ls = o := by show (Option.getD _ _) = o; rw [ho]; rfl
  rw [e]
  intro e1 he1
  obtain ⟨n, hn⟩ := l9fresh_t _ (lI ls 0) (⟨lI ls 1, lI ls 2, lI ls 3, lI ls 4, lI ls 5⟩) (lO ls 6 1) (lP ls 7 0) o ho e1 he1
  exact ⟨n, hn⟩

def l9freshR (p : GPlan) : Ls := ((l9fresh_o 0 p (r09Fresh p) (memNew p.Size).1).getD (0, [])).2
def l9fresh (p : GPlan) : Option GMem × RMem := (lP (l9freshR p) 7 0, lO (l9freshR p) 6 1)

def l9fresh_pre (p : GPlan) : List Bool := [(r04New p.Size).1.isSome, (r09Fresh_o 0 p ((r04New p.Size).1.getD default)).isSome, decide (2 < (r09FreshM p).W.length), (l9fresh_o 0 p (r09Fresh p) (memNew p.Size).1).isSome]
def l9fresh_out (p : GPlan) : Ls := [.P 0 (l9fresh p).1, .O 1 (l9fresh p).2]
def S_l9fresh : Summ := { f := 38, args := [.agg [pI64, pI64, pI64, pI64, pI64]], H := [], v := .tuple [.opt 0, .ptr 1 0 (.lit 0) 0], ws := [], H' := [.obj (0, true), .obj (1, false)], pre := fun ls => l9fresh_pre (⟨lI ls 0, lI ls 1, lI ls 2, lI ls 3, lI ls 4⟩), out := fun ls => l9fresh_out (⟨lI ls 0, lI ls 1, lI ls 2, lI ls 3, lI ls 4⟩) }
theorem l9fresh_w (p : GPlan) (q0 : ((r04New p.Size).1.isSome) = true) (q1 : ((r09Fresh_o 0 p ((r04New p.Size).1.getD default)).isSome) = true) (q2 : (decide (2 < (r09FreshM p).W.length)) = true) (q3 : ((l9fresh_o 0 p (r09Fresh p) (memNew p.Size).1).isSome) = true) : S_l9fresh.At Try.prog [.I p.Threads, .I p.Blocks, .I p.Table, .I p.Heap, .I p.Size] (l9fresh_out p) := by
  unfold l9fresh_out
  have hj := l9fresh_j 0 p (r09Fresh p) (memNew p.Size).1 q3
  exact way (B1.cons r09Fresh_s|>.cons memNew_s) ⟨Try.func38, Try.call38⟩ (hloCons l9fresh_l (by kernel_rfl) hloNil) 400 [] [⟨_, _, q0⟩, ⟨_, _, q1⟩, ⟨_, _, q2⟩, ⟨_, _, q3⟩, ⟨_, _, hj⟩] (fun ρ => by kernel_rfl)
theorem l9fresh_s : S_l9fresh.Ok Try.prog := fun ls hp => Summ.at_canon (by kernel_rfl) (by kernel_rfl) (l9fresh_w (⟨lI ls 0, lI ls 1, lI ls 2, lI ls 3, lI ls 4⟩) (hp _ (.head _)) (hp _ (.tail _ (.head _))) (hp _ (.tail _ (.tail _ (.head _)))) (hp _ (.tail _ (.tail _ (.tail _ (.head _))))))

def l9shown_ls (i : Int) (m : GMem) (x : GTake) : Ls := [.I i, .O 0 m, .O 4 x]
def l9shown_lp : Nat → Int → GMem → GTake → Option (Nat × Ls)
  | 0, _, _, _ => none
  | n + 1, i, m, x => match decide (i < 9) with
    | false => some (0, l9shown_ls i m x)
    | true => match (memOk m && (!(x.machine.next == 6) || x.push.isSome)) && !(takeStep x m).1 with
      | false => none
      | true => l9shown_lp n (binI .add .i64 i 1) (takeStep x m).2.2 (takeStep x m).2.1
abbrev l9shown_o (i : Int) (m : GMem) (x : GTake) : Option (Nat × Ls) := l9shown_lp 10 i m x

def L_l9shown : LSumm := { r := 7, n0 := 0, ws := [], tm := tmP 0 72 [(3, .ptr 0 0 (.lit 0) 0), (5, .ptr 1 0 (.lit 0) 0), (6, pI64)], A := [.obj (0, false), .obj (4, false)], exits := [(.exit 0, tmP 0 72 [(3, .ptr 0 0 (.lit 0) 0), (5, .ptr 1 0 (.lit 0) 0), (6, pI64)], [.obj (0, false), .obj (4, false)])], pre := fun ls => [(l9shown_o (lI ls 0) (lO ls 1 0) (lO ls 2 4)).isSome], out := fun ls => (l9shown_o (lI ls 0) (lO ls 1 0) (lO ls 2 4)).getD (0, []) }
noncomputable def l9shown_b : Code := loopAt 7 Try.f36
theorem l9shown_e : ∀ (n : Nat) (i : Int) (m : GMem) (x : GTake) (o : Nat × Ls), l9shown_lp n i m x = some o → o.1 < 1 := by
  intro n
  induction n with
  | zero => intro i m x o h; cases h
  | succ n ih =>
    intro i m x o h
    unfold l9shown_lp at h
    (repeat' split at h) <;> first | (cases h; done) | (cases h; simp) | exact ih _ _ _ _ h
theorem l9shown_j (i : Int) (m : GMem) (x : GTake) (h : (l9shown_o i m x).isSome = true) : (((l9shown_o i m x).getD (0, [])).1 == 0) = true := by
  obtain ⟨o, ho⟩ := Option.isSome_iff_exists.1 h
  have := l9shown_e _ _ _ _ o ho
  rw [ho]
  simp only [Option.getD_some, beq_iff_eq]
  omega
theorem l9shown_t : ∀ (n : Nat) (i : Int) (m : GMem) (x : GTake) (o : Nat × Ls), l9shown_lp n i m x = some o → LoopsTo Try.prog l9shown_b L_l9shown (l9shown_ls i m x) o := by
  intro n
  induction n with
  | zero => intro i m x o h; cases h
  | succ n ih =>
    intro i m x o h
    unfold l9shown_lp at h
    cases h1 : decide (i < 9)
    · rw [h1] at h
      cases h
      exact goOut (B1.cons takeStep_s) hloNil 400 (j := 0) _ rfl [0] [⟨_, _, h1⟩] (by kernel_rfl)
    · rw [h1] at h
      cases h2 : ((memOk m && (!(x.machine.next == 6) || x.push.isSome)) && !(takeStep x m).1)
      · rw [h2] at h; cases h
      · rw [h2] at h
        simp only [Bool.and_eq_true, Bool.not_eq_true'] at h2
        refine goOn (B1.cons takeStep_s) hloNil 400 (ls' := l9shown_ls (binI .add .i64 i 1) (takeStep x m).2.2 (takeStep x m).2.1) [1,0] [⟨_, _, h1⟩, ⟨_, _, h2.1.1⟩, ⟨_, _, h2.1.2⟩, ⟨_, _, h2.2⟩] (by kernel_rfl) ?_
        exact ih _ _ _ _ h
theorem l9shown_l : L_l9shown.Ok Try.prog l9shown_b := LSumm.ok_of fun ls hp => by
  have h := hp _ (.head _)
  obtain ⟨o, ho⟩ := Option.isSome_iff_exists.1 h
  have e : L_l9shown.out ls = o := by show (Option.getD _ _) = o; rw [ho]; rfl
  rw [e]
  intro e1 he1
  obtain ⟨n, hn⟩ := l9shown_t _ (lI ls 0) (lO ls 1 0) (lO ls 2 4) o ho e1 he1
  exact ⟨n, hn⟩

def l9taken_ls (i : Int) (m : GMem) (p : GPlan) (x : GTake) : Ls := [.I i, .O 0 m, .I p.Threads, .I p.Blocks, .I p.Table, .I p.Heap, .I p.Size, .O 4 x]
def l9taken_lp : Nat → Int → GMem → GPlan → GTake → Option (Nat × Ls)
  | 0, _, _, _, _ => none
  | n + 1, i, m, p, x => match decide (i < 40) with
    | false => none
    | true => match (memOk m && (!(x.machine.next == 6) || x.push.isSome)) with
      | false => none
      | true => match (takeStep x m).1 with
        | false => l9taken_lp n (binI .add .i64 i 1) (takeStep x m).2.2 p (takeStep x m).2.1
        | true => match (r05Block_o (takeCell (takeStep x m).2.1) 0 0 p).isSome with
          | false => none
          | true => some (0, [.I (r05Block p (takeCell (takeStep x m).2.1)), .O 0 (takeStep x m).2.2])
abbrev l9taken_o (i : Int) (m : GMem) (p : GPlan) (x : GTake) : Option (Nat × Ls) := l9taken_lp 41 i m p x

def L_l9taken : LSumm := { r := 3, n0 := 1, ws := [0], tm := tmP 0 31 [(1, .ptr 0 0 (.lit 0) 0), (3, .ptr 1 0 (.lit 0) 0), (7, .ptr 2 0 (.lit 0) 0), (8, pI64)], A := [.obj (0, false), .cells 24 [pI64, pI64, pI64, pI64, pI64], .obj (4, false)], exits := [(.ret, tmP 0 31 [(6, pI64)], [.obj (0, false)])], pre := fun ls => [(l9taken_o (lI ls 0) (lO ls 1 0) (⟨lI ls 2, lI ls 3, lI ls 4, lI ls 5, lI ls 6⟩) (lO ls 7 4)).isSome], out := fun ls => (l9taken_o (lI ls 0) (lO ls 1 0) (⟨lI ls 2, lI ls 3, lI ls 4, lI ls 5, lI ls 6⟩) (lO ls 7 4)).getD (0, []) }
noncomputable def l9taken_b : Code := loopAt 3 Try.f56
theorem l9taken_e : ∀ (n : Nat) (i : Int) (m : GMem) (p : GPlan) (x : GTake) (o : Nat × Ls), l9taken_lp n i m p x = some o → o.1 < 1 := by
  intro n
  induction n with
  | zero => intro i m p x o h; cases h
  | succ n ih =>
    intro i m p x o h
    unfold l9taken_lp at h
    (repeat' split at h) <;> first | (cases h; done) | (cases h; simp) | exact ih _ _ _ _ _ h
theorem l9taken_j (i : Int) (m : GMem) (p : GPlan) (x : GTake) (h : (l9taken_o i m p x).isSome = true) : (((l9taken_o i m p x).getD (0, [])).1 == 0) = true := by
  obtain ⟨o, ho⟩ := Option.isSome_iff_exists.1 h
  have := l9taken_e _ _ _ _ _ o ho
  rw [ho]
  simp only [Option.getD_some, beq_iff_eq]
  omega
theorem l9taken_t : ∀ (n : Nat) (i : Int) (m : GMem) (p : GPlan) (x : GTake) (o : Nat × Ls), l9taken_lp n i m p x = some o → LoopsTo Try.prog l9taken_b L_l9taken (l9taken_ls i m p x) o := by
  intro n
  induction n with
  | zero => intro i m p x o h; cases h
  | succ n ih =>
    intro i m p x o h
    unfold l9taken_lp at h
    cases h1 : decide (i < 40)
    · rw [h1] at h
      cases h
    · rw [h1] at h
      cases h2 : (memOk m && (!(x.machine.next == 6) || x.push.isSome))
      · rw [h2] at h; cases h
      · rw [h2] at h
        rw [Bool.and_eq_true] at h2
        cases h3 : (takeStep x m).1
        · rw [h3] at h
          refine goOn (B1.cons takeStep_s|>.cons takeCell_s|>.cons r05Block_s) hloNil 400 (ls' := l9taken_ls (binI .add .i64 i 1) (takeStep x m).2.2 p (takeStep x m).2.1) [1,0] [⟨_, _, h1⟩, ⟨_, _, h2.1⟩, ⟨_, _, h2.2⟩, ⟨_, _, h3⟩] (by kernel_rfl) ?_
          exact ih _ _ _ _ _ h
        · rw [h3] at h
          cases h4 : (r05Block_o (takeCell (takeStep x m).2.1) 0 0 p).isSome
          · rw [h4] at h; cases h
          · rw [h4] at h
            cases h
            exact goOut (B1.cons takeStep_s|>.cons takeCell_s|>.cons r05Block_s) hloNil 400 (j := 0) _ rfl [1,1] [⟨_, _, h1⟩, ⟨_, _, h2.1⟩, ⟨_, _, h2.2⟩, ⟨_, _, h3⟩, ⟨_, _, h4⟩] (by kernel_rfl)
theorem l9taken_l : L_l9taken.Ok Try.prog l9taken_b := LSumm.ok_of fun ls hp => by
  have h := hp _ (.head _)
  obtain ⟨o, ho⟩ := Option.isSome_iff_exists.1 h
  have e : L_l9taken.out ls = o := by show (Option.getD _ _) = o; rw [ho]; rfl
  rw [e]
  intro e1 he1
  obtain ⟨n, hn⟩ := l9taken_t _ (lI ls 0) (lO ls 1 0) (⟨lI ls 2, lI ls 3, lI ls 4, lI ls 5, lI ls 6⟩) (lO ls 7 4) o ho e1 he1
  exact ⟨n, hn⟩

def l9takenR (p : GPlan) (m : GMem) (c : Int) : Ls := ((l9taken_o 0 m p (newTake p c 1)).getD (0, [])).2
def l9taken (p : GPlan) (m : GMem) (c : Int) : Int × GMem := (lI (l9takenR p m c) 0, lO (l9takenR p m c) 1 0)

def l9taken_pre (p : GPlan) (m : GMem) (c : Int) : List Bool := [(l9taken_o 0 m p (newTake p c 1)).isSome]
def l9taken_out (p : GPlan) (m : GMem) (c : Int) : Ls := [.I (l9taken p m c).1, .O 0 (l9taken p m c).2]
def S_l9taken : Summ := { f := 56, args := [.agg [pI64, pI64, pI64, pI64, pI64], .ptr 0 0 (.lit 0) 0, pI64], H := [.obj (0, false)], v := pI64, ws := [0], H' := [.obj (0, false)], pre := fun ls => l9taken_pre (⟨lI ls 0, lI ls 1, lI ls 2, lI ls 3, lI ls 4⟩) (lO ls 6 0) (lI ls 5), out := fun ls => l9taken_out (⟨lI ls 0, lI ls 1, lI ls 2, lI ls 3, lI ls 4⟩) (lO ls 6 0) (lI ls 5) }
theorem l9taken_w (p : GPlan) (m : GMem) (c : Int) (q0 : ((l9taken_o 0 m p (newTake p c 1)).isSome) = true) : S_l9taken.At Try.prog [.I p.Threads, .I p.Blocks, .I p.Table, .I p.Heap, .I p.Size, .I c, .O 0 m] (l9taken_out p m c) := by
  unfold l9taken_out
  have hj := l9taken_j 0 m p (newTake p c 1) q0
  exact way (B1.cons newTake_s) ⟨Try.func56, Try.call56⟩ (hloCons l9taken_l (by kernel_rfl) hloNil) 400 [] [⟨_, _, q0⟩, ⟨_, _, hj⟩] (fun ρ => by kernel_rfl)
theorem l9taken_s : S_l9taken.Ok Try.prog := fun ls hp => Summ.at_canon (by kernel_rfl) (by kernel_rfl) (l9taken_w (⟨lI ls 0, lI ls 1, lI ls 2, lI ls 3, lI ls 4⟩) (lO ls 6 0) (lI ls 5) (hp _ (.head _)))

def shP : GPlan := (r05New 1 2).1
def shM : GMem := (l9fresh shP).1.getD default
def shO : Option (Nat × Ls) := l9shown_o 0 shM (newTake shP 1 0)
def shR : Ls := (shO.getD (0, [])).2
def shT : Bool × GTake × GMem := takeStep (lO shR 2 4) (lO shR 1 0)
def shQ1 : Bool × GPop × GMem := popStep (newPop (r05List 0 1)) shT.2.2
def shQ2 : Bool × GPop × GMem := popStep shQ1.2.1 shQ1.2.2
def shQ3 : Bool × GPop × GMem := popStep shQ2.2.1 shQ2.2.2
def l9shown : Bool := ((popResult shQ3.2.1).1 == 40)

def l9shown_out : Ls := [.B (l9shown)]
def S_l9shown : Summ := { f := 36, args := [], H := [], v := pB, ws := [], H' := [], pre := fun ls => [], out := fun ls => l9shown_out }
theorem l9shown_w : S_l9shown.At Try.prog [] (l9shown_out) := by
  unfold l9shown_out
  have q0 : (r05New_o 2 0 ⟨0, 0, 0, 0, 0⟩ ⟨1, 2, binI .add .i64 10 1, 0, 0⟩).isSome = true := by kernel_rfl
  have q1 : (r04New shP.Size).1.isSome = true := by kernel_rfl
  have q2 : (r09Fresh_o 0 shP ((r04New shP.Size).1.getD default)).isSome = true := by kernel_rfl
  have q3 : decide (2 < (r09FreshM shP).W.length) = true := by kernel_rfl
  have q4 : (l9fresh_o 0 shP (r09Fresh shP) (memNew shP.Size).1).isSome = true := by kernel_rfl
  have q5 : (l9fresh shP).1.isSome = true := by kernel_rfl
  have q6 : shO.isSome = true := by kernel_rfl
  have q7 := l9shown_j 0 shM (newTake shP 1 0) q6
  have q8 : memOk (lO shR 1 0) = true := by kernel_rfl
  have q9 : (!((lO shR 2 4).machine.next == 6) || (lO shR 2 4).push.isSome) = true := by kernel_rfl
  have qa : memOk shT.2.2 = true := by kernel_rfl
  have qb : memOk shQ1.2.2 = true := by kernel_rfl
  have qc : memOk shQ2.2.2 = true := by kernel_rfl
  have qd : shT.1 = true := by kernel_rfl
  have qe : (takeCell shT.2.1 == 32) = true := by kernel_rfl
  exact way (B1.cons r05New_s|>.cons l9fresh_s|>.cons newTake_s|>.cons takeStep_s|>.cons r05List_s|>.cons newPop_s|>.cons popStep_s|>.cons popResult_s|>.cons takeCell_s) ⟨Try.func36, Try.call36⟩ (hloCons l9shown_l (by kernel_rfl) hloNil) 400 [1,1,1] [⟨_, _, q0⟩, ⟨_, _, q1⟩, ⟨_, _, q2⟩, ⟨_, _, q3⟩, ⟨_, _, q4⟩, ⟨_, _, q5⟩, ⟨_, _, q6⟩, ⟨_, _, q7⟩, ⟨_, _, q8⟩, ⟨_, _, q9⟩, ⟨_, _, qa⟩, ⟨_, _, qb⟩, ⟨_, _, qc⟩, ⟨_, _, qd⟩, ⟨_, _, qe⟩] (fun ρ => by kernel_rfl)
theorem l9shown_s : S_l9shown.Ok Try.prog := fun ls hp => Summ.at_canon (by kernel_rfl) (by kernel_rfl) (l9shown_w)

end Go.Fl
