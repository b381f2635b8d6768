/- The document's machines of lists, blocks and cells, and their contracts. Conditions: none. -/
import Derived.Test.YtjhhecidaableaaFmD
set_option linter.unusedVariables false
set_option linter.unusedSectionVars false
set_option maxRecDepth 20000
namespace Go.Fl
open Go Go.RowKit Go.Proofs

def r8NewPop (h : Int) : R8Pop := ⟨h, 1, 0, 0, 0, 0⟩

def r8NewPop_out (h : Int) : Ls := [.O 8 (r8NewPop h)]
def S_r8NewPop : Summ := { f := 186, args := [pI64], H := [], v := .ptr 0 0 (.lit 0) 0, ws := [], H' := [.obj (8, false)], pre := fun ls => [], out := fun ls => r8NewPop_out (lI ls 0) }
theorem r8NewPop_w (h : Int) : S_r8NewPop.At Try.prog [.I h] (r8NewPop_out h) := by
  unfold r8NewPop_out
  exact way (B0) ⟨Try.func186, Try.call186⟩ noLo 400 [] [] (fun ρ => by kernel_rfl)
theorem r8NewPop_s : S_r8NewPop.Ok Try.prog := fun ls hp => Summ.at_canon (by kernel_rfl) (by kernel_rfl) (r8NewPop_w (lI ls 0))

def r8NewPush (h f l c : Int) : R8Push := ⟨h, f, l, c, 1, 0⟩

def r8NewPush_out (h : Int) (f : Int) (l : Int) (c : Int) : Ls := [.O 9 (r8NewPush h f l c)]
def S_r8NewPush : Summ := { f := 164, args := [pI64, pI64, pI64, pI64], H := [], v := .ptr 0 0 (.lit 0) 0, ws := [], H' := [.obj (9, false)], pre := fun ls => [], out := fun ls => r8NewPush_out (lI ls 0) (lI ls 1) (lI ls 2) (lI ls 3) }
theorem r8NewPush_w (h : Int) (f : Int) (l : Int) (c : Int) : S_r8NewPush.At Try.prog [.I h, .I f, .I l, .I c] (r8NewPush_out h f l c) := by
  unfold r8NewPush_out
  exact way (B0) ⟨Try.func164, Try.call164⟩ noLo 400 [] [] (fun ρ => by kernel_rfl)
theorem r8NewPush_s : S_r8NewPush.Ok Try.prog := fun ls hp => Summ.at_canon (by kernel_rfl) (by kernel_rfl) (r8NewPush_w (lI ls 0) (lI ls 1) (lI ls 2) (lI ls 3))

def r8PopStep (x : R8Pop) (m : RMem) : Bool × R8Pop × RMem :=
  if x.Pc = 1 then (sel ((r03OfTop (r04Load m x.Head).1).At == 0) true false, { x with W := (r04Load m x.Head).1, Pc := sel ((r03OfTop (r04Load m x.Head).1).At == 0) 0 2, Seen := sel ((r03OfTop (r04Load m x.Head).1).At == 0) (r04Load m x.Head).1 x.Seen }, (r04Load m x.Head).2)
  else if x.Pc = 2 then (false, { x with H := (r04Load m (r03OfTop x.W).At).1, Pc := 3 }, (r04Load m (r03OfTop x.W).At).2)
  else if x.Pc = 3 then (sel (r04Cas m x.Head x.W (r03Next x.W (r02Of x.H).Link)).1 true false, { x with Pc := sel (r04Cas m x.Head x.W (r03Next x.W (r02Of x.H).Link)).1 0 1, At := sel (r04Cas m x.Head x.W (r03Next x.W (r02Of x.H).Link)).1 (r03OfTop x.W).At x.At, Seen := sel (r04Cas m x.Head x.W (r03Next x.W (r02Of x.H).Link)).1 x.W x.Seen }, (r04Cas m x.Head x.W (r03Next x.W (r02Of x.H).Link)).2)
  else (x.Pc == 0, x, m)

def r8PopStep_pre (x : R8Pop) (m : RMem) : List Bool := [r04Ok m]
def r8PopStep_out (x : R8Pop) (m : RMem) : Ls := [.B (r8PopStep x m).1, .O 8 (r8PopStep x m).2.1, .O 1 (r8PopStep x m).2.2]
def S_r8PopStep : Summ := { f := 187, args := [.ptr 0 0 (.lit 0) 0, .ptr 1 0 (.lit 0) 0], H := [.obj (8, false), .obj (1, false)], v := pB, ws := [0, 1], H' := [.obj (8, false), .obj (1, false)], pre := fun ls => r8PopStep_pre (lO ls 0 8) (lO ls 1 1), out := fun ls => r8PopStep_out (lO ls 0 8) (lO ls 1 1) }
theorem r8PopStep_w (x : R8Pop) (m : RMem) (q0 : (r04Ok m) = true) : S_r8PopStep.At Try.prog [.O 8 x, .O 1 m] (r8PopStep_out x m) := by
  unfold r8PopStep_out
  unfold r8PopStep
  rcases x with ⟨hd, nx, w, h, a, s⟩
  simp only
  by_cases h1 : nx = 1
  · subst h1
    try simp only [if_pos, reduceIte, Int.reduceEq]
    rcases Bool.eq_false_or_eq_true ((r03OfTop (r04Load m hd).1).At == 0) with c1 | c1
    · try simp only [sel_t c1]
      exact way (B0.cons r04Load_s|>.cons r04Cas_s|>.cons r03OfTop_s|>.cons r03Next_s|>.cons r02Of_s) ⟨Try.func187, Try.call187⟩ noLo 400 [1,1] [⟨true, true, rfl⟩, ⟨_, _, q0⟩, ⟨_, _, c1⟩] (fun ρ => by kernel_rfl)
    · try simp only [sel_f c1]
      exact way (B0.cons r04Load_s|>.cons r04Cas_s|>.cons r03OfTop_s|>.cons r03Next_s|>.cons r02Of_s) ⟨Try.func187, Try.call187⟩ noLo 400 [1,0] [⟨true, true, rfl⟩, ⟨_, _, q0⟩, ⟨_, _, c1⟩] (fun ρ => by kernel_rfl)
  · skip
    by_cases h2 : nx = 2
    · subst h2
      try simp only [if_pos, reduceIte, Int.reduceEq]
      exact way (B0.cons r04Load_s|>.cons r04Cas_s|>.cons r03OfTop_s|>.cons r03Next_s|>.cons r02Of_s) ⟨Try.func187, Try.call187⟩ noLo 400 [0,1] [⟨false, false, rfl⟩, ⟨true, true, rfl⟩, ⟨_, _, q0⟩] (fun ρ => by kernel_rfl)
    · skip
      by_cases h3 : nx = 3
      · subst h3
        try simp only [if_pos, reduceIte, Int.reduceEq]
        rcases Bool.eq_false_or_eq_true ((r04Cas m hd w (r03Next w (r02Of h).Link)).1) with c2 | c2
        · try simp only [sel_t c2]
          exact way (B0.cons r04Load_s|>.cons r04Cas_s|>.cons r03OfTop_s|>.cons r03Next_s|>.cons r02Of_s) ⟨Try.func187, Try.call187⟩ noLo 400 [0,0,1,1] [⟨false, false, rfl⟩, ⟨false, false, rfl⟩, ⟨true, true, rfl⟩, ⟨_, _, q0⟩, ⟨_, _, c2⟩] (fun ρ => by kernel_rfl)
        · try simp only [sel_f c2]
          exact way (B0.cons r04Load_s|>.cons r04Cas_s|>.cons r03OfTop_s|>.cons r03Next_s|>.cons r02Of_s) ⟨Try.func187, Try.call187⟩ noLo 400 [0,0,1,0] [⟨false, false, rfl⟩, ⟨false, false, rfl⟩, ⟨true, true, rfl⟩, ⟨_, _, q0⟩, ⟨_, _, c2⟩] (fun ρ => by kernel_rfl)
      · skip
        simp only [if_neg h1, if_neg h2, if_neg h3]
        exact way (B0.cons r04Load_s|>.cons r04Cas_s|>.cons r03OfTop_s|>.cons r03Next_s|>.cons r02Of_s) ⟨Try.func187, Try.call187⟩ noLo 400 [0,0,0] [⟨_, _, beq_eq_false_iff_ne.2 h1⟩, ⟨_, _, beq_eq_false_iff_ne.2 h2⟩, ⟨_, _, beq_eq_false_iff_ne.2 h3⟩] (fun ρ => by kernel_rfl)
theorem r8PopStep_s : S_r8PopStep.Ok Try.prog := fun ls hp => Summ.at_canon (by kernel_rfl) (by kernel_rfl) (r8PopStep_w (lO ls 0 8) (lO ls 1 1) (hp _ (.head _)))

def r8PushStep (x : R8Push) (m : RMem) : Bool × R8Push × RMem :=
  if x.Pc = 1 then (false, { x with W := (r04Load m x.Head).1, Pc := 2 }, (r04Load m x.Head).2)
  else if x.Pc = 2 then (false, { x with Pc := 3 }, r04Store m x.Last (r02Word ⟨0, x.Class, 0, 0, 0, 0, (r03OfTop x.W).At⟩))
  else if x.Pc = 3 then (sel (r04Cas m x.Head x.W (r03Next x.W x.First)).1 true false, { x with Pc := sel (r04Cas m x.Head x.W (r03Next x.W x.First)).1 0 1 }, (r04Cas m x.Head x.W (r03Next x.W x.First)).2)
  else (x.Pc == 0, x, m)

def r8PushStep_pre (x : R8Push) (m : RMem) : List Bool := [r04Ok m]
def r8PushStep_out (x : R8Push) (m : RMem) : Ls := [.B (r8PushStep x m).1, .O 9 (r8PushStep x m).2.1, .O 1 (r8PushStep x m).2.2]
def S_r8PushStep : Summ := { f := 165, args := [.ptr 0 0 (.lit 0) 0, .ptr 1 0 (.lit 0) 0], H := [.obj (9, false), .obj (1, false)], v := pB, ws := [0, 1], H' := [.obj (9, false), .obj (1, false)], pre := fun ls => r8PushStep_pre (lO ls 0 9) (lO ls 1 1), out := fun ls => r8PushStep_out (lO ls 0 9) (lO ls 1 1) }
theorem r8PushStep_w (x : R8Push) (m : RMem) (q0 : (r04Ok m) = true) : S_r8PushStep.At Try.prog [.O 9 x, .O 1 m] (r8PushStep_out x m) := by
  unfold r8PushStep_out
  unfold r8PushStep
  rcases x with ⟨hd, f, l, c, nx, w⟩
  simp only
  by_cases h1 : nx = 1
  · subst h1
    try simp only [if_pos, reduceIte, Int.reduceEq]
    exact way (B0.cons r04Load_s|>.cons r04Store_s|>.cons r04Cas_s|>.cons r03OfTop_s|>.cons r03Next_s|>.cons r02Word_s) ⟨Try.func165, Try.call165⟩ noLo 400 [1] [⟨true, true, rfl⟩, ⟨_, _, q0⟩] (fun ρ => by kernel_rfl)
  · skip
    by_cases h2 : nx = 2
    · subst h2
      try simp only [if_pos, reduceIte, Int.reduceEq]
      exact way (B0.cons r04Load_s|>.cons r04Store_s|>.cons r04Cas_s|>.cons r03OfTop_s|>.cons r03Next_s|>.cons r02Word_s) ⟨Try.func165, Try.call165⟩ noLo 400 [0,1] [⟨false, false, rfl⟩, ⟨true, true, rfl⟩, ⟨_, _, q0⟩] (fun ρ => by kernel_rfl)
    · skip
      by_cases h3 : nx = 3
      · subst h3
        try simp only [if_pos, reduceIte, Int.reduceEq]
        rcases Bool.eq_false_or_eq_true ((r04Cas m hd w (r03Next w f)).1) with c3 | c3
        · try simp only [sel_t c3]
          exact way (B0.cons r04Load_s|>.cons r04Store_s|>.cons r04Cas_s|>.cons r03OfTop_s|>.cons r03Next_s|>.cons r02Word_s) ⟨Try.func165, Try.call165⟩ noLo 400 [0,0,1,1] [⟨false, false, rfl⟩, ⟨false, false, rfl⟩, ⟨true, true, rfl⟩, ⟨_, _, q0⟩, ⟨_, _, c3⟩] (fun ρ => by kernel_rfl)
        · try simp only [sel_f c3]
          exact way (B0.cons r04Load_s|>.cons r04Store_s|>.cons r04Cas_s|>.cons r03OfTop_s|>.cons r03Next_s|>.cons r02Word_s) ⟨Try.func165, Try.call165⟩ noLo 400 [0,0,1,0] [⟨false, false, rfl⟩, ⟨false, false, rfl⟩, ⟨true, true, rfl⟩, ⟨_, _, q0⟩, ⟨_, _, c3⟩] (fun ρ => by kernel_rfl)
      · skip
        simp only [if_neg h1, if_neg h2, if_neg h3]
        exact way (B0.cons r04Load_s|>.cons r04Store_s|>.cons r04Cas_s|>.cons r03OfTop_s|>.cons r03Next_s|>.cons r02Word_s) ⟨Try.func165, Try.call165⟩ noLo 400 [0,0,0] [⟨_, _, beq_eq_false_iff_ne.2 h1⟩, ⟨_, _, beq_eq_false_iff_ne.2 h2⟩, ⟨_, _, beq_eq_false_iff_ne.2 h3⟩] (fun ρ => by kernel_rfl)
theorem r8PushStep_s : S_r8PushStep.Ok Try.prog := fun ls hp => Summ.at_canon (by kernel_rfl) (by kernel_rfl) (r8PushStep_w (lO ls 0 9) (lO ls 1 1) (hp _ (.head _)))

def r9NewTake (p : GPlan) (c s : Int) : R9Take := ⟨p, c, s, 1, 0, 0, 0, none, 0⟩

def r9NewTake_out (p : GPlan) (c : Int) (s : Int) : Ls := [.O 10 (r9NewTake p c s)]
def S_r9NewTake : Summ := { f := 120, args := [.agg [pI64, pI64, pI64, pI64, pI64], pI64, pI64], H := [], v := .ptr 0 0 (.lit 0) 0, ws := [], H' := [.obj (10, false)], pre := fun ls => [], out := fun ls => r9NewTake_out (⟨lI ls 0, lI ls 1, lI ls 2, lI ls 3, lI ls 4⟩) (lI ls 5) (lI ls 6) }
theorem r9NewTake_w (p : GPlan) (c : Int) (s : Int) : S_r9NewTake.At Try.prog [.I p.Threads, .I p.Blocks, .I p.Table, .I p.Heap, .I p.Size, .I c, .I s] (r9NewTake_out p c s) := by
  unfold r9NewTake_out
  exact way (B0) ⟨Try.func120, Try.call120⟩ noLo 400 [] [] (fun ρ => by kernel_rfl)
theorem r9NewTake_s : S_r9NewTake.Ok Try.prog := fun ls hp => Summ.at_canon (by kernel_rfl) (by kernel_rfl) (r9NewTake_w (⟨lI ls 0, lI ls 1, lI ls 2, lI ls 3, lI ls 4⟩) (lI ls 5) (lI ls 6))

def r9NewGive (p : GPlan) (b : Int) : R9Give := ⟨p, b, 1, 0⟩

def r9NewGive_out (p : GPlan) (b : Int) : Ls := [.O 11 (r9NewGive p b)]
def S_r9NewGive : Summ := { f := 121, args := [.agg [pI64, pI64, pI64, pI64, pI64], pI64], H := [], v := .ptr 0 0 (.lit 0) 0, ws := [], H' := [.obj (11, false)], pre := fun ls => [], out := fun ls => r9NewGive_out (⟨lI ls 0, lI ls 1, lI ls 2, lI ls 3, lI ls 4⟩) (lI ls 5) }
theorem r9NewGive_w (p : GPlan) (b : Int) : S_r9NewGive.At Try.prog [.I p.Threads, .I p.Blocks, .I p.Table, .I p.Heap, .I p.Size, .I b] (r9NewGive_out p b) := by
  unfold r9NewGive_out
  exact way (B0) ⟨Try.func121, Try.call121⟩ noLo 400 [] [] (fun ρ => by kernel_rfl)
theorem r9NewGive_s : S_r9NewGive.Ok Try.prog := fun ls hp => Summ.at_canon (by kernel_rfl) (by kernel_rfl) (r9NewGive_w (⟨lI ls 0, lI ls 1, lI ls 2, lI ls 3, lI ls 4⟩) (lI ls 5))

def r9Cell (x : R9Take) (k : Int) : Int := r05Cell x.P (binI .sub .i64 (r03OfTop x.W).At 1) x.Class k

def r9Cell_out (x : R9Take) (k : Int) : Ls := [.I (r9Cell x k), .O 10 x]
def S_r9Cell : Summ := { f := 163, args := [.ptr 0 0 (.lit 0) 0, pI64], H := [.obj (10, false)], v := pI64, ws := [0], H' := [.obj (10, false)], pre := fun ls => [], out := fun ls => r9Cell_out (lO ls 1 10) (lI ls 0) }
theorem r9Cell_w (x : R9Take) (k : Int) : S_r9Cell.At Try.prog [.I k, .O 10 x] (r9Cell_out x k) := by
  unfold r9Cell_out
  exact way (B0.cons r05Cell_s|>.cons r03OfTop_s) ⟨Try.func163, Try.call163⟩ noLo 400 [] [] (fun ρ => by kernel_rfl)
theorem r9Cell_s : S_r9Cell.Ok Try.prog := fun ls hp => Summ.at_canon (by kernel_rfl) (by kernel_rfl) (r9Cell_w (lO ls 1 10) (lI ls 0))

def r9CellR_out (k : Int) (x : R9Take) : Ls := [.I (r9Cell x k), .I x.P.Threads, .I x.P.Blocks, .I x.P.Table, .I x.P.Heap, .I x.P.Size, .I x.Class, .I x.Set, .I x.Pc, .I x.K, .I x.W, .I x.B, .I x.At, .P 9 x.X]
def S_r9CellR : Summ := { f := 163, args := [.ptr 0 0 (.lit 0) 0, pI64], H := [.cells 191 [pI64, pI64, pI64, pI64, pI64, pI64, pI64, pI64, pI64, pU64, pU64, .opt 1, pI64], .obj (9, true)], v := pI64, ws := [], H' := [.cells 191 [pI64, pI64, pI64, pI64, pI64, pI64, pI64, pI64, pI64, pU64, pU64, .opt 1, pI64], .obj (9, true)], pre := fun ls => [], out := fun ls => r9CellR_out (lI ls 0) ((⟨⟨lI ls 1, lI ls 2, lI ls 3, lI ls 4, lI ls 5⟩, lI ls 6, lI ls 7, lI ls 8, lI ls 9, lI ls 10, lI ls 11, lP ls 13 9, lI ls 12⟩ : R9Take)) }
theorem r9CellR_w (k : Int) (x : R9Take) : S_r9CellR.At Try.prog [.I k, .I x.P.Threads, .I x.P.Blocks, .I x.P.Table, .I x.P.Heap, .I x.P.Size, .I x.Class, .I x.Set, .I x.Pc, .I x.K, .I x.W, .I x.B, .I x.At, .P 9 x.X] (r9CellR_out k x) := by
  unfold r9CellR_out
  exact way (B0.cons r05Cell_s|>.cons r03OfTop_s) ⟨Try.func163, Try.call163⟩ noLo 400 [] [] (fun ρ => by kernel_rfl)
theorem r9CellR_s : S_r9CellR.Ok Try.prog := fun ls hp => Summ.at_canon (by kernel_rfl) (by kernel_rfl) (r9CellR_w (lI ls 0) ((⟨⟨lI ls 1, lI ls 2, lI ls 3, lI ls 4, lI ls 5⟩, lI ls 6, lI ls 7, lI ls 8, lI ls 9, lI ls 10, lI ls 11, lP ls 13 9, lI ls 12⟩ : R9Take)))

def r9Block (x : R9Take) : Int := binI .sub .i64 (r03OfTop x.W).At 1
def r9Last (x : R9Take) : Int := binI .sub .i64 (r05Cells x.Class) 1
def r9TakeStep (x : R9Take) (m : RMem) : Bool × R9Take × RMem :=
  if x.Pc = 1 then (sel ((r03OfTop (r04Load m 2).1).At == 0) true false, { x with W := (r04Load m 2).1, Pc := sel ((r03OfTop (r04Load m 2).1).At == 0) 0 2 }, (r04Load m 2).2)
  else if x.Pc = 2 then (false, { x with B := (r04Load m (r05Entry x.P (r9Block x))).1, Pc := 3 }, (r04Load m (r05Entry x.P (r9Block x))).2)
  else if x.Pc = 3 then (false, { x with Pc := sel (r04Cas m 2 x.W (r03Next x.W (r03OfBlock x.B).Next)).1 4 1 }, (r04Cas m 2 x.W (r03Next x.W (r03OfBlock x.B).Next)).2)
  else if x.Pc = 4 then (false, { x with K := 1, Pc := 5 }, r04Store m (r05Entry x.P (r9Block x)) (r03Block ⟨1, x.Class, x.Set, 0⟩))
  else if x.Pc = 5 then (false, { x with K := binI .add .i64 x.K 1, Pc := sel (decide (binI .add .i64 x.K 1 > r9Last x)) 6 5, X := sel (decide (binI .add .i64 x.K 1 > r9Last x)) (some (r8NewPush (r05List x.Set x.Class) (r9Cell x 1) (r9Cell x (r9Last x)) x.Class)) x.X },
    r04Store m (r9Cell x x.K) (r02Word ⟨0, x.Class, 0, 0, 0, 0, sel (decide (x.K < r9Last x)) (r9Cell x (binI .add .i64 x.K 1)) 0⟩))
  else if x.Pc = 6 then (sel (r8PushStep (x.X.getD default) m).1 true false, { x with Pc := sel (r8PushStep (x.X.getD default) m).1 0 6, X := some (r8PushStep (x.X.getD default) m).2.1, At := sel (r8PushStep (x.X.getD default) m).1 (r9Cell x 0) x.At }, (r8PushStep (x.X.getD default) m).2.2)
  else (x.Pc == 0, x, m)

def r9TakeStep_pre (x : R9Take) (m : RMem) : List Bool := [r04Ok m, (!(x.Pc == 6) || x.X.isSome)]
def r9TakeStep_out (x : R9Take) (m : RMem) : Ls := [.B (r9TakeStep x m).1, .O 10 (r9TakeStep x m).2.1, .O 1 (r9TakeStep x m).2.2]
def S_r9TakeStep : Summ := { f := 122, args := [.ptr 0 0 (.lit 0) 0, .ptr 1 0 (.lit 0) 0], H := [.obj (10, false), .obj (1, false)], v := pB, ws := [0, 1], H' := [.obj (10, false), .obj (1, false)], pre := fun ls => r9TakeStep_pre (lO ls 0 10) (lO ls 1 1), out := fun ls => r9TakeStep_out (lO ls 0 10) (lO ls 1 1) }
theorem r9TakeStep_w (x : R9Take) (m : RMem) (q0 : (r04Ok m) = true) (q1 : ((!(x.Pc == 6) || x.X.isSome)) = true) : S_r9TakeStep.At Try.prog [.O 10 x, .O 1 m] (r9TakeStep_out x m) := by
  unfold r9TakeStep_out
  unfold r9TakeStep r9Block r9Last
  rcases x with ⟨p, c, s, nx, k, w, b, X, a⟩
  simp only
  by_cases h1 : nx = 1
  · subst h1
    try simp only [if_pos, reduceIte, Int.reduceEq]
    rcases Bool.eq_false_or_eq_true ((r03OfTop (r04Load m 2).1).At == 0) with c4 | c4
    · try simp only [sel_t c4]
      exact way (B0.cons r04Load_s|>.cons r04Store_s|>.cons r04Cas_s|>.cons r03OfTop_s|>.cons r03Next_s|>.cons r02Word_s|>.cons r03OfBlock_s|>.cons r03Block_s|>.cons r05Entry_s|>.cons r05Cells_s|>.cons r05List_s|>.cons r9CellR_s|>.cons r9Cell_s|>.cons r8NewPush_s|>.cons r8PushStep_s) ⟨Try.func122, Try.call122⟩ noLo 400 [1,1] [⟨true, true, rfl⟩, ⟨_, _, q0⟩, ⟨_, _, c4⟩] (fun ρ => by kernel_rfl)
    · try simp only [sel_f c4]
      exact way (B0.cons r04Load_s|>.cons r04Store_s|>.cons r04Cas_s|>.cons r03OfTop_s|>.cons r03Next_s|>.cons r02Word_s|>.cons r03OfBlock_s|>.cons r03Block_s|>.cons r05Entry_s|>.cons r05Cells_s|>.cons r05List_s|>.cons r9CellR_s|>.cons r9Cell_s|>.cons r8NewPush_s|>.cons r8PushStep_s) ⟨Try.func122, Try.call122⟩ noLo 400 [1,0] [⟨true, true, rfl⟩, ⟨_, _, q0⟩, ⟨_, _, c4⟩] (fun ρ => by kernel_rfl)
  · skip
    by_cases h2 : nx = 2
    · subst h2
      try simp only [if_pos, reduceIte, Int.reduceEq]
      exact way (B0.cons r04Load_s|>.cons r04Store_s|>.cons r04Cas_s|>.cons r03OfTop_s|>.cons r03Next_s|>.cons r02Word_s|>.cons r03OfBlock_s|>.cons r03Block_s|>.cons r05Entry_s|>.cons r05Cells_s|>.cons r05List_s|>.cons r9CellR_s|>.cons r9Cell_s|>.cons r8NewPush_s|>.cons r8PushStep_s) ⟨Try.func122, Try.call122⟩ noLo 400 [0,1] [⟨false, false, rfl⟩, ⟨true, true, rfl⟩, ⟨_, _, q0⟩] (fun ρ => by kernel_rfl)
    · skip
      by_cases h3 : nx = 3
      · subst h3
        try simp only [if_pos, reduceIte, Int.reduceEq]
        rcases Bool.eq_false_or_eq_true ((r04Cas m 2 w (r03Next w (r03OfBlock b).Next)).1) with c5 | c5
        · try simp only [sel_t c5]
          exact way (B0.cons r04Load_s|>.cons r04Store_s|>.cons r04Cas_s|>.cons r03OfTop_s|>.cons r03Next_s|>.cons r02Word_s|>.cons r03OfBlock_s|>.cons r03Block_s|>.cons r05Entry_s|>.cons r05Cells_s|>.cons r05List_s|>.cons r9CellR_s|>.cons r9Cell_s|>.cons r8NewPush_s|>.cons r8PushStep_s) ⟨Try.func122, Try.call122⟩ noLo 400 [0,0,1,1] [⟨false, false, rfl⟩, ⟨false, false, rfl⟩, ⟨true, true, rfl⟩, ⟨_, _, q0⟩, ⟨_, _, c5⟩] (fun ρ => by kernel_rfl)
        · try simp only [sel_f c5]
          exact way (B0.cons r04Load_s|>.cons r04Store_s|>.cons r04Cas_s|>.cons r03OfTop_s|>.cons r03Next_s|>.cons r02Word_s|>.cons r03OfBlock_s|>.cons r03Block_s|>.cons r05Entry_s|>.cons r05Cells_s|>.cons r05List_s|>.cons r9CellR_s|>.cons r9Cell_s|>.cons r8NewPush_s|>.cons r8PushStep_s) ⟨Try.func122, Try.call122⟩ noLo 400 [0,0,1,0] [⟨false, false, rfl⟩, ⟨false, false, rfl⟩, ⟨true, true, rfl⟩, ⟨_, _, q0⟩, ⟨_, _, c5⟩] (fun ρ => by kernel_rfl)
      · skip
        by_cases h4 : nx = 4
        · subst h4
          try simp only [if_pos, reduceIte, Int.reduceEq]
          exact way (B0.cons r04Load_s|>.cons r04Store_s|>.cons r04Cas_s|>.cons r03OfTop_s|>.cons r03Next_s|>.cons r02Word_s|>.cons r03OfBlock_s|>.cons r03Block_s|>.cons r05Entry_s|>.cons r05Cells_s|>.cons r05List_s|>.cons r9CellR_s|>.cons r9Cell_s|>.cons r8NewPush_s|>.cons r8PushStep_s) ⟨Try.func122, Try.call122⟩ noLo 400 [0,0,0,1] [⟨false, false, rfl⟩, ⟨false, false, rfl⟩, ⟨false, false, rfl⟩, ⟨true, true, rfl⟩, ⟨_, _, q0⟩] (fun ρ => by kernel_rfl)
        · skip
          by_cases h5 : nx = 5
          · subst h5
            try simp only [if_pos, reduceIte, Int.reduceEq]
            rcases Bool.eq_false_or_eq_true (decide (k < binI .sub .i64 (r05Cells c) 1)) with c6 | c6
            · try simp only [sel_t c6]
              rcases Bool.eq_false_or_eq_true (decide (binI .add .i64 k 1 > binI .sub .i64 (r05Cells c) 1)) with c7 | c7
              · try simp only [sel_t c7]
                exact way (B0.cons r04Load_s|>.cons r04Store_s|>.cons r04Cas_s|>.cons r03OfTop_s|>.cons r03Next_s|>.cons r02Word_s|>.cons r03OfBlock_s|>.cons r03Block_s|>.cons r05Entry_s|>.cons r05Cells_s|>.cons r05List_s|>.cons r9CellR_s|>.cons r9Cell_s|>.cons r8NewPush_s|>.cons r8PushStep_s) ⟨Try.func122, Try.call122⟩ noLo 400 [0,0,0,0,1,1,1] [⟨false, false, rfl⟩, ⟨false, false, rfl⟩, ⟨false, false, rfl⟩, ⟨false, false, rfl⟩, ⟨true, true, rfl⟩, ⟨_, _, c6⟩, ⟨_, _, q0⟩, ⟨_, _, c7⟩] (fun ρ => by kernel_rfl)
              · try simp only [sel_f c7]
                exact way (B0.cons r04Load_s|>.cons r04Store_s|>.cons r04Cas_s|>.cons r03OfTop_s|>.cons r03Next_s|>.cons r02Word_s|>.cons r03OfBlock_s|>.cons r03Block_s|>.cons r05Entry_s|>.cons r05Cells_s|>.cons r05List_s|>.cons r9CellR_s|>.cons r9Cell_s|>.cons r8NewPush_s|>.cons r8PushStep_s) ⟨Try.func122, Try.call122⟩ noLo 400 [0,0,0,0,1,1,0] [⟨false, false, rfl⟩, ⟨false, false, rfl⟩, ⟨false, false, rfl⟩, ⟨false, false, rfl⟩, ⟨true, true, rfl⟩, ⟨_, _, c6⟩, ⟨_, _, q0⟩, ⟨_, _, c7⟩] (fun ρ => by kernel_rfl)
            · try simp only [sel_f c6]
              rcases Bool.eq_false_or_eq_true (decide (binI .add .i64 k 1 > binI .sub .i64 (r05Cells c) 1)) with c8 | c8
              · try simp only [sel_t c8]
                exact way (B0.cons r04Load_s|>.cons r04Store_s|>.cons r04Cas_s|>.cons r03OfTop_s|>.cons r03Next_s|>.cons r02Word_s|>.cons r03OfBlock_s|>.cons r03Block_s|>.cons r05Entry_s|>.cons r05Cells_s|>.cons r05List_s|>.cons r9CellR_s|>.cons r9Cell_s|>.cons r8NewPush_s|>.cons r8PushStep_s) ⟨Try.func122, Try.call122⟩ noLo 400 [0,0,0,0,1,0,1] [⟨false, false, rfl⟩, ⟨false, false, rfl⟩, ⟨false, false, rfl⟩, ⟨false, false, rfl⟩, ⟨true, true, rfl⟩, ⟨_, _, c6⟩, ⟨_, _, q0⟩, ⟨_, _, c8⟩] (fun ρ => by kernel_rfl)
              · try simp only [sel_f c8]
                exact way (B0.cons r04Load_s|>.cons r04Store_s|>.cons r04Cas_s|>.cons r03OfTop_s|>.cons r03Next_s|>.cons r02Word_s|>.cons r03OfBlock_s|>.cons r03Block_s|>.cons r05Entry_s|>.cons r05Cells_s|>.cons r05List_s|>.cons r9CellR_s|>.cons r9Cell_s|>.cons r8NewPush_s|>.cons r8PushStep_s) ⟨Try.func122, Try.call122⟩ noLo 400 [0,0,0,0,1,0,0] [⟨false, false, rfl⟩, ⟨false, false, rfl⟩, ⟨false, false, rfl⟩, ⟨false, false, rfl⟩, ⟨true, true, rfl⟩, ⟨_, _, c6⟩, ⟨_, _, q0⟩, ⟨_, _, c8⟩] (fun ρ => by kernel_rfl)
          · skip
            by_cases h6 : nx = 6
            · subst h6
              try simp only [if_pos, reduceIte, Int.reduceEq]
              rcases Bool.eq_false_or_eq_true ((r8PushStep (X.getD default) m).1) with c9 | c9
              · try simp only [sel_t c9]
                exact way (B0.cons r04Load_s|>.cons r04Store_s|>.cons r04Cas_s|>.cons r03OfTop_s|>.cons r03Next_s|>.cons r02Word_s|>.cons r03OfBlock_s|>.cons r03Block_s|>.cons r05Entry_s|>.cons r05Cells_s|>.cons r05List_s|>.cons r9CellR_s|>.cons r9Cell_s|>.cons r8NewPush_s|>.cons r8PushStep_s) ⟨Try.func122, Try.call122⟩ noLo 400 [0,0,0,0,0,1,1] [⟨false, false, rfl⟩, ⟨false, false, rfl⟩, ⟨false, false, rfl⟩, ⟨false, false, rfl⟩, ⟨false, false, rfl⟩, ⟨true, true, rfl⟩, ⟨_, _, q1⟩, ⟨_, _, q0⟩, ⟨_, _, c9⟩] (fun ρ => by kernel_rfl)
              · try simp only [sel_f c9]
                exact way (B0.cons r04Load_s|>.cons r04Store_s|>.cons r04Cas_s|>.cons r03OfTop_s|>.cons r03Next_s|>.cons r02Word_s|>.cons r03OfBlock_s|>.cons r03Block_s|>.cons r05Entry_s|>.cons r05Cells_s|>.cons r05List_s|>.cons r9CellR_s|>.cons r9Cell_s|>.cons r8NewPush_s|>.cons r8PushStep_s) ⟨Try.func122, Try.call122⟩ noLo 400 [0,0,0,0,0,1,0] [⟨false, false, rfl⟩, ⟨false, false, rfl⟩, ⟨false, false, rfl⟩, ⟨false, false, rfl⟩, ⟨false, false, rfl⟩, ⟨true, true, rfl⟩, ⟨_, _, q1⟩, ⟨_, _, q0⟩, ⟨_, _, c9⟩] (fun ρ => by kernel_rfl)
            · skip
              simp only [if_neg h1, if_neg h2, if_neg h3, if_neg h4, if_neg h5, if_neg h6]
              exact way (B0.cons r04Load_s|>.cons r04Store_s|>.cons r04Cas_s|>.cons r03OfTop_s|>.cons r03Next_s|>.cons r02Word_s|>.cons r03OfBlock_s|>.cons r03Block_s|>.cons r05Entry_s|>.cons r05Cells_s|>.cons r05List_s|>.cons r9CellR_s|>.cons r9Cell_s|>.cons r8NewPush_s|>.cons r8PushStep_s) ⟨Try.func122, Try.call122⟩ noLo 400 [0,0,0,0,0,0] [⟨_, _, beq_eq_false_iff_ne.2 h1⟩, ⟨_, _, beq_eq_false_iff_ne.2 h2⟩, ⟨_, _, beq_eq_false_iff_ne.2 h3⟩, ⟨_, _, beq_eq_false_iff_ne.2 h4⟩, ⟨_, _, beq_eq_false_iff_ne.2 h5⟩, ⟨_, _, beq_eq_false_iff_ne.2 h6⟩] (fun ρ => by kernel_rfl)
theorem r9TakeStep_s : S_r9TakeStep.Ok Try.prog := fun ls hp => Summ.at_canon (by kernel_rfl) (by kernel_rfl) (r9TakeStep_w (lO ls 0 10) (lO ls 1 1) (hp _ (.head _)) (hp _ (.tail _ (.head _))))

def r9GiveStep (x : R9Give) (m : RMem) : Bool × R9Give × RMem :=
  if x.Pc = 1 then (false, { x with W := (r04Load m 2).1, Pc := 2 }, (r04Load m 2).2)
  else if x.Pc = 2 then (false, { x with Pc := 3 }, r04Store m (r05Entry x.P x.Block) (r03Block ⟨0, 0, 0, (r03OfTop x.W).At⟩))
  else if x.Pc = 3 then (sel (r04Cas m 2 x.W (r03Next x.W (binI .add .i64 x.Block 1))).1 true false, { x with Pc := sel (r04Cas m 2 x.W (r03Next x.W (binI .add .i64 x.Block 1))).1 0 1 }, (r04Cas m 2 x.W (r03Next x.W (binI .add .i64 x.Block 1))).2)
  else (x.Pc == 0, x, m)

def r9GiveStep_pre (x : R9Give) (m : RMem) : List Bool := [r04Ok m]
def r9GiveStep_out (x : R9Give) (m : RMem) : Ls := [.B (r9GiveStep x m).1, .O 11 (r9GiveStep x m).2.1, .O 1 (r9GiveStep x m).2.2]
def S_r9GiveStep : Summ := { f := 123, args := [.ptr 0 0 (.lit 0) 0, .ptr 1 0 (.lit 0) 0], H := [.obj (11, false), .obj (1, false)], v := pB, ws := [0, 1], H' := [.obj (11, false), .obj (1, false)], pre := fun ls => r9GiveStep_pre (lO ls 0 11) (lO ls 1 1), out := fun ls => r9GiveStep_out (lO ls 0 11) (lO ls 1 1) }
theorem r9GiveStep_w (x : R9Give) (m : RMem) (q0 : (r04Ok m) = true) : S_r9GiveStep.At Try.prog [.O 11 x, .O 1 m] (r9GiveStep_out x m) := by
  unfold r9GiveStep_out
  unfold r9GiveStep
  rcases x with ⟨p, b, nx, w⟩
  simp only
  by_cases h1 : nx = 1
  · subst h1
    try simp only [if_pos, reduceIte, Int.reduceEq]
    exact way (B0.cons r04Load_s|>.cons r04Store_s|>.cons r04Cas_s|>.cons r03OfTop_s|>.cons r03Next_s|>.cons r03Block_s|>.cons r05Entry_s) ⟨Try.func123, Try.call123⟩ noLo 400 [1] [⟨true, true, rfl⟩, ⟨_, _, q0⟩] (fun ρ => by kernel_rfl)
  · skip
    by_cases h2 : nx = 2
    · subst h2
      try simp only [if_pos, reduceIte, Int.reduceEq]
      exact way (B0.cons r04Load_s|>.cons r04Store_s|>.cons r04Cas_s|>.cons r03OfTop_s|>.cons r03Next_s|>.cons r03Block_s|>.cons r05Entry_s) ⟨Try.func123, Try.call123⟩ noLo 400 [0,1] [⟨false, false, rfl⟩, ⟨true, true, rfl⟩, ⟨_, _, q0⟩] (fun ρ => by kernel_rfl)
    · skip
      by_cases h3 : nx = 3
      · subst h3
        try simp only [if_pos, reduceIte, Int.reduceEq]
        rcases Bool.eq_false_or_eq_true ((r04Cas m 2 w (r03Next w (binI .add .i64 b 1))).1) with c10 | c10
        · try simp only [sel_t c10]
          exact way (B0.cons r04Load_s|>.cons r04Store_s|>.cons r04Cas_s|>.cons r03OfTop_s|>.cons r03Next_s|>.cons r03Block_s|>.cons r05Entry_s) ⟨Try.func123, Try.call123⟩ noLo 400 [0,0,1,1] [⟨false, false, rfl⟩, ⟨false, false, rfl⟩, ⟨true, true, rfl⟩, ⟨_, _, q0⟩, ⟨_, _, c10⟩] (fun ρ => by kernel_rfl)
        · try simp only [sel_f c10]
          exact way (B0.cons r04Load_s|>.cons r04Store_s|>.cons r04Cas_s|>.cons r03OfTop_s|>.cons r03Next_s|>.cons r03Block_s|>.cons r05Entry_s) ⟨Try.func123, Try.call123⟩ noLo 400 [0,0,1,0] [⟨false, false, rfl⟩, ⟨false, false, rfl⟩, ⟨true, true, rfl⟩, ⟨_, _, q0⟩, ⟨_, _, c10⟩] (fun ρ => by kernel_rfl)
      · skip
        simp only [if_neg h1, if_neg h2, if_neg h3]
        exact way (B0.cons r04Load_s|>.cons r04Store_s|>.cons r04Cas_s|>.cons r03OfTop_s|>.cons r03Next_s|>.cons r03Block_s|>.cons r05Entry_s) ⟨Try.func123, Try.call123⟩ noLo 400 [0,0,0] [⟨_, _, beq_eq_false_iff_ne.2 h1⟩, ⟨_, _, beq_eq_false_iff_ne.2 h2⟩, ⟨_, _, beq_eq_false_iff_ne.2 h3⟩] (fun ρ => by kernel_rfl)
theorem r9GiveStep_s : S_r9GiveStep.Ok Try.prog := fun ls hp => Summ.at_canon (by kernel_rfl) (by kernel_rfl) (r9GiveStep_w (lO ls 0 11) (lO ls 1 1) (hp _ (.head _)))

end Go.Fl
