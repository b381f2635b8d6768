/- The program's functions that only reckon, and their contracts. Conditions: none. -/
import Derived.Test.YtjhhecidaableaaFlZC
import Derived.Test.YtjhhecidaableaaProg
set_option linter.unusedVariables false
set_option linter.unusedSectionVars false
set_option maxRecDepth 20000
namespace Go.Fl
open Go Go.RowKit Go.Proofs

theorem mix : Try.prog.follows .mixedOrders = true := by kernel_rfl
theorem B0 : Base Try.prog [] [] := ⟨objsOk, glue, ⟨by simp, by simp, by simp⟩, by simp, mix⟩
theorem Base.cons {tab : List TypeId} {sg : List Summ} {s : Summ} (B : Base Try.prog tab sg) (h : s.Ok Try.prog) : Base Try.prog tab (s :: sg) :=
  ⟨B.oo, B.hg, B.het, fun t ht => by
    rcases List.mem_cons.1 ht with rfl | ht
    · exact h
    · exact B.hsg t ht, B.hmix⟩
theorem preL {l m : List Bool} (h : ∀ b, b ∈ l ++ m → b = true) : ∀ b, b ∈ l → b = true := fun b hb => h b (List.mem_append_left _ hb)
theorem preR {l m : List Bool} (h : ∀ b, b ∈ l ++ m → b = true) : ∀ b, b ∈ m → b = true := fun b hb => h b (List.mem_append_right _ hb)

def stampLow (x : Int) (b : Int) : Int :=
  (binI .and .u64 x (binI .sub .u64 (binI .shl .u64 1 b) 1))

def stampLow_out (x : Int) (b : Int) : Ls := [.I (stampLow x b)]
def S_stampLow : Summ := { f := 181, args := [pU64, pI64], H := [], v := pU64, ws := [], H' := [], pre := fun ls => nn ls 1, out := fun ls => stampLow_out (lI ls 0) (lI ls 1) }
theorem stampLow_w (x : Int) (b : Int) (q0 : (decide (0 ≤ b)) = true) : S_stampLow.At Try.prog [.I x, .I b] (stampLow_out x b) := by
  unfold stampLow_out
  exact way (B0) ⟨Try.func181, Try.call181⟩ noLo 400 [] [⟨_, _, q0⟩] (fun ρ => by kernel_rfl)
theorem stampLow_s : S_stampLow.Ok Try.prog := fun ls hp => Summ.at_canon (by kernel_rfl) (by kernel_rfl) (stampLow_w (lI ls 0) (lI ls 1) (nn_ok hp))

def planAll : Arr3 := ⟨4, 8, 16⟩

def planAll_out : Ls := [.I (planAll).e0, .I (planAll).e1, .I (planAll).e2]
def S_planAll : Summ := { f := 180, args := [], H := [], v := .agg [pI64, pI64, pI64], ws := [], H' := [], pre := fun ls => [], out := fun ls => planAll_out }
theorem planAll_w : S_planAll.At Try.prog [] (planAll_out) := by
  unfold planAll_out
  exact way (B0) ⟨Try.func180, Try.call180⟩ noLo 400 [] [] (fun ρ => by kernel_rfl)
theorem planAll_s : S_planAll.Ok Try.prog := fun ls hp => Summ.at_canon (by kernel_rfl) (by kernel_rfl) (planAll_w)

def planWords (c : Int) : Int :=
  match ((decide (c ≥ 0)) : Bool) with
  | true => match ((decide (c < 3)) : Bool) with
    | true => if c = 0 then 4
      else if c = 1 then 8
      else 16
    | false => 0
  | false => 0

def planWords_out (c : Int) : Ls := [.I (planWords c)]
def S_planWords : Summ := { f := 150, args := [pI64], H := [], v := pI64, ws := [], H' := [], pre := fun ls => [], out := fun ls => planWords_out (lI ls 0) }
theorem planWords_w (c : Int) : S_planWords.At Try.prog [.I c] (planWords_out c) := by
  unfold planWords_out
  unfold planWords
  cases h1 : decide (c ≥ 0)
  · exact way (B0.cons planAll_s) ⟨Try.func150, Try.call150⟩ noLo 400 [0] [⟨_, _, h1⟩] (fun ρ => by kernel_rfl)
  · cases h2 : decide (c < 3)
    · exact way (B0.cons planAll_s) ⟨Try.func150, Try.call150⟩ noLo 400 [1,0] [⟨_, _, h1⟩, ⟨_, _, h2⟩] (fun ρ => by kernel_rfl)
    · have h3 : c = 0 ∨ c = 1 ∨ c = 2 := by simp only [decide_eq_true_eq] at h1 h2; omega
      rcases h3 with rfl | rfl | rfl
      · exact way (B0.cons planAll_s) ⟨Try.func150, Try.call150⟩ noLo 400 [1,1,0] [⟨_, _, h1⟩, ⟨_, _, h2⟩, ⟨true, true, rfl⟩] (fun ρ => by kernel_rfl)
      · exact way (B0.cons planAll_s) ⟨Try.func150, Try.call150⟩ noLo 400 [1,1,1] [⟨_, _, h1⟩, ⟨_, _, h2⟩, ⟨true, true, rfl⟩] (fun ρ => by kernel_rfl)
      · exact way (B0.cons planAll_s) ⟨Try.func150, Try.call150⟩ noLo 400 [1,1,2] [⟨_, _, h1⟩, ⟨_, _, h2⟩, ⟨true, true, rfl⟩] (fun ρ => by kernel_rfl)
theorem planWords_s : S_planWords.Ok Try.prog := fun ls hp => Summ.at_canon (by kernel_rfl) (by kernel_rfl) (planWords_w (lI ls 0))

def planCells (c : Int) : Int :=
  match ((decide ((planWords c) > 0)) : Bool) with
  | true => (binI .quo .i64 32 (planWords c))
  | false => 0

def planCells_out (c : Int) : Ls := [.I (planCells c)]
def S_planCells : Summ := { f := 191, args := [pI64], H := [], v := pI64, ws := [], H' := [], pre := fun ls => [], out := fun ls => planCells_out (lI ls 0) }
theorem planCells_w (c : Int) : S_planCells.At Try.prog [.I c] (planCells_out c) := by
  unfold planCells_out
  unfold planCells
  cases h1 : decide (planWords c > 0)
  · exact way (B0.cons planWords_s) ⟨Try.func191, Try.call191⟩ noLo 400 [0] [⟨_, _, h1⟩] (fun ρ => by kernel_rfl)
  · have h2 : (planWords c == 0) = false := by simp only [decide_eq_true_eq] at h1; simp only [beq_eq_false_iff_ne, ne_eq]; omega
    exact way (B0.cons planWords_s) ⟨Try.func191, Try.call191⟩ noLo 400 [1] [⟨_, _, h1⟩, ⟨_, _, h2⟩] (fun ρ => by kernel_rfl)
theorem planCells_s : S_planCells.Ok Try.prog := fun ls hp => Summ.at_canon (by kernel_rfl) (by kernel_rfl) (planCells_w (lI ls 0))

def planClass (n : Int) : Int :=
  match ((decide (n < 0)) : Bool) with
  | true => (-1)
  | false => match ((decide (n > 7)) : Bool) with
    | true => (-1)
    | false => (binI .quo .i64 n 4)

def planClass_out (n : Int) : Ls := [.I (planClass n)]
def S_planClass : Summ := { f := 142, args := [pI64], H := [], v := pI64, ws := [], H' := [], pre := fun ls => [], out := fun ls => planClass_out (lI ls 0) }
theorem planClass_w (n : Int) : S_planClass.At Try.prog [.I n] (planClass_out n) := by
  unfold planClass_out
  unfold planClass
  cases h1 : decide (n < 0)
  · cases h2 : decide (n > 7)
    · exact way (B0) ⟨Try.func142, Try.call142⟩ noLo 400 [0,0] [⟨_, _, h1⟩, ⟨_, _, h2⟩] (fun ρ => by kernel_rfl)
    · exact way (B0) ⟨Try.func142, Try.call142⟩ noLo 400 [0,1] [⟨_, _, h1⟩, ⟨_, _, h2⟩] (fun ρ => by kernel_rfl)
  · exact way (B0) ⟨Try.func142, Try.call142⟩ noLo 400 [1] [⟨_, _, h1⟩] (fun ρ => by kernel_rfl)
theorem planClass_s : S_planClass.Ok Try.prog := fun ls hp => Summ.at_canon (by kernel_rfl) (by kernel_rfl) (planClass_w (lI ls 0))

def planAck (p : GPlan) (t : Int) : Int :=
  (binI .add .i64 10 t)

def planAck_out (p : GPlan) (t : Int) : Ls := [.I (planAck p t)]
def S_planAck : Summ := { f := 102, args := [.agg [pI64, pI64, pI64, pI64, pI64], pI64], H := [], v := pI64, ws := [], H' := [], pre := fun ls => [], out := fun ls => planAck_out (⟨lI ls 0, lI ls 1, lI ls 2, lI ls 3, lI ls 4⟩) (lI ls 5) }
theorem planAck_w (p : GPlan) (t : Int) : S_planAck.At Try.prog [.I p.Threads, .I p.Blocks, .I p.Table, .I p.Heap, .I p.Size, .I t] (planAck_out p t) := by
  unfold planAck_out
  exact way (B0) ⟨Try.func102, Try.call102⟩ noLo 400 [] [] (fun ρ => by kernel_rfl)
theorem planAck_s : S_planAck.Ok Try.prog := fun ls hp => Summ.at_canon (by kernel_rfl) (by kernel_rfl) (planAck_w (⟨lI ls 0, lI ls 1, lI ls 2, lI ls 3, lI ls 4⟩) (lI ls 5))

def planEntry (p : GPlan) (b : Int) : Int :=
  (binI .add .i64 p.Table b)

def planEntry_out (p : GPlan) (b : Int) : Ls := [.I (planEntry p b)]
def S_planEntry : Summ := { f := 98, args := [.agg [pI64, pI64, pI64, pI64, pI64], pI64], H := [], v := pI64, ws := [], H' := [], pre := fun ls => [], out := fun ls => planEntry_out (⟨lI ls 0, lI ls 1, lI ls 2, lI ls 3, lI ls 4⟩) (lI ls 5) }
theorem planEntry_w (p : GPlan) (b : Int) : S_planEntry.At Try.prog [.I p.Threads, .I p.Blocks, .I p.Table, .I p.Heap, .I p.Size, .I b] (planEntry_out p b) := by
  unfold planEntry_out
  exact way (B0) ⟨Try.func98, Try.call98⟩ noLo 400 [] [] (fun ρ => by kernel_rfl)
theorem planEntry_s : S_planEntry.Ok Try.prog := fun ls hp => Summ.at_canon (by kernel_rfl) (by kernel_rfl) (planEntry_w (⟨lI ls 0, lI ls 1, lI ls 2, lI ls 3, lI ls 4⟩) (lI ls 5))

def planList (s : Int) (c : Int) : Int :=
  (binI .add .i64 (binI .add .i64 3 (binI .mul .i64 3 s)) c)

def planList_out (s : Int) (c : Int) : Ls := [.I (planList s c)]
def S_planList : Summ := { f := 91, args := [pI64, pI64], H := [], v := pI64, ws := [], H' := [], pre := fun ls => [], out := fun ls => planList_out (lI ls 0) (lI ls 1) }
theorem planList_w (s : Int) (c : Int) : S_planList.At Try.prog [.I s, .I c] (planList_out s c) := by
  unfold planList_out
  exact way (B0) ⟨Try.func91, Try.call91⟩ noLo 400 [] [] (fun ρ => by kernel_rfl)
theorem planList_s : S_planList.Ok Try.prog := fun ls hp => Summ.at_canon (by kernel_rfl) (by kernel_rfl) (planList_w (lI ls 0) (lI ls 1))

def planCell (p : GPlan) (b : Int) (c : Int) (k : Int) : Int :=
  (binI .add .i64 (binI .add .i64 p.Heap (binI .mul .i64 32 b)) (binI .mul .i64 k (planWords c)))

def planCell_out (p : GPlan) (b : Int) (c : Int) (k : Int) : Ls := [.I (planCell p b c k)]
def S_planCell : Summ := { f := 96, args := [.agg [pI64, pI64, pI64, pI64, pI64], pI64, pI64, pI64], H := [], v := pI64, ws := [], H' := [], pre := fun ls => [], out := fun ls => planCell_out (⟨lI ls 0, lI ls 1, lI ls 2, lI ls 3, lI ls 4⟩) (lI ls 5) (lI ls 6) (lI ls 7) }
theorem planCell_w (p : GPlan) (b : Int) (c : Int) (k : Int) : S_planCell.At Try.prog [.I p.Threads, .I p.Blocks, .I p.Table, .I p.Heap, .I p.Size, .I b, .I c, .I k] (planCell_out p b c k) := by
  unfold planCell_out
  exact way (B0.cons planWords_s) ⟨Try.func96, Try.call96⟩ noLo 400 [] [] (fun ρ => by kernel_rfl)
theorem planCell_s : S_planCell.Ok Try.prog := fun ls hp => Summ.at_canon (by kernel_rfl) (by kernel_rfl) (planCell_w (⟨lI ls 0, lI ls 1, lI ls 2, lI ls 3, lI ls 4⟩) (lI ls 5) (lI ls 6) (lI ls 7))

def stampWith (x : GWord) (n : Int) (b : Int) : GWord :=
  ⟨binI .or .u64 x.w (binI .shl .u64 (stampLow (IntKind.wrap .u64 n) b) x.n), binI .add .i64 x.n b⟩

def stampWith_pre (x : GWord) (n : Int) (b : Int) : List Bool := [decide (0 ≤ b), decide (0 ≤ x.n)]
def stampWith_out (x : GWord) (n : Int) (b : Int) : Ls := [.I (stampWith x n b).w, .I (stampWith x n b).n]
def S_stampWith : Summ := { f := 154, args := [.agg [pU64, pI64], pI64, pI64], H := [], v := .agg [pU64, pI64], ws := [], H' := [], pre := fun ls => stampWith_pre (⟨lI ls 0, lI ls 1⟩) (lI ls 2) (lI ls 3), out := fun ls => stampWith_out (⟨lI ls 0, lI ls 1⟩) (lI ls 2) (lI ls 3) }
theorem stampWith_w (x : GWord) (n : Int) (b : Int) (q0 : (decide (0 ≤ b)) = true) (q1 : (decide (0 ≤ x.n)) = true) : S_stampWith.At Try.prog [.I x.w, .I x.n, .I n, .I b] (stampWith_out x n b) := by
  unfold stampWith_out
  exact way (B0.cons stampLow_s) ⟨Try.func154, Try.call154⟩ noLo 400 [] [⟨_, _, q0⟩, ⟨_, _, q1⟩] (fun ρ => by kernel_rfl)
theorem stampWith_s : S_stampWith.Ok Try.prog := fun ls hp => Summ.at_canon (by kernel_rfl) (by kernel_rfl) (stampWith_w (⟨lI ls 0, lI ls 1⟩) (lI ls 2) (lI ls 3) (hp _ (.head _)) (hp _ (.tail _ (.head _))))

def stampTake (w : Int) (b : Int) : Int × Int :=
  ((IntKind.wrap .i64 (stampLow w b)), (binI .shr .u64 w b))

def stampTake_pre (b : Int) (w : Int) : List Bool := [decide (0 ≤ b)]
def stampTake_out (b : Int) (w : Int) : Ls := [.I (stampTake w b).1, .I (stampTake w b).2]
def S_stampTake : Summ := { f := 151, args := [.ptr 0 0 (.lit 0) 0, pI64], H := [.cells 59 [pU64]], v := pI64, ws := [0], H' := [.cells 59 [pU64]], pre := fun ls => stampTake_pre (lI ls 0) (lI ls 1), out := fun ls => stampTake_out (lI ls 0) (lI ls 1) }
theorem stampTake_w (b : Int) (w : Int) (q0 : (decide (0 ≤ b)) = true) : S_stampTake.At Try.prog [.I b, .I w] (stampTake_out b w) := by
  unfold stampTake_out
  exact way (B0.cons stampLow_s) ⟨Try.func151, Try.call151⟩ noLo 400 [] [⟨_, _, q0⟩, ⟨_, _, q0⟩] (fun ρ => by kernel_rfl)
theorem stampTake_s : S_stampTake.Ok Try.prog := fun ls hp => Summ.at_canon (by kernel_rfl) (by kernel_rfl) (stampTake_w (lI ls 0) (lI ls 1) (hp _ (.head _)))

def stampTop (t : GTop) : Int :=
  (binI .or .u64 (binI .or .u64 0 (binI .shl .u64 (stampLow (IntKind.wrap .u64 t.At) 12) 0)) (binI .shl .u64 (stampLow (IntKind.wrap .u64 t.Ver) 40) 12))

def stampTop_out (t : GTop) : Ls := [.I (stampTop t)]
def S_stampTop : Summ := { f := 170, args := [.agg [pI64, pI64]], H := [], v := pU64, ws := [], H' := [], pre := fun ls => [], out := fun ls => stampTop_out (⟨lI ls 0, lI ls 1⟩) }
theorem stampTop_w (t : GTop) : S_stampTop.At Try.prog [.I t.At, .I t.Ver] (stampTop_out t) := by
  unfold stampTop_out
  exact way (B0.cons stampLow_s|>.cons stampWith_s) ⟨Try.func170, Try.call170⟩ noLo 400 [] [⟨true, true, rfl⟩, ⟨true, true, rfl⟩, ⟨true, true, rfl⟩, ⟨true, true, rfl⟩] (fun ρ => by kernel_rfl)
theorem stampTop_s : S_stampTop.Ok Try.prog := fun ls hp => Summ.at_canon (by kernel_rfl) (by kernel_rfl) (stampTop_w (⟨lI ls 0, lI ls 1⟩))

def stampOfTop (w : Int) : GTop :=
  ({ At := (stampTake w 12).1, Ver := (stampTake (stampTake w 12).2 40).1 } : GTop)

def stampOfTop_out (w : Int) : Ls := [.I (stampOfTop w).At, .I (stampOfTop w).Ver]
def S_stampOfTop : Summ := { f := 90, args := [pU64], H := [], v := .agg [pI64, pI64], ws := [], H' := [], pre := fun ls => [], out := fun ls => stampOfTop_out (lI ls 0) }
theorem stampOfTop_w (w : Int) : S_stampOfTop.At Try.prog [.I w] (stampOfTop_out w) := by
  unfold stampOfTop_out
  exact way (B0.cons stampTake_s) ⟨Try.func90, Try.call90⟩ noLo 400 [] [⟨true, true, rfl⟩, ⟨true, true, rfl⟩] (fun ρ => by kernel_rfl)
theorem stampOfTop_s : S_stampOfTop.Ok Try.prog := fun ls hp => Summ.at_canon (by kernel_rfl) (by kernel_rfl) (stampOfTop_w (lI ls 0))

def stampNext (w : Int) (a : Int) : Int :=
  (stampTop ({ At := a, Ver := (binI .add .i64 (stampOfTop w).Ver 1) } : GTop))

def stampNext_out (w : Int) (a : Int) : Ls := [.I (stampNext w a)]
def S_stampNext : Summ := { f := 130, args := [pU64, pI64], H := [], v := pU64, ws := [], H' := [], pre := fun ls => [], out := fun ls => stampNext_out (lI ls 0) (lI ls 1) }
theorem stampNext_w (w : Int) (a : Int) : S_stampNext.At Try.prog [.I w, .I a] (stampNext_out w a) := by
  unfold stampNext_out
  exact way (B0.cons stampTop_s|>.cons stampOfTop_s) ⟨Try.func130, Try.call130⟩ noLo 400 [] [] (fun ρ => by kernel_rfl)
theorem stampNext_s : S_stampNext.Ok Try.prog := fun ls hp => Summ.at_canon (by kernel_rfl) (by kernel_rfl) (stampNext_w (lI ls 0) (lI ls 1))

def stampPhase (p : GPhase) : Int :=
  (binI .or .u64 (binI .or .u64 (binI .or .u64 (binI .or .u64 0 (binI .shl .u64 (stampLow (IntKind.wrap .u64 p.No) 40) 0)) (binI .shl .u64 (stampLow (IntKind.wrap .u64 p.Mode) 4) 40)) (binI .shl .u64 (stampLow (IntKind.wrap .u64 p.Mark) 1) 44)) (binI .shl .u64 (stampLow (IntKind.wrap .u64 p.List) 1) 45))

def stampPhase_out (p : GPhase) : Ls := [.I (stampPhase p)]
def S_stampPhase : Summ := { f := 101, args := [.agg [pI64, pI64, pI64, pI64]], H := [], v := pU64, ws := [], H' := [], pre := fun ls => [], out := fun ls => stampPhase_out (⟨lI ls 0, lI ls 1, lI ls 2, lI ls 3⟩) }
theorem stampPhase_w (p : GPhase) : S_stampPhase.At Try.prog [.I p.No, .I p.Mode, .I p.Mark, .I p.List] (stampPhase_out p) := by
  unfold stampPhase_out
  exact way (B0.cons stampWith_s) ⟨Try.func101, Try.call101⟩ noLo 400 [] [⟨true, true, rfl⟩, ⟨true, true, rfl⟩, ⟨true, true, rfl⟩, ⟨true, true, rfl⟩, ⟨true, true, rfl⟩, ⟨true, true, rfl⟩, ⟨true, true, rfl⟩, ⟨true, true, rfl⟩] (fun ρ => by kernel_rfl)
theorem stampPhase_s : S_stampPhase.Ok Try.prog := fun ls hp => Summ.at_canon (by kernel_rfl) (by kernel_rfl) (stampPhase_w (⟨lI ls 0, lI ls 1, lI ls 2, lI ls 3⟩))

def stampOfPhase (w : Int) : GPhase :=
  ({ No := (stampTake w 40).1, Mode := (stampTake (stampTake w 40).2 4).1, Mark := (stampTake (stampTake (stampTake w 40).2 4).2 1).1, List := (stampTake (stampTake (stampTake (stampTake w 40).2 4).2 1).2 1).1 } : GPhase)

def stampOfPhase_out (w : Int) : Ls := [.I (stampOfPhase w).No, .I (stampOfPhase w).Mode, .I (stampOfPhase w).Mark, .I (stampOfPhase w).List]
def S_stampOfPhase : Summ := { f := 103, args := [pU64], H := [], v := .agg [pI64, pI64, pI64, pI64], ws := [], H' := [], pre := fun ls => [], out := fun ls => stampOfPhase_out (lI ls 0) }
theorem stampOfPhase_w (w : Int) : S_stampOfPhase.At Try.prog [.I w] (stampOfPhase_out w) := by
  unfold stampOfPhase_out
  exact way (B0.cons stampTake_s) ⟨Try.func103, Try.call103⟩ noLo 400 [] [⟨true, true, rfl⟩, ⟨true, true, rfl⟩, ⟨true, true, rfl⟩, ⟨true, true, rfl⟩] (fun ρ => by kernel_rfl)
theorem stampOfPhase_s : S_stampOfPhase.Ok Try.prog := fun ls hp => Summ.at_canon (by kernel_rfl) (by kernel_rfl) (stampOfPhase_w (lI ls 0))

def stampBlock (b : GBlock) : Int :=
  (binI .or .u64 (binI .or .u64 (binI .or .u64 (binI .or .u64 0 (binI .shl .u64 (stampLow (IntKind.wrap .u64 b.State) 2) 0)) (binI .shl .u64 (stampLow (IntKind.wrap .u64 b.Class) 2) 2)) (binI .shl .u64 (stampLow (IntKind.wrap .u64 b.Stamp) 1) 4)) (binI .shl .u64 (stampLow (IntKind.wrap .u64 b.Next) 7) 5))

def stampBlock_out (b : GBlock) : Ls := [.I (stampBlock b)]
def S_stampBlock : Summ := { f := 184, args := [.agg [pI64, pI64, pI64, pI64]], H := [], v := pU64, ws := [], H' := [], pre := fun ls => [], out := fun ls => stampBlock_out (⟨lI ls 0, lI ls 1, lI ls 2, lI ls 3⟩) }
theorem stampBlock_w (b : GBlock) : S_stampBlock.At Try.prog [.I b.State, .I b.Class, .I b.Stamp, .I b.Next] (stampBlock_out b) := by
  unfold stampBlock_out
  exact way (B0.cons stampWith_s) ⟨Try.func184, Try.call184⟩ noLo 400 [] [⟨true, true, rfl⟩, ⟨true, true, rfl⟩, ⟨true, true, rfl⟩, ⟨true, true, rfl⟩, ⟨true, true, rfl⟩, ⟨true, true, rfl⟩, ⟨true, true, rfl⟩, ⟨true, true, rfl⟩] (fun ρ => by kernel_rfl)
theorem stampBlock_s : S_stampBlock.Ok Try.prog := fun ls hp => Summ.at_canon (by kernel_rfl) (by kernel_rfl) (stampBlock_w (⟨lI ls 0, lI ls 1, lI ls 2, lI ls 3⟩))

def stampOfBlock (w : Int) : GBlock :=
  ({ State := (stampTake w 2).1, Class := (stampTake (stampTake w 2).2 2).1, Stamp := (stampTake (stampTake (stampTake w 2).2 2).2 1).1, Next := (stampTake (stampTake (stampTake (stampTake w 2).2 2).2 1).2 7).1 } : GBlock)

def stampOfBlock_out (w : Int) : Ls := [.I (stampOfBlock w).State, .I (stampOfBlock w).Class, .I (stampOfBlock w).Stamp, .I (stampOfBlock w).Next]
def S_stampOfBlock : Summ := { f := 97, args := [pU64], H := [], v := .agg [pI64, pI64, pI64, pI64], ws := [], H' := [], pre := fun ls => [], out := fun ls => stampOfBlock_out (lI ls 0) }
theorem stampOfBlock_w (w : Int) : S_stampOfBlock.At Try.prog [.I w] (stampOfBlock_out w) := by
  unfold stampOfBlock_out
  exact way (B0.cons stampTake_s) ⟨Try.func97, Try.call97⟩ noLo 400 [] [⟨true, true, rfl⟩, ⟨true, true, rfl⟩, ⟨true, true, rfl⟩, ⟨true, true, rfl⟩] (fun ρ => by kernel_rfl)
theorem stampOfBlock_s : S_stampOfBlock.Ok Try.prog := fun ls hp => Summ.at_canon (by kernel_rfl) (by kernel_rfl) (stampOfBlock_w (lI ls 0))

def headPack (n0 : Int) (n1 : Int) (n2 : Int) (n3 : Int) (n4 : Int) (n5 : Int) (n6 : Int) : Int :=
  (binI .or .u64 (binI .or .u64 (binI .or .u64 (binI .or .u64 (binI .or .u64 (binI .or .u64 (binI .or .u64 0 (binI .shl .u64 (binI .and .u64 (IntKind.wrap .u64 n0) 3) 0)) (binI .shl .u64 (binI .and .u64 (IntKind.wrap .u64 n1) 3) 2)) (binI .shl .u64 (binI .and .u64 (IntKind.wrap .u64 n2) 7) 4)) (binI .shl .u64 (binI .and .u64 (IntKind.wrap .u64 n3) 1) 7)) (binI .shl .u64 (binI .and .u64 (IntKind.wrap .u64 n4) 1) 8)) (binI .shl .u64 (binI .and .u64 (IntKind.wrap .u64 n5) 7) 9)) (binI .shl .u64 (binI .and .u64 (IntKind.wrap .u64 n6) 4095) 12))

def headPack_out (n0 : Int) (n1 : Int) (n2 : Int) (n3 : Int) (n4 : Int) (n5 : Int) (n6 : Int) : Ls := [.I (headPack n0 n1 n2 n3 n4 n5 n6), .I n0, .I n1, .I n2, .I n3, .I n4, .I n5, .I n6]
def S_headPack : Summ := { f := 176, args := [.slice 0 0 (.lit 0) 0 (.lit 7) (.known (.lit 7))], H := [.cells 256 [pI64, .int .i64 (.lit 2), pI64, .int .i64 (.lit 2), pI64, .int .i64 (.lit 3), pI64, .int .i64 (.lit 1), pI64, .int .i64 (.lit 1), pI64, .int .i64 (.lit 3), pI64, .int .i64 (.lit 12)]], v := pU64, ws := [], H' := [.cells 256 [pI64, .int .i64 (.lit 2), pI64, .int .i64 (.lit 2), pI64, .int .i64 (.lit 3), pI64, .int .i64 (.lit 1), pI64, .int .i64 (.lit 1), pI64, .int .i64 (.lit 3), pI64, .int .i64 (.lit 12)]], pre := fun ls => [], out := fun ls => headPack_out (lI ls 0) (lI ls 1) (lI ls 2) (lI ls 3) (lI ls 4) (lI ls 5) (lI ls 6) }
theorem headPack_w (n0 : Int) (n1 : Int) (n2 : Int) (n3 : Int) (n4 : Int) (n5 : Int) (n6 : Int) : S_headPack.At Try.prog [.I n0, .I n1, .I n2, .I n3, .I n4, .I n5, .I n6] (headPack_out n0 n1 n2 n3 n4 n5 n6) := by
  unfold headPack_out
  exact way (B0) ⟨Try.func176, Try.call176⟩ noLo 400 [] [] (fun ρ => by kernel_rfl)
theorem headPack_s : S_headPack.Ok Try.prog := fun ls hp => Summ.at_canon (by kernel_rfl) (by kernel_rfl) (headPack_w (lI ls 0) (lI ls 1) (lI ls 2) (lI ls 3) (lI ls 4) (lI ls 5) (lI ls 6))

def headUnpack (w : Int) : Arr7 :=
  ({ e0 := (IntKind.wrap .i64 (binI .and .u64 w 3)), e1 := (IntKind.wrap .i64 (binI .and .u64 (binI .shr .u64 w 2) 3)), e2 := (IntKind.wrap .i64 (binI .and .u64 (binI .shr .u64 (binI .shr .u64 w 2) 2) 7)), e3 := (IntKind.wrap .i64 (binI .and .u64 (binI .shr .u64 (binI .shr .u64 (binI .shr .u64 w 2) 2) 3) 1)), e4 := (IntKind.wrap .i64 (binI .and .u64 (binI .shr .u64 (binI .shr .u64 (binI .shr .u64 (binI .shr .u64 w 2) 2) 3) 1) 1)), e5 := (IntKind.wrap .i64 (binI .and .u64 (binI .shr .u64 (binI .shr .u64 (binI .shr .u64 (binI .shr .u64 (binI .shr .u64 w 2) 2) 3) 1) 1) 7)), e6 := (IntKind.wrap .i64 (binI .and .u64 (binI .shr .u64 (binI .shr .u64 (binI .shr .u64 (binI .shr .u64 (binI .shr .u64 (binI .shr .u64 w 2) 2) 3) 1) 1) 3) 4095)) } : Arr7)

def headUnpack_out (w : Int) : Ls := [.I (headUnpack w).e0, .I (headUnpack w).e1, .I (headUnpack w).e2, .I (headUnpack w).e3, .I (headUnpack w).e4, .I (headUnpack w).e5, .I (headUnpack w).e6]
def S_headUnpack : Summ := { f := 168, args := [pU64, .slice 0 0 (.lit 0) 0 (.lit 7) (.known (.lit 7))], H := [.cells 3 [.int .i64 (.lit 2), .int .i64 (.lit 2), .int .i64 (.lit 3), .int .i64 (.lit 1), .int .i64 (.lit 1), .int .i64 (.lit 3), .int .i64 (.lit 12)]], v := .agg [pI64, pI64, pI64, pI64, pI64, pI64, pI64], ws := [], H' := [.cells 3 [.int .i64 (.lit 2), .int .i64 (.lit 2), .int .i64 (.lit 3), .int .i64 (.lit 1), .int .i64 (.lit 1), .int .i64 (.lit 3), .int .i64 (.lit 12)]], pre := fun ls => [], out := fun ls => headUnpack_out (lI ls 0) }
theorem headUnpack_w (w : Int) : S_headUnpack.At Try.prog [.I w] (headUnpack_out w) := by
  unfold headUnpack_out
  exact way (B0) ⟨Try.func168, Try.call168⟩ noLo 400 [] [] (fun ρ => by kernel_rfl)
theorem headUnpack_s : S_headUnpack.Ok Try.prog := fun ls hp => Summ.at_canon (by kernel_rfl) (by kernel_rfl) (headUnpack_w (lI ls 0))

def headWord (h : GHead) : Int :=
  (headPack h.State h.Class h.Count h.Mark h.Grey h.Tag h.Link)

def headWord_out (h : GHead) : Ls := [.I (headWord h)]
def S_headWord : Summ := { f := 144, args := [.agg [pI64, pI64, pI64, pI64, pI64, pI64, pI64]], H := [], v := pU64, ws := [], H' := [], pre := fun ls => [], out := fun ls => headWord_out (⟨lI ls 0, lI ls 1, lI ls 2, lI ls 3, lI ls 4, lI ls 5, lI ls 6⟩) }
theorem headWord_w (h : GHead) : S_headWord.At Try.prog [.I h.State, .I h.Class, .I h.Count, .I h.Mark, .I h.Grey, .I h.Tag, .I h.Link] (headWord_out h) := by
  unfold headWord_out
  exact way (B0.cons headPack_s) ⟨Try.func144, Try.call144⟩ noLo 400 [] [] (fun ρ => by kernel_rfl)
theorem headWord_s : S_headWord.Ok Try.prog := fun ls hp => Summ.at_canon (by kernel_rfl) (by kernel_rfl) (headWord_w (⟨lI ls 0, lI ls 1, lI ls 2, lI ls 3, lI ls 4, lI ls 5, lI ls 6⟩))

def headOf (w : Int) : GHead :=
  ({ State := (headUnpack w).e0, Class := (headUnpack w).e1, Count := (headUnpack w).e2, Mark := (headUnpack w).e3, Grey := (headUnpack w).e4, Tag := (headUnpack w).e5, Link := (headUnpack w).e6 } : GHead)

def headOf_out (w : Int) : Ls := [.I (headOf w).State, .I (headOf w).Class, .I (headOf w).Count, .I (headOf w).Mark, .I (headOf w).Grey, .I (headOf w).Tag, .I (headOf w).Link]
def S_headOf : Summ := { f := 127, args := [pU64], H := [], v := .agg [pI64, pI64, pI64, pI64, pI64, pI64, pI64], ws := [], H' := [], pre := fun ls => [], out := fun ls => headOf_out (lI ls 0) }
theorem headOf_w (w : Int) : S_headOf.At Try.prog [.I w] (headOf_out w) := by
  unfold headOf_out
  exact way (B0.cons headUnpack_s) ⟨Try.func127, Try.call127⟩ noLo 400 [] [] (fun ρ => by kernel_rfl)
theorem headOf_s : S_headOf.Ok Try.prog := fun ls hp => Summ.at_canon (by kernel_rfl) (by kernel_rfl) (headOf_w (lI ls 0))

def headMoved (w : Int) (a : Int) : Int :=
  match (((headOf w).State == 1) : Bool) with
  | true => match (((headOf w).Tag == 2) : Bool) with
    | true => (headOf w).Link
    | false => a
  | false => a

def headMoved_out (w : Int) (a : Int) : Ls := [.I (headMoved w a)]
def S_headMoved : Summ := { f := 106, args := [pU64, pI64], H := [], v := pI64, ws := [], H' := [], pre := fun ls => [], out := fun ls => headMoved_out (lI ls 0) (lI ls 1) }
theorem headMoved_w (w : Int) (a : Int) : S_headMoved.At Try.prog [.I w, .I a] (headMoved_out w a) := by
  unfold headMoved_out
  unfold headMoved
  cases h1 : ((headOf w).State == 1)
  · exact way (B0.cons headOf_s) ⟨Try.func106, Try.call106⟩ noLo 400 [0] [⟨_, _, h1⟩] (fun ρ => by kernel_rfl)
  · cases h2 : ((headOf w).Tag == 2)
    · exact way (B0.cons headOf_s) ⟨Try.func106, Try.call106⟩ noLo 400 [1,0] [⟨_, _, h1⟩, ⟨_, _, h2⟩] (fun ρ => by kernel_rfl)
    · exact way (B0.cons headOf_s) ⟨Try.func106, Try.call106⟩ noLo 400 [1,1] [⟨_, _, h1⟩, ⟨_, _, h2⟩] (fun ρ => by kernel_rfl)
theorem headMoved_s : S_headMoved.Ok Try.prog := fun ls hp => Summ.at_canon (by kernel_rfl) (by kernel_rfl) (headMoved_w (lI ls 0) (lI ls 1))

def slotOf (w : Int) : GVal :=
  ({ Kind := (IntKind.wrap .i64 (binI .and .u64 w 3)), N := (IntKind.wrap .i64 (binI .quo .u64 w 8)) } : GVal)

def slotOf_out (w : Int) : Ls := [.I (slotOf w).Kind, .I (slotOf w).N]
def S_slotOf : Summ := { f := 135, args := [pU64], H := [], v := .agg [pI64, pI64], ws := [], H' := [], pre := fun ls => [], out := fun ls => slotOf_out (lI ls 0) }
theorem slotOf_w (w : Int) : S_slotOf.At Try.prog [.I w] (slotOf_out w) := by
  unfold slotOf_out
  exact way (B0) ⟨Try.func135, Try.call135⟩ noLo 400 [] [] (fun ρ => by kernel_rfl)
theorem slotOf_s : S_slotOf.Ok Try.prog := fun ls hp => Summ.at_canon (by kernel_rfl) (by kernel_rfl) (slotOf_w (lI ls 0))

def slotWord (v : GVal) : Int :=
  (binI .or .u64 (binI .and .u64 (IntKind.wrap .u64 v.Kind) 3) (binI .mul .u64 (IntKind.wrap .u64 v.N) 8))

def slotWord_out (v : GVal) : Ls := [.I (slotWord v)]
def S_slotWord : Summ := { f := 178, args := [.agg [pI64, pI64]], H := [], v := pU64, ws := [], H' := [], pre := fun ls => [], out := fun ls => slotWord_out (⟨lI ls 0, lI ls 1⟩) }
theorem slotWord_w (v : GVal) : S_slotWord.At Try.prog [.I v.Kind, .I v.N] (slotWord_out v) := by
  unfold slotWord_out
  exact way (B0) ⟨Try.func178, Try.call178⟩ noLo 400 [] [] (fun ρ => by kernel_rfl)
theorem slotWord_s : S_slotWord.Ok Try.prog := fun ls hp => Summ.at_canon (by kernel_rfl) (by kernel_rfl) (slotWord_w (⟨lI ls 0, lI ls 1⟩))

end Go.Fl
