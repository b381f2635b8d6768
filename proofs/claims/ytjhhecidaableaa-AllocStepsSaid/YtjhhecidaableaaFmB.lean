/- The document's functions that only reckon, and their contracts. Conditions: none. -/
import Derived.Test.YtjhhecidaableaaFmA
set_option linter.unusedVariables false
set_option linter.unusedSectionVars false
set_option maxRecDepth 20000
namespace Go.Fl
open Go Go.RowKit Go.Proofs

theorem shl_ne1 : ∀ k : Nat, k < 64 → (binI .shl .u64 1 (k : Int) == 0) = false := by decide
theorem shl_ne {n : Int} (h0 : 0 ≤ n) (h1 : ¬ n ≥ 64) : (binI .shl .u64 1 n == 0) = false := by
  have := shl_ne1 n.toNat (by omega)
  rwa [Int.toNat_of_nonneg h0] at this

def r01Bits (x : Int) (n : Int) : Int :=
  match ((decide (n ≥ 64)) : Bool) with
  | true => x
  | false => (binI .rem .u64 x (binI .shl .u64 1 n))

def r01Bits_out (x : Int) (n : Int) : Ls := [.I (r01Bits x n)]
def S_r01Bits : Summ := { f := 136, args := [pU64, pI64], H := [], v := pU64, ws := [], H' := [], pre := fun ls => nn ls 1, out := fun ls => r01Bits_out (lI ls 0) (lI ls 1) }
theorem r01Bits_w (x : Int) (n : Int) (q0 : (decide (0 ≤ n)) = true) : S_r01Bits.At Try.prog [.I x, .I n] (r01Bits_out x n) := by
  unfold r01Bits_out
  unfold r01Bits
  cases h1 : decide (n ≥ 64)
  · exact way (B0) ⟨Try.func136, Try.call136⟩ noLo 400 [0] [⟨_, _, h1⟩, ⟨_, _, q0⟩, ⟨_, _, shl_ne (of_decide_eq_true q0) (of_decide_eq_false h1)⟩] (fun ρ => by kernel_rfl)
  · exact way (B0) ⟨Try.func136, Try.call136⟩ noLo 400 [1] [⟨_, _, h1⟩] (fun ρ => by kernel_rfl)
theorem r01Bits_s : S_r01Bits.Ok Try.prog := fun ls hp => Summ.at_canon (by kernel_rfl) (by kernel_rfl) (r01Bits_w (lI ls 0) (lI ls 1) (nn_ok hp))

def r01Word (v : GVal) : Int :=
  (binI .add .u64 (r01Bits (IntKind.wrap .u64 v.Kind) 2) (binI .mul .u64 8 (r01Bits (IntKind.wrap .u64 v.N) 61)))

def r01Word_out (v : GVal) : Ls := [.I (r01Word v)]
def S_r01Word : Summ := { f := 126, args := [.agg [pI64, pI64]], H := [], v := pU64, ws := [], H' := [], pre := fun ls => [], out := fun ls => r01Word_out (⟨lI ls 0, lI ls 1⟩) }
theorem r01Word_w (v : GVal) : S_r01Word.At Try.prog [.I v.Kind, .I v.N] (r01Word_out v) := by
  unfold r01Word_out
  exact way (B0.cons r01Bits_s) ⟨Try.func126, Try.call126⟩ noLo 400 [] [] (fun ρ => by kernel_rfl)
theorem r01Word_s : S_r01Word.Ok Try.prog := fun ls hp => Summ.at_canon (by kernel_rfl) (by kernel_rfl) (r01Word_w (⟨lI ls 0, lI ls 1⟩))

def r01Of (w : Int) : GVal :=
  ({ Kind := (IntKind.wrap .i64 (r01Bits w 2)), N := (IntKind.wrap .i64 (binI .quo .u64 w 8)) } : GVal)

def r01Of_out (w : Int) : Ls := [.I (r01Of w).Kind, .I (r01Of w).N]
def S_r01Of : Summ := { f := 70, args := [pU64], H := [], v := .agg [pI64, pI64], ws := [], H' := [], pre := fun ls => [], out := fun ls => r01Of_out (lI ls 0) }
theorem r01Of_w (w : Int) : S_r01Of.At Try.prog [.I w] (r01Of_out w) := by
  unfold r01Of_out
  exact way (B0.cons r01Bits_s) ⟨Try.func70, Try.call70⟩ noLo 400 [] [] (fun ρ => by kernel_rfl)
theorem r01Of_s : S_r01Of.Ok Try.prog := fun ls hp => Summ.at_canon (by kernel_rfl) (by kernel_rfl) (r01Of_w (lI ls 0))

def r02Part (w : Int) (a : Int) (n : Int) : Int :=
  (IntKind.wrap .i64 (r01Bits (binI .shr .u64 w a) n))

def r02Part_out (w : Int) (a : Int) (n : Int) : Ls := [.I (r02Part w a n)]
def S_r02Part : Summ := { f := 107, args := [pU64, pI64, pI64], H := [], v := pI64, ws := [], H' := [], pre := fun ls => nn ls 1 ++ nn ls 2, out := fun ls => r02Part_out (lI ls 0) (lI ls 1) (lI ls 2) }
theorem r02Part_w (w : Int) (a : Int) (n : Int) (q0 : (decide (0 ≤ a)) = true) (q1 : (decide (0 ≤ n)) = true) : S_r02Part.At Try.prog [.I w, .I a, .I n] (r02Part_out w a n) := by
  unfold r02Part_out
  exact way (B0.cons r01Bits_s) ⟨Try.func107, Try.call107⟩ noLo 400 [] [⟨_, _, q0⟩, ⟨_, _, q1⟩] (fun ρ => by kernel_rfl)
theorem r02Part_s : S_r02Part.Ok Try.prog := fun ls hp => Summ.at_canon (by kernel_rfl) (by kernel_rfl) (r02Part_w (lI ls 0) (lI ls 1) (lI ls 2) (nn_ok (preL hp)) (nn_ok (preR hp)))

def r02Word (h : GHead) : Int :=
  (binI .add .u64 (binI .add .u64 (binI .add .u64 (binI .add .u64 (binI .add .u64 (binI .add .u64 (r01Bits (IntKind.wrap .u64 h.State) 2) (binI .shl .u64 (r01Bits (IntKind.wrap .u64 h.Class) 2) 2)) (binI .shl .u64 (r01Bits (IntKind.wrap .u64 h.Count) 3) 4)) (binI .shl .u64 (r01Bits (IntKind.wrap .u64 h.Mark) 1) 7)) (binI .shl .u64 (r01Bits (IntKind.wrap .u64 h.Grey) 1) 8)) (binI .shl .u64 (r01Bits (IntKind.wrap .u64 h.Tag) 3) 9)) (binI .shl .u64 (r01Bits (IntKind.wrap .u64 h.Link) 12) 12))

def r02Word_out (h : GHead) : Ls := [.I (r02Word h)]
def S_r02Word : Summ := { f := 99, args := [.agg [pI64, pI64, pI64, pI64, pI64, pI64, pI64]], H := [], v := pU64, ws := [], H' := [], pre := fun ls => [], out := fun ls => r02Word_out (⟨lI ls 0, lI ls 1, lI ls 2, lI ls 3, lI ls 4, lI ls 5, lI ls 6⟩) }
theorem r02Word_w (h : GHead) : S_r02Word.At Try.prog [.I h.State, .I h.Class, .I h.Count, .I h.Mark, .I h.Grey, .I h.Tag, .I h.Link] (r02Word_out h) := by
  unfold r02Word_out
  exact way (B0.cons r01Bits_s) ⟨Try.func99, Try.call99⟩ noLo 400 [] [] (fun ρ => by kernel_rfl)
theorem r02Word_s : S_r02Word.Ok Try.prog := fun ls hp => Summ.at_canon (by kernel_rfl) (by kernel_rfl) (r02Word_w (⟨lI ls 0, lI ls 1, lI ls 2, lI ls 3, lI ls 4, lI ls 5, lI ls 6⟩))

def r02Of (w : Int) : GHead :=
  ({ State := (r02Part w 0 2), Class := (r02Part w 2 2), Count := (r02Part w 4 3), Mark := (r02Part w 7 1), Grey := (r02Part w 8 1), Tag := (r02Part w 9 3), Link := (r02Part w 12 12) } : GHead)

def r02Of_out (w : Int) : Ls := [.I (r02Of w).State, .I (r02Of w).Class, .I (r02Of w).Count, .I (r02Of w).Mark, .I (r02Of w).Grey, .I (r02Of w).Tag, .I (r02Of w).Link]
def S_r02Of : Summ := { f := 32, args := [pU64], H := [], v := .agg [pI64, pI64, pI64, pI64, pI64, pI64, pI64], ws := [], H' := [], pre := fun ls => [], out := fun ls => r02Of_out (lI ls 0) }
theorem r02Of_w (w : Int) : S_r02Of.At Try.prog [.I w] (r02Of_out w) := by
  unfold r02Of_out
  exact way (B0.cons r02Part_s) ⟨Try.func32, Try.call32⟩ noLo 400 [] [] (fun ρ => by kernel_rfl)
theorem r02Of_s : S_r02Of.Ok Try.prog := fun ls hp => Summ.at_canon (by kernel_rfl) (by kernel_rfl) (r02Of_w (lI ls 0))

def r02Moved (w : Int) (a : Int) : Int :=
  match (((r02Of w).State == 1) : Bool) with
  | true => match (((r02Of w).Tag == 2) : Bool) with
    | true => (r02Of w).Link
    | false => a
  | false => a

def r02Moved_out (w : Int) (a : Int) : Ls := [.I (r02Moved w a)]
def S_r02Moved : Summ := { f := 31, args := [pU64, pI64], H := [], v := pI64, ws := [], H' := [], pre := fun ls => [], out := fun ls => r02Moved_out (lI ls 0) (lI ls 1) }
theorem r02Moved_w (w : Int) (a : Int) : S_r02Moved.At Try.prog [.I w, .I a] (r02Moved_out w a) := by
  unfold r02Moved_out
  unfold r02Moved
  cases h1 : ((r02Of w).State == 1)
  · exact way (B0.cons r02Of_s) ⟨Try.func31, Try.call31⟩ noLo 400 [0] [⟨_, _, h1⟩] (fun ρ => by kernel_rfl)
  · cases h2 : ((r02Of w).Tag == 2)
    · exact way (B0.cons r02Of_s) ⟨Try.func31, Try.call31⟩ noLo 400 [1,0] [⟨_, _, h1⟩, ⟨_, _, h2⟩] (fun ρ => by kernel_rfl)
    · exact way (B0.cons r02Of_s) ⟨Try.func31, Try.call31⟩ noLo 400 [1,1] [⟨_, _, h1⟩, ⟨_, _, h2⟩] (fun ρ => by kernel_rfl)
theorem r02Moved_s : S_r02Moved.Ok Try.prog := fun ls hp => Summ.at_canon (by kernel_rfl) (by kernel_rfl) (r02Moved_w (lI ls 0) (lI ls 1))

def r03Put (w : Int) (x : Int) (a : Int) (n : Int) : Int :=
  (binI .add .u64 w (binI .shl .u64 (r01Bits (IntKind.wrap .u64 x) n) a))

def r03Put_out (w : Int) (x : Int) (a : Int) (n : Int) : Ls := [.I (r03Put w x a n)]
def S_r03Put : Summ := { f := 147, args := [pU64, pI64, pI64, pI64], H := [], v := pU64, ws := [], H' := [], pre := fun ls => nn ls 2 ++ nn ls 3, out := fun ls => r03Put_out (lI ls 0) (lI ls 1) (lI ls 2) (lI ls 3) }
theorem r03Put_w (w : Int) (x : Int) (a : Int) (n : Int) (q0 : (decide (0 ≤ a)) = true) (q1 : (decide (0 ≤ n)) = true) : S_r03Put.At Try.prog [.I w, .I x, .I a, .I n] (r03Put_out w x a n) := by
  unfold r03Put_out
  exact way (B0.cons r01Bits_s) ⟨Try.func147, Try.call147⟩ noLo 400 [] [⟨_, _, q1⟩, ⟨_, _, q0⟩] (fun ρ => by kernel_rfl)
theorem r03Put_s : S_r03Put.Ok Try.prog := fun ls hp => Summ.at_canon (by kernel_rfl) (by kernel_rfl) (r03Put_w (lI ls 0) (lI ls 1) (lI ls 2) (lI ls 3) (nn_ok (preL hp)) (nn_ok (preR hp)))

def r03Top (t : GTop) : Int :=
  (r03Put (r03Put 0 t.At 0 12) t.Ver 12 40)

def r03Top_out (t : GTop) : Ls := [.I (r03Top t)]
def S_r03Top : Summ := { f := 87, args := [.agg [pI64, pI64]], H := [], v := pU64, ws := [], H' := [], pre := fun ls => [], out := fun ls => r03Top_out (⟨lI ls 0, lI ls 1⟩) }
theorem r03Top_w (t : GTop) : S_r03Top.At Try.prog [.I t.At, .I t.Ver] (r03Top_out t) := by
  unfold r03Top_out
  exact way (B0.cons r03Put_s) ⟨Try.func87, Try.call87⟩ noLo 400 [] [] (fun ρ => by kernel_rfl)
theorem r03Top_s : S_r03Top.Ok Try.prog := fun ls hp => Summ.at_canon (by kernel_rfl) (by kernel_rfl) (r03Top_w (⟨lI ls 0, lI ls 1⟩))

def r03OfTop (w : Int) : GTop :=
  ({ At := (r02Part w 0 12), Ver := (r02Part w 12 40) } : GTop)

def r03OfTop_out (w : Int) : Ls := [.I (r03OfTop w).At, .I (r03OfTop w).Ver]
def S_r03OfTop : Summ := { f := 68, args := [pU64], H := [], v := .agg [pI64, pI64], ws := [], H' := [], pre := fun ls => [], out := fun ls => r03OfTop_out (lI ls 0) }
theorem r03OfTop_w (w : Int) : S_r03OfTop.At Try.prog [.I w] (r03OfTop_out w) := by
  unfold r03OfTop_out
  exact way (B0.cons r02Part_s) ⟨Try.func68, Try.call68⟩ noLo 400 [] [] (fun ρ => by kernel_rfl)
theorem r03OfTop_s : S_r03OfTop.Ok Try.prog := fun ls hp => Summ.at_canon (by kernel_rfl) (by kernel_rfl) (r03OfTop_w (lI ls 0))

def r03Next (w : Int) (a : Int) : Int :=
  (r03Top ({ At := a, Ver := (binI .add .i64 (r03OfTop w).Ver 1) } : GTop))

def r03Next_out (w : Int) (a : Int) : Ls := [.I (r03Next w a)]
def S_r03Next : Summ := { f := 161, args := [pU64, pI64], H := [], v := pU64, ws := [], H' := [], pre := fun ls => [], out := fun ls => r03Next_out (lI ls 0) (lI ls 1) }
theorem r03Next_w (w : Int) (a : Int) : S_r03Next.At Try.prog [.I w, .I a] (r03Next_out w a) := by
  unfold r03Next_out
  exact way (B0.cons r03OfTop_s|>.cons r03Top_s) ⟨Try.func161, Try.call161⟩ noLo 400 [] [] (fun ρ => by kernel_rfl)
theorem r03Next_s : S_r03Next.Ok Try.prog := fun ls hp => Summ.at_canon (by kernel_rfl) (by kernel_rfl) (r03Next_w (lI ls 0) (lI ls 1))

def r03Phase (p : GPhase) : Int :=
  (r03Put (r03Put (r03Put (r03Put 0 p.No 0 40) p.Mode 40 4) p.Mark 44 1) p.List 45 1)

def r03Phase_out (p : GPhase) : Ls := [.I (r03Phase p)]
def S_r03Phase : Summ := { f := 112, args := [.agg [pI64, pI64, pI64, pI64]], H := [], v := pU64, ws := [], H' := [], pre := fun ls => [], out := fun ls => r03Phase_out (⟨lI ls 0, lI ls 1, lI ls 2, lI ls 3⟩) }
theorem r03Phase_w (p : GPhase) : S_r03Phase.At Try.prog [.I p.No, .I p.Mode, .I p.Mark, .I p.List] (r03Phase_out p) := by
  unfold r03Phase_out
  exact way (B0.cons r03Put_s) ⟨Try.func112, Try.call112⟩ noLo 400 [] [] (fun ρ => by kernel_rfl)
theorem r03Phase_s : S_r03Phase.Ok Try.prog := fun ls hp => Summ.at_canon (by kernel_rfl) (by kernel_rfl) (r03Phase_w (⟨lI ls 0, lI ls 1, lI ls 2, lI ls 3⟩))

def r03OfPhase (w : Int) : GPhase :=
  ({ No := (r02Part w 0 40), Mode := (r02Part w 40 4), Mark := (r02Part w 44 1), List := (r02Part w 45 1) } : GPhase)

def r03OfPhase_out (w : Int) : Ls := [.I (r03OfPhase w).No, .I (r03OfPhase w).Mode, .I (r03OfPhase w).Mark, .I (r03OfPhase w).List]
def S_r03OfPhase : Summ := { f := 115, args := [pU64], H := [], v := .agg [pI64, pI64, pI64, pI64], ws := [], H' := [], pre := fun ls => [], out := fun ls => r03OfPhase_out (lI ls 0) }
theorem r03OfPhase_w (w : Int) : S_r03OfPhase.At Try.prog [.I w] (r03OfPhase_out w) := by
  unfold r03OfPhase_out
  exact way (B0.cons r02Part_s) ⟨Try.func115, Try.call115⟩ noLo 400 [] [] (fun ρ => by kernel_rfl)
theorem r03OfPhase_s : S_r03OfPhase.Ok Try.prog := fun ls hp => Summ.at_canon (by kernel_rfl) (by kernel_rfl) (r03OfPhase_w (lI ls 0))

def r03Block (b : GBlock) : Int :=
  (r03Put (r03Put (r03Put (r03Put 0 b.State 0 2) b.Class 2 2) b.Stamp 4 1) b.Next 5 7)

def r03Block_out (b : GBlock) : Ls := [.I (r03Block b)]
def S_r03Block : Summ := { f := 86, args := [.agg [pI64, pI64, pI64, pI64]], H := [], v := pU64, ws := [], H' := [], pre := fun ls => [], out := fun ls => r03Block_out (⟨lI ls 0, lI ls 1, lI ls 2, lI ls 3⟩) }
theorem r03Block_w (b : GBlock) : S_r03Block.At Try.prog [.I b.State, .I b.Class, .I b.Stamp, .I b.Next] (r03Block_out b) := by
  unfold r03Block_out
  exact way (B0.cons r03Put_s) ⟨Try.func86, Try.call86⟩ noLo 400 [] [] (fun ρ => by kernel_rfl)
theorem r03Block_s : S_r03Block.Ok Try.prog := fun ls hp => Summ.at_canon (by kernel_rfl) (by kernel_rfl) (r03Block_w (⟨lI ls 0, lI ls 1, lI ls 2, lI ls 3⟩))

def r03OfBlock (w : Int) : GBlock :=
  ({ State := (r02Part w 0 2), Class := (r02Part w 2 2), Stamp := (r02Part w 4 1), Next := (r02Part w 5 7) } : GBlock)

def r03OfBlock_out (w : Int) : Ls := [.I (r03OfBlock w).State, .I (r03OfBlock w).Class, .I (r03OfBlock w).Stamp, .I (r03OfBlock w).Next]
def S_r03OfBlock : Summ := { f := 48, args := [pU64], H := [], v := .agg [pI64, pI64, pI64, pI64], ws := [], H' := [], pre := fun ls => [], out := fun ls => r03OfBlock_out (lI ls 0) }
theorem r03OfBlock_w (w : Int) : S_r03OfBlock.At Try.prog [.I w] (r03OfBlock_out w) := by
  unfold r03OfBlock_out
  exact way (B0.cons r02Part_s) ⟨Try.func48, Try.call48⟩ noLo 400 [] [] (fun ρ => by kernel_rfl)
theorem r03OfBlock_s : S_r03OfBlock.Ok Try.prog := fun ls hp => Summ.at_canon (by kernel_rfl) (by kernel_rfl) (r03OfBlock_w (lI ls 0))

def r05Words (c : Int) : Int :=
  match ((c == 0) : Bool) with
  | true => 4
  | false => match ((c == 1) : Bool) with
    | true => 8
    | false => match ((c == 2) : Bool) with
      | true => 16
      | false => 0

def r05Words_out (c : Int) : Ls := [.I (r05Words c)]
def S_r05Words : Summ := { f := 83, args := [pI64], H := [], v := pI64, ws := [], H' := [], pre := fun ls => [], out := fun ls => r05Words_out (lI ls 0) }
theorem r05Words_w (c : Int) : S_r05Words.At Try.prog [.I c] (r05Words_out c) := by
  unfold r05Words_out
  unfold r05Words
  cases h1 : (c == 0)
  · cases h2 : (c == 1)
    · cases h3 : (c == 2)
      · exact way (B0) ⟨Try.func83, Try.call83⟩ noLo 400 [0,0,0] [⟨_, _, h1⟩, ⟨_, _, h2⟩, ⟨_, _, h3⟩] (fun ρ => by kernel_rfl)
      · exact way (B0) ⟨Try.func83, Try.call83⟩ noLo 400 [0,0,1] [⟨_, _, h1⟩, ⟨_, _, h2⟩, ⟨_, _, h3⟩] (fun ρ => by kernel_rfl)
    · exact way (B0) ⟨Try.func83, Try.call83⟩ noLo 400 [0,1] [⟨_, _, h1⟩, ⟨_, _, h2⟩] (fun ρ => by kernel_rfl)
  · exact way (B0) ⟨Try.func83, Try.call83⟩ noLo 400 [1] [⟨_, _, h1⟩] (fun ρ => by kernel_rfl)
theorem r05Words_s : S_r05Words.Ok Try.prog := fun ls hp => Summ.at_canon (by kernel_rfl) (by kernel_rfl) (r05Words_w (lI ls 0))

def r05Cells (c : Int) : Int :=
  match (((r05Words c) == 0) : Bool) with
  | true => 0
  | false => (binI .quo .i64 32 (r05Words c))

def r05Cells_out (c : Int) : Ls := [.I (r05Cells c)]
def S_r05Cells : Summ := { f := 43, args := [pI64], H := [], v := pI64, ws := [], H' := [], pre := fun ls => [], out := fun ls => r05Cells_out (lI ls 0) }
theorem r05Cells_w (c : Int) : S_r05Cells.At Try.prog [.I c] (r05Cells_out c) := by
  unfold r05Cells_out
  unfold r05Cells
  cases h1 : (r05Words c == 0)
  · exact way (B0.cons r05Words_s) ⟨Try.func43, Try.call43⟩ noLo 400 [0] [⟨_, _, h1⟩, ⟨_, _, h1⟩] (fun ρ => by kernel_rfl)
  · exact way (B0.cons r05Words_s) ⟨Try.func43, Try.call43⟩ noLo 400 [1] [⟨_, _, h1⟩] (fun ρ => by kernel_rfl)
theorem r05Cells_s : S_r05Cells.Ok Try.prog := fun ls hp => Summ.at_canon (by kernel_rfl) (by kernel_rfl) (r05Cells_w (lI ls 0))

def r05Class (n : Int) : Int :=
  match ((decide (n ≥ 0)) : Bool) with
  | true => match ((decide (n ≤ 3)) : Bool) with
    | true => 0
    | false => match ((decide (n ≥ 4)) : Bool) with
      | true => match ((decide (n ≤ 7)) : Bool) with
        | true => 1
        | false => (-1)
      | false => (-1)
  | false => match ((decide (n ≥ 4)) : Bool) with
    | true => match ((decide (n ≤ 7)) : Bool) with
      | true => 1
      | false => (-1)
    | false => (-1)

def r05Class_out (n : Int) : Ls := [.I (r05Class n)]
def S_r05Class : Summ := { f := 74, args := [pI64], H := [], v := pI64, ws := [], H' := [], pre := fun ls => [], out := fun ls => r05Class_out (lI ls 0) }
theorem r05Class_w (n : Int) : S_r05Class.At Try.prog [.I n] (r05Class_out n) := by
  unfold r05Class_out
  unfold r05Class
  cases h1 : decide (n ≥ 0)
  · cases h2 : decide (n ≥ 4)
    · exact way (B0) ⟨Try.func74, Try.call74⟩ noLo 400 [0,0] [⟨_, _, h1⟩, ⟨_, _, h2⟩] (fun ρ => by kernel_rfl)
    · cases h3 : decide (n ≤ 7)
      · exact way (B0) ⟨Try.func74, Try.call74⟩ noLo 400 [0,1,0] [⟨_, _, h1⟩, ⟨_, _, h2⟩, ⟨_, _, h3⟩] (fun ρ => by kernel_rfl)
      · exact way (B0) ⟨Try.func74, Try.call74⟩ noLo 400 [0,1,1] [⟨_, _, h1⟩, ⟨_, _, h2⟩, ⟨_, _, h3⟩] (fun ρ => by kernel_rfl)
  · cases h2 : decide (n ≤ 3)
    · cases h3 : decide (n ≥ 4)
      · exact way (B0) ⟨Try.func74, Try.call74⟩ noLo 400 [1,0,0] [⟨_, _, h1⟩, ⟨_, _, h2⟩, ⟨_, _, h3⟩] (fun ρ => by kernel_rfl)
      · cases h4 : decide (n ≤ 7)
        · exact way (B0) ⟨Try.func74, Try.call74⟩ noLo 400 [1,0,1,0] [⟨_, _, h1⟩, ⟨_, _, h2⟩, ⟨_, _, h3⟩, ⟨_, _, h4⟩] (fun ρ => by kernel_rfl)
        · exact way (B0) ⟨Try.func74, Try.call74⟩ noLo 400 [1,0,1,1] [⟨_, _, h1⟩, ⟨_, _, h2⟩, ⟨_, _, h3⟩, ⟨_, _, h4⟩] (fun ρ => by kernel_rfl)
    · exact way (B0) ⟨Try.func74, Try.call74⟩ noLo 400 [1,1] [⟨_, _, h1⟩, ⟨_, _, h2⟩] (fun ρ => by kernel_rfl)
theorem r05Class_s : S_r05Class.Ok Try.prog := fun ls hp => Summ.at_canon (by kernel_rfl) (by kernel_rfl) (r05Class_w (lI ls 0))

def r05Ack (p : GPlan) (t : Int) : Int :=
  (binI .add .i64 10 t)

def r05Ack_out (p : GPlan) (t : Int) : Ls := [.I (r05Ack p t)]
def S_r05Ack : Summ := { f := 114, args := [.agg [pI64, pI64, pI64, pI64, pI64], pI64], H := [], v := pI64, ws := [], H' := [], pre := fun ls => [], out := fun ls => r05Ack_out (⟨lI ls 0, lI ls 1, lI ls 2, lI ls 3, lI ls 4⟩) (lI ls 5) }
theorem r05Ack_w (p : GPlan) (t : Int) : S_r05Ack.At Try.prog [.I p.Threads, .I p.Blocks, .I p.Table, .I p.Heap, .I p.Size, .I t] (r05Ack_out p t) := by
  unfold r05Ack_out
  exact way (B0) ⟨Try.func114, Try.call114⟩ noLo 400 [] [] (fun ρ => by kernel_rfl)
theorem r05Ack_s : S_r05Ack.Ok Try.prog := fun ls hp => Summ.at_canon (by kernel_rfl) (by kernel_rfl) (r05Ack_w (⟨lI ls 0, lI ls 1, lI ls 2, lI ls 3, lI ls 4⟩) (lI ls 5))

def r05Entry (p : GPlan) (b : Int) : Int :=
  (binI .add .i64 p.Table b)

def r05Entry_out (p : GPlan) (b : Int) : Ls := [.I (r05Entry p b)]
def S_r05Entry : Summ := { f := 49, args := [.agg [pI64, pI64, pI64, pI64, pI64], pI64], H := [], v := pI64, ws := [], H' := [], pre := fun ls => [], out := fun ls => r05Entry_out (⟨lI ls 0, lI ls 1, lI ls 2, lI ls 3, lI ls 4⟩) (lI ls 5) }
theorem r05Entry_w (p : GPlan) (b : Int) : S_r05Entry.At Try.prog [.I p.Threads, .I p.Blocks, .I p.Table, .I p.Heap, .I p.Size, .I b] (r05Entry_out p b) := by
  unfold r05Entry_out
  exact way (B0) ⟨Try.func49, Try.call49⟩ noLo 400 [] [] (fun ρ => by kernel_rfl)
theorem r05Entry_s : S_r05Entry.Ok Try.prog := fun ls hp => Summ.at_canon (by kernel_rfl) (by kernel_rfl) (r05Entry_w (⟨lI ls 0, lI ls 1, lI ls 2, lI ls 3, lI ls 4⟩) (lI ls 5))

def r05List (s : Int) (c : Int) : Int :=
  (binI .add .i64 (binI .add .i64 3 (binI .mul .i64 3 s)) c)

def r05List_out (s : Int) (c : Int) : Ls := [.I (r05List s c)]
def S_r05List : Summ := { f := 45, args := [pI64, pI64], H := [], v := pI64, ws := [], H' := [], pre := fun ls => [], out := fun ls => r05List_out (lI ls 0) (lI ls 1) }
theorem r05List_w (s : Int) (c : Int) : S_r05List.At Try.prog [.I s, .I c] (r05List_out s c) := by
  unfold r05List_out
  exact way (B0) ⟨Try.func45, Try.call45⟩ noLo 400 [] [] (fun ρ => by kernel_rfl)
theorem r05List_s : S_r05List.Ok Try.prog := fun ls hp => Summ.at_canon (by kernel_rfl) (by kernel_rfl) (r05List_w (lI ls 0) (lI ls 1))

def r05Cell (p : GPlan) (b : Int) (c : Int) (k : Int) : Int :=
  (binI .add .i64 (binI .add .i64 p.Heap (binI .mul .i64 32 b)) (binI .mul .i64 k (r05Words c)))

def r05Cell_out (p : GPlan) (b : Int) (c : Int) (k : Int) : Ls := [.I (r05Cell p b c k)]
def S_r05Cell : Summ := { f := 42, args := [.agg [pI64, pI64, pI64, pI64, pI64], pI64, pI64, pI64], H := [], v := pI64, ws := [], H' := [], pre := fun ls => [], out := fun ls => r05Cell_out (⟨lI ls 0, lI ls 1, lI ls 2, lI ls 3, lI ls 4⟩) (lI ls 5) (lI ls 6) (lI ls 7) }
theorem r05Cell_w (p : GPlan) (b : Int) (c : Int) (k : Int) : S_r05Cell.At Try.prog [.I p.Threads, .I p.Blocks, .I p.Table, .I p.Heap, .I p.Size, .I b, .I c, .I k] (r05Cell_out p b c k) := by
  unfold r05Cell_out
  exact way (B0.cons r05Words_s) ⟨Try.func42, Try.call42⟩ noLo 400 [] [] (fun ρ => by kernel_rfl)
theorem r05Cell_s : S_r05Cell.Ok Try.prog := fun ls hp => Summ.at_canon (by kernel_rfl) (by kernel_rfl) (r05Cell_w (⟨lI ls 0, lI ls 1, lI ls 2, lI ls 3, lI ls 4⟩) (lI ls 5) (lI ls 6) (lI ls 7))

def kind09 (c : Int) (n : Int) : Int :=
  match ((decide (c < 0)) : Bool) with
  | true => (binI .rem .i64 (binI .sub .i64 0 (binI .add .i64 c 1)) n)
  | false => (binI .rem .i64 c n)

def kind09_pre (c : Int) (n : Int) : List Bool := [(!(n == 0))]
def kind09_out (c : Int) (n : Int) : Ls := [.I (kind09 c n)]
def S_kind09 : Summ := { f := 37, args := [pI64, pI64], H := [], v := pI64, ws := [], H' := [], pre := fun ls => kind09_pre (lI ls 0) (lI ls 1), out := fun ls => kind09_out (lI ls 0) (lI ls 1) }
theorem kind09_w (c : Int) (n : Int) (q0 : ((!(n == 0))) = true) : S_kind09.At Try.prog [.I c, .I n] (kind09_out c n) := by
  unfold kind09_out
  have q1 : (n == 0) = false := by simpa using q0
  unfold kind09
  cases h1 : decide (c < 0)
  · exact way (B0) ⟨Try.func37, Try.call37⟩ noLo 400 [0] [⟨_, _, h1⟩, ⟨_, _, q1⟩] (fun ρ => by kernel_rfl)
  · exact way (B0) ⟨Try.func37, Try.call37⟩ noLo 400 [1] [⟨_, _, h1⟩, ⟨_, _, q1⟩] (fun ρ => by kernel_rfl)
theorem kind09_s : S_kind09.Ok Try.prog := fun ls hp => Summ.at_canon (by kernel_rfl) (by kernel_rfl) (kind09_w (lI ls 0) (lI ls 1) (hp _ (.head _)))

def kind10 (c : Int) (n : Int) : Int :=
  match ((decide (c < 0)) : Bool) with
  | true => (binI .rem .i64 (binI .sub .i64 0 (binI .add .i64 c 1)) n)
  | false => (binI .rem .i64 c n)

def kind10_pre (c : Int) (n : Int) : List Bool := [(!(n == 0))]
def kind10_out (c : Int) (n : Int) : Ls := [.I (kind10 c n)]
def S_kind10 : Summ := { f := 72, args := [pI64, pI64], H := [], v := pI64, ws := [], H' := [], pre := fun ls => kind10_pre (lI ls 0) (lI ls 1), out := fun ls => kind10_out (lI ls 0) (lI ls 1) }
theorem kind10_w (c : Int) (n : Int) (q0 : ((!(n == 0))) = true) : S_kind10.At Try.prog [.I c, .I n] (kind10_out c n) := by
  unfold kind10_out
  have q1 : (n == 0) = false := by simpa using q0
  unfold kind10
  cases h1 : decide (c < 0)
  · exact way (B0) ⟨Try.func72, Try.call72⟩ noLo 400 [0] [⟨_, _, h1⟩, ⟨_, _, q1⟩] (fun ρ => by kernel_rfl)
  · exact way (B0) ⟨Try.func72, Try.call72⟩ noLo 400 [1] [⟨_, _, h1⟩, ⟨_, _, q1⟩] (fun ρ => by kernel_rfl)
theorem kind10_s : S_kind10.Ok Try.prog := fun ls hp => Summ.at_canon (by kernel_rfl) (by kernel_rfl) (kind10_w (lI ls 0) (lI ls 1) (hp _ (.head _)))

def kind16 (c : Int) (n : Int) : Int :=
  match ((decide (c < 0)) : Bool) with
  | true => (binI .rem .i64 (binI .sub .i64 0 (binI .add .i64 c 1)) n)
  | false => (binI .rem .i64 c n)

def kind16_pre (c : Int) (n : Int) : List Bool := [(!(n == 0))]
def kind16_out (c : Int) (n : Int) : Ls := [.I (kind16 c n)]
def S_kind16 : Summ := { f := 34, args := [pI64, pI64], H := [], v := pI64, ws := [], H' := [], pre := fun ls => kind16_pre (lI ls 0) (lI ls 1), out := fun ls => kind16_out (lI ls 0) (lI ls 1) }
theorem kind16_w (c : Int) (n : Int) (q0 : ((!(n == 0))) = true) : S_kind16.At Try.prog [.I c, .I n] (kind16_out c n) := by
  unfold kind16_out
  have q1 : (n == 0) = false := by simpa using q0
  unfold kind16
  cases h1 : decide (c < 0)
  · exact way (B0) ⟨Try.func34, Try.call34⟩ noLo 400 [0] [⟨_, _, h1⟩, ⟨_, _, q1⟩] (fun ρ => by kernel_rfl)
  · exact way (B0) ⟨Try.func34, Try.call34⟩ noLo 400 [1] [⟨_, _, h1⟩, ⟨_, _, q1⟩] (fun ρ => by kernel_rfl)
theorem kind16_s : S_kind16.Ok Try.prog := fun ls hp => Summ.at_canon (by kernel_rfl) (by kernel_rfl) (kind16_w (lI ls 0) (lI ls 1) (hp _ (.head _)))

def r17Number (c : Int) (n : Int) : Int :=
  match ((decide (c < 0)) : Bool) with
  | true => (binI .rem .i64 (binI .sub .i64 0 (binI .add .i64 c 1)) n)
  | false => (binI .rem .i64 c n)

def r17Number_pre (c : Int) (n : Int) : List Bool := [(!(n == 0))]
def r17Number_out (c : Int) (n : Int) : Ls := [.I (r17Number c n)]
def S_r17Number : Summ := { f := 18, args := [pI64, pI64], H := [], v := pI64, ws := [], H' := [], pre := fun ls => r17Number_pre (lI ls 0) (lI ls 1), out := fun ls => r17Number_out (lI ls 0) (lI ls 1) }
theorem r17Number_w (c : Int) (n : Int) (q0 : ((!(n == 0))) = true) : S_r17Number.At Try.prog [.I c, .I n] (r17Number_out c n) := by
  unfold r17Number_out
  have q1 : (n == 0) = false := by simpa using q0
  unfold r17Number
  cases h1 : decide (c < 0)
  · exact way (B0) ⟨Try.func18, Try.call18⟩ noLo 400 [0] [⟨_, _, h1⟩, ⟨_, _, q1⟩] (fun ρ => by kernel_rfl)
  · exact way (B0) ⟨Try.func18, Try.call18⟩ noLo 400 [1] [⟨_, _, h1⟩, ⟨_, _, q1⟩] (fun ρ => by kernel_rfl)
theorem r17Number_s : S_r17Number.Ok Try.prog := fun ls hp => Summ.at_canon (by kernel_rfl) (by kernel_rfl) (r17Number_w (lI ls 0) (lI ls 1) (hp _ (.head _)))

end Go.Fl
