/- Cells and objects: the machines' steps, and their contracts. Conditions: none. -/
import Derived.Test.YtjhhecidaableaaFmG
set_option linter.unusedVariables false
set_option linter.unusedSectionVars false
set_option maxRecDepth 20000
namespace Go.Fl
open Go Go.RowKit Go.Proofs

def resCell (x : GReserve) : Int := x.cell

def resCell_out (x : GReserve) : Ls := [.I (resCell x), .O 6 x]
def S_resCell : Summ := { f := 139, args := [.ptr 0 0 (.lit 0) 0], H := [.obj (6, false)], v := pI64, ws := [0], H' := [.obj (6, false)], pre := fun ls => [], out := fun ls => resCell_out (lO ls 0 6) }
theorem resCell_w (x : GReserve) : S_resCell.At Try.prog [.O 6 x] (resCell_out x) := by
  unfold resCell_out
  exact way (B0) ⟨Try.func139, Try.call139⟩ noLo 400 [] [] (fun ρ => by kernel_rfl)
theorem resCell_s : S_resCell.Ok Try.prog := fun ls hp => Summ.at_canon (by kernel_rfl) (by kernel_rfl) (resCell_w (lO ls 0 6))

def resList (x : GReserve) : Int := planList x.set_ x.class_

def resList_out (x : GReserve) : Ls := [.I (resList x), .O 6 x]
def S_resList : Summ := { f := 174, args := [.ptr 0 0 (.lit 0) 0], H := [.obj (6, false)], v := pI64, ws := [0], H' := [.obj (6, false)], pre := fun ls => [], out := fun ls => resList_out (lO ls 0 6) }
theorem resList_w (x : GReserve) : S_resList.At Try.prog [.O 6 x] (resList_out x) := by
  unfold resList_out
  exact way (B0.cons planList_s) ⟨Try.func174, Try.call174⟩ noLo 400 [] [] (fun ρ => by kernel_rfl)
theorem resList_s : S_resList.Ok Try.prog := fun ls hp => Summ.at_canon (by kernel_rfl) (by kernel_rfl) (resList_w (lO ls 0 6))

def resListR_out (x : GReserve) : Ls := [.I (resList x), .I x.p.Threads, .I x.p.Blocks, .I x.p.Table, .I x.p.Heap, .I x.p.Size, .I x.class_, .I x.set_, .I x.phase, .I x.seen, .I x.cell, .O 2 x.pop, .P 4 x.take]
def S_resListR : Summ := { f := 174, args := [.ptr 0 0 (.lit 0) 0], H := [.cells 252 [pI64, pI64, pI64, pI64, pI64, pI64, pI64, pI64, .ptr 1 0 (.lit 0) 0, .opt 2, pU64, pI64], .obj (2, false), .obj (4, true)], v := pI64, ws := [], H' := [.cells 252 [pI64, pI64, pI64, pI64, pI64, pI64, pI64, pI64, .ptr 1 0 (.lit 0) 0, .opt 2, pU64, pI64], .obj (2, false), .obj (4, true)], pre := fun ls => [], out := fun ls => resListR_out ((⟨⟨lI ls 0, lI ls 1, lI ls 2, lI ls 3, lI ls 4⟩, lI ls 5, lI ls 6, lI ls 7, lO ls 10 2, lP ls 11 4, lI ls 8, lI ls 9⟩ : GReserve)) }
theorem resListR_w (x : GReserve) : S_resListR.At Try.prog [.I x.p.Threads, .I x.p.Blocks, .I x.p.Table, .I x.p.Heap, .I x.p.Size, .I x.class_, .I x.set_, .I x.phase, .I x.seen, .I x.cell, .O 2 x.pop, .P 4 x.take] (resListR_out x) := by
  unfold resListR_out
  exact way (B0.cons planList_s) ⟨Try.func174, Try.call174⟩ noLo 400 [] [] (fun ρ => by kernel_rfl)
theorem resListR_s : S_resListR.Ok Try.prog := fun ls hp => Summ.at_canon (by kernel_rfl) (by kernel_rfl) (resListR_w ((⟨⟨lI ls 0, lI ls 1, lI ls 2, lI ls 3, lI ls 4⟩, lI ls 5, lI ls 6, lI ls 7, lO ls 10 2, lP ls 11 4, lI ls 8, lI ls 9⟩ : GReserve)))

def resListN_out (a0 : Int) (a1 : Int) (a2 : Int) (a3 : Int) (a4 : Int) (a5 : Int) (a6 : Int) (a7 : Int) (a8 : Int) (a9 : Int) : Ls := [.I (planList a6 a5), .I a0, .I a1, .I a2, .I a3, .I a4, .I a5, .I a6, .I a7, .I a8, .I a9]
def S_resListN : Summ := { f := 174, args := [.ptr 0 0 (.lit 0) 0], H := [.cells 252 [pI64, pI64, pI64, pI64, pI64, pI64, pI64, pI64, .nilp, .nilp, pU64, pI64]], v := pI64, ws := [], H' := [.cells 252 [pI64, pI64, pI64, pI64, pI64, pI64, pI64, pI64, .nilp, .nilp, pU64, pI64]], pre := fun ls => [], out := fun ls => resListN_out (lI ls 0) (lI ls 1) (lI ls 2) (lI ls 3) (lI ls 4) (lI ls 5) (lI ls 6) (lI ls 7) (lI ls 8) (lI ls 9) }
theorem resListN_w (a0 : Int) (a1 : Int) (a2 : Int) (a3 : Int) (a4 : Int) (a5 : Int) (a6 : Int) (a7 : Int) (a8 : Int) (a9 : Int) : S_resListN.At Try.prog [.I a0, .I a1, .I a2, .I a3, .I a4, .I a5, .I a6, .I a7, .I a8, .I a9] (resListN_out a0 a1 a2 a3 a4 a5 a6 a7 a8 a9) := by
  unfold resListN_out
  exact way (B0.cons planList_s) ⟨Try.func174, Try.call174⟩ noLo 400 [] [] (fun ρ => by kernel_rfl)
theorem resListN_s : S_resListN.Ok Try.prog := fun ls hp => Summ.at_canon (by kernel_rfl) (by kernel_rfl) (resListN_w (lI ls 0) (lI ls 1) (lI ls 2) (lI ls 3) (lI ls 4) (lI ls 5) (lI ls 6) (lI ls 7) (lI ls 8) (lI ls 9))

def resBeginN_out (a0 : Int) (a1 : Int) (a2 : Int) (a3 : Int) (a4 : Int) (a5 : Int) (a6 : Int) (a7 : Int) (a8 : Int) (a9 : Int) : Ls := [.I a0, .I a1, .I a2, .I a3, .I a4, .I a5, .I a6, .I 0, .I a8, .I a9, .O 2 (newPop (planList a6 a5))]
def S_resBeginN : Summ := { f := 172, args := [.ptr 0 0 (.lit 0) 0], H := [.cells 252 [pI64, pI64, pI64, pI64, pI64, pI64, pI64, pI64, .nilp, .nilp, pU64, pI64]], v := .tuple [], ws := [0], H' := [.cells 252 [pI64, pI64, pI64, pI64, pI64, pI64, pI64, pI64, .ptr 1 0 (.lit 0) 0, .nilp, pU64, pI64], .obj (2, false)], pre := fun ls => [], out := fun ls => resBeginN_out (lI ls 0) (lI ls 1) (lI ls 2) (lI ls 3) (lI ls 4) (lI ls 5) (lI ls 6) (lI ls 7) (lI ls 8) (lI ls 9) }
theorem resBeginN_w (a0 : Int) (a1 : Int) (a2 : Int) (a3 : Int) (a4 : Int) (a5 : Int) (a6 : Int) (a7 : Int) (a8 : Int) (a9 : Int) : S_resBeginN.At Try.prog [.I a0, .I a1, .I a2, .I a3, .I a4, .I a5, .I a6, .I a7, .I a8, .I a9] (resBeginN_out a0 a1 a2 a3 a4 a5 a6 a7 a8 a9) := by
  unfold resBeginN_out
  exact way (B0.cons resListN_s|>.cons newPop_s) ⟨Try.func172, Try.call172⟩ noLo 400 [] [] (fun ρ => by kernel_rfl)
theorem resBeginN_s : S_resBeginN.Ok Try.prog := fun ls hp => Summ.at_canon (by kernel_rfl) (by kernel_rfl) (resBeginN_w (lI ls 0) (lI ls 1) (lI ls 2) (lI ls 3) (lI ls 4) (lI ls 5) (lI ls 6) (lI ls 7) (lI ls 8) (lI ls 9))

def newReserve (p : GPlan) (c s : Int) : GReserve := ⟨p, c, s, 0, newPop (planList s c), none, 0, 0⟩

def newReserve_out (p : GPlan) (c : Int) (s : Int) : Ls := [.O 6 (newReserve p c s)]
def S_newReserve : Summ := { f := 137, args := [.agg [pI64, pI64, pI64, pI64, pI64], pI64, pI64], H := [], v := .ptr 0 0 (.lit 0) 0, ws := [], H' := [.obj (6, false)], pre := fun ls => [], out := fun ls => newReserve_out (⟨lI ls 0, lI ls 1, lI ls 2, lI ls 3, lI ls 4⟩) (lI ls 5) (lI ls 6) }
theorem newReserve_w (p : GPlan) (c : Int) (s : Int) : S_newReserve.At Try.prog [.I p.Threads, .I p.Blocks, .I p.Table, .I p.Heap, .I p.Size, .I c, .I s] (newReserve_out p c s) := by
  unfold newReserve_out
  exact way (B0.cons resBeginN_s) ⟨Try.func137, Try.call137⟩ noLo 400 [] [] (fun ρ => by kernel_rfl)
theorem newReserve_s : S_newReserve.Ok Try.prog := fun ls hp => Summ.at_canon (by kernel_rfl) (by kernel_rfl) (newReserve_w (⟨lI ls 0, lI ls 1, lI ls 2, lI ls 3, lI ls 4⟩) (lI ls 5) (lI ls 6))

def resBegin (x : GReserve) : GReserve := { x with phase := 0, pop := newPop (planList x.set_ x.class_) }

def resBegin_out (x : GReserve) : Ls := [.O 6 (resBegin x)]
def S_resBegin : Summ := { f := 172, args := [.ptr 0 0 (.lit 0) 0], H := [.obj (6, false)], v := .tuple [], ws := [0], H' := [.obj (6, false)], pre := fun ls => [], out := fun ls => resBegin_out (lO ls 0 6) }
theorem resBegin_w (x : GReserve) : S_resBegin.At Try.prog [.O 6 x] (resBegin_out x) := by
  unfold resBegin_out
  exact way (B0.cons resList_s|>.cons resListR_s|>.cons newPop_s) ⟨Try.func172, Try.call172⟩ noLo 400 [] [] (fun ρ => by kernel_rfl)
theorem resBegin_s : S_resBegin.Ok Try.prog := fun ls hp => Summ.at_canon (by kernel_rfl) (by kernel_rfl) (resBegin_w (lO ls 0 6))

def resGot (x : GReserve) (c n : Int) : GReserve := { x with cell := c, phase := sel (c != 0) 5 n }

def resGot_out (x : GReserve) (c : Int) (n : Int) : Ls := [.O 6 (resGot x c n)]
def S_resGot : Summ := { f := 173, args := [.ptr 0 0 (.lit 0) 0, pI64, pI64], H := [.obj (6, false)], v := .tuple [], ws := [0], H' := [.obj (6, false)], pre := fun ls => [], out := fun ls => resGot_out (lO ls 2 6) (lI ls 0) (lI ls 1) }
theorem resGot_w (x : GReserve) (c : Int) (n : Int) : S_resGot.At Try.prog [.I c, .I n, .O 6 x] (resGot_out x c n) := by
  unfold resGot_out
  unfold resGot
  rcases Bool.eq_false_or_eq_true (c != 0) with h1 | h1
  · rw [sel_t h1]
    exact way (B0) ⟨Try.func173, Try.call173⟩ noLo 400 [1] [⟨_, _, h1⟩] (fun ρ => by kernel_rfl)
  · rw [sel_f h1]
    exact way (B0) ⟨Try.func173, Try.call173⟩ noLo 400 [0] [⟨_, _, h1⟩] (fun ρ => by kernel_rfl)
theorem resGot_s : S_resGot.Ok Try.prog := fun ls hp => Summ.at_canon (by kernel_rfl) (by kernel_rfl) (resGot_w (lO ls 2 6) (lI ls 0) (lI ls 1))

def resNext (x : GReserve) (m : GMem) : GReserve × GMem :=
  if x.phase = 0 then (sel (popStep x.pop m).1 (resGot { x with pop := (popStep x.pop m).2.1, seen := (popResult (popStep x.pop m).2.1).2, take := some (newTake x.p x.class_ x.set_) } (popResult (popStep x.pop m).2.1).1 1) { x with pop := (popStep x.pop m).2.1 }, (popStep x.pop m).2.2)
  else if x.phase = 1 then (sel (takeStep (x.take.getD default) m).1 (resGot { x with take := some (takeStep (x.take.getD default) m).2.1 } (takeCell (takeStep (x.take.getD default) m).2.1) 2) { x with take := some (takeStep (x.take.getD default) m).2.1 }, (takeStep (x.take.getD default) m).2.2)
  else if x.phase = 2 then (sel ((memLoad m (resList x)).1 == x.seen) { x with phase := 5 } (resBegin x), (memLoad m (resList x)).2)
  else (x, m)
def resStep (x : GReserve) (m : GMem) : Bool × GReserve × GMem := ((resNext x m).1.phase == 5, (resNext x m).1, (resNext x m).2)
def takeOk (t : Option GTake) : Bool := t.isSome && (!((t.getD default).machine.next == 6) || (t.getD default).push.isSome)
def resOk (x : GReserve) : Bool := !(x.phase == 1) || takeOk x.take

def resStep_pre (x : GReserve) (m : GMem) : List Bool := [memOk m, resOk x]
def resStep_out (x : GReserve) (m : GMem) : Ls := [.B (resStep x m).1, .O 6 (resStep x m).2.1, .O 0 (resStep x m).2.2]
def S_resStep : Summ := { f := 138, args := [.ptr 0 0 (.lit 0) 0, .ptr 1 0 (.lit 0) 0], H := [.obj (6, false), .obj (0, false)], v := pB, ws := [0, 1], H' := [.obj (6, false), .obj (0, false)], pre := fun ls => resStep_pre (lO ls 0 6) (lO ls 1 0), out := fun ls => resStep_out (lO ls 0 6) (lO ls 1 0) }
theorem resStep_w (x : GReserve) (m : GMem) (q0 : (memOk m) = true) (q1 : (resOk x) = true) : S_resStep.At Try.prog [.O 6 x, .O 0 m] (resStep_out x m) := by
  unfold resStep_out
  unfold resStep resNext
  rcases x with ⟨p, c, s, nx, pop, take, seen, cell⟩
  simp only
  by_cases h0 : nx = 0
  · subst h0
    try simp only [if_pos, reduceIte, Int.reduceEq]
    rcases Bool.eq_false_or_eq_true (popStep pop m).1 with c1 | c1
    · simp only [sel_t c1]
      exact way (B0.cons popStep_s|>.cons popResult_s|>.cons newTake_s|>.cons takeStep_s|>.cons takeCell_s|>.cons resGot_s|>.cons resList_s|>.cons resListR_s|>.cons memLoad_s|>.cons resBegin_s) ⟨Try.func138, Try.call138⟩ noLo 400 [1,1] [⟨true, true, rfl⟩, ⟨_, _, q0⟩, ⟨_, _, c1⟩] (fun ρ => by kernel_rfl)
    · simp only [sel_f c1]
      exact way (B0.cons popStep_s|>.cons popResult_s|>.cons newTake_s|>.cons takeStep_s|>.cons takeCell_s|>.cons resGot_s|>.cons resList_s|>.cons resListR_s|>.cons memLoad_s|>.cons resBegin_s) ⟨Try.func138, Try.call138⟩ noLo 400 [1,0] [⟨true, true, rfl⟩, ⟨_, _, q0⟩, ⟨_, _, c1⟩] (fun ρ => by kernel_rfl)
  · by_cases h1 : nx = 1
    · subst h1
      try simp only [if_pos, reduceIte, Int.reduceEq]
      unfold resOk takeOk at q1
      simp only [beq_self_eq_true, Bool.not_true, Bool.false_or] at q1
      rw [Bool.and_eq_true] at q1
      rcases Bool.eq_false_or_eq_true (takeStep (take.getD default) m).1 with c1 | c1
      · simp only [sel_t c1]
        exact way (B0.cons popStep_s|>.cons popResult_s|>.cons newTake_s|>.cons takeStep_s|>.cons takeCell_s|>.cons resGot_s|>.cons resList_s|>.cons resListR_s|>.cons memLoad_s|>.cons resBegin_s) ⟨Try.func138, Try.call138⟩ noLo 400 [0,1,1,1] [⟨false, false, rfl⟩, ⟨true, true, rfl⟩, ⟨_, _, q1.1⟩, ⟨_, _, q0⟩, ⟨_, _, q1.2⟩, ⟨_, _, c1⟩] (fun ρ => by kernel_rfl)
      · simp only [sel_f c1]
        exact way (B0.cons popStep_s|>.cons popResult_s|>.cons newTake_s|>.cons takeStep_s|>.cons takeCell_s|>.cons resGot_s|>.cons resList_s|>.cons resListR_s|>.cons memLoad_s|>.cons resBegin_s) ⟨Try.func138, Try.call138⟩ noLo 400 [0,1,1,0] [⟨false, false, rfl⟩, ⟨true, true, rfl⟩, ⟨_, _, q1.1⟩, ⟨_, _, q0⟩, ⟨_, _, q1.2⟩, ⟨_, _, c1⟩] (fun ρ => by kernel_rfl)
    · by_cases h2 : nx = 2
      · subst h2
        try simp only [if_pos, reduceIte, Int.reduceEq]
        rcases Bool.eq_false_or_eq_true ((memLoad m (resList ⟨p, c, s, 2, pop, take, seen, cell⟩)).1 == seen) with c1 | c1
        · simp only [sel_t c1]
          exact way (B0.cons popStep_s|>.cons popResult_s|>.cons newTake_s|>.cons takeStep_s|>.cons takeCell_s|>.cons resGot_s|>.cons resList_s|>.cons resListR_s|>.cons memLoad_s|>.cons resBegin_s) ⟨Try.func138, Try.call138⟩ noLo 400 [0,0,1,1] [⟨false, false, rfl⟩, ⟨false, false, rfl⟩, ⟨true, true, rfl⟩, ⟨_, _, q0⟩, ⟨_, _, c1⟩] (fun ρ => by kernel_rfl)
        · simp only [sel_f c1]
          exact way (B0.cons popStep_s|>.cons popResult_s|>.cons newTake_s|>.cons takeStep_s|>.cons takeCell_s|>.cons resGot_s|>.cons resList_s|>.cons resListR_s|>.cons memLoad_s|>.cons resBegin_s) ⟨Try.func138, Try.call138⟩ noLo 400 [0,0,1,0] [⟨false, false, rfl⟩, ⟨false, false, rfl⟩, ⟨true, true, rfl⟩, ⟨_, _, q0⟩, ⟨_, _, c1⟩] (fun ρ => by kernel_rfl)
      · simp only [if_neg h0, if_neg h1, if_neg h2]
        exact way (B0.cons popStep_s|>.cons popResult_s|>.cons newTake_s|>.cons takeStep_s|>.cons takeCell_s|>.cons resGot_s|>.cons resList_s|>.cons resListR_s|>.cons memLoad_s|>.cons resBegin_s) ⟨Try.func138, Try.call138⟩ noLo 400 [0,0,0] [⟨_, _, beq_eq_false_iff_ne.2 h0⟩, ⟨_, _, beq_eq_false_iff_ne.2 h1⟩, ⟨_, _, beq_eq_false_iff_ne.2 h2⟩] (fun ρ => by kernel_rfl)
theorem resStep_s : S_resStep.Ok Try.prog := fun ls hp => Summ.at_canon (by kernel_rfl) (by kernel_rfl) (resStep_w (lO ls 0 6) (lO ls 1 0) (hp _ (.head _)) (hp _ (.tail _ (.head _))))

def newAlloc (p : GPlan) (n k s : Int) : GAlloc := ⟨⟨1, planClass n, n, k, 0, 0, 0⟩, 0, newReserve p (planClass n) s, 0, 0⟩

def newAlloc_out (p : GPlan) (n : Int) (k : Int) (s : Int) : Ls := [.O 7 (newAlloc p n k s)]
def S_newAlloc : Summ := { f := 79, args := [.agg [pI64, pI64, pI64, pI64, pI64], pI64, pI64, pI64], H := [], v := .ptr 0 0 (.lit 0) 0, ws := [], H' := [.obj (7, false)], pre := fun ls => [], out := fun ls => newAlloc_out (⟨lI ls 0, lI ls 1, lI ls 2, lI ls 3, lI ls 4⟩) (lI ls 5) (lI ls 6) (lI ls 7) }
theorem newAlloc_w (p : GPlan) (n : Int) (k : Int) (s : Int) : S_newAlloc.At Try.prog [.I p.Threads, .I p.Blocks, .I p.Table, .I p.Heap, .I p.Size, .I n, .I k, .I s] (newAlloc_out p n k s) := by
  unfold newAlloc_out
  exact way (B0.cons newReserve_s|>.cons planClass_s) ⟨Try.func79, Try.call79⟩ noLo 400 [] [] (fun ρ => by kernel_rfl)
theorem newAlloc_s : S_newAlloc.Ok Try.prog := fun ls hp => Summ.at_canon (by kernel_rfl) (by kernel_rfl) (newAlloc_w (⟨lI ls 0, lI ls 1, lI ls 2, lI ls 3, lI ls 4⟩) (lI ls 5) (lI ls 6) (lI ls 7))

def allocCell (x : GAlloc) : Int := x.cell

def allocCell_out (x : GAlloc) : Ls := [.I (allocCell x), .O 7 x]
def S_allocCell : Summ := { f := 81, args := [.ptr 0 0 (.lit 0) 0], H := [.obj (7, false)], v := pI64, ws := [0], H' := [.obj (7, false)], pre := fun ls => [], out := fun ls => allocCell_out (lO ls 0 7) }
theorem allocCell_w (x : GAlloc) : S_allocCell.At Try.prog [.O 7 x] (allocCell_out x) := by
  unfold allocCell_out
  exact way (B0) ⟨Try.func81, Try.call81⟩ noLo 400 [] [] (fun ρ => by kernel_rfl)
theorem allocCell_s : S_allocCell.Ok Try.prog := fun ls hp => Summ.at_canon (by kernel_rfl) (by kernel_rfl) (allocCell_w (lO ls 0 7))

def allocAfter (x : GAlloc) (n : Int) : Int := sel (decide (n < x.head.Count)) 3 4

def allocAfter_out (x : GAlloc) (n : Int) : Ls := [.I (allocAfter x n), .O 7 x]
def S_allocAfter : Summ := { f := 143, args := [.ptr 0 0 (.lit 0) 0, pI64], H := [.obj (7, false)], v := pI64, ws := [0], H' := [.obj (7, false)], pre := fun ls => [], out := fun ls => allocAfter_out (lO ls 1 7) (lI ls 0) }
theorem allocAfter_w (x : GAlloc) (n : Int) : S_allocAfter.At Try.prog [.I n, .O 7 x] (allocAfter_out x n) := by
  unfold allocAfter_out
  unfold allocAfter
  rcases Bool.eq_false_or_eq_true (decide (n < x.head.Count)) with h1 | h1
  · rw [sel_t h1]
    exact way (B0) ⟨Try.func143, Try.call143⟩ noLo 400 [1] [⟨_, _, h1⟩] (fun ρ => by kernel_rfl)
  · rw [sel_f h1]
    exact way (B0) ⟨Try.func143, Try.call143⟩ noLo 400 [0] [⟨_, _, h1⟩] (fun ρ => by kernel_rfl)
theorem allocAfter_s : S_allocAfter.Ok Try.prog := fun ls hp => Summ.at_canon (by kernel_rfl) (by kernel_rfl) (allocAfter_w (lO ls 1 7) (lI ls 0))

def allocAfterR_out (n : Int) (x : GAlloc) : Ls := [.I (allocAfter x n), .I x.head.State, .I x.head.Class, .I x.head.Count, .I x.head.Mark, .I x.head.Grey, .I x.head.Tag, .I x.head.Link, .I x.phase, .I x.k, .I x.cell, .O 6 x.reserve]
def S_allocAfterR : Summ := { f := 143, args := [.ptr 0 0 (.lit 0) 0, pI64], H := [.cells 215 [pI64, pI64, pI64, pI64, pI64, pI64, pI64, pI64, .ptr 1 0 (.lit 0) 0, pI64, pI64], .obj (6, false)], v := pI64, ws := [], H' := [.cells 215 [pI64, pI64, pI64, pI64, pI64, pI64, pI64, pI64, .ptr 1 0 (.lit 0) 0, pI64, pI64], .obj (6, false)], pre := fun ls => [], out := fun ls => allocAfterR_out (lI ls 0) ((⟨⟨lI ls 1, lI ls 2, lI ls 3, lI ls 4, lI ls 5, lI ls 6, lI ls 7⟩, lI ls 8, lO ls 11 6, lI ls 9, lI ls 10⟩ : GAlloc)) }
theorem allocAfterR_w (n : Int) (x : GAlloc) : S_allocAfterR.At Try.prog [.I n, .I x.head.State, .I x.head.Class, .I x.head.Count, .I x.head.Mark, .I x.head.Grey, .I x.head.Tag, .I x.head.Link, .I x.phase, .I x.k, .I x.cell, .O 6 x.reserve] (allocAfterR_out n x) := by
  unfold allocAfterR_out
  unfold allocAfter
  rcases Bool.eq_false_or_eq_true (decide (n < x.head.Count)) with h1 | h1
  · rw [sel_t h1]
    exact way (B0) ⟨Try.func143, Try.call143⟩ noLo 400 [1] [⟨_, _, h1⟩] (fun ρ => by kernel_rfl)
  · rw [sel_f h1]
    exact way (B0) ⟨Try.func143, Try.call143⟩ noLo 400 [0] [⟨_, _, h1⟩] (fun ρ => by kernel_rfl)
theorem allocAfterR_s : S_allocAfterR.Ok Try.prog := fun ls hp => Summ.at_canon (by kernel_rfl) (by kernel_rfl) (allocAfterR_w (lI ls 0) ((⟨⟨lI ls 1, lI ls 2, lI ls 3, lI ls 4, lI ls 5, lI ls 6, lI ls 7⟩, lI ls 8, lO ls 11 6, lI ls 9, lI ls 10⟩ : GAlloc)))

def allocNext (x : GAlloc) (m : GMem) : GAlloc × GMem :=
  if x.phase = 0 then (sel (resStep x.reserve m).1 (sel (resCell (resStep x.reserve m).2.1 == 0) { x with reserve := (resStep x.reserve m).2.1, phase := 5 } { x with reserve := (resStep x.reserve m).2.1, phase := allocAfter x 0 }) { x with reserve := (resStep x.reserve m).2.1 }, (resStep x.reserve m).2.2)
  else if x.phase = 3 then ({ x with k := binI .add .i64 x.k 1, phase := allocAfter x (binI .add .i64 x.k 1) }, memStore m (binI .add .i64 (resCell x.reserve) (binI .add .i64 x.k 1)) 0)
  else if x.phase = 4 then ({ x with cell := resCell x.reserve, phase := 5 }, memStore m (resCell x.reserve) (headWord x.head))
  else (x, m)
def allocStep (x : GAlloc) (m : GMem) : Bool × GAlloc × GMem := ((allocNext x m).1.phase == 5, (allocNext x m).1, (allocNext x m).2)
def allocOk (x : GAlloc) : Bool := !(x.phase == 0) || resOk x.reserve

def allocStep_pre (x : GAlloc) (m : GMem) : List Bool := [memOk m, allocOk x]
def allocStep_out (x : GAlloc) (m : GMem) : Ls := [.B (allocStep x m).1, .O 7 (allocStep x m).2.1, .O 0 (allocStep x m).2.2]
def S_allocStep : Summ := { f := 80, args := [.ptr 0 0 (.lit 0) 0, .ptr 1 0 (.lit 0) 0], H := [.obj (7, false), .obj (0, false)], v := pB, ws := [0, 1], H' := [.obj (7, false), .obj (0, false)], pre := fun ls => allocStep_pre (lO ls 0 7) (lO ls 1 0), out := fun ls => allocStep_out (lO ls 0 7) (lO ls 1 0) }
theorem allocStep_w (x : GAlloc) (m : GMem) (q0 : (memOk m) = true) (q1 : (allocOk x) = true) : S_allocStep.At Try.prog [.O 7 x, .O 0 m] (allocStep_out x m) := by
  unfold allocStep_out
  unfold allocStep allocNext
  rcases x with ⟨hd, nx, rs, k, cell⟩
  simp only
  by_cases h0 : nx = 0
  · subst h0
    try simp only [if_pos, reduceIte, Int.reduceEq]
    unfold allocOk at q1
    simp only [beq_self_eq_true, Bool.not_true, Bool.false_or] at q1
    rcases Bool.eq_false_or_eq_true (resStep rs m).1 with c1 | c1
    · simp only [sel_t c1]
      rcases Bool.eq_false_or_eq_true (resCell (resStep rs m).2.1 == 0) with c2 | c2
      · simp only [sel_t c2]
        exact way (B0.cons resStep_s|>.cons resCell_s|>.cons allocAfter_s|>.cons allocAfterR_s|>.cons memStore_s|>.cons headWord_s) ⟨Try.func80, Try.call80⟩ noLo 400 [1,1,1] [⟨true, true, rfl⟩, ⟨_, _, q0⟩, ⟨_, _, q1⟩, ⟨_, _, c1⟩, ⟨_, _, c2⟩] (fun ρ => by kernel_rfl)
      · simp only [sel_f c2]
        exact way (B0.cons resStep_s|>.cons resCell_s|>.cons allocAfter_s|>.cons allocAfterR_s|>.cons memStore_s|>.cons headWord_s) ⟨Try.func80, Try.call80⟩ noLo 400 [1,1,0] [⟨true, true, rfl⟩, ⟨_, _, q0⟩, ⟨_, _, q1⟩, ⟨_, _, c1⟩, ⟨_, _, c2⟩] (fun ρ => by kernel_rfl)
    · simp only [sel_f c1]
      exact way (B0.cons resStep_s|>.cons resCell_s|>.cons allocAfter_s|>.cons allocAfterR_s|>.cons memStore_s|>.cons headWord_s) ⟨Try.func80, Try.call80⟩ noLo 400 [1,0] [⟨true, true, rfl⟩, ⟨_, _, q0⟩, ⟨_, _, q1⟩, ⟨_, _, c1⟩] (fun ρ => by kernel_rfl)
  · by_cases h1 : nx = 3
    · subst h1
      try simp only [if_pos, reduceIte, Int.reduceEq]
      exact way (B0.cons resStep_s|>.cons resCell_s|>.cons allocAfter_s|>.cons allocAfterR_s|>.cons memStore_s|>.cons headWord_s) ⟨Try.func80, Try.call80⟩ noLo 400 [0,1] [⟨false, false, rfl⟩, ⟨true, true, rfl⟩, ⟨_, _, q0⟩] (fun ρ => by kernel_rfl)
    · by_cases h2 : nx = 4
      · subst h2
        try simp only [if_pos, reduceIte, Int.reduceEq]
        exact way (B0.cons resStep_s|>.cons resCell_s|>.cons allocAfter_s|>.cons allocAfterR_s|>.cons memStore_s|>.cons headWord_s) ⟨Try.func80, Try.call80⟩ noLo 400 [0,0,1] [⟨false, false, rfl⟩, ⟨false, false, rfl⟩, ⟨true, true, rfl⟩, ⟨_, _, q0⟩] (fun ρ => by kernel_rfl)
      · simp only [if_neg h0, if_neg h1, if_neg h2]
        exact way (B0.cons resStep_s|>.cons resCell_s|>.cons allocAfter_s|>.cons allocAfterR_s|>.cons memStore_s|>.cons headWord_s) ⟨Try.func80, Try.call80⟩ noLo 400 [0,0,0] [⟨_, _, beq_eq_false_iff_ne.2 h0⟩, ⟨_, _, beq_eq_false_iff_ne.2 h1⟩, ⟨_, _, beq_eq_false_iff_ne.2 h2⟩] (fun ρ => by kernel_rfl)
theorem allocStep_s : S_allocStep.Ok Try.prog := fun ls hp => Summ.at_canon (by kernel_rfl) (by kernel_rfl) (allocStep_w (lO ls 0 7) (lO ls 1 0) (hp _ (.head _)) (hp _ (.tail _ (.head _))))

end Go.Fl
