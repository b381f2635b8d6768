/- Lists and blocks: the machines' steps, and their contracts. Conditions: none. -/
import Derived.Test.YtjhhecidaableaaFmC
set_option linter.unusedVariables false
set_option linter.unusedSectionVars false
set_option maxRecDepth 20000
namespace Go.Fl
open Go Go.RowKit Go.Proofs

theorem fsNil3 (a b c : Nat × Option Nat) (n : Int) (h1 : ¬ n = 1) (h2 : ¬ n = 2) (h3 : ¬ n = 3) : (([none, some a, some b, some c] : List (Option (Nat × Option Nat))).getD n.toNat none).isNone = true := by
  generalize hk : n.toNat = k
  match k with
  | 0 => rfl
  | 1 => omega
  | 2 => omega
  | 3 => omega
  | _ + 4 => rfl

def fsPop : List (Option (Nat × Option Nat)) := [none, some (111, none), some (156, none), some (183, none)]
def popDone (x : GPop) : Bool := (fsPop.getD x.next.toNat none).isNone
def fsPush : List (Option (Nat × Option Nat)) := [none, some (140, none), some (175, none), some (188, none)]
def pushDone (x : GPush) : Bool := (fsPush.getD x.next.toNat none).isNone

def newPop (h : Int) : GPop := ⟨1, h, 0, 0, 0, 0⟩

def newPop_out (h : Int) : Ls := [.O 2 (newPop h)]
def S_newPop : Summ := { f := 44, args := [pI64], H := [], v := .ptr 0 0 (.lit 0) 0, ws := [], H' := [.obj (2, false)], pre := fun ls => [], out := fun ls => newPop_out (lI ls 0) }
theorem newPop_w (h : Int) : S_newPop.At Try.prog [.I h] (newPop_out h) := by
  unfold newPop_out
  exact way (B0) ⟨Try.func44, Try.call44⟩ noLo 400 [] [] (fun ρ => by kernel_rfl)
theorem newPop_s : S_newPop.Ok Try.prog := fun ls hp => Summ.at_canon (by kernel_rfl) (by kernel_rfl) (newPop_w (lI ls 0))

def popFirst (x : GPop) : Int := (stampOfTop x.w).At

def popFirst_out (x : GPop) : Ls := [.I (popFirst x), .O 2 x]
def S_popFirst : Summ := { f := 157, args := [.ptr 0 0 (.lit 0) 0], H := [.obj (2, false)], v := pI64, ws := [0], H' := [.obj (2, false)], pre := fun ls => [], out := fun ls => popFirst_out (lO ls 0 2) }
theorem popFirst_w (x : GPop) : S_popFirst.At Try.prog [.O 2 x] (popFirst_out x) := by
  unfold popFirst_out
  exact way (B0.cons stampOfTop_s) ⟨Try.func157, Try.call157⟩ noLo 400 [] [] (fun ρ => by kernel_rfl)
theorem popFirst_s : S_popFirst.Ok Try.prog := fun ls hp => Summ.at_canon (by kernel_rfl) (by kernel_rfl) (popFirst_w (lO ls 0 2))

def popFirstR_out (x : GPop) : Ls := [.I (popFirst x), .I x.next, .I x.head, .I x.w, .I x.h, .I x.found, .I x.seen]
def S_popFirstR : Summ := { f := 157, args := [.ptr 0 0 (.lit 0) 0], H := [.cells 183 [.fsel (.lf ()) [none, some (111, none), some (156, none), some (183, none)], pI64, pU64, pU64, pI64, pU64]], v := pI64, ws := [], H' := [.cells 183 [.fsel (.lf ()) [none, some (111, none), some (156, none), some (183, none)], pI64, pU64, pU64, pI64, pU64]], pre := fun ls => [], out := fun ls => popFirstR_out ((⟨lI ls 0, lI ls 1, lI ls 2, lI ls 3, lI ls 4, lI ls 5⟩ : GPop)) }
theorem popFirstR_w (x : GPop) : S_popFirstR.At Try.prog [.I x.next, .I x.head, .I x.w, .I x.h, .I x.found, .I x.seen] (popFirstR_out x) := by
  unfold popFirstR_out
  exact way (B0.cons stampOfTop_s) ⟨Try.func157, Try.call157⟩ noLo 400 [] [] (fun ρ => by kernel_rfl)
theorem popFirstR_s : S_popFirstR.Ok Try.prog := fun ls hp => Summ.at_canon (by kernel_rfl) (by kernel_rfl) (popFirstR_w ((⟨lI ls 0, lI ls 1, lI ls 2, lI ls 3, lI ls 4, lI ls 5⟩ : GPop)))

def popEnd (x : GPop) : GPop := { x with next := 0, found := popFirst x, seen := x.w }

def popEnd_out (x : GPop) : Ls := [.O 2 (popEnd x)]
def S_popEnd : Summ := { f := 158, args := [.ptr 0 0 (.lit 0) 0], H := [.obj (2, false)], v := .tuple [], ws := [0], H' := [.obj (2, false)], pre := fun ls => [], out := fun ls => popEnd_out (lO ls 0 2) }
theorem popEnd_w (x : GPop) : S_popEnd.At Try.prog [.O 2 x] (popEnd_out x) := by
  unfold popEnd_out
  exact way (B0.cons popFirstR_s|>.cons popFirst_s) ⟨Try.func158, Try.call158⟩ noLo 400 [] [] (fun ρ => by kernel_rfl)
theorem popEnd_s : S_popEnd.Ok Try.prog := fun ls hp => Summ.at_canon (by kernel_rfl) (by kernel_rfl) (popEnd_w (lO ls 0 2))

def popLoad (x : GPop) (m : GMem) : GPop × GMem :=
  (sel (popFirst { x with w := (memLoad m x.head).1, next := 2 } == 0) (popEnd { x with w := (memLoad m x.head).1, next := 2 }) { x with w := (memLoad m x.head).1, next := 2 }, (memLoad m x.head).2)

def popLoad_pre (x : GPop) (m : GMem) : List Bool := [memOk m]
def popLoad_out (x : GPop) (m : GMem) : Ls := [.O 2 (popLoad x m).1, .O 0 (popLoad x m).2]
def S_popLoad : Summ := { f := 111, args := [.ptr 0 0 (.lit 0) 0, .ptr 1 0 (.lit 0) 0], H := [.obj (2, false), .obj (0, false)], v := .tuple [], ws := [0, 1], H' := [.obj (2, false), .obj (0, false)], pre := fun ls => popLoad_pre (lO ls 0 2) (lO ls 1 0), out := fun ls => popLoad_out (lO ls 0 2) (lO ls 1 0) }
theorem popLoad_w (x : GPop) (m : GMem) (q0 : (memOk m) = true) : S_popLoad.At Try.prog [.O 2 x, .O 0 m] (popLoad_out x m) := by
  unfold popLoad_out
  unfold popLoad
  rcases Bool.eq_false_or_eq_true (popFirst { x with w := (memLoad m x.head).1, next := 2 } == 0) with h1 | h1
  · rw [sel_t h1]
    exact way (B0.cons memLoad_s|>.cons popFirst_s|>.cons popEnd_s) ⟨Try.func111, Try.call111⟩ noLo 400 [1] [⟨_, _, q0⟩, ⟨_, _, h1⟩] (fun ρ => by kernel_rfl)
  · rw [sel_f h1]
    exact way (B0.cons memLoad_s|>.cons popFirst_s|>.cons popEnd_s) ⟨Try.func111, Try.call111⟩ noLo 400 [0] [⟨_, _, q0⟩, ⟨_, _, h1⟩] (fun ρ => by kernel_rfl)
theorem popLoad_s : S_popLoad.Ok Try.prog := fun ls hp => Summ.at_canon (by kernel_rfl) (by kernel_rfl) (popLoad_w (lO ls 0 2) (lO ls 1 0) (hp _ (.head _)))

def popLink (x : GPop) (m : GMem) : GPop × GMem := ({ x with h := (memLoad m (popFirst x)).1, next := 3 }, (memLoad m (popFirst x)).2)

def popLink_pre (x : GPop) (m : GMem) : List Bool := [memOk m]
def popLink_out (x : GPop) (m : GMem) : Ls := [.O 2 (popLink x m).1, .O 0 (popLink x m).2]
def S_popLink : Summ := { f := 156, args := [.ptr 0 0 (.lit 0) 0, .ptr 1 0 (.lit 0) 0], H := [.obj (2, false), .obj (0, false)], v := .tuple [], ws := [0, 1], H' := [.obj (2, false), .obj (0, false)], pre := fun ls => popLink_pre (lO ls 0 2) (lO ls 1 0), out := fun ls => popLink_out (lO ls 0 2) (lO ls 1 0) }
theorem popLink_w (x : GPop) (m : GMem) (q0 : (memOk m) = true) : S_popLink.At Try.prog [.O 2 x, .O 0 m] (popLink_out x m) := by
  unfold popLink_out
  exact way (B0.cons memLoad_s|>.cons popFirst_s) ⟨Try.func156, Try.call156⟩ noLo 400 [] [⟨_, _, q0⟩] (fun ρ => by kernel_rfl)
theorem popLink_s : S_popLink.Ok Try.prog := fun ls hp => Summ.at_canon (by kernel_rfl) (by kernel_rfl) (popLink_w (lO ls 0 2) (lO ls 1 0) (hp _ (.head _)))

def popSwap (x : GPop) (m : GMem) : GPop × GMem :=
  (sel (memCas m x.head x.w (stampNext x.w (headOf x.h).Link)).1 (popEnd { x with next := 1 }) { x with next := 1 }, (memCas m x.head x.w (stampNext x.w (headOf x.h).Link)).2)

def popSwap_pre (x : GPop) (m : GMem) : List Bool := [memOk m]
def popSwap_out (x : GPop) (m : GMem) : Ls := [.O 2 (popSwap x m).1, .O 0 (popSwap x m).2]
def S_popSwap : Summ := { f := 183, args := [.ptr 0 0 (.lit 0) 0, .ptr 1 0 (.lit 0) 0], H := [.obj (2, false), .obj (0, false)], v := .tuple [], ws := [0, 1], H' := [.obj (2, false), .obj (0, false)], pre := fun ls => popSwap_pre (lO ls 0 2) (lO ls 1 0), out := fun ls => popSwap_out (lO ls 0 2) (lO ls 1 0) }
theorem popSwap_w (x : GPop) (m : GMem) (q0 : (memOk m) = true) : S_popSwap.At Try.prog [.O 2 x, .O 0 m] (popSwap_out x m) := by
  unfold popSwap_out
  unfold popSwap
  rcases Bool.eq_false_or_eq_true (memCas m x.head x.w (stampNext x.w (headOf x.h).Link)).1 with h1 | h1
  · rw [sel_t h1]
    exact way (B0.cons memCas_s|>.cons popEnd_s|>.cons stampNext_s|>.cons headOf_s) ⟨Try.func183, Try.call183⟩ noLo 400 [1] [⟨_, _, q0⟩, ⟨_, _, h1⟩] (fun ρ => by kernel_rfl)
  · rw [sel_f h1]
    exact way (B0.cons memCas_s|>.cons popEnd_s|>.cons stampNext_s|>.cons headOf_s) ⟨Try.func183, Try.call183⟩ noLo 400 [0] [⟨_, _, q0⟩, ⟨_, _, h1⟩] (fun ρ => by kernel_rfl)
theorem popSwap_s : S_popSwap.Ok Try.prog := fun ls hp => Summ.at_canon (by kernel_rfl) (by kernel_rfl) (popSwap_w (lO ls 0 2) (lO ls 1 0) (hp _ (.head _)))

def popNext (x : GPop) (m : GMem) : GPop × GMem :=
  if x.next = 1 then popLoad x m else if x.next = 2 then popLink x m else if x.next = 3 then popSwap x m else (x, m)
def popStep (x : GPop) (m : GMem) : Bool × GPop × GMem := (popDone (popNext x m).1, (popNext x m).1, (popNext x m).2)

def popStep_pre (x : GPop) (m : GMem) : List Bool := [memOk m]
def popStep_out (x : GPop) (m : GMem) : Ls := [.B (popStep x m).1, .O 2 (popStep x m).2.1, .O 0 (popStep x m).2.2]
def S_popStep : Summ := { f := 46, args := [.ptr 0 0 (.lit 0) 0, .ptr 1 0 (.lit 0) 0], H := [.obj (2, false), .obj (0, false)], v := pB, ws := [0, 1], H' := [.obj (2, false), .obj (0, false)], pre := fun ls => popStep_pre (lO ls 0 2) (lO ls 1 0), out := fun ls => popStep_out (lO ls 0 2) (lO ls 1 0) }
theorem popStep_w (x : GPop) (m : GMem) (q0 : (memOk m) = true) : S_popStep.At Try.prog [.O 2 x, .O 0 m] (popStep_out x m) := by
  unfold popStep_out
  unfold popStep popNext
  rcases x with ⟨nx, a, b, c, d, e⟩
  simp only
  by_cases h1 : nx = 1
  · subst h1
    exact way (B0.cons popLoad_s|>.cons popLink_s|>.cons popSwap_s) ⟨Try.func46, Try.call46⟩ noLo 400 [1,1] [⟨false, false, rfl⟩, ⟨true, true, rfl⟩, ⟨_, _, q0⟩] (fun ρ => by kernel_rfl)
  · by_cases h2 : nx = 2
    · subst h2
      exact way (B0.cons popLoad_s|>.cons popLink_s|>.cons popSwap_s) ⟨Try.func46, Try.call46⟩ noLo 400 [1,2] [⟨false, false, rfl⟩, ⟨true, true, rfl⟩, ⟨_, _, q0⟩] (fun ρ => by kernel_rfl)
    · by_cases h3 : nx = 3
      · subst h3
        exact way (B0.cons popLoad_s|>.cons popLink_s|>.cons popSwap_s) ⟨Try.func46, Try.call46⟩ noLo 400 [1,3] [⟨false, false, rfl⟩, ⟨true, true, rfl⟩, ⟨_, _, q0⟩] (fun ρ => by kernel_rfl)
      · simp only [if_neg h1, if_neg h2, if_neg h3]
        have h4 : (fsPop.getD nx.toNat none).isNone = true := fsNil3 _ _ _ nx h1 h2 h3
        exact way (B0.cons popLoad_s|>.cons popLink_s|>.cons popSwap_s) ⟨Try.func46, Try.call46⟩ noLo 400 [0] [⟨_, _, h4⟩] (fun ρ => by kernel_rfl)
theorem popStep_s : S_popStep.Ok Try.prog := fun ls hp => Summ.at_canon (by kernel_rfl) (by kernel_rfl) (popStep_w (lO ls 0 2) (lO ls 1 0) (hp _ (.head _)))

def popResult (x : GPop) : Int × Int := (x.found, x.seen)

def popResult_out (x : GPop) : Ls := [.I (popResult x).1, .I (popResult x).2, .O 2 x]
def S_popResult : Summ := { f := 47, args := [.ptr 0 0 (.lit 0) 0], H := [.obj (2, false)], v := .tuple [pI64, pU64], ws := [0], H' := [.obj (2, false)], pre := fun ls => [], out := fun ls => popResult_out (lO ls 0 2) }
theorem popResult_w (x : GPop) : S_popResult.At Try.prog [.O 2 x] (popResult_out x) := by
  unfold popResult_out
  exact way (B0) ⟨Try.func47, Try.call47⟩ noLo 400 [] [] (fun ρ => by kernel_rfl)
theorem popResult_s : S_popResult.Ok Try.prog := fun ls hp => Summ.at_canon (by kernel_rfl) (by kernel_rfl) (popResult_w (lO ls 0 2))

def newPush (h f l c : Int) : GPush := ⟨1, h, f, l, c, 0⟩

def newPush_out (h : Int) (f : Int) (l : Int) (c : Int) : Ls := [.O 3 (newPush h f l c)]
def S_newPush : Summ := { f := 76, args := [pI64, pI64, pI64, pI64], H := [], v := .ptr 0 0 (.lit 0) 0, ws := [], H' := [.obj (3, false)], pre := fun ls => [], out := fun ls => newPush_out (lI ls 0) (lI ls 1) (lI ls 2) (lI ls 3) }
theorem newPush_w (h : Int) (f : Int) (l : Int) (c : Int) : S_newPush.At Try.prog [.I h, .I f, .I l, .I c] (newPush_out h f l c) := by
  unfold newPush_out
  exact way (B0) ⟨Try.func76, Try.call76⟩ noLo 400 [] [] (fun ρ => by kernel_rfl)
theorem newPush_s : S_newPush.Ok Try.prog := fun ls hp => Summ.at_canon (by kernel_rfl) (by kernel_rfl) (newPush_w (lI ls 0) (lI ls 1) (lI ls 2) (lI ls 3))

def pushLoad (x : GPush) (m : GMem) : GPush × GMem := ({ x with w := (memLoad m x.head).1, next := 2 }, (memLoad m x.head).2)

def pushLoad_pre (x : GPush) (m : GMem) : List Bool := [memOk m]
def pushLoad_out (x : GPush) (m : GMem) : Ls := [.O 3 (pushLoad x m).1, .O 0 (pushLoad x m).2]
def S_pushLoad : Summ := { f := 140, args := [.ptr 0 0 (.lit 0) 0, .ptr 1 0 (.lit 0) 0], H := [.obj (3, false), .obj (0, false)], v := .tuple [], ws := [0, 1], H' := [.obj (3, false), .obj (0, false)], pre := fun ls => pushLoad_pre (lO ls 0 3) (lO ls 1 0), out := fun ls => pushLoad_out (lO ls 0 3) (lO ls 1 0) }
theorem pushLoad_w (x : GPush) (m : GMem) (q0 : (memOk m) = true) : S_pushLoad.At Try.prog [.O 3 x, .O 0 m] (pushLoad_out x m) := by
  unfold pushLoad_out
  exact way (B0.cons memLoad_s) ⟨Try.func140, Try.call140⟩ noLo 400 [] [⟨_, _, q0⟩] (fun ρ => by kernel_rfl)
theorem pushLoad_s : S_pushLoad.Ok Try.prog := fun ls hp => Summ.at_canon (by kernel_rfl) (by kernel_rfl) (pushLoad_w (lO ls 0 3) (lO ls 1 0) (hp _ (.head _)))

def pushLink (x : GPush) (m : GMem) : GPush × GMem := ({ x with next := 3 }, memStore m x.last (headWord ⟨0, x.class_, 0, 0, 0, 0, (stampOfTop x.w).At⟩))

def pushLink_pre (x : GPush) (m : GMem) : List Bool := [memOk m]
def pushLink_out (x : GPush) (m : GMem) : Ls := [.O 3 (pushLink x m).1, .O 0 (pushLink x m).2]
def S_pushLink : Summ := { f := 175, args := [.ptr 0 0 (.lit 0) 0, .ptr 1 0 (.lit 0) 0], H := [.obj (3, false), .obj (0, false)], v := .tuple [], ws := [0, 1], H' := [.obj (3, false), .obj (0, false)], pre := fun ls => pushLink_pre (lO ls 0 3) (lO ls 1 0), out := fun ls => pushLink_out (lO ls 0 3) (lO ls 1 0) }
theorem pushLink_w (x : GPush) (m : GMem) (q0 : (memOk m) = true) : S_pushLink.At Try.prog [.O 3 x, .O 0 m] (pushLink_out x m) := by
  unfold pushLink_out
  exact way (B0.cons memStore_s|>.cons headWord_s|>.cons stampOfTop_s) ⟨Try.func175, Try.call175⟩ noLo 400 [] [⟨_, _, q0⟩] (fun ρ => by kernel_rfl)
theorem pushLink_s : S_pushLink.Ok Try.prog := fun ls hp => Summ.at_canon (by kernel_rfl) (by kernel_rfl) (pushLink_w (lO ls 0 3) (lO ls 1 0) (hp _ (.head _)))

def pushSwap (x : GPush) (m : GMem) : GPush × GMem := ({ x with next := sel (memCas m x.head x.w (stampNext x.w x.first)).1 0 1 }, (memCas m x.head x.w (stampNext x.w x.first)).2)

def pushSwap_pre (x : GPush) (m : GMem) : List Bool := [memOk m]
def pushSwap_out (x : GPush) (m : GMem) : Ls := [.O 3 (pushSwap x m).1, .O 0 (pushSwap x m).2]
def S_pushSwap : Summ := { f := 188, args := [.ptr 0 0 (.lit 0) 0, .ptr 1 0 (.lit 0) 0], H := [.obj (3, false), .obj (0, false)], v := .tuple [], ws := [0, 1], H' := [.obj (3, false), .obj (0, false)], pre := fun ls => pushSwap_pre (lO ls 0 3) (lO ls 1 0), out := fun ls => pushSwap_out (lO ls 0 3) (lO ls 1 0) }
theorem pushSwap_w (x : GPush) (m : GMem) (q0 : (memOk m) = true) : S_pushSwap.At Try.prog [.O 3 x, .O 0 m] (pushSwap_out x m) := by
  unfold pushSwap_out
  unfold pushSwap
  rcases Bool.eq_false_or_eq_true (memCas m x.head x.w (stampNext x.w x.first)).1 with h1 | h1
  · rw [sel_t h1]
    exact way (B0.cons memCas_s|>.cons stampNext_s) ⟨Try.func188, Try.call188⟩ noLo 400 [1] [⟨_, _, q0⟩, ⟨_, _, h1⟩] (fun ρ => by kernel_rfl)
  · rw [sel_f h1]
    exact way (B0.cons memCas_s|>.cons stampNext_s) ⟨Try.func188, Try.call188⟩ noLo 400 [0] [⟨_, _, q0⟩, ⟨_, _, h1⟩] (fun ρ => by kernel_rfl)
theorem pushSwap_s : S_pushSwap.Ok Try.prog := fun ls hp => Summ.at_canon (by kernel_rfl) (by kernel_rfl) (pushSwap_w (lO ls 0 3) (lO ls 1 0) (hp _ (.head _)))

def pushNext (x : GPush) (m : GMem) : GPush × GMem :=
  if x.next = 1 then pushLoad x m else if x.next = 2 then pushLink x m else if x.next = 3 then pushSwap x m else (x, m)
def pushStep (x : GPush) (m : GMem) : Bool × GPush × GMem := (pushDone (pushNext x m).1, (pushNext x m).1, (pushNext x m).2)

def pushStep_pre (x : GPush) (m : GMem) : List Bool := [memOk m]
def pushStep_out (x : GPush) (m : GMem) : Ls := [.B (pushStep x m).1, .O 3 (pushStep x m).2.1, .O 0 (pushStep x m).2.2]
def S_pushStep : Summ := { f := 77, args := [.ptr 0 0 (.lit 0) 0, .ptr 1 0 (.lit 0) 0], H := [.obj (3, false), .obj (0, false)], v := pB, ws := [0, 1], H' := [.obj (3, false), .obj (0, false)], pre := fun ls => pushStep_pre (lO ls 0 3) (lO ls 1 0), out := fun ls => pushStep_out (lO ls 0 3) (lO ls 1 0) }
theorem pushStep_w (x : GPush) (m : GMem) (q0 : (memOk m) = true) : S_pushStep.At Try.prog [.O 3 x, .O 0 m] (pushStep_out x m) := by
  unfold pushStep_out
  unfold pushStep pushNext
  rcases x with ⟨nx, a, b, c, d, e⟩
  simp only
  by_cases h1 : nx = 1
  · subst h1
    exact way (B0.cons pushLoad_s|>.cons pushLink_s|>.cons pushSwap_s) ⟨Try.func77, Try.call77⟩ noLo 400 [1,1] [⟨false, false, rfl⟩, ⟨true, true, rfl⟩, ⟨_, _, q0⟩] (fun ρ => by kernel_rfl)
  · by_cases h2 : nx = 2
    · subst h2
      exact way (B0.cons pushLoad_s|>.cons pushLink_s|>.cons pushSwap_s) ⟨Try.func77, Try.call77⟩ noLo 400 [1,2] [⟨false, false, rfl⟩, ⟨true, true, rfl⟩, ⟨_, _, q0⟩] (fun ρ => by kernel_rfl)
    · by_cases h3 : nx = 3
      · subst h3
        exact way (B0.cons pushLoad_s|>.cons pushLink_s|>.cons pushSwap_s) ⟨Try.func77, Try.call77⟩ noLo 400 [1,3] [⟨false, false, rfl⟩, ⟨true, true, rfl⟩, ⟨_, _, q0⟩] (fun ρ => by kernel_rfl)
      · simp only [if_neg h1, if_neg h2, if_neg h3]
        have h4 : (fsPush.getD nx.toNat none).isNone = true := fsNil3 _ _ _ nx h1 h2 h3
        exact way (B0.cons pushLoad_s|>.cons pushLink_s|>.cons pushSwap_s) ⟨Try.func77, Try.call77⟩ noLo 400 [0] [⟨_, _, h4⟩] (fun ρ => by kernel_rfl)
theorem pushStep_s : S_pushStep.Ok Try.prog := fun ls hp => Summ.at_canon (by kernel_rfl) (by kernel_rfl) (pushStep_w (lO ls 0 3) (lO ls 1 0) (hp _ (.head _)))

def fsTake : List (Option (Nat × Option Nat)) := [none, some (110, some 0), some (155, some 0), some (182, some 0), some (189, some 0), some (190, some 0), some (193, some 0)]
def takeDone (x : GTake) : Bool := (fsTake.getD x.machine.next.toNat none).isNone
def fsGive : List (Option (Nat × Option Nat)) := [none, some (119, some 0), some (162, some 0), some (185, some 0)]
def giveDone (x : GGive) : Bool := (fsGive.getD x.machine.next.toNat none).isNone

def newTake (p : GPlan) (c s : Int) : GTake := ⟨⟨1⟩, p, c, s, 0, 0, 0, 0, none, 0⟩

def newTake_out (p : GPlan) (c : Int) (s : Int) : Ls := [.O 4 (newTake p c s)]
def S_newTake : Summ := { f := 39, args := [.agg [pI64, pI64, pI64, pI64, pI64], pI64, pI64], H := [], v := .ptr 0 0 (.lit 0) 0, ws := [], H' := [.obj (4, false)], pre := fun ls => [], out := fun ls => newTake_out (⟨lI ls 0, lI ls 1, lI ls 2, lI ls 3, lI ls 4⟩) (lI ls 5) (lI ls 6) }
theorem newTake_w (p : GPlan) (c : Int) (s : Int) : S_newTake.At Try.prog [.I p.Threads, .I p.Blocks, .I p.Table, .I p.Heap, .I p.Size, .I c, .I s] (newTake_out p c s) := by
  unfold newTake_out
  exact way (B0) ⟨Try.func39, Try.call39⟩ noLo 400 [] [] (fun ρ => by kernel_rfl)
theorem newTake_s : S_newTake.Ok Try.prog := fun ls hp => Summ.at_canon (by kernel_rfl) (by kernel_rfl) (newTake_w (⟨lI ls 0, lI ls 1, lI ls 2, lI ls 3, lI ls 4⟩) (lI ls 5) (lI ls 6))

def newGive (p : GPlan) (b : Int) : GGive := ⟨⟨1⟩, p, b, 0⟩

def newGive_out (p : GPlan) (b : Int) : Ls := [.O 5 (newGive p b)]
def S_newGive : Summ := { f := 57, args := [.agg [pI64, pI64, pI64, pI64, pI64], pI64], H := [], v := .ptr 0 0 (.lit 0) 0, ws := [], H' := [.obj (5, false)], pre := fun ls => [], out := fun ls => newGive_out (⟨lI ls 0, lI ls 1, lI ls 2, lI ls 3, lI ls 4⟩) (lI ls 5) }
theorem newGive_w (p : GPlan) (b : Int) : S_newGive.At Try.prog [.I p.Threads, .I p.Blocks, .I p.Table, .I p.Heap, .I p.Size, .I b] (newGive_out p b) := by
  unfold newGive_out
  exact way (B0) ⟨Try.func57, Try.call57⟩ noLo 400 [] [] (fun ρ => by kernel_rfl)
theorem newGive_s : S_newGive.Ok Try.prog := fun ls hp => Summ.at_canon (by kernel_rfl) (by kernel_rfl) (newGive_w (⟨lI ls 0, lI ls 1, lI ls 2, lI ls 3, lI ls 4⟩) (lI ls 5))

def takeCell (x : GTake) : Int := x.cell

def takeCell_out (x : GTake) : Ls := [.I (takeCell x), .O 4 x]
def S_takeCell : Summ := { f := 40, args := [.ptr 0 0 (.lit 0) 0], H := [.obj (4, false)], v := pI64, ws := [0], H' := [.obj (4, false)], pre := fun ls => [], out := fun ls => takeCell_out (lO ls 0 4) }
theorem takeCell_w (x : GTake) : S_takeCell.At Try.prog [.O 4 x] (takeCell_out x) := by
  unfold takeCell_out
  exact way (B0) ⟨Try.func40, Try.call40⟩ noLo 400 [] [] (fun ρ => by kernel_rfl)
theorem takeCell_s : S_takeCell.Ok Try.prog := fun ls hp => Summ.at_canon (by kernel_rfl) (by kernel_rfl) (takeCell_w (lO ls 0 4))

def takeAt (x : GTake) (k : Int) : Int := planCell x.p x.block x.class_ k

def takeAt_out (x : GTake) (k : Int) : Ls := [.I (takeAt x k), .O 4 x]
def S_takeAt : Summ := { f := 192, args := [.ptr 0 0 (.lit 0) 0, pI64], H := [.obj (4, false)], v := pI64, ws := [0], H' := [.obj (4, false)], pre := fun ls => [], out := fun ls => takeAt_out (lO ls 1 4) (lI ls 0) }
theorem takeAt_w (x : GTake) (k : Int) : S_takeAt.At Try.prog [.I k, .O 4 x] (takeAt_out x k) := by
  unfold takeAt_out
  exact way (B0.cons planCell_s) ⟨Try.func192, Try.call192⟩ noLo 400 [] [] (fun ρ => by kernel_rfl)
theorem takeAt_s : S_takeAt.Ok Try.prog := fun ls hp => Summ.at_canon (by kernel_rfl) (by kernel_rfl) (takeAt_w (lO ls 1 4) (lI ls 0))

def takeAtR_out (k : Int) (x : GTake) : Ls := [.I (takeAt x k), .I x.machine.next, .I x.p.Threads, .I x.p.Blocks, .I x.p.Table, .I x.p.Heap, .I x.p.Size, .I x.class_, .I x.set_, .I x.w, .I x.block, .I x.entry, .I x.k, .I x.cell, .P 3 x.push]
def S_takeAtR : Summ := { f := 192, args := [.ptr 0 0 (.lit 0) 0, pI64], H := [.cells 82 [.fsel (.lf ()) [none, some (110, some 0), some (155, some 0), some (182, some 0), some (189, some 0), some (190, some 0), some (193, some 0)], pI64, pI64, pI64, pI64, pI64, pI64, pI64, pU64, pI64, pU64, pI64, .opt 1, pI64], .obj (3, true)], v := pI64, ws := [], H' := [.cells 82 [.fsel (.lf ()) [none, some (110, some 0), some (155, some 0), some (182, some 0), some (189, some 0), some (190, some 0), some (193, some 0)], pI64, pI64, pI64, pI64, pI64, pI64, pI64, pU64, pI64, pU64, pI64, .opt 1, pI64], .obj (3, true)], pre := fun ls => [], out := fun ls => takeAtR_out (lI ls 0) ((⟨⟨lI ls 1⟩, ⟨lI ls 2, lI ls 3, lI ls 4, lI ls 5, lI ls 6⟩, lI ls 7, lI ls 8, lI ls 9, lI ls 10, lI ls 11, lI ls 12, lP ls 14 3, lI ls 13⟩ : GTake)) }
theorem takeAtR_w (k : Int) (x : GTake) : S_takeAtR.At Try.prog [.I k, .I x.machine.next, .I x.p.Threads, .I x.p.Blocks, .I x.p.Table, .I x.p.Heap, .I x.p.Size, .I x.class_, .I x.set_, .I x.w, .I x.block, .I x.entry, .I x.k, .I x.cell, .P 3 x.push] (takeAtR_out k x) := by
  unfold takeAtR_out
  exact way (B0.cons planCell_s) ⟨Try.func192, Try.call192⟩ noLo 400 [] [] (fun ρ => by kernel_rfl)
theorem takeAtR_s : S_takeAtR.Ok Try.prog := fun ls hp => Summ.at_canon (by kernel_rfl) (by kernel_rfl) (takeAtR_w (lI ls 0) ((⟨⟨lI ls 1⟩, ⟨lI ls 2, lI ls 3, lI ls 4, lI ls 5, lI ls 6⟩, lI ls 7, lI ls 8, lI ls 9, lI ls 10, lI ls 11, lI ls 12, lP ls 14 3, lI ls 13⟩ : GTake)))

def takeLoad (x : GTake) (m : GMem) : Int × GTake × GMem :=
  (sel (decide (binI .sub .i64 (stampOfTop (memLoad m 2).1).At 1 < 0)) 0 2, { x with w := (memLoad m 2).1, block := binI .sub .i64 (stampOfTop (memLoad m 2).1).At 1 }, (memLoad m 2).2)

def takeLoad_pre (x : GTake) (m : GMem) : List Bool := [memOk m]
def takeLoad_out (x : GTake) (m : GMem) : Ls := [.I (takeLoad x m).1, .O 4 (takeLoad x m).2.1, .O 0 (takeLoad x m).2.2]
def S_takeLoad : Summ := { f := 110, args := [.ptr 0 0 (.lit 0) 0, .ptr 1 0 (.lit 0) 0], H := [.obj (4, false), .obj (0, false)], v := .fsel (.lf ()) [none, some (110, some 0), some (155, some 0), some (182, some 0), some (189, some 0), some (190, some 0), some (193, some 0)], ws := [0, 1], H' := [.obj (4, false), .obj (0, false)], pre := fun ls => takeLoad_pre (lO ls 0 4) (lO ls 1 0), out := fun ls => takeLoad_out (lO ls 0 4) (lO ls 1 0) }
theorem takeLoad_w (x : GTake) (m : GMem) (q0 : (memOk m) = true) : S_takeLoad.At Try.prog [.O 4 x, .O 0 m] (takeLoad_out x m) := by
  unfold takeLoad_out
  unfold takeLoad
  rcases Bool.eq_false_or_eq_true (decide (binI .sub .i64 (stampOfTop (memLoad m 2).1).At 1 < 0)) with h1 | h1
  · rw [sel_t h1]
    exact way (B0.cons memLoad_s|>.cons stampOfTop_s) ⟨Try.func110, Try.call110⟩ noLo 400 [1] [⟨_, _, q0⟩, ⟨_, _, h1⟩] (fun ρ => by kernel_rfl)
  · rw [sel_f h1]
    exact way (B0.cons memLoad_s|>.cons stampOfTop_s) ⟨Try.func110, Try.call110⟩ noLo 400 [0] [⟨_, _, q0⟩, ⟨_, _, h1⟩] (fun ρ => by kernel_rfl)
theorem takeLoad_s : S_takeLoad.Ok Try.prog := fun ls hp => Summ.at_canon (by kernel_rfl) (by kernel_rfl) (takeLoad_w (lO ls 0 4) (lO ls 1 0) (hp _ (.head _)))

def takeLook (x : GTake) (m : GMem) : Int × GTake × GMem :=
  (3, { x with entry := (memLoad m (planEntry x.p x.block)).1 }, (memLoad m (planEntry x.p x.block)).2)

def takeLook_pre (x : GTake) (m : GMem) : List Bool := [memOk m]
def takeLook_out (x : GTake) (m : GMem) : Ls := [.I (takeLook x m).1, .O 4 (takeLook x m).2.1, .O 0 (takeLook x m).2.2]
def S_takeLook : Summ := { f := 155, args := [.ptr 0 0 (.lit 0) 0, .ptr 1 0 (.lit 0) 0], H := [.obj (4, false), .obj (0, false)], v := .fsel (.lf ()) [none, some (110, some 0), some (155, some 0), some (182, some 0), some (189, some 0), some (190, some 0), some (193, some 0)], ws := [0, 1], H' := [.obj (4, false), .obj (0, false)], pre := fun ls => takeLook_pre (lO ls 0 4) (lO ls 1 0), out := fun ls => takeLook_out (lO ls 0 4) (lO ls 1 0) }
theorem takeLook_w (x : GTake) (m : GMem) (q0 : (memOk m) = true) : S_takeLook.At Try.prog [.O 4 x, .O 0 m] (takeLook_out x m) := by
  unfold takeLook_out
  exact way (B0.cons memLoad_s|>.cons planEntry_s) ⟨Try.func155, Try.call155⟩ noLo 400 [] [⟨_, _, q0⟩] (fun ρ => by kernel_rfl)
theorem takeLook_s : S_takeLook.Ok Try.prog := fun ls hp => Summ.at_canon (by kernel_rfl) (by kernel_rfl) (takeLook_w (lO ls 0 4) (lO ls 1 0) (hp _ (.head _)))

def takeSwap (x : GTake) (m : GMem) : Int × GTake × GMem :=
  (sel (memCas m 2 x.w (stampNext x.w (stampOfBlock x.entry).Next)).1 4 1, x, (memCas m 2 x.w (stampNext x.w (stampOfBlock x.entry).Next)).2)

def takeSwap_pre (x : GTake) (m : GMem) : List Bool := [memOk m]
def takeSwap_out (x : GTake) (m : GMem) : Ls := [.I (takeSwap x m).1, .O 4 (takeSwap x m).2.1, .O 0 (takeSwap x m).2.2]
def S_takeSwap : Summ := { f := 182, args := [.ptr 0 0 (.lit 0) 0, .ptr 1 0 (.lit 0) 0], H := [.obj (4, false), .obj (0, false)], v := .fsel (.lf ()) [none, some (110, some 0), some (155, some 0), some (182, some 0), some (189, some 0), some (190, some 0), some (193, some 0)], ws := [0, 1], H' := [.obj (4, false), .obj (0, false)], pre := fun ls => takeSwap_pre (lO ls 0 4) (lO ls 1 0), out := fun ls => takeSwap_out (lO ls 0 4) (lO ls 1 0) }
theorem takeSwap_w (x : GTake) (m : GMem) (q0 : (memOk m) = true) : S_takeSwap.At Try.prog [.O 4 x, .O 0 m] (takeSwap_out x m) := by
  unfold takeSwap_out
  unfold takeSwap
  rcases Bool.eq_false_or_eq_true (memCas m 2 x.w (stampNext x.w (stampOfBlock x.entry).Next)).1 with h1 | h1
  · rw [sel_t h1]
    exact way (B0.cons memCas_s|>.cons stampNext_s|>.cons stampOfBlock_s) ⟨Try.func182, Try.call182⟩ noLo 400 [0] [⟨_, _, q0⟩, ⟨_, _, h1⟩] (fun ρ => by kernel_rfl)
  · rw [sel_f h1]
    exact way (B0.cons memCas_s|>.cons stampNext_s|>.cons stampOfBlock_s) ⟨Try.func182, Try.call182⟩ noLo 400 [1] [⟨_, _, q0⟩, ⟨_, _, h1⟩] (fun ρ => by kernel_rfl)
theorem takeSwap_s : S_takeSwap.Ok Try.prog := fun ls hp => Summ.at_canon (by kernel_rfl) (by kernel_rfl) (takeSwap_w (lO ls 0 4) (lO ls 1 0) (hp _ (.head _)))

def takeUse (x : GTake) (m : GMem) : Int × GTake × GMem :=
  (5, { x with k := 1 }, memStore m (planEntry x.p x.block) (stampBlock ⟨1, x.class_, x.set_, 0⟩))

def takeUse_pre (x : GTake) (m : GMem) : List Bool := [memOk m]
def takeUse_out (x : GTake) (m : GMem) : Ls := [.I (takeUse x m).1, .O 4 (takeUse x m).2.1, .O 0 (takeUse x m).2.2]
def S_takeUse : Summ := { f := 189, args := [.ptr 0 0 (.lit 0) 0, .ptr 1 0 (.lit 0) 0], H := [.obj (4, false), .obj (0, false)], v := .fsel (.lf ()) [none, some (110, some 0), some (155, some 0), some (182, some 0), some (189, some 0), some (190, some 0), some (193, some 0)], ws := [0, 1], H' := [.obj (4, false), .obj (0, false)], pre := fun ls => takeUse_pre (lO ls 0 4) (lO ls 1 0), out := fun ls => takeUse_out (lO ls 0 4) (lO ls 1 0) }
theorem takeUse_w (x : GTake) (m : GMem) (q0 : (memOk m) = true) : S_takeUse.At Try.prog [.O 4 x, .O 0 m] (takeUse_out x m) := by
  unfold takeUse_out
  exact way (B0.cons memStore_s|>.cons planEntry_s|>.cons stampBlock_s) ⟨Try.func189, Try.call189⟩ noLo 400 [] [⟨_, _, q0⟩] (fun ρ => by kernel_rfl)
theorem takeUse_s : S_takeUse.Ok Try.prog := fun ls hp => Summ.at_canon (by kernel_rfl) (by kernel_rfl) (takeUse_w (lO ls 0 4) (lO ls 1 0) (hp _ (.head _)))

def takeLast (x : GTake) : Int := binI .sub .i64 (planCells x.class_) 1
def takeLink (x : GTake) (m : GMem) : Int × GTake × GMem :=
  (sel (decide (binI .add .i64 x.k 1 ≤ takeLast x)) 5 6,
   { x with k := binI .add .i64 x.k 1, push := sel (decide (binI .add .i64 x.k 1 ≤ takeLast x)) x.push (some (newPush (planList x.set_ x.class_) (takeAt x 1) (takeAt x (takeLast x)) x.class_)) },
   memStore m (takeAt x x.k) (headWord ⟨0, x.class_, 0, 0, 0, 0, sel (decide (x.k < takeLast x)) (takeAt x (binI .add .i64 x.k 1)) 0⟩))

def takeLink_pre (x : GTake) (m : GMem) : List Bool := [memOk m]
def takeLink_out (x : GTake) (m : GMem) : Ls := [.I (takeLink x m).1, .O 4 (takeLink x m).2.1, .O 0 (takeLink x m).2.2]
def S_takeLink : Summ := { f := 190, args := [.ptr 0 0 (.lit 0) 0, .ptr 1 0 (.lit 0) 0], H := [.obj (4, false), .obj (0, false)], v := .fsel (.lf ()) [none, some (110, some 0), some (155, some 0), some (182, some 0), some (189, some 0), some (190, some 0), some (193, some 0)], ws := [0, 1], H' := [.obj (4, false), .obj (0, false)], pre := fun ls => takeLink_pre (lO ls 0 4) (lO ls 1 0), out := fun ls => takeLink_out (lO ls 0 4) (lO ls 1 0) }
theorem takeLink_w (x : GTake) (m : GMem) (q0 : (memOk m) = true) : S_takeLink.At Try.prog [.O 4 x, .O 0 m] (takeLink_out x m) := by
  unfold takeLink_out
  unfold takeLink
  rcases Bool.eq_false_or_eq_true (decide (x.k < takeLast x)) with h1 | h1
  · rw [sel_t h1]
    rcases Bool.eq_false_or_eq_true (decide (binI .add .i64 x.k 1 ≤ takeLast x)) with h2 | h2
    · simp only [sel_t h2]
      exact way (B0.cons memStore_s|>.cons planCells_s|>.cons takeAtR_s|>.cons takeAt_s|>.cons headWord_s|>.cons newPush_s|>.cons planList_s) ⟨Try.func190, Try.call190⟩ noLo 400 [1,1] [⟨_, _, h1⟩, ⟨_, _, q0⟩, ⟨_, _, h2⟩] (fun ρ => by kernel_rfl)
    · simp only [sel_f h2]
      exact way (B0.cons memStore_s|>.cons planCells_s|>.cons takeAtR_s|>.cons takeAt_s|>.cons headWord_s|>.cons newPush_s|>.cons planList_s) ⟨Try.func190, Try.call190⟩ noLo 400 [1,0] [⟨_, _, h1⟩, ⟨_, _, q0⟩, ⟨_, _, h2⟩] (fun ρ => by kernel_rfl)
  · rw [sel_f h1]
    rcases Bool.eq_false_or_eq_true (decide (binI .add .i64 x.k 1 ≤ takeLast x)) with h2 | h2
    · simp only [sel_t h2]
      exact way (B0.cons memStore_s|>.cons planCells_s|>.cons takeAtR_s|>.cons takeAt_s|>.cons headWord_s|>.cons newPush_s|>.cons planList_s) ⟨Try.func190, Try.call190⟩ noLo 400 [0,1] [⟨_, _, h1⟩, ⟨_, _, q0⟩, ⟨_, _, h2⟩] (fun ρ => by kernel_rfl)
    · simp only [sel_f h2]
      exact way (B0.cons memStore_s|>.cons planCells_s|>.cons takeAtR_s|>.cons takeAt_s|>.cons headWord_s|>.cons newPush_s|>.cons planList_s) ⟨Try.func190, Try.call190⟩ noLo 400 [0,0] [⟨_, _, h1⟩, ⟨_, _, q0⟩, ⟨_, _, h2⟩] (fun ρ => by kernel_rfl)
theorem takeLink_s : S_takeLink.Ok Try.prog := fun ls hp => Summ.at_canon (by kernel_rfl) (by kernel_rfl) (takeLink_w (lO ls 0 4) (lO ls 1 0) (hp _ (.head _)))

def takeLay (x : GTake) (m : GMem) : Int × GTake × GMem :=
  (sel (pushStep (x.push.getD default) m).1 0 6,
   { x with push := some (pushStep (x.push.getD default) m).2.1, cell := sel (pushStep (x.push.getD default) m).1 (takeAt x 0) x.cell },
   (pushStep (x.push.getD default) m).2.2)

def takeLay_pre (x : GTake) (m : GMem) : List Bool := [memOk m, x.push.isSome]
def takeLay_out (x : GTake) (m : GMem) : Ls := [.I (takeLay x m).1, .O 4 (takeLay x m).2.1, .O 0 (takeLay x m).2.2]
def S_takeLay : Summ := { f := 193, args := [.ptr 0 0 (.lit 0) 0, .ptr 1 0 (.lit 0) 0], H := [.obj (4, false), .obj (0, false)], v := .fsel (.lf ()) [none, some (110, some 0), some (155, some 0), some (182, some 0), some (189, some 0), some (190, some 0), some (193, some 0)], ws := [0, 1], H' := [.obj (4, false), .obj (0, false)], pre := fun ls => takeLay_pre (lO ls 0 4) (lO ls 1 0), out := fun ls => takeLay_out (lO ls 0 4) (lO ls 1 0) }
theorem takeLay_w (x : GTake) (m : GMem) (q0 : (memOk m) = true) (q1 : (x.push.isSome) = true) : S_takeLay.At Try.prog [.O 4 x, .O 0 m] (takeLay_out x m) := by
  unfold takeLay_out
  unfold takeLay
  rcases Bool.eq_false_or_eq_true (pushStep (x.push.getD default) m).1 with h1 | h1
  · simp only [sel_t h1]
    exact way (B0.cons pushStep_s|>.cons takeAt_s) ⟨Try.func193, Try.call193⟩ noLo 400 [0] [⟨_, _, q1⟩, ⟨_, _, q0⟩, ⟨_, _, h1⟩] (fun ρ => by kernel_rfl)
  · simp only [sel_f h1]
    exact way (B0.cons pushStep_s|>.cons takeAt_s) ⟨Try.func193, Try.call193⟩ noLo 400 [1] [⟨_, _, q1⟩, ⟨_, _, q0⟩, ⟨_, _, h1⟩] (fun ρ => by kernel_rfl)
theorem takeLay_s : S_takeLay.Ok Try.prog := fun ls hp => Summ.at_canon (by kernel_rfl) (by kernel_rfl) (takeLay_w (lO ls 0 4) (lO ls 1 0) (hp _ (.head _)) (hp _ (.tail _ (.head _))))

theorem fsNil6 (a b c d e f : Nat × Option Nat) (n : Int) (h1 : ¬ n = 1) (h2 : ¬ n = 2) (h3 : ¬ n = 3) (h4 : ¬ n = 4) (h5 : ¬ n = 5) (h6 : ¬ n = 6) :
    (([none, some a, some b, some c, some d, some e, some f] : List (Option (Nat × Option Nat))).getD n.toNat none).isNone = true := by
  generalize hk : n.toNat = k
  match k with
  | 0 => rfl
  | 1 => omega
  | 2 => omega
  | 3 => omega
  | 4 => omega
  | 5 => omega
  | 6 => omega
  | _ + 7 => rfl

def takeNext (x : GTake) (m : GMem) : Int × GTake × GMem :=
  if x.machine.next = 1 then takeLoad x m else if x.machine.next = 2 then takeLook x m else if x.machine.next = 3 then takeSwap x m else if x.machine.next = 4 then takeUse x m
  else if x.machine.next = 5 then takeLink x m else if x.machine.next = 6 then takeLay x m else (x.machine.next, x, m)
def takePut (r : Int × GTake × GMem) : GTake := { r.2.1 with machine := ⟨r.1⟩ }
def takeStep (x : GTake) (m : GMem) : Bool × GTake × GMem := (takeDone (takePut (takeNext x m)), takePut (takeNext x m), (takeNext x m).2.2)

def takeStep_pre (x : GTake) (m : GMem) : List Bool := [memOk m, (!(x.machine.next == 6) || x.push.isSome)]
def takeStep_out (x : GTake) (m : GMem) : Ls := [.B (takeStep x m).1, .O 4 (takeStep x m).2.1, .O 0 (takeStep x m).2.2]
def S_takeStep : Summ := { f := 41, args := [.ptr 0 0 (.lit 0) 0, .ptr 1 0 (.lit 0) 0], H := [.obj (4, false), .obj (0, false)], v := pB, ws := [0, 1], H' := [.obj (4, false), .obj (0, false)], pre := fun ls => takeStep_pre (lO ls 0 4) (lO ls 1 0), out := fun ls => takeStep_out (lO ls 0 4) (lO ls 1 0) }
theorem takeStep_w (x : GTake) (m : GMem) (q0 : (memOk m) = true) (q1 : ((!(x.machine.next == 6) || x.push.isSome)) = true) : S_takeStep.At Try.prog [.O 4 x, .O 0 m] (takeStep_out x m) := by
  unfold takeStep_out
  unfold takeStep takeNext
  rcases x with ⟨⟨nx⟩, p, c, s, w, b, en, k, ps, ce⟩
  simp only
  by_cases h1 : nx = 1
  · subst h1
    exact way (B0.cons takeLoad_s|>.cons takeLook_s|>.cons takeSwap_s|>.cons takeUse_s|>.cons takeLink_s|>.cons takeLay_s) ⟨Try.func41, Try.call41⟩ noLo 400 [1,1] [⟨false, false, rfl⟩, ⟨true, true, rfl⟩, ⟨_, _, q0⟩] (fun ρ => by kernel_rfl)
  · skip
    by_cases h2 : nx = 2
    · subst h2
      exact way (B0.cons takeLoad_s|>.cons takeLook_s|>.cons takeSwap_s|>.cons takeUse_s|>.cons takeLink_s|>.cons takeLay_s) ⟨Try.func41, Try.call41⟩ noLo 400 [1,2] [⟨false, false, rfl⟩, ⟨true, true, rfl⟩, ⟨_, _, q0⟩] (fun ρ => by kernel_rfl)
    · skip
      by_cases h3 : nx = 3
      · subst h3
        exact way (B0.cons takeLoad_s|>.cons takeLook_s|>.cons takeSwap_s|>.cons takeUse_s|>.cons takeLink_s|>.cons takeLay_s) ⟨Try.func41, Try.call41⟩ noLo 400 [1,3] [⟨false, false, rfl⟩, ⟨true, true, rfl⟩, ⟨_, _, q0⟩] (fun ρ => by kernel_rfl)
      · skip
        by_cases h4 : nx = 4
        · subst h4
          exact way (B0.cons takeLoad_s|>.cons takeLook_s|>.cons takeSwap_s|>.cons takeUse_s|>.cons takeLink_s|>.cons takeLay_s) ⟨Try.func41, Try.call41⟩ noLo 400 [1,4] [⟨false, false, rfl⟩, ⟨true, true, rfl⟩, ⟨_, _, q0⟩] (fun ρ => by kernel_rfl)
        · skip
          by_cases h5 : nx = 5
          · subst h5
            exact way (B0.cons takeLoad_s|>.cons takeLook_s|>.cons takeSwap_s|>.cons takeUse_s|>.cons takeLink_s|>.cons takeLay_s) ⟨Try.func41, Try.call41⟩ noLo 400 [1,5] [⟨false, false, rfl⟩, ⟨true, true, rfl⟩, ⟨_, _, q0⟩] (fun ρ => by kernel_rfl)
          · skip
            by_cases h6 : nx = 6
            · subst h6
              exact way (B0.cons takeLoad_s|>.cons takeLook_s|>.cons takeSwap_s|>.cons takeUse_s|>.cons takeLink_s|>.cons takeLay_s) ⟨Try.func41, Try.call41⟩ noLo 400 [1,6] [⟨false, false, rfl⟩, ⟨true, true, rfl⟩, ⟨_, _, q0⟩, ⟨_, _, q1⟩] (fun ρ => by kernel_rfl)
            · skip
              simp only [if_neg h1, if_neg h2, if_neg h3, if_neg h4, if_neg h5, if_neg h6]
              have h0 : (fsTake.getD nx.toNat none).isNone = true := fsNil6 _ _ _ _ _ _ nx h1 h2 h3 h4 h5 h6
              exact way (B0.cons takeLoad_s|>.cons takeLook_s|>.cons takeSwap_s|>.cons takeUse_s|>.cons takeLink_s|>.cons takeLay_s) ⟨Try.func41, Try.call41⟩ noLo 400 [0] [⟨_, _, h0⟩] (fun ρ => by kernel_rfl)
theorem takeStep_s : S_takeStep.Ok Try.prog := fun ls hp => Summ.at_canon (by kernel_rfl) (by kernel_rfl) (takeStep_w (lO ls 0 4) (lO ls 1 0) (hp _ (.head _)) (hp _ (.tail _ (.head _))))

def giveLoad (x : GGive) (m : GMem) : Int × GGive × GMem := (2, { x with w := (memLoad m 2).1 }, (memLoad m 2).2)

def giveLoad_pre (x : GGive) (m : GMem) : List Bool := [memOk m]
def giveLoad_out (x : GGive) (m : GMem) : Ls := [.I (giveLoad x m).1, .O 5 (giveLoad x m).2.1, .O 0 (giveLoad x m).2.2]
def S_giveLoad : Summ := { f := 119, args := [.ptr 0 0 (.lit 0) 0, .ptr 1 0 (.lit 0) 0], H := [.obj (5, false), .obj (0, false)], v := .fsel (.lf ()) [none, some (119, some 0), some (162, some 0), some (185, some 0)], ws := [0, 1], H' := [.obj (5, false), .obj (0, false)], pre := fun ls => giveLoad_pre (lO ls 0 5) (lO ls 1 0), out := fun ls => giveLoad_out (lO ls 0 5) (lO ls 1 0) }
theorem giveLoad_w (x : GGive) (m : GMem) (q0 : (memOk m) = true) : S_giveLoad.At Try.prog [.O 5 x, .O 0 m] (giveLoad_out x m) := by
  unfold giveLoad_out
  exact way (B0.cons memLoad_s) ⟨Try.func119, Try.call119⟩ noLo 400 [] [⟨_, _, q0⟩] (fun ρ => by kernel_rfl)
theorem giveLoad_s : S_giveLoad.Ok Try.prog := fun ls hp => Summ.at_canon (by kernel_rfl) (by kernel_rfl) (giveLoad_w (lO ls 0 5) (lO ls 1 0) (hp _ (.head _)))

def giveFree (x : GGive) (m : GMem) : Int × GGive × GMem := (3, x, memStore m (planEntry x.p x.block) (stampBlock ⟨0, 0, 0, (stampOfTop x.w).At⟩))

def giveFree_pre (x : GGive) (m : GMem) : List Bool := [memOk m]
def giveFree_out (x : GGive) (m : GMem) : Ls := [.I (giveFree x m).1, .O 5 (giveFree x m).2.1, .O 0 (giveFree x m).2.2]
def S_giveFree : Summ := { f := 162, args := [.ptr 0 0 (.lit 0) 0, .ptr 1 0 (.lit 0) 0], H := [.obj (5, false), .obj (0, false)], v := .fsel (.lf ()) [none, some (119, some 0), some (162, some 0), some (185, some 0)], ws := [0, 1], H' := [.obj (5, false), .obj (0, false)], pre := fun ls => giveFree_pre (lO ls 0 5) (lO ls 1 0), out := fun ls => giveFree_out (lO ls 0 5) (lO ls 1 0) }
theorem giveFree_w (x : GGive) (m : GMem) (q0 : (memOk m) = true) : S_giveFree.At Try.prog [.O 5 x, .O 0 m] (giveFree_out x m) := by
  unfold giveFree_out
  exact way (B0.cons memStore_s|>.cons planEntry_s|>.cons stampBlock_s|>.cons stampOfTop_s) ⟨Try.func162, Try.call162⟩ noLo 400 [] [⟨_, _, q0⟩] (fun ρ => by kernel_rfl)
theorem giveFree_s : S_giveFree.Ok Try.prog := fun ls hp => Summ.at_canon (by kernel_rfl) (by kernel_rfl) (giveFree_w (lO ls 0 5) (lO ls 1 0) (hp _ (.head _)))

def giveSwap (x : GGive) (m : GMem) : Int × GGive × GMem :=
  (sel (memCas m 2 x.w (stampNext x.w (binI .add .i64 x.block 1))).1 0 1, x, (memCas m 2 x.w (stampNext x.w (binI .add .i64 x.block 1))).2)

def giveSwap_pre (x : GGive) (m : GMem) : List Bool := [memOk m]
def giveSwap_out (x : GGive) (m : GMem) : Ls := [.I (giveSwap x m).1, .O 5 (giveSwap x m).2.1, .O 0 (giveSwap x m).2.2]
def S_giveSwap : Summ := { f := 185, args := [.ptr 0 0 (.lit 0) 0, .ptr 1 0 (.lit 0) 0], H := [.obj (5, false), .obj (0, false)], v := .fsel (.lf ()) [none, some (119, some 0), some (162, some 0), some (185, some 0)], ws := [0, 1], H' := [.obj (5, false), .obj (0, false)], pre := fun ls => giveSwap_pre (lO ls 0 5) (lO ls 1 0), out := fun ls => giveSwap_out (lO ls 0 5) (lO ls 1 0) }
theorem giveSwap_w (x : GGive) (m : GMem) (q0 : (memOk m) = true) : S_giveSwap.At Try.prog [.O 5 x, .O 0 m] (giveSwap_out x m) := by
  unfold giveSwap_out
  unfold giveSwap
  rcases Bool.eq_false_or_eq_true (memCas m 2 x.w (stampNext x.w (binI .add .i64 x.block 1))).1 with h1 | h1
  · rw [sel_t h1]
    exact way (B0.cons memCas_s|>.cons stampNext_s) ⟨Try.func185, Try.call185⟩ noLo 400 [0] [⟨_, _, q0⟩, ⟨_, _, h1⟩] (fun ρ => by kernel_rfl)
  · rw [sel_f h1]
    exact way (B0.cons memCas_s|>.cons stampNext_s) ⟨Try.func185, Try.call185⟩ noLo 400 [1] [⟨_, _, q0⟩, ⟨_, _, h1⟩] (fun ρ => by kernel_rfl)
theorem giveSwap_s : S_giveSwap.Ok Try.prog := fun ls hp => Summ.at_canon (by kernel_rfl) (by kernel_rfl) (giveSwap_w (lO ls 0 5) (lO ls 1 0) (hp _ (.head _)))

def giveNext (x : GGive) (m : GMem) : Int × GGive × GMem :=
  if x.machine.next = 1 then giveLoad x m else if x.machine.next = 2 then giveFree x m else if x.machine.next = 3 then giveSwap x m else (x.machine.next, x, m)
def givePut (r : Int × GGive × GMem) : GGive := { r.2.1 with machine := ⟨r.1⟩ }
def giveStep (x : GGive) (m : GMem) : Bool × GGive × GMem := (giveDone (givePut (giveNext x m)), givePut (giveNext x m), (giveNext x m).2.2)

def giveStep_pre (x : GGive) (m : GMem) : List Bool := [memOk m]
def giveStep_out (x : GGive) (m : GMem) : Ls := [.B (giveStep x m).1, .O 5 (giveStep x m).2.1, .O 0 (giveStep x m).2.2]
def S_giveStep : Summ := { f := 41, args := [.ptr 0 0 (.lit 0) 0, .ptr 1 0 (.lit 0) 0], H := [.obj (5, false), .obj (0, false)], v := pB, ws := [0, 1], H' := [.obj (5, false), .obj (0, false)], pre := fun ls => giveStep_pre (lO ls 0 5) (lO ls 1 0), out := fun ls => giveStep_out (lO ls 0 5) (lO ls 1 0) }
theorem giveStep_w (x : GGive) (m : GMem) (q0 : (memOk m) = true) : S_giveStep.At Try.prog [.O 5 x, .O 0 m] (giveStep_out x m) := by
  unfold giveStep_out
  unfold giveStep giveNext
  rcases x with ⟨⟨nx⟩, p, b, w⟩
  simp only
  by_cases h1 : nx = 1
  · subst h1
    exact way (B0.cons giveLoad_s|>.cons giveFree_s|>.cons giveSwap_s) ⟨Try.func41, Try.call41⟩ noLo 400 [1,1] [⟨false, false, rfl⟩, ⟨true, true, rfl⟩, ⟨_, _, q0⟩] (fun ρ => by kernel_rfl)
  · skip
    by_cases h2 : nx = 2
    · subst h2
      exact way (B0.cons giveLoad_s|>.cons giveFree_s|>.cons giveSwap_s) ⟨Try.func41, Try.call41⟩ noLo 400 [1,2] [⟨false, false, rfl⟩, ⟨true, true, rfl⟩, ⟨_, _, q0⟩] (fun ρ => by kernel_rfl)
    · skip
      by_cases h3 : nx = 3
      · subst h3
        exact way (B0.cons giveLoad_s|>.cons giveFree_s|>.cons giveSwap_s) ⟨Try.func41, Try.call41⟩ noLo 400 [1,3] [⟨false, false, rfl⟩, ⟨true, true, rfl⟩, ⟨_, _, q0⟩] (fun ρ => by kernel_rfl)
      · skip
        simp only [if_neg h1, if_neg h2, if_neg h3]
        have h0 : (fsGive.getD nx.toNat none).isNone = true := fsNil3 _ _ _ nx h1 h2 h3
        exact way (B0.cons giveLoad_s|>.cons giveFree_s|>.cons giveSwap_s) ⟨Try.func41, Try.call41⟩ noLo 400 [0] [⟨_, _, h0⟩] (fun ρ => by kernel_rfl)
theorem giveStep_s : S_giveStep.Ok Try.prog := fun ls hp => Summ.at_canon (by kernel_rfl) (by kernel_rfl) (giveStep_w (lO ls 0 5) (lO ls 1 0) (hp _ (.head _)))

end Go.Fl
