/- The shared memory's accesses, and their contracts. Conditions: none. -/
import Derived.Test.YtjhhecidaableaaFmB
set_option linter.unusedVariables false
set_option linter.unusedSectionVars false
set_option maxRecDepth 20000
namespace Go.Fl
open Go Go.RowKit Go.Proofs

def sel {α : Type} (b : Bool) (x y : α) : α := match b with
  | true => x
  | false => y
theorem sel_t {α : Type} {b : Bool} {x y : α} (h : b = true) : sel b x y = x := by rw [h]; rfl
theorem sel_f {α : Type} {b : Bool} {x y : α} (h : b = false) : sel b x y = y := by rw [h]; rfl

def memIx (a : Int) : Nat := 0 + Int.toNat (if 0 > a then 0 else a) * 1
def memIn (m : GMem) (a : Int) : Bool := match decide (a ≥ 0) with
  | true => decide (a ≤ binI .sub .i64 ((m.words.length : Nat) : Int) 1)
  | false => false
def memTick (m : GMem) (t : Bool) : GMem := ⟨m.words, binI .add .i64 m.count 1, bif t then m.traps else binI .add .i64 m.traps 1, m.trace + 1⟩
def memLoad (m : GMem) (a : Int) : Int × GMem := match memIn m a with
  | true => (m.words.getD (memIx a) 0, memTick m true)
  | false => (0, memTick m false)
def memStore (m : GMem) (a v : Int) : GMem := match memIn m a with
  | true => { memTick m true with words := m.words.set (memIx a) v }
  | false => memTick m false
def casW (w : List Int) (i : Nat) (u v : Int) : List Int := match (w.getD i 0 == u) with
  | true => w.set i v
  | false => w
def memCas (m : GMem) (a u v : Int) : Bool × GMem := match memIn m a with
  | true => ((m.words.getD (memIx a) 0 == u), { memTick m true with words := casW m.words (memIx a) u v })
  | false => (false, memTick m false)

def memOk (m : GMem) : Bool := decide (0 ≤ m.trace) && decide (m.trace < 1099511627776)
theorem memX {w : List Int} {a : Int} (h1 : decide (a ≥ 0) = true) (h2 : decide (a ≤ binI .sub .i64 ((w.length : Nat) : Int) 1) = true) :
    decide (0 ≤ (if 0 > a then 0 else a)) = true ∧ decide ((if 0 > a then 0 else a) ≤ ((w.length : Nat) : Int)) = true ∧ decide (0 + (if 0 > a then 0 else a).toNat * 1 < w.length) = true ∧
      decide (0 < ((w.length : Nat) : Int) - (if 0 > a then 0 else a)) = true := by
  have g1 := of_decide_eq_true h1
  have g2 : a ≤ IntKind.i64.wrap (((w.length : Nat) : Int) - 1) := of_decide_eq_true h2
  rw [IntKind.wrap_i64] at g2
  simp only [decide_eq_true_eq]
  clear h1 h2
  split <;> omega
theorem memT {tr : Int} (h : (decide (0 ≤ tr) && decide (tr < 1099511627776)) = true) : decide (0 ≤ tr) = true ∧ decide (tr ≤ tr) = true ∧ decide (tr - (0 - 1) ≤ 1099511627776) = true ∧ ((tr - (0 - 1)) == (tr - (0 - 1))) = true ∧ decide (0 < tr - (0 - 1)) = true := by
  simp only [Bool.and_eq_true, decide_eq_true_eq] at h
  simp only [decide_eq_true_eq, beq_self_eq_true, true_and]
  omega
theorem lenT (l : List Int) : decide ((((l.length : Nat) : Int)).toNat = l.length) = true := by simp
theorem lenTs (l : List Int) (i : Nat) (v : Int) : decide ((((l.length : Nat) : Int)).toNat = (l.set i v).length) = true := by simp
theorem lenTc (l : List Int) (i : Nat) (u v : Int) : decide ((((l.length : Nat) : Int)).toNat = (casW l i u v).length) = true := by unfold casW; split <;> simp

def memLoadC_pre (t : Int) (n : Int) (t2 : Int) (w : List Int) (v : Int) : List Bool := [decide (0 < n), decide (0 + t.toNat * 1 < w.length)]
def memLoadC_out (t : Int) (n : Int) (t2 : Int) (w : List Int) (v : Int) : Ls := [.B true, .A w, .I (w.getD (0 + t.toNat * 1) 0)]
def S_memLoadC : Summ := { f := 109, args := [.slice 0 0 (.lf ()) 1 (.lf ()) (.rest (.lf ())), .ptr 1 0 (.lit 0) 0], H := [.arr 59 .u64 (.lf ()), .cells 59 [pU64]], v := pB, ws := [0, 1], H' := [.arr 59 .u64 (.lf ()), .cells 59 [pU64]], pre := fun ls => memLoadC_pre (lI ls 0) (lI ls 1) (lI ls 2) (lA ls 3) (lI ls 4), out := fun ls => memLoadC_out (lI ls 0) (lI ls 1) (lI ls 2) (lA ls 3) (lI ls 4) }
theorem memLoadC_w (t : Int) (n : Int) (t2 : Int) (w : List Int) (v : Int) (q0 : (decide (0 < n)) = true) (q1 : (decide (0 + t.toNat * 1 < w.length)) = true) : S_memLoadC.At Try.prog [.I t, .I n, .I t2, .A w, .I v] (memLoadC_out t n t2 w v) := by
  unfold memLoadC_out
  exact way (B0) ⟨Try.func109, Try.call109⟩ noLo 400 [] [⟨_, _, q0⟩, ⟨_, _, q1⟩] (fun ρ => by kernel_rfl)
theorem memLoadC_s : S_memLoadC.Ok Try.prog := fun ls hp => Summ.at_canon (by kernel_rfl) (by kernel_rfl) (memLoadC_w (lI ls 0) (lI ls 1) (lI ls 2) (lA ls 3) (lI ls 4) (hp _ (.head _)) (hp _ (.tail _ (.head _))))

def memStoreC_pre (t : Int) (n : Int) (t2 : Int) (w : List Int) (v : Int) : List Bool := [decide (0 < n), decide (0 + t.toNat * 1 < w.length)]
def memStoreC_out (t : Int) (n : Int) (t2 : Int) (w : List Int) (v : Int) : Ls := [.B true, .A (w.set (0 + t.toNat * 1) v), .I v]
def S_memStoreC : Summ := { f := 141, args := [.slice 0 0 (.lf ()) 1 (.lf ()) (.rest (.lf ())), .ptr 1 0 (.lit 0) 0], H := [.arr 59 .u64 (.lf ()), .cells 59 [pU64]], v := pB, ws := [0, 1], H' := [.arr 59 .u64 (.lf ()), .cells 59 [pU64]], pre := fun ls => memStoreC_pre (lI ls 0) (lI ls 1) (lI ls 2) (lA ls 3) (lI ls 4), out := fun ls => memStoreC_out (lI ls 0) (lI ls 1) (lI ls 2) (lA ls 3) (lI ls 4) }
theorem memStoreC_w (t : Int) (n : Int) (t2 : Int) (w : List Int) (v : Int) (q0 : (decide (0 < n)) = true) (q1 : (decide (0 + t.toNat * 1 < w.length)) = true) : S_memStoreC.At Try.prog [.I t, .I n, .I t2, .A w, .I v] (memStoreC_out t n t2 w v) := by
  unfold memStoreC_out
  exact way (B0) ⟨Try.func141, Try.call141⟩ noLo 400 [] [⟨_, _, q0⟩, ⟨_, _, q1⟩] (fun ρ => by kernel_rfl)
theorem memStoreC_s : S_memStoreC.Ok Try.prog := fun ls hp => Summ.at_canon (by kernel_rfl) (by kernel_rfl) (memStoreC_w (lI ls 0) (lI ls 1) (lI ls 2) (lA ls 3) (lI ls 4) (hp _ (.head _)) (hp _ (.tail _ (.head _))))

def memCasC_pre (t : Int) (n : Int) (t2 : Int) (w : List Int) (u : Int) (b : Bool) (v : Int) : List Bool := [decide (0 < n), decide (0 + t.toNat * 1 < w.length)]
def memCasC_out (t : Int) (n : Int) (t2 : Int) (w : List Int) (u : Int) (b : Bool) (v : Int) : Ls := [.B (w.getD (0 + t.toNat * 1) 0 == u), .A (casW w (0 + t.toNat * 1) u v), .I u, .B (w.getD (0 + t.toNat * 1) 0 == u), .I v]
def S_memCasC : Summ := { f := 169, args := [.slice 0 0 (.lf ()) 1 (.lf ()) (.rest (.lf ())), .ptr 1 0 (.lit 0) 0, .ptr 2 0 (.lit 0) 0, .ptr 3 0 (.lit 0) 0], H := [.arr 59 .u64 (.lf ()), .cells 59 [pU64], .cells 4 [pB], .cells 59 [pU64]], v := pB, ws := [0, 1, 2, 3], H' := [.arr 59 .u64 (.lf ()), .cells 59 [pU64], .cells 4 [pB], .cells 59 [pU64]], pre := fun ls => memCasC_pre (lI ls 0) (lI ls 1) (lI ls 2) (lA ls 3) (lI ls 4) (lB ls 5) (lI ls 6), out := fun ls => memCasC_out (lI ls 0) (lI ls 1) (lI ls 2) (lA ls 3) (lI ls 4) (lB ls 5) (lI ls 6) }
theorem memCasC_w (t : Int) (n : Int) (t2 : Int) (w : List Int) (u : Int) (b : Bool) (v : Int) (q0 : (decide (0 < n)) = true) (q1 : (decide (0 + t.toNat * 1 < w.length)) = true) : S_memCasC.At Try.prog [.I t, .I n, .I t2, .A w, .I u, .B b, .I v] (memCasC_out t n t2 w u b v) := by
  unfold memCasC_out
  rcases Bool.eq_false_or_eq_true (w.getD (0 + t.toNat * 1) 0 == u) with h1 | h1
  · have e : casW w (0 + t.toNat * 1) u v = w.set (0 + t.toNat * 1) v := by simp only [casW, h1]
    rw [e]
    exact way (B0) ⟨Try.func169, Try.call169⟩ noLo 400 [1] [⟨_, _, q0⟩, ⟨_, _, q1⟩, ⟨_, _, h1⟩, ⟨_, _, q0⟩, ⟨_, _, q1⟩] (fun ρ => by kernel_rfl)
  · have e : casW w (0 + t.toNat * 1) u v = w := by simp only [casW, h1]
    rw [e]
    exact way (B0) ⟨Try.func169, Try.call169⟩ noLo 400 [0] [⟨_, _, q0⟩, ⟨_, _, q1⟩, ⟨_, _, h1⟩] (fun ρ => by kernel_rfl)
theorem memCasC_s : S_memCasC.Ok Try.prog := fun ls hp => Summ.at_canon (by kernel_rfl) (by kernel_rfl) (memCasC_w (lI ls 0) (lI ls 1) (lI ls 2) (lA ls 3) (lI ls 4) (lB ls 5) (lI ls 6) (hp _ (.head _)) (hp _ (.tail _ (.head _))))

def memAccL_pre (op : Int) (a : Int) (m : GMem) : List Bool := [memOk m]
def memAccL_out (op : Int) (a : Int) (m : GMem) : Ls := [.O 0 (memLoad m a).2, .I (memLoad m a).1]
def S_memAccL : Summ := { f := 108, args := [.ptr 0 0 (.lit 0) 0, pI64, pI64, .int .i64 (.lit 1), .func 109 [] [.ptr 1 0 (.lit 0) 0]], H := [.obj (0, false), .cells 59 [.int .u64 (.lit 0)]], v := .tuple [], ws := [0, 1], H' := [.obj (0, false), .cells 59 [pU64]], pre := fun ls => memAccL_pre (lI ls 0) (lI ls 1) (lO ls 2 0), out := fun ls => memAccL_out (lI ls 0) (lI ls 1) (lO ls 2 0) }
theorem memAccL_w (op : Int) (a : Int) (m : GMem) (q0 : (memOk m) = true) : S_memAccL.At Try.prog [.I op, .I a, .O 0 m] (memAccL_out op a m) := by
  unfold memAccL_out
  rcases m with ⟨w, cn, tp, tr⟩
  obtain ⟨t1, t2, t3, t4, t5⟩ := memT (tr := tr) q0
  cases h1 : decide (a ≥ 0)
  · have e : memIn ⟨w, cn, tp, tr⟩ a = false := by simp only [memIn, h1]
    simp only [memLoad, e]
    cases h2 : (tr == 0)
    · exact way (B0.cons memLoadC_s) ⟨Try.func108, Try.call108⟩ noLo 400 [0,1] [⟨_, _, h1⟩, ⟨_, _, h2⟩, ⟨_, _, t1⟩, ⟨_, _, t2⟩, ⟨_, _, t3⟩, ⟨_, _, t4⟩, ⟨_, _, t5⟩] (fun ρ => by kernel_rfl)
    · obtain rfl : tr = 0 := by simpa using h2
      exact way (B0.cons memLoadC_s) ⟨Try.func108, Try.call108⟩ noLo 400 [0,0] [⟨_, _, h1⟩, ⟨true, true, rfl⟩, ⟨true, true, rfl⟩, ⟨true, true, rfl⟩, ⟨true, true, rfl⟩] (fun ρ => by kernel_rfl)
  · cases h3 : decide (a ≤ binI .sub .i64 ((w.length : Nat) : Int) 1)
    · have e : memIn ⟨w, cn, tp, tr⟩ a = false := by simp only [memIn, h1, h3]
      simp only [memLoad, e]
      cases h2 : (tr == 0)
      · exact way (B0.cons memLoadC_s) ⟨Try.func108, Try.call108⟩ noLo 400 [1,0,1] [⟨_, _, h1⟩, ⟨_, _, h3⟩, ⟨_, _, h2⟩, ⟨_, _, t1⟩, ⟨_, _, t2⟩, ⟨_, _, t3⟩, ⟨_, _, lenT w⟩, ⟨_, _, t4⟩, ⟨_, _, t5⟩] (fun ρ => by kernel_rfl)
      · obtain rfl : tr = 0 := by simpa using h2
        exact way (B0.cons memLoadC_s) ⟨Try.func108, Try.call108⟩ noLo 400 [1,0,0] [⟨_, _, h1⟩, ⟨_, _, h3⟩, ⟨true, true, rfl⟩, ⟨true, true, rfl⟩, ⟨_, _, lenT w⟩, ⟨true, true, rfl⟩, ⟨true, true, rfl⟩] (fun ρ => by kernel_rfl)
    · have e : memIn ⟨w, cn, tp, tr⟩ a = true := by simp only [memIn, h1, h3]
      simp only [memLoad, e]
      obtain ⟨x1, x2, x3, x4⟩ := memX h1 h3
      cases h2 : (tr == 0)
      · exact way (B0.cons memLoadC_s) ⟨Try.func108, Try.call108⟩ noLo 400 [1,1,1] [⟨_, _, h1⟩, ⟨_, _, h3⟩, ⟨_, _, x1⟩, ⟨_, _, x2⟩, ⟨_, _, x3⟩, ⟨_, _, x4⟩, ⟨_, _, x3⟩, ⟨_, _, h2⟩, ⟨_, _, t1⟩, ⟨_, _, t2⟩, ⟨_, _, t3⟩, ⟨_, _, lenT w⟩, ⟨_, _, t4⟩, ⟨_, _, t5⟩] (fun ρ => by kernel_rfl)
      · obtain rfl : tr = 0 := by simpa using h2
        exact way (B0.cons memLoadC_s) ⟨Try.func108, Try.call108⟩ noLo 400 [1,1,0] [⟨_, _, h1⟩, ⟨_, _, h3⟩, ⟨_, _, x1⟩, ⟨_, _, x2⟩, ⟨_, _, x3⟩, ⟨_, _, x4⟩, ⟨_, _, x3⟩, ⟨true, true, rfl⟩, ⟨true, true, rfl⟩, ⟨_, _, lenT w⟩, ⟨true, true, rfl⟩, ⟨true, true, rfl⟩] (fun ρ => by kernel_rfl)
theorem memAccL_s : S_memAccL.Ok Try.prog := fun ls hp => Summ.at_canon (by kernel_rfl) (by kernel_rfl) (memAccL_w (lI ls 0) (lI ls 1) (lO ls 2 0) (hp _ (.head _)))

def memAccS_pre (op : Int) (a : Int) (m : GMem) (v : Int) : List Bool := [memOk m]
def memAccS_out (op : Int) (a : Int) (m : GMem) (v : Int) : Ls := [.O 0 (memStore m a v), .I v]
def S_memAccS : Summ := { f := 108, args := [.ptr 0 0 (.lit 0) 0, pI64, pI64, .int .i64 (.lit 1), .func 141 [] [.ptr 1 0 (.lit 0) 0]], H := [.obj (0, false), .cells 59 [pU64]], v := .tuple [], ws := [0, 1], H' := [.obj (0, false), .cells 59 [pU64]], pre := fun ls => memAccS_pre (lI ls 0) (lI ls 1) (lO ls 2 0) (lI ls 3), out := fun ls => memAccS_out (lI ls 0) (lI ls 1) (lO ls 2 0) (lI ls 3) }
theorem memAccS_w (op : Int) (a : Int) (m : GMem) (v : Int) (q0 : (memOk m) = true) : S_memAccS.At Try.prog [.I op, .I a, .O 0 m, .I v] (memAccS_out op a m v) := by
  unfold memAccS_out
  rcases m with ⟨w, cn, tp, tr⟩
  obtain ⟨t1, t2, t3, t4, t5⟩ := memT (tr := tr) q0
  cases h1 : decide (a ≥ 0)
  · have e : memIn ⟨w, cn, tp, tr⟩ a = false := by simp only [memIn, h1]
    simp only [memStore, e]
    cases h2 : (tr == 0)
    · exact way (B0.cons memStoreC_s) ⟨Try.func108, Try.call108⟩ noLo 400 [0,1] [⟨_, _, h1⟩, ⟨_, _, h2⟩, ⟨_, _, t1⟩, ⟨_, _, t2⟩, ⟨_, _, t3⟩, ⟨_, _, t4⟩, ⟨_, _, t5⟩] (fun ρ => by kernel_rfl)
    · obtain rfl : tr = 0 := by simpa using h2
      exact way (B0.cons memStoreC_s) ⟨Try.func108, Try.call108⟩ noLo 400 [0,0] [⟨_, _, h1⟩, ⟨true, true, rfl⟩, ⟨true, true, rfl⟩, ⟨true, true, rfl⟩, ⟨true, true, rfl⟩] (fun ρ => by kernel_rfl)
  · cases h3 : decide (a ≤ binI .sub .i64 ((w.length : Nat) : Int) 1)
    · have e : memIn ⟨w, cn, tp, tr⟩ a = false := by simp only [memIn, h1, h3]
      simp only [memStore, e]
      cases h2 : (tr == 0)
      · exact way (B0.cons memStoreC_s) ⟨Try.func108, Try.call108⟩ noLo 400 [1,0,1] [⟨_, _, h1⟩, ⟨_, _, h3⟩, ⟨_, _, h2⟩, ⟨_, _, t1⟩, ⟨_, _, t2⟩, ⟨_, _, t3⟩, ⟨_, _, lenT w⟩, ⟨_, _, t4⟩, ⟨_, _, t5⟩] (fun ρ => by kernel_rfl)
      · obtain rfl : tr = 0 := by simpa using h2
        exact way (B0.cons memStoreC_s) ⟨Try.func108, Try.call108⟩ noLo 400 [1,0,0] [⟨_, _, h1⟩, ⟨_, _, h3⟩, ⟨true, true, rfl⟩, ⟨true, true, rfl⟩, ⟨_, _, lenT w⟩, ⟨true, true, rfl⟩, ⟨true, true, rfl⟩] (fun ρ => by kernel_rfl)
    · have e : memIn ⟨w, cn, tp, tr⟩ a = true := by simp only [memIn, h1, h3]
      simp only [memStore, e]
      obtain ⟨x1, x2, x3, x4⟩ := memX h1 h3
      cases h2 : (tr == 0)
      · exact way (B0.cons memStoreC_s) ⟨Try.func108, Try.call108⟩ noLo 400 [1,1,1] [⟨_, _, h1⟩, ⟨_, _, h3⟩, ⟨_, _, x1⟩, ⟨_, _, x2⟩, ⟨_, _, x3⟩, ⟨_, _, x4⟩, ⟨_, _, x3⟩, ⟨_, _, h2⟩, ⟨_, _, t1⟩, ⟨_, _, t2⟩, ⟨_, _, t3⟩, ⟨_, _, lenTs w (memIx a) v⟩, ⟨_, _, t4⟩, ⟨_, _, t5⟩] (fun ρ => by kernel_rfl)
      · obtain rfl : tr = 0 := by simpa using h2
        exact way (B0.cons memStoreC_s) ⟨Try.func108, Try.call108⟩ noLo 400 [1,1,0] [⟨_, _, h1⟩, ⟨_, _, h3⟩, ⟨_, _, x1⟩, ⟨_, _, x2⟩, ⟨_, _, x3⟩, ⟨_, _, x4⟩, ⟨_, _, x3⟩, ⟨true, true, rfl⟩, ⟨true, true, rfl⟩, ⟨_, _, lenTs w (memIx a) v⟩, ⟨true, true, rfl⟩, ⟨true, true, rfl⟩] (fun ρ => by kernel_rfl)
theorem memAccS_s : S_memAccS.Ok Try.prog := fun ls hp => Summ.at_canon (by kernel_rfl) (by kernel_rfl) (memAccS_w (lI ls 0) (lI ls 1) (lO ls 2 0) (lI ls 3) (hp _ (.head _)))

def memAccC_pre (op : Int) (a : Int) (m : GMem) (u : Int) (v : Int) : List Bool := [memOk m]
def memAccC_out (op : Int) (a : Int) (m : GMem) (u : Int) (v : Int) : Ls := [.O 0 (memCas m a u v).2, .I u, .B (memCas m a u v).1, .I v]
def S_memAccC : Summ := { f := 108, args := [.ptr 0 0 (.lit 0) 0, pI64, pI64, .int .i64 (.lit 1), .func 169 [] [.ptr 1 0 (.lit 0) 0, .ptr 2 0 (.lit 0) 0, .ptr 3 0 (.lit 0) 0]], H := [.obj (0, false), .cells 59 [pU64], .cells 4 [.bool (.lit false)], .cells 59 [pU64]], v := .tuple [], ws := [0, 1, 2, 3], H' := [.obj (0, false), .cells 59 [pU64], .cells 4 [pB], .cells 59 [pU64]], pre := fun ls => memAccC_pre (lI ls 0) (lI ls 1) (lO ls 2 0) (lI ls 3) (lI ls 4), out := fun ls => memAccC_out (lI ls 0) (lI ls 1) (lO ls 2 0) (lI ls 3) (lI ls 4) }
theorem memAccC_w (op : Int) (a : Int) (m : GMem) (u : Int) (v : Int) (q0 : (memOk m) = true) : S_memAccC.At Try.prog [.I op, .I a, .O 0 m, .I u, .I v] (memAccC_out op a m u v) := by
  unfold memAccC_out
  rcases m with ⟨w, cn, tp, tr⟩
  obtain ⟨t1, t2, t3, t4, t5⟩ := memT (tr := tr) q0
  cases h1 : decide (a ≥ 0)
  · have e : memIn ⟨w, cn, tp, tr⟩ a = false := by simp only [memIn, h1]
    simp only [memCas, e]
    cases h2 : (tr == 0)
    · exact way (B0.cons memCasC_s) ⟨Try.func108, Try.call108⟩ noLo 400 [0,1] [⟨_, _, h1⟩, ⟨_, _, h2⟩, ⟨_, _, t1⟩, ⟨_, _, t2⟩, ⟨_, _, t3⟩, ⟨_, _, t4⟩, ⟨_, _, t5⟩] (fun ρ => by kernel_rfl)
    · obtain rfl : tr = 0 := by simpa using h2
      exact way (B0.cons memCasC_s) ⟨Try.func108, Try.call108⟩ noLo 400 [0,0] [⟨_, _, h1⟩, ⟨true, true, rfl⟩, ⟨true, true, rfl⟩, ⟨true, true, rfl⟩, ⟨true, true, rfl⟩] (fun ρ => by kernel_rfl)
  · cases h3 : decide (a ≤ binI .sub .i64 ((w.length : Nat) : Int) 1)
    · have e : memIn ⟨w, cn, tp, tr⟩ a = false := by simp only [memIn, h1, h3]
      simp only [memCas, e]
      cases h2 : (tr == 0)
      · exact way (B0.cons memCasC_s) ⟨Try.func108, Try.call108⟩ noLo 400 [1,0,1] [⟨_, _, h1⟩, ⟨_, _, h3⟩, ⟨_, _, h2⟩, ⟨_, _, t1⟩, ⟨_, _, t2⟩, ⟨_, _, t3⟩, ⟨_, _, lenT w⟩, ⟨_, _, t4⟩, ⟨_, _, t5⟩] (fun ρ => by kernel_rfl)
      · obtain rfl : tr = 0 := by simpa using h2
        exact way (B0.cons memCasC_s) ⟨Try.func108, Try.call108⟩ noLo 400 [1,0,0] [⟨_, _, h1⟩, ⟨_, _, h3⟩, ⟨true, true, rfl⟩, ⟨true, true, rfl⟩, ⟨_, _, lenT w⟩, ⟨true, true, rfl⟩, ⟨true, true, rfl⟩] (fun ρ => by kernel_rfl)
    · have e : memIn ⟨w, cn, tp, tr⟩ a = true := by simp only [memIn, h1, h3]
      simp only [memCas, e]
      obtain ⟨x1, x2, x3, x4⟩ := memX h1 h3
      have hl := lenTc w (memIx a) u v
      cases h2 : (tr == 0)
      · exact way (B0.cons memCasC_s) ⟨Try.func108, Try.call108⟩ noLo 400 [1,1,1] [⟨_, _, h1⟩, ⟨_, _, h3⟩, ⟨_, _, x1⟩, ⟨_, _, x2⟩, ⟨_, _, x3⟩, ⟨_, _, x4⟩, ⟨_, _, x3⟩, ⟨_, _, h2⟩, ⟨_, _, t1⟩, ⟨_, _, t2⟩, ⟨_, _, t3⟩, ⟨_, _, hl⟩, ⟨_, _, t4⟩, ⟨_, _, t5⟩] (fun ρ => by kernel_rfl)
      · obtain rfl : tr = 0 := by simpa using h2
        exact way (B0.cons memCasC_s) ⟨Try.func108, Try.call108⟩ noLo 400 [1,1,0] [⟨_, _, h1⟩, ⟨_, _, h3⟩, ⟨_, _, x1⟩, ⟨_, _, x2⟩, ⟨_, _, x3⟩, ⟨_, _, x4⟩, ⟨_, _, x3⟩, ⟨true, true, rfl⟩, ⟨true, true, rfl⟩, ⟨_, _, hl⟩, ⟨true, true, rfl⟩, ⟨true, true, rfl⟩] (fun ρ => by kernel_rfl)
theorem memAccC_s : S_memAccC.Ok Try.prog := fun ls hp => Summ.at_canon (by kernel_rfl) (by kernel_rfl) (memAccC_w (lI ls 0) (lI ls 1) (lO ls 2 0) (lI ls 3) (lI ls 4) (hp _ (.head _)))

def memLoad_pre (m : GMem) (a : Int) : List Bool := [memOk m]
def memLoad_out (m : GMem) (a : Int) : Ls := [.I (memLoad m a).1, .O 0 (memLoad m a).2]
def S_memLoad : Summ := { f := 33, args := [.ptr 0 0 (.lit 0) 0, pI64], H := [.obj (0, false)], v := pU64, ws := [0], H' := [.obj (0, false)], pre := fun ls => memLoad_pre (lO ls 1 0) (lI ls 0), out := fun ls => memLoad_out (lO ls 1 0) (lI ls 0) }
theorem memLoad_w (m : GMem) (a : Int) (q0 : (memOk m) = true) : S_memLoad.At Try.prog [.I a, .O 0 m] (memLoad_out m a) := by
  unfold memLoad_out
  exact way (B0.cons memAccL_s) ⟨Try.func33, Try.call33⟩ noLo 400 [] [⟨_, _, q0⟩] (fun ρ => by kernel_rfl)
theorem memLoad_s : S_memLoad.Ok Try.prog := fun ls hp => Summ.at_canon (by kernel_rfl) (by kernel_rfl) (memLoad_w (lO ls 1 0) (lI ls 0) (hp _ (.head _)))

def memStore_pre (m : GMem) (a : Int) (v : Int) : List Bool := [memOk m]
def memStore_out (m : GMem) (a : Int) (v : Int) : Ls := [.O 0 (memStore m a v)]
def S_memStore : Summ := { f := 78, args := [.ptr 0 0 (.lit 0) 0, pI64, pU64], H := [.obj (0, false)], v := .tuple [], ws := [0], H' := [.obj (0, false)], pre := fun ls => memStore_pre (lO ls 2 0) (lI ls 0) (lI ls 1), out := fun ls => memStore_out (lO ls 2 0) (lI ls 0) (lI ls 1) }
theorem memStore_w (m : GMem) (a : Int) (v : Int) (q0 : (memOk m) = true) : S_memStore.At Try.prog [.I a, .I v, .O 0 m] (memStore_out m a v) := by
  unfold memStore_out
  exact way (B0.cons memAccS_s) ⟨Try.func78, Try.call78⟩ noLo 400 [] [⟨_, _, q0⟩] (fun ρ => by kernel_rfl)
theorem memStore_s : S_memStore.Ok Try.prog := fun ls hp => Summ.at_canon (by kernel_rfl) (by kernel_rfl) (memStore_w (lO ls 2 0) (lI ls 0) (lI ls 1) (hp _ (.head _)))

def memCas_pre (m : GMem) (a : Int) (u : Int) (v : Int) : List Bool := [memOk m]
def memCas_out (m : GMem) (a : Int) (u : Int) (v : Int) : Ls := [.B (memCas m a u v).1, .O 0 (memCas m a u v).2]
def S_memCas : Summ := { f := 128, args := [.ptr 0 0 (.lit 0) 0, pI64, pU64, pU64], H := [.obj (0, false)], v := pB, ws := [0], H' := [.obj (0, false)], pre := fun ls => memCas_pre (lO ls 3 0) (lI ls 0) (lI ls 1) (lI ls 2), out := fun ls => memCas_out (lO ls 3 0) (lI ls 0) (lI ls 1) (lI ls 2) }
theorem memCas_w (m : GMem) (a : Int) (u : Int) (v : Int) (q0 : (memOk m) = true) : S_memCas.At Try.prog [.I a, .I u, .I v, .O 0 m] (memCas_out m a u v) := by
  unfold memCas_out
  exact way (B0.cons memAccC_s) ⟨Try.func128, Try.call128⟩ noLo 400 [] [⟨_, _, q0⟩] (fun ρ => by kernel_rfl)
theorem memCas_s : S_memCas.Ok Try.prog := fun ls hp => Summ.at_canon (by kernel_rfl) (by kernel_rfl) (memCas_w (lO ls 3 0) (lI ls 0) (lI ls 1) (lI ls 2) (hp _ (.head _)))

def memLen (m : GMem) : Int := ((m.words.length : Nat) : Int)

def memLen_out (m : GMem) : Ls := [.I (memLen m), .O 0 m]
def S_memLen : Summ := { f := 118, args := [.ptr 0 0 (.lit 0) 0], H := [.obj (0, false)], v := pI64, ws := [0], H' := [.obj (0, false)], pre := fun ls => [], out := fun ls => memLen_out (lO ls 0 0) }
theorem memLen_w (m : GMem) : S_memLen.At Try.prog [.O 0 m] (memLen_out m) := by
  unfold memLen_out
  exact way (B0) ⟨Try.func118, Try.call118⟩ noLo 400 [] [⟨_, _, lenT m.words⟩] (fun ρ => by kernel_rfl)
theorem memLen_s : S_memLen.Ok Try.prog := fun ls hp => Summ.at_canon (by kernel_rfl) (by kernel_rfl) (memLen_w (lO ls 0 0))

def memTraps (m : GMem) : Int := m.traps

def memTraps_out (m : GMem) : Ls := [.I (memTraps m), .O 0 m]
def S_memTraps : Summ := { f := 35, args := [.ptr 0 0 (.lit 0) 0], H := [.obj (0, false)], v := pI64, ws := [0], H' := [.obj (0, false)], pre := fun ls => [], out := fun ls => memTraps_out (lO ls 0 0) }
theorem memTraps_w (m : GMem) : S_memTraps.At Try.prog [.O 0 m] (memTraps_out m) := by
  unfold memTraps_out
  exact way (B0) ⟨Try.func35, Try.call35⟩ noLo 400 [] [] (fun ρ => by kernel_rfl)
theorem memTraps_s : S_memTraps.Ok Try.prog := fun ls hp => Summ.at_canon (by kernel_rfl) (by kernel_rfl) (memTraps_w (lO ls 0 0))

def memNew (n : Int) : Option GMem × Int := match decide (n < 1) with
  | true => (none, 1)
  | false => match decide (n > 4096) with
    | true => (none, 1)
    | false => (some ⟨List.replicate n.toNat 0, 0, 0, 0⟩, 0)

def memNew_out (n : Int) : Ls := [.I (memNew n).2, .P 0 (memNew n).1]
def S_memNew : Summ := { f := 84, args := [pI64], H := [], v := .tuple [.opt 0, pI64], ws := [], H' := [.obj (0, true)], pre := fun ls => [], out := fun ls => memNew_out (lI ls 0) }
theorem memNew_w (n : Int) : S_memNew.At Try.prog [.I n] (memNew_out n) := by
  unfold memNew_out
  unfold memNew
  cases h1 : decide (n < 1)
  · cases h2 : decide (n > 4096)
    · have z1 : decide (0 ≤ n) = true := by simp only [decide_eq_true_eq, decide_eq_false_iff_not] at h1 ⊢; omega
      have z2 : decide (n ≤ 1073741824) = true := by simp only [decide_eq_true_eq, decide_eq_false_iff_not] at h2 ⊢; omega
      have z3 : decide (n.toNat = (List.replicate n.toNat (0 : Int)).length) = true := by simp
      exact way (B0) ⟨Try.func84, Try.call84⟩ noLo 400 [0,0] [⟨_, _, h1⟩, ⟨_, _, h2⟩, ⟨_, _, z1⟩, ⟨_, _, z2⟩, ⟨_, _, z3⟩] (fun ρ => by kernel_rfl)
    · exact way (B0) ⟨Try.func84, Try.call84⟩ noLo 400 [0,1] [⟨_, _, h1⟩, ⟨_, _, h2⟩] (fun ρ => by kernel_rfl)
  · exact way (B0) ⟨Try.func84, Try.call84⟩ noLo 400 [1] [⟨_, _, h1⟩] (fun ρ => by kernel_rfl)
theorem memNew_s : S_memNew.Ok Try.prog := fun ls hp => Summ.at_canon (by kernel_rfl) (by kernel_rfl) (memNew_w (lI ls 0))

def cloneW_pre (n : Int) (w : List Int) : List Bool := [decide (0 < n), decide (n.toNat = w.length), decide (((w.length : Nat) : Int) ≤ 1099511627776)]
def cloneW_out (n : Int) (w : List Int) : Ls := [.A w, .A w]
def S_cloneW : Summ := { f := 145, args := [.slice 0 0 (.lit 0) 0 (.lf ()) (.rest (.lit 0))], H := [.arr 59 .u64 (.lf ())], v := .sl 1, ws := [0], H' := [.arr 59 .u64 (.lf ()), .lst 59 .u64 (.lf ())], pre := fun ls => cloneW_pre (lI ls 0) (lA ls 1), out := fun ls => cloneW_out (lI ls 0) (lA ls 1) }
theorem cloneW_w (n : Int) (w : List Int) (q0 : (decide (0 < n)) = true) (q1 : (decide (n.toNat = w.length)) = true) (q2 : (decide (((w.length : Nat) : Int) ≤ 1099511627776)) = true) : S_cloneW.At Try.prog [.I n, .A w] (cloneW_out n w) := by
  unfold cloneW_out
  exact way (B0) ⟨Try.func145, Try.call145⟩ noLo 400 [] [⟨_, _, q0⟩, ⟨_, _, q1⟩, ⟨_, _, q2⟩, ⟨_, _, lenT w⟩] (fun ρ => by kernel_rfl)
theorem cloneW_s : S_cloneW.Ok Try.prog := fun ls hp => Summ.at_canon (by kernel_rfl) (by kernel_rfl) (cloneW_w (lI ls 0) (lA ls 1) (hp _ (.head _)) (hp _ (.tail _ (.head _))) (hp _ (.tail _ (.tail _ (.head _)))))

def cloneT_pre (l : Int) (n : Int) : List Bool := [decide (0 < l), decide (l ≤ n), decide (0 - (0 - l) ≤ 1099511627776)]
def cloneT_out (l : Int) (n : Int) : Ls := [.I n, .I (0 - (0 - l))]
def S_cloneT : Summ := { f := 146, args := [.slice 0 0 (.lit 0) 0 (.lf ()) (.rest (.lit 0))], H := [.opq 220 3 (.lf ())], v := .sl 1, ws := [0], H' := [.opq 220 3 (.lf ()), .olst 220 3 (.lf ())], pre := fun ls => cloneT_pre (lI ls 0) (lI ls 1), out := fun ls => cloneT_out (lI ls 0) (lI ls 1) }
theorem cloneT_w (l : Int) (n : Int) (q0 : (decide (0 < l)) = true) (q1 : (decide (l ≤ n)) = true) (q2 : (decide (0 - (0 - l) ≤ 1099511627776)) = true) : S_cloneT.At Try.prog [.I l, .I n] (cloneT_out l n) := by
  unfold cloneT_out
  have h : decide (0 < 0 - (0 - l)) = true := by simp only [decide_eq_true_eq] at q0 ⊢; omega
  exact way (B0) ⟨Try.func146, Try.call146⟩ noLo 400 [] [⟨_, _, q0⟩, ⟨_, _, q1⟩, ⟨_, _, q2⟩, ⟨_, _, beq_self_eq_true (0 - (0 - l))⟩, ⟨_, _, h⟩] (fun ρ => by kernel_rfl)
theorem cloneT_s : S_cloneT.Ok Try.prog := fun ls hp => Summ.at_canon (by kernel_rfl) (by kernel_rfl) (cloneT_w (lI ls 0) (lI ls 1) (hp _ (.head _)) (hp _ (.tail _ (.head _))) (hp _ (.tail _ (.tail _ (.head _)))))

def cloneN_out : Ls := [.I 0]
def S_cloneN : Summ := { f := 146, args := [.nils], H := [], v := .sl 0, ws := [], H' := [.olst 220 3 (.lf ())], pre := fun ls => [], out := fun ls => cloneN_out }
theorem cloneN_w : S_cloneN.At Try.prog [] (cloneN_out) := by
  unfold cloneN_out
  exact way (B0) ⟨Try.func146, Try.call146⟩ noLo 400 [] [] (fun ρ => by kernel_rfl)
theorem cloneN_s : S_cloneN.Ok Try.prog := fun ls hp => Summ.at_canon (by kernel_rfl) (by kernel_rfl) (cloneN_w)

def memClone (m : GMem) : GMem := { m with trace := match (m.trace == 0) with
  | true => 0
  | false => 0 - (0 - m.trace) }

def memClone_pre (m : GMem) : List Bool := [decide (0 < ((m.words.length : Nat) : Int)), decide (((m.words.length : Nat) : Int) ≤ 1099511627776), memOk m]
def memClone_out (m : GMem) : Ls := [.O 0 m, .O 0 (memClone m)]
def S_memClone : Summ := { f := 82, args := [.ptr 0 0 (.lit 0) 0], H := [.obj (0, false)], v := .ptr 1 0 (.lit 0) 0, ws := [0], H' := [.obj (0, false), .obj (0, false)], pre := fun ls => memClone_pre (lO ls 0 0), out := fun ls => memClone_out (lO ls 0 0) }
theorem memClone_w (m : GMem) (q0 : (decide (0 < ((m.words.length : Nat) : Int))) = true) (q1 : (decide (((m.words.length : Nat) : Int) ≤ 1099511627776)) = true) (q2 : (memOk m) = true) : S_memClone.At Try.prog [.O 0 m] (memClone_out m) := by
  unfold memClone_out
  rcases m with ⟨w, cn, tp, tr⟩
  obtain ⟨t1, t2, t3, t4, t5⟩ := memT (tr := tr) q2
  simp only [memClone]
  cases h2 : (tr == 0)
  · have z : 0 < tr := by simp only [decide_eq_true_eq, beq_eq_false_iff_ne, ne_eq] at t1 h2; omega
    have z1 : decide (0 < tr) = true := decide_eq_true z
    have z2 : decide (0 - (0 - tr) ≤ 1099511627776) = true := by simp only [decide_eq_true_eq] at t3 ⊢; omega
    have z3 : decide (0 < 0 - (0 - tr)) = true := by simp only [decide_eq_true_eq]; omega
    exact way (B0.cons cloneW_s|>.cons cloneT_s|>.cons cloneN_s) ⟨Try.func82, Try.call82⟩ noLo 400 [1] [⟨_, _, h2⟩, ⟨_, _, q0⟩, ⟨_, _, lenT w⟩, ⟨_, _, q1⟩, ⟨_, _, z1⟩, ⟨_, _, t2⟩, ⟨_, _, z2⟩, ⟨_, _, lenT w⟩, ⟨_, _, beq_self_eq_true tr⟩, ⟨_, _, z1⟩] (fun ρ => by kernel_rfl)
  · obtain rfl : tr = 0 := by simpa using h2
    exact way (B0.cons cloneW_s|>.cons cloneT_s|>.cons cloneN_s) ⟨Try.func82, Try.call82⟩ noLo 400 [0] [⟨true, true, rfl⟩, ⟨_, _, q0⟩, ⟨_, _, lenT w⟩, ⟨_, _, q1⟩, ⟨_, _, lenT w⟩] (fun ρ => by kernel_rfl)
theorem memClone_s : S_memClone.Ok Try.prog := fun ls hp => Summ.at_canon (by kernel_rfl) (by kernel_rfl) (memClone_w (lO ls 0 0) (hp _ (.head _)) (hp _ (.tail _ (.head _))) (hp _ (.tail _ (.tail _ (.head _)))))

def r04There (m : RMem) (a : Int) : Bool := match decide (a ≥ 0) with
  | true => decide (a < ((m.W.length : Nat) : Int))
  | false => false

def r04There_out (m : RMem) (a : Int) : Ls := [.B (r04There m a), .O 1 m]
def S_r04There : Summ := { f := 152, args := [.ptr 0 0 (.lit 0) 0, pI64], H := [.obj (1, false)], v := pB, ws := [0], H' := [.obj (1, false)], pre := fun ls => [], out := fun ls => r04There_out (lO ls 1 1) (lI ls 0) }
theorem r04There_w (m : RMem) (a : Int) : S_r04There.At Try.prog [.I a, .O 1 m] (r04There_out m a) := by
  unfold r04There_out
  unfold r04There
  cases h1 : decide (a ≥ 0)
  · exact way (B0) ⟨Try.func152, Try.call152⟩ noLo 400 [0] [⟨_, _, h1⟩] (fun ρ => by kernel_rfl)
  · exact way (B0) ⟨Try.func152, Try.call152⟩ noLo 400 [1] [⟨_, _, h1⟩, ⟨_, _, lenT m.W⟩] (fun ρ => by kernel_rfl)
theorem r04There_s : S_r04There.Ok Try.prog := fun ls hp => Summ.at_canon (by kernel_rfl) (by kernel_rfl) (r04There_w (lO ls 1 1) (lI ls 0))

def r04Ok (m : RMem) : Bool := decide (0 ≤ m.L) && decide (m.L < 1099511627776)

def r04Told (m : RMem) (o a : Int) (t k : Bool) : RMem := ⟨m.W, binI .add .i64 m.Counted 1, match t with | true => m.Bad | false => binI .add .i64 m.Bad 1, m.L + 1⟩

def r04Told_pre (m : RMem) (o : Int) (a : Int) (t : Bool) (k : Bool) : List Bool := [r04Ok m]
def r04Told_out (m : RMem) (o : Int) (a : Int) (t : Bool) (k : Bool) : Ls := [.O 1 (r04Told m o a t k)]
def S_r04Told : Summ := { f := 153, args := [.ptr 0 0 (.lit 0) 0, pI64, pI64, pB, pB], H := [.obj (1, false)], v := .tuple [], ws := [0], H' := [.obj (1, false)], pre := fun ls => r04Told_pre (lO ls 4 1) (lI ls 0) (lI ls 1) (lB ls 2) (lB ls 3), out := fun ls => r04Told_out (lO ls 4 1) (lI ls 0) (lI ls 1) (lB ls 2) (lB ls 3) }
theorem r04Told_w (m : RMem) (o : Int) (a : Int) (t : Bool) (k : Bool) (q0 : (r04Ok m) = true) : S_r04Told.At Try.prog [.I o, .I a, .B t, .B k, .O 1 m] (r04Told_out m o a t k) := by
  unfold r04Told_out
  rcases m with ⟨w, cn, tp, tr⟩
  obtain ⟨t1, t2, t3, t4, t5⟩ := memT (tr := tr) q0
  simp only [r04Told]
  cases t
  · cases h2 : (tr == 0)
    · exact way (B0) ⟨Try.func153, Try.call153⟩ noLo 400 [1,1] [⟨false, false, rfl⟩, ⟨_, _, h2⟩, ⟨_, _, t1⟩, ⟨_, _, t2⟩, ⟨_, _, t3⟩, ⟨_, _, t4⟩, ⟨_, _, t5⟩] (fun ρ => by kernel_rfl)
    · obtain rfl : tr = 0 := by simpa using h2
      exact way (B0) ⟨Try.func153, Try.call153⟩ noLo 400 [1,0] [⟨false, false, rfl⟩, ⟨true, true, rfl⟩, ⟨true, true, rfl⟩, ⟨true, true, rfl⟩, ⟨true, true, rfl⟩] (fun ρ => by kernel_rfl)
  · cases h2 : (tr == 0)
    · exact way (B0) ⟨Try.func153, Try.call153⟩ noLo 400 [0,1] [⟨true, true, rfl⟩, ⟨_, _, h2⟩, ⟨_, _, t1⟩, ⟨_, _, t2⟩, ⟨_, _, t3⟩, ⟨_, _, t4⟩, ⟨_, _, t5⟩] (fun ρ => by kernel_rfl)
    · obtain rfl : tr = 0 := by simpa using h2
      exact way (B0) ⟨Try.func153, Try.call153⟩ noLo 400 [0,0] [⟨true, true, rfl⟩, ⟨true, true, rfl⟩, ⟨true, true, rfl⟩, ⟨true, true, rfl⟩, ⟨true, true, rfl⟩] (fun ρ => by kernel_rfl)
theorem r04Told_s : S_r04Told.Ok Try.prog := fun ls hp => Summ.at_canon (by kernel_rfl) (by kernel_rfl) (r04Told_w (lO ls 4 1) (lI ls 0) (lI ls 1) (lB ls 2) (lB ls 3) (hp _ (.head _)))

def r04New (n : Int) : Option RMem × Int := match decide (n < 1) with
  | true => (none, 1)
  | false => match decide (n > 4096) with
    | true => (none, 1)
    | false => (some ⟨List.replicate n.toNat 0, 0, 0, 0⟩, 0)

def r04New_out (n : Int) : Ls := [.I (r04New n).2, .P 1 (r04New n).1]
def S_r04New : Summ := { f := 85, args := [pI64], H := [], v := .tuple [.opt 0, pI64], ws := [], H' := [.obj (1, true)], pre := fun ls => [], out := fun ls => r04New_out (lI ls 0) }
theorem r04New_w (n : Int) : S_r04New.At Try.prog [.I n] (r04New_out n) := by
  unfold r04New_out
  unfold r04New
  cases h1 : decide (n < 1)
  · cases h2 : decide (n > 4096)
    · have z1 : decide (0 ≤ n) = true := by simp only [decide_eq_true_eq, decide_eq_false_iff_not] at h1 ⊢; omega
      have z2 : decide (n ≤ 1073741824) = true := by simp only [decide_eq_true_eq, decide_eq_false_iff_not] at h2 ⊢; omega
      have z3 : decide (n.toNat = (List.replicate n.toNat (0 : Int)).length) = true := by simp
      exact way (B0) ⟨Try.func85, Try.call85⟩ noLo 400 [0,0] [⟨_, _, h1⟩, ⟨_, _, h2⟩, ⟨_, _, z1⟩, ⟨_, _, z2⟩, ⟨_, _, z3⟩] (fun ρ => by kernel_rfl)
    · exact way (B0) ⟨Try.func85, Try.call85⟩ noLo 400 [0,1] [⟨_, _, h1⟩, ⟨_, _, h2⟩] (fun ρ => by kernel_rfl)
  · exact way (B0) ⟨Try.func85, Try.call85⟩ noLo 400 [1] [⟨_, _, h1⟩] (fun ρ => by kernel_rfl)
theorem r04New_s : S_r04New.Ok Try.prog := fun ls hp => Summ.at_canon (by kernel_rfl) (by kernel_rfl) (r04New_w (lI ls 0))

theorem casW_t {w : List Int} {i : Nat} {u v : Int} (h : (w.getD i 0 == u) = true) : casW w i u v = w.set i v := by simp only [casW, h]
theorem casW_f {w : List Int} {i : Nat} {u v : Int} (h : (w.getD i 0 == u) = false) : casW w i u v = w := by simp only [casW, h]
theorem r04X {m : RMem} {a : Int} (h : r04There m a = true) : decide (0 ≤ a) = true ∧ decide (a < ((m.W.length : Nat) : Int)) = true ∧ decide (0 + a.toNat * 1 < m.W.length) = true := by
  unfold r04There at h
  split at h
  · rename_i h1
    simp only [decide_eq_true_eq] at h h1 ⊢
    omega
  · cases h

def r04Load (m : RMem) (a : Int) : Int × RMem :=
  (sel (r04There m a) (m.W.getD (0 + a.toNat * 1) 0) 0, r04Told m 1 a (r04There m a) (r04There m a))

def r04Load_pre (m : RMem) (a : Int) : List Bool := [r04Ok m]
def r04Load_out (m : RMem) (a : Int) : Ls := [.I (r04Load m a).1, .O 1 (r04Load m a).2]
def S_r04Load : Summ := { f := 113, args := [.ptr 0 0 (.lit 0) 0, pI64], H := [.obj (1, false)], v := pU64, ws := [0], H' := [.obj (1, false)], pre := fun ls => r04Load_pre (lO ls 1 1) (lI ls 0), out := fun ls => r04Load_out (lO ls 1 1) (lI ls 0) }
theorem r04Load_w (m : RMem) (a : Int) (q0 : (r04Ok m) = true) : S_r04Load.At Try.prog [.I a, .O 1 m] (r04Load_out m a) := by
  unfold r04Load_out
  unfold r04Load
  rcases Bool.eq_false_or_eq_true (r04There m a) with h1 | h1
  · obtain ⟨x1, x2, x3⟩ := r04X h1
    rw [sel_t h1]
    exact way (B0.cons r04There_s|>.cons r04Told_s) ⟨Try.func113, Try.call113⟩ noLo 400 [0] [⟨_, _, q0⟩, ⟨_, _, h1⟩, ⟨_, _, x1⟩, ⟨_, _, x2⟩, ⟨_, _, x3⟩, ⟨_, _, lenT m.W⟩] (fun ρ => by kernel_rfl)
  · rw [sel_f h1]
    exact way (B0.cons r04There_s|>.cons r04Told_s) ⟨Try.func113, Try.call113⟩ noLo 400 [1] [⟨_, _, q0⟩, ⟨_, _, h1⟩] (fun ρ => by kernel_rfl)
theorem r04Load_s : S_r04Load.Ok Try.prog := fun ls hp => Summ.at_canon (by kernel_rfl) (by kernel_rfl) (r04Load_w (lO ls 1 1) (lI ls 0) (hp _ (.head _)))

def r04Store (m : RMem) (a v : Int) : RMem :=
  { r04Told m 2 a (r04There m a) (r04There m a) with W := sel (r04There m a) (m.W.set (0 + a.toNat * 1) v) m.W }

def r04Store_pre (m : RMem) (a : Int) (v : Int) : List Bool := [r04Ok m]
def r04Store_out (m : RMem) (a : Int) (v : Int) : Ls := [.O 1 (r04Store m a v)]
def S_r04Store : Summ := { f := 100, args := [.ptr 0 0 (.lit 0) 0, pI64, pU64], H := [.obj (1, false)], v := .tuple [], ws := [0], H' := [.obj (1, false)], pre := fun ls => r04Store_pre (lO ls 2 1) (lI ls 0) (lI ls 1), out := fun ls => r04Store_out (lO ls 2 1) (lI ls 0) (lI ls 1) }
theorem r04Store_w (m : RMem) (a : Int) (v : Int) (q0 : (r04Ok m) = true) : S_r04Store.At Try.prog [.I a, .I v, .O 1 m] (r04Store_out m a v) := by
  unfold r04Store_out
  unfold r04Store
  rcases Bool.eq_false_or_eq_true (r04There m a) with h1 | h1
  · obtain ⟨x1, x2, x3⟩ := r04X h1
    rw [sel_t h1]
    exact way (B0.cons r04There_s|>.cons r04Told_s) ⟨Try.func100, Try.call100⟩ noLo 400 [1] [⟨_, _, q0⟩, ⟨_, _, h1⟩, ⟨_, _, x1⟩, ⟨_, _, x2⟩, ⟨_, _, x3⟩, ⟨_, _, lenTs m.W (0 + a.toNat * 1) v⟩] (fun ρ => by kernel_rfl)
  · rw [sel_f h1]
    exact way (B0.cons r04There_s|>.cons r04Told_s) ⟨Try.func100, Try.call100⟩ noLo 400 [0] [⟨_, _, q0⟩, ⟨_, _, h1⟩] (fun ρ => by kernel_rfl)
theorem r04Store_s : S_r04Store.Ok Try.prog := fun ls hp => Summ.at_canon (by kernel_rfl) (by kernel_rfl) (r04Store_w (lO ls 2 1) (lI ls 0) (lI ls 1) (hp _ (.head _)))

def r04Cas (m : RMem) (a u v : Int) : Bool × RMem :=
  (sel (r04There m a) (m.W.getD (0 + a.toNat * 1) 0 == u) false,
   { r04Told m 3 a (r04There m a) (sel (r04There m a) (m.W.getD (0 + a.toNat * 1) 0 == u) false) with W := sel (r04There m a) (casW m.W (0 + a.toNat * 1) u v) m.W })

def r04Cas_pre (m : RMem) (a : Int) (u : Int) (v : Int) : List Bool := [r04Ok m]
def r04Cas_out (m : RMem) (a : Int) (u : Int) (v : Int) : Ls := [.B (r04Cas m a u v).1, .O 1 (r04Cas m a u v).2]
def S_r04Cas : Summ := { f := 160, args := [.ptr 0 0 (.lit 0) 0, pI64, pU64, pU64], H := [.obj (1, false)], v := pB, ws := [0], H' := [.obj (1, false)], pre := fun ls => r04Cas_pre (lO ls 3 1) (lI ls 0) (lI ls 1) (lI ls 2), out := fun ls => r04Cas_out (lO ls 3 1) (lI ls 0) (lI ls 1) (lI ls 2) }
theorem r04Cas_w (m : RMem) (a : Int) (u : Int) (v : Int) (q0 : (r04Ok m) = true) : S_r04Cas.At Try.prog [.I a, .I u, .I v, .O 1 m] (r04Cas_out m a u v) := by
  unfold r04Cas_out
  unfold r04Cas
  rcases Bool.eq_false_or_eq_true (r04There m a) with h1 | h1
  · obtain ⟨x1, x2, x3⟩ := r04X h1
    simp only [sel_t h1]
    rcases Bool.eq_false_or_eq_true (m.W.getD (0 + a.toNat * 1) 0 == u) with h2 | h2
    · rw [casW_t h2]
      exact way (B0.cons r04There_s|>.cons r04Told_s) ⟨Try.func160, Try.call160⟩ noLo 400 [1,1] [⟨_, _, h1⟩, ⟨_, _, x1⟩, ⟨_, _, x2⟩, ⟨_, _, x3⟩, ⟨_, _, lenT m.W⟩, ⟨_, _, q0⟩, ⟨_, _, h2⟩, ⟨_, _, x1⟩, ⟨_, _, x2⟩, ⟨_, _, x3⟩, ⟨_, _, lenTs m.W (0 + a.toNat * 1) v⟩] (fun ρ => by kernel_rfl)
    · rw [casW_f h2]
      exact way (B0.cons r04There_s|>.cons r04Told_s) ⟨Try.func160, Try.call160⟩ noLo 400 [1,0] [⟨_, _, h1⟩, ⟨_, _, x1⟩, ⟨_, _, x2⟩, ⟨_, _, x3⟩, ⟨_, _, lenT m.W⟩, ⟨_, _, q0⟩, ⟨_, _, h2⟩] (fun ρ => by kernel_rfl)
  · simp only [sel_f h1]
    exact way (B0.cons r04There_s|>.cons r04Told_s) ⟨Try.func160, Try.call160⟩ noLo 400 [0] [⟨_, _, h1⟩, ⟨_, _, q0⟩] (fun ρ => by kernel_rfl)
theorem r04Cas_s : S_r04Cas.Ok Try.prog := fun ls hp => Summ.at_canon (by kernel_rfl) (by kernel_rfl) (r04Cas_w (lO ls 3 1) (lI ls 0) (lI ls 1) (lI ls 2) (hp _ (.head _)))

end Go.Fl
