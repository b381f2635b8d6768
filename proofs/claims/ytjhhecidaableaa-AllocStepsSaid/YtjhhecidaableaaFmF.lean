/- Plans and new memories: loops, and their contracts. Conditions: none. -/
import Derived.Test.YtjhhecidaableaaFmE
import Derived.Test.YtjhhecidaableaaFlLp
set_option linter.unusedVariables false
set_option linter.unusedSectionVars false
set_option maxRecDepth 20000
namespace Go.Fl
open Go Go.RowKit Go.Proofs

theorem inbX {e : Int} {l : Nat} (h : (decide (0 ≤ e) && decide (e < ((l : Nat) : Int))) = true) : decide (0 ≤ e) = true ∧ decide (e < ((l : Nat) : Int)) = true ∧ decide (0 + e.toNat * 1 < l) = true := by
  simp only [Bool.and_eq_true, decide_eq_true_eq] at h ⊢
  omega

def r05New_ls (b : Int) (e : Int) (q : GPlan) (p : GPlan) : Ls := [.I b, .I e, .I q.Threads, .I q.Blocks, .I q.Table, .I q.Heap, .I q.Size, .I p.Threads, .I p.Blocks, .I p.Table, .I p.Heap, .I p.Size]
def r05New_lp : Nat → (b e : Int) → (q p : GPlan) → Option (Nat × Ls)
  | 0, _, _, _, _ => none
  | n + 1, b, e, q, p => match decide (p.Heap < binI .add .i64 p.Table b) with
    | true => r05New_lp n b e q { p with Heap := binI .add .i64 p.Heap 32 }
    | false => some (0, r05New_ls b e q p)
abbrev r05New_o (b e : Int) (q p : GPlan) : Option (Nat × Ls) := r05New_lp 20 b e q p

def L_r05New : LSumm := { r := 4, n0 := 0, ws := [], tm := tmP 0 45 [(1, pI64), (4, .ptr 0 0 (.lit 0) 0), (5, pI64), (6, .ptr 1 0 (.lit 0) 0)], A := [.cells 24 [pI64, pI64, pI64, pI64, pI64], .cells 24 [pI64, pI64, pI64, pI64, pI64]], exits := [(.exit 0, tmP 0 45 [(1, pI64), (4, .ptr 0 0 (.lit 0) 0), (5, pI64), (6, .ptr 1 0 (.lit 0) 0)], [.cells 24 [pI64, pI64, pI64, pI64, pI64], .cells 24 [pI64, pI64, pI64, pI64, pI64]])], pre := fun ls => [(r05New_o (lI ls 0) (lI ls 1) (⟨lI ls 2, lI ls 3, lI ls 4, lI ls 5, lI ls 6⟩) (⟨lI ls 7, lI ls 8, lI ls 9, lI ls 10, lI ls 11⟩)).isSome], out := fun ls => (r05New_o (lI ls 0) (lI ls 1) (⟨lI ls 2, lI ls 3, lI ls 4, lI ls 5, lI ls 6⟩) (⟨lI ls 7, lI ls 8, lI ls 9, lI ls 10, lI ls 11⟩)).getD (0, []) }
noncomputable def r05New_b : Code := loopAt 4 Try.f17
theorem r05New_e : ∀ (n : Nat) (b : Int) (e : Int) (q : GPlan) (p : GPlan) (o : Nat × Ls), r05New_lp n b e q p = some o → o.1 < 1 := by
  intro n
  induction n with
  | zero => intro b e q p o h; cases h
  | succ n ih =>
    intro b e q p o h
    unfold r05New_lp at h
    (repeat' split at h) <;> first | (cases h; done) | (cases h; simp) | exact ih _ _ _ _ _ h
theorem r05New_j (b : Int) (e : Int) (q : GPlan) (p : GPlan) (h : (r05New_o b e q p).isSome = true) : (((r05New_o b e q p).getD (0, [])).1 == 0) = true := by
  obtain ⟨o, ho⟩ := Option.isSome_iff_exists.1 h
  have := r05New_e _ _ _ _ _ o ho
  rw [ho]
  simp only [Option.getD_some, beq_iff_eq]
  omega
theorem r05New_t : ∀ (n : Nat) (b : Int) (e : Int) (q : GPlan) (p : GPlan) (o : Nat × Ls), r05New_lp n b e q p = some o → LoopsTo Try.prog r05New_b L_r05New (r05New_ls b e q p) o := by
  intro n
  induction n with
  | zero => intro b e q p o h; cases h
  | succ n ih =>
    intro b e q p o h
    unfold r05New_lp at h
    cases h1 : decide (p.Heap < binI .add .i64 p.Table b)
    · rw [h1] at h
      cases h
      exact goOut (B0) hloNil 400 (j := 0) _ rfl [0] [⟨_, _, h1⟩] (by kernel_rfl)
    · rw [h1] at h
      refine goOn (B0) hloNil 400 (ls' := r05New_ls b e q { p with Heap := binI .add .i64 p.Heap 32 }) [1] [⟨_, _, h1⟩] (by kernel_rfl) ?_
      exact ih _ _ _ _ _ h
theorem r05New_l : L_r05New.Ok Try.prog r05New_b := LSumm.ok_of fun ls hp => by
  have h := hp _ (.head _)
  obtain ⟨o, ho⟩ := Option.isSome_iff_exists.1 h
  have e : L_r05New.out ls = o := by show (Option.getD _ _) = o; rw [ho]; rfl
  rw [e]
  intro e1 he1
  obtain ⟨n, hn⟩ := r05New_t _ (lI ls 0) (lI ls 1) (⟨lI ls 2, lI ls 3, lI ls 4, lI ls 5, lI ls 6⟩) (⟨lI ls 7, lI ls 8, lI ls 9, lI ls 10, lI ls 11⟩) o ho e1 he1
  exact ⟨n, hn⟩

def r05NewR (t b : Int) : Ls := ((r05New_o b 0 ⟨0, 0, 0, 0, 0⟩ ⟨t, b, binI .add .i64 10 t, 0, 0⟩).getD (0, [])).2
def r05New (t b : Int) : GPlan × Int := match decide (t < 1) with
  | true => (⟨0, 0, 0, 0, 0⟩, 1)
  | false => match decide (t > 64) with
    | true => (⟨0, 0, 0, 0, 0⟩, 1)
    | false => match decide (b < 1) with
      | true => (⟨0, 0, 0, 0, 0⟩, 1)
      | false => match decide (b > 64) with
        | true => (⟨0, 0, 0, 0, 0⟩, 1)
        | false => (⟨lI (r05NewR t b) 7, lI (r05NewR t b) 8, lI (r05NewR t b) 9, lI (r05NewR t b) 10, binI .add .i64 (lI (r05NewR t b) 10) (binI .mul .i64 32 (lI (r05NewR t b) 0))⟩, 0)

def r05New_pre (t : Int) (b : Int) : List Bool := [(r05New_o b 0 ⟨0, 0, 0, 0, 0⟩ ⟨t, b, binI .add .i64 10 t, 0, 0⟩).isSome]
def r05New_out (t : Int) (b : Int) : Ls := [.I (r05New t b).1.Threads, .I (r05New t b).1.Blocks, .I (r05New t b).1.Table, .I (r05New t b).1.Heap, .I (r05New t b).1.Size, .I (r05New t b).2]
def S_r05New : Summ := { f := 17, args := [pI64, pI64], H := [], v := .tuple [.agg [pI64, pI64, pI64, pI64, pI64], pI64], ws := [], H' := [], pre := fun ls => r05New_pre (lI ls 0) (lI ls 1), out := fun ls => r05New_out (lI ls 0) (lI ls 1) }
theorem r05New_w (t : Int) (b : Int) (q0 : ((r05New_o b 0 ⟨0, 0, 0, 0, 0⟩ ⟨t, b, binI .add .i64 10 t, 0, 0⟩).isSome) = true) : S_r05New.At Try.prog [.I t, .I b] (r05New_out t b) := by
  unfold r05New_out
  unfold r05New
  have hj := r05New_j b 0 ⟨0, 0, 0, 0, 0⟩ ⟨t, b, binI .add .i64 10 t, 0, 0⟩ q0
  cases h1 : decide (t < 1)
  · cases h2 : decide (t > 64)
    · cases h3 : decide (b < 1)
      · cases h4 : decide (b > 64)
        · exact way (B0) ⟨Try.func17, Try.call17⟩ (hloCons r05New_l (by kernel_rfl) hloNil) 400 [0,0,0,0] [⟨_, _, h1⟩, ⟨_, _, h2⟩, ⟨_, _, h3⟩, ⟨_, _, h4⟩, ⟨_, _, q0⟩, ⟨_, _, hj⟩] (fun ρ => by kernel_rfl)
        · exact way (B0) ⟨Try.func17, Try.call17⟩ (hloCons r05New_l (by kernel_rfl) hloNil) 400 [0,0,0,1] [⟨_, _, h1⟩, ⟨_, _, h2⟩, ⟨_, _, h3⟩, ⟨_, _, h4⟩] (fun ρ => by kernel_rfl)
      · exact way (B0) ⟨Try.func17, Try.call17⟩ (hloCons r05New_l (by kernel_rfl) hloNil) 400 [0,0,1] [⟨_, _, h1⟩, ⟨_, _, h2⟩, ⟨_, _, h3⟩] (fun ρ => by kernel_rfl)
    · exact way (B0) ⟨Try.func17, Try.call17⟩ (hloCons r05New_l (by kernel_rfl) hloNil) 400 [0,1] [⟨_, _, h1⟩, ⟨_, _, h2⟩] (fun ρ => by kernel_rfl)
  · exact way (B0) ⟨Try.func17, Try.call17⟩ (hloCons r05New_l (by kernel_rfl) hloNil) 400 [1] [⟨_, _, h1⟩] (fun ρ => by kernel_rfl)
theorem r05New_s : S_r05New.Ok Try.prog := fun ls hp => Summ.at_canon (by kernel_rfl) (by kernel_rfl) (r05New_w (lI ls 0) (lI ls 1) (hp _ (.head _)))

def r05Block_ls (a : Int) (r : Int) (i : Int) (p : GPlan) : Ls := [.I a, .I r, .I i, .I p.Threads, .I p.Blocks, .I p.Table, .I p.Heap, .I p.Size]
def r05Block_lp : Nat → (a r i : Int) → (p : GPlan) → Option (Nat × Ls)
  | 0, _, _, _, _ => none
  | n + 1, a, r, i, p => match decide (i < p.Blocks) with
    | false => some (0, r05Block_ls a r i p)
    | true => match decide (a ≥ binI .add .i64 p.Heap (binI .mul .i64 32 i)) with
      | false => r05Block_lp n a r (binI .add .i64 i 1) p
      | true => match decide (a < binI .add .i64 (binI .add .i64 p.Heap (binI .mul .i64 32 i)) 32) with
        | false => r05Block_lp n a r (binI .add .i64 i 1) p
        | true => some (1, [.I i])
abbrev r05Block_o (a r i : Int) (p : GPlan) : Option (Nat × Ls) := r05Block_lp (p.Blocks.toNat + 1) a r i p

def L_r05Block : LSumm := { r := 2, n0 := 0, ws := [], tm := tmP 0 30 [(1, pI64), (2, .ptr 0 0 (.lit 0) 0), (4, pI64), (5, pI64)], A := [.cells 24 [pI64, pI64, pI64, pI64, pI64]], exits := [(.exit 0, tmP 0 30 [(1, pI64), (2, .ptr 0 0 (.lit 0) 0), (4, pI64), (5, pI64)], [.cells 24 [pI64, pI64, pI64, pI64, pI64]]), (.ret, tmP 0 30 [(4, pI64)], [])], pre := fun ls => [(r05Block_o (lI ls 0) (lI ls 1) (lI ls 2) (⟨lI ls 3, lI ls 4, lI ls 5, lI ls 6, lI ls 7⟩)).isSome], out := fun ls => (r05Block_o (lI ls 0) (lI ls 1) (lI ls 2) (⟨lI ls 3, lI ls 4, lI ls 5, lI ls 6, lI ls 7⟩)).getD (0, []) }
noncomputable def r05Block_b : Code := loopAt 2 Try.f50
theorem r05Block_e : ∀ (n : Nat) (a : Int) (r : Int) (i : Int) (p : GPlan) (o : Nat × Ls), r05Block_lp n a r i p = some o → o.1 < 2 := by
  intro n
  induction n with
  | zero => intro a r i p o h; cases h
  | succ n ih =>
    intro a r i p o h
    unfold r05Block_lp at h
    (repeat' split at h) <;> first | (cases h; done) | (cases h; simp) | exact ih _ _ _ _ _ h
theorem r05Block_j (a : Int) (r : Int) (i : Int) (p : GPlan) (h : (r05Block_o a r i p).isSome = true) : ((r05Block_o a r i p).getD (0, [])).1 < 2 := by
  obtain ⟨o, ho⟩ := Option.isSome_iff_exists.1 h
  have := r05Block_e _ _ _ _ _ o ho
  rw [ho]
  exact this
theorem r05Block_t : ∀ (n : Nat) (a : Int) (r : Int) (i : Int) (p : GPlan) (o : Nat × Ls), r05Block_lp n a r i p = some o → LoopsTo Try.prog r05Block_b L_r05Block (r05Block_ls a r i p) o := by
  intro n
  induction n with
  | zero => intro a r i p o h; cases h
  | succ n ih =>
    intro a r i p o h
    unfold r05Block_lp at h
    cases h1 : decide (i < p.Blocks)
    · rw [h1] at h
      cases h
      exact goOut (B0) hloNil 400 (j := 0) _ rfl [0] [⟨_, _, h1⟩] (by kernel_rfl)
    · cases h2 : decide (a ≥ binI .add .i64 p.Heap (binI .mul .i64 32 i))
      · rw [h1, h2] at h
        refine goOn (B0) hloNil 400 (ls' := r05Block_ls a r (binI .add .i64 i 1) p) [1,0] [⟨_, _, h1⟩, ⟨_, _, h2⟩] (by kernel_rfl) ?_
        exact ih _ _ _ _ _ h
      · cases h3 : decide (a < binI .add .i64 (binI .add .i64 p.Heap (binI .mul .i64 32 i)) 32)
        · rw [h1, h2, h3] at h
          refine goOn (B0) hloNil 400 (ls' := r05Block_ls a r (binI .add .i64 i 1) p) [1,1,0] [⟨_, _, h1⟩, ⟨_, _, h2⟩, ⟨_, _, h3⟩] (by kernel_rfl) ?_
          exact ih _ _ _ _ _ h
        · rw [h1, h2, h3] at h
          cases h
          exact goOut (B0) hloNil 400 (j := 1) _ rfl [1,1,1] [⟨_, _, h1⟩, ⟨_, _, h2⟩, ⟨_, _, h3⟩] (by kernel_rfl)
theorem r05Block_l : L_r05Block.Ok Try.prog r05Block_b := LSumm.ok_of fun ls hp => by
  have h := hp _ (.head _)
  obtain ⟨o, ho⟩ := Option.isSome_iff_exists.1 h
  have e : L_r05Block.out ls = o := by show (Option.getD _ _) = o; rw [ho]; rfl
  rw [e]
  intro e1 he1
  obtain ⟨n, hn⟩ := r05Block_t _ (lI ls 0) (lI ls 1) (lI ls 2) (⟨lI ls 3, lI ls 4, lI ls 5, lI ls 6, lI ls 7⟩) o ho e1 he1
  exact ⟨n, hn⟩

def r05Block (p : GPlan) (a : Int) : Int := match (((r05Block_o a 0 0 p).getD (0, [])).1 == 0) with
  | true => -1
  | false => lI ((r05Block_o a 0 0 p).getD (0, [])).2 0

def r05Block_pre (p : GPlan) (a : Int) : List Bool := [(r05Block_o a 0 0 p).isSome]
def r05Block_out (p : GPlan) (a : Int) : Ls := [.I (r05Block p a)]
def S_r05Block : Summ := { f := 50, args := [.agg [pI64, pI64, pI64, pI64, pI64], pI64], H := [], v := pI64, ws := [], H' := [], pre := fun ls => r05Block_pre (⟨lI ls 0, lI ls 1, lI ls 2, lI ls 3, lI ls 4⟩) (lI ls 5), out := fun ls => r05Block_out (⟨lI ls 0, lI ls 1, lI ls 2, lI ls 3, lI ls 4⟩) (lI ls 5) }
theorem r05Block_w (p : GPlan) (a : Int) (q0 : ((r05Block_o a 0 0 p).isSome) = true) : S_r05Block.At Try.prog [.I p.Threads, .I p.Blocks, .I p.Table, .I p.Heap, .I p.Size, .I a] (r05Block_out p a) := by
  unfold r05Block_out
  unfold r05Block
  have hj := r05Block_j a 0 0 p q0
  cases h1 : (((r05Block_o a 0 0 p).getD (0, [])).1 == 0)
  · have h2 : (((r05Block_o a 0 0 p).getD (0, [])).1 == 1) = true := by simp only [beq_eq_false_iff_ne, ne_eq, beq_iff_eq] at h1 ⊢; omega
    exact way (B0) ⟨Try.func50, Try.call50⟩ (hloCons r05Block_l (by kernel_rfl) hloNil) 400 [1] [⟨_, _, q0⟩, ⟨_, _, h2⟩] (fun ρ => by kernel_rfl)
  · exact way (B0) ⟨Try.func50, Try.call50⟩ (hloCons r05Block_l (by kernel_rfl) hloNil) 400 [0] [⟨_, _, q0⟩, ⟨_, _, h1⟩] (fun ρ => by kernel_rfl)
theorem r05Block_s : S_r05Block.Ok Try.prog := fun ls hp => Summ.at_canon (by kernel_rfl) (by kernel_rfl) (r05Block_w (⟨lI ls 0, lI ls 1, lI ls 2, lI ls 3, lI ls 4⟩) (lI ls 5) (hp _ (.head _)))

def r09Fresh_ls (i : Int) (p : GPlan) (m : RMem) : Ls := [.I i, .I p.Threads, .I p.Blocks, .I p.Table, .I p.Heap, .I p.Size, .O 1 m]
def r09Fresh_lp : Nat → (i : Int) → (p : GPlan) → (m : RMem) → Option (Nat × Ls)
  | 0, _, _, _ => none
  | n + 1, i, p, m => match decide (i < p.Blocks) with
    | false => some (0, r09Fresh_ls i p m)
    | true => match decide (0 ≤ r05Entry p i) && decide (r05Entry p i < ((m.W.length : Nat) : Int)) with
      | false => none
      | true => r09Fresh_lp n (binI .add .i64 i 1) p { m with W := m.W.set (0 + (r05Entry p i).toNat * 1) (r03Block ⟨0, 0, 0, sel (i == binI .sub .i64 p.Blocks 1) 0 (binI .add .i64 i 2)⟩) }
abbrev r09Fresh_o (i : Int) (p : GPlan) (m : RMem) : Option (Nat × Ls) := r09Fresh_lp (p.Blocks.toNat + 1) i p m

def L_r09Fresh : LSumm := { r := 3, n0 := 0, ws := [], tm := tmP 0 45 [(1, .ptr 0 0 (.lit 0) 0), (3, .ptr 1 0 (.lit 0) 0), (5, pI64)], A := [.cells 24 [pI64, pI64, pI64, pI64, pI64], .obj (1, false)], exits := [(.exit 0, tmP 0 45 [(1, .ptr 0 0 (.lit 0) 0), (3, .ptr 1 0 (.lit 0) 0), (5, pI64)], [.cells 24 [pI64, pI64, pI64, pI64, pI64], .obj (1, false)])], pre := fun ls => [(r09Fresh_o (lI ls 0) (⟨lI ls 1, lI ls 2, lI ls 3, lI ls 4, lI ls 5⟩) (lO ls 6 1)).isSome], out := fun ls => (r09Fresh_o (lI ls 0) (⟨lI ls 1, lI ls 2, lI ls 3, lI ls 4, lI ls 5⟩) (lO ls 6 1)).getD (0, []) }
noncomputable def r09Fresh_b : Code := loopAt 3 Try.f20
theorem r09Fresh_e : ∀ (n : Nat) (i : Int) (p : GPlan) (m : RMem) (o : Nat × Ls), r09Fresh_lp n i p m = some o → o.1 < 1 := by
  intro n
  induction n with
  | zero => intro i p m o h; cases h
  | succ n ih =>
    intro i p m o h
    unfold r09Fresh_lp at h
    (repeat' split at h) <;> first | (cases h; done) | (cases h; simp) | exact ih _ _ _ _ h
theorem r09Fresh_j (i : Int) (p : GPlan) (m : RMem) (h : (r09Fresh_o i p m).isSome = true) : (((r09Fresh_o i p m).getD (0, [])).1 == 0) = true := by
  obtain ⟨o, ho⟩ := Option.isSome_iff_exists.1 h
  have := r09Fresh_e _ _ _ _ o ho
  rw [ho]
  simp only [Option.getD_some, beq_iff_eq]
  omega
theorem r09Fresh_t : ∀ (n : Nat) (i : Int) (p : GPlan) (m : RMem) (o : Nat × Ls), r09Fresh_lp n i p m = some o → LoopsTo Try.prog r09Fresh_b L_r09Fresh (r09Fresh_ls i p m) o := by
  intro n
  induction n with
  | zero => intro i p m o h; cases h
  | succ n ih =>
    intro i p m o h
    unfold r09Fresh_lp at h
    cases h1 : decide (i < p.Blocks)
    · rw [h1] at h
      cases h
      exact goOut (B0.cons r05Entry_s|>.cons r03Block_s) hloNil 400 (j := 0) _ rfl [0] [⟨_, _, h1⟩] (by kernel_rfl)
    · rw [h1] at h
      cases h2 : (decide (0 ≤ r05Entry p i) && decide (r05Entry p i < ((m.W.length : Nat) : Int)))
      · rw [h2] at h; cases h
      · rw [h2] at h
        obtain ⟨x1, x2, x3⟩ := inbX h2
        rcases Bool.eq_false_or_eq_true (i == binI .sub .i64 p.Blocks 1) with h3 | h3
        · rw [sel_t h3] at h
          refine goOn (B0.cons r05Entry_s|>.cons r03Block_s) hloNil 400 (ls' := r09Fresh_ls (binI .add .i64 i 1) p { m with W := m.W.set (0 + (r05Entry p i).toNat * 1) (r03Block ⟨0, 0, 0, 0⟩) }) [1,1] [⟨_, _, h1⟩, ⟨_, _, h3⟩, ⟨_, _, x1⟩, ⟨_, _, x2⟩, ⟨_, _, x3⟩, ⟨_, _, lenTs m.W (0 + (r05Entry p i).toNat * 1) (r03Block ⟨0, 0, 0, 0⟩)⟩] (by kernel_rfl) ?_
          exact ih _ _ _ _ h
        · rw [sel_f h3] at h
          refine goOn (B0.cons r05Entry_s|>.cons r03Block_s) hloNil 400 (ls' := r09Fresh_ls (binI .add .i64 i 1) p { m with W := m.W.set (0 + (r05Entry p i).toNat * 1) (r03Block ⟨0, 0, 0, binI .add .i64 i 2⟩) }) [1,0] [⟨_, _, h1⟩, ⟨_, _, h3⟩, ⟨_, _, x1⟩, ⟨_, _, x2⟩, ⟨_, _, x3⟩, ⟨_, _, lenTs m.W (0 + (r05Entry p i).toNat * 1) (r03Block ⟨0, 0, 0, binI .add .i64 i 2⟩)⟩] (by kernel_rfl) ?_
          exact ih _ _ _ _ h
theorem r09Fresh_l : L_r09Fresh.Ok Try.prog r09Fresh_b := LSumm.ok_of fun ls hp => by
  have h := hp _ (.head _)
  obtain ⟨o, ho⟩ := Option.isSome_iff_exists.1 h
  have e : L_r09Fresh.out ls = o := by show (Option.getD _ _) = o; rw [ho]; rfl
  rw [e]
  intro e1 he1
  obtain ⟨n, hn⟩ := r09Fresh_t _ (lI ls 0) (⟨lI ls 1, lI ls 2, lI ls 3, lI ls 4, lI ls 5⟩) (lO ls 6 1) o ho e1 he1
  exact ⟨n, hn⟩

def r09FreshM (p : GPlan) : RMem := lO ((r09Fresh_o 0 p ((r04New p.Size).1.getD default)).getD (0, [])).2 6 1
def r09Fresh (p : GPlan) : RMem := { r09FreshM p with W := (r09FreshM p).W.set (2 + 0 * 0) (r03Top ⟨1, 0⟩) }

def r09Fresh_pre (p : GPlan) : List Bool := [(r04New p.Size).1.isSome, (r09Fresh_o 0 p ((r04New p.Size).1.getD default)).isSome, decide (2 < (r09FreshM p).W.length)]
def r09Fresh_out (p : GPlan) : Ls := [.O 1 (r09Fresh p)]
def S_r09Fresh : Summ := { f := 20, args := [.agg [pI64, pI64, pI64, pI64, pI64]], H := [], v := .ptr 0 0 (.lit 0) 0, ws := [], H' := [.obj (1, false)], pre := fun ls => r09Fresh_pre (⟨lI ls 0, lI ls 1, lI ls 2, lI ls 3, lI ls 4⟩), out := fun ls => r09Fresh_out (⟨lI ls 0, lI ls 1, lI ls 2, lI ls 3, lI ls 4⟩) }
theorem r09Fresh_w (p : GPlan) (q0 : ((r04New p.Size).1.isSome) = true) (q1 : ((r09Fresh_o 0 p ((r04New p.Size).1.getD default)).isSome) = true) (q2 : (decide (2 < (r09FreshM p).W.length)) = true) : S_r09Fresh.At Try.prog [.I p.Threads, .I p.Blocks, .I p.Table, .I p.Heap, .I p.Size] (r09Fresh_out p) := by
  unfold r09Fresh_out
  have h1 := r09Fresh_j 0 p ((r04New p.Size).1.getD default) q1
  have h2 : decide ((2 : Int) < (((r09FreshM p).W.length : Nat) : Int)) = true := by simp only [decide_eq_true_eq] at q2 ⊢; omega
  have h3 : decide (2 + (0 : Int).toNat * 0 < (r09FreshM p).W.length) = true := by simp only [decide_eq_true_eq] at q2 ⊢; omega
  exact way (B0.cons r04New_s|>.cons r05Entry_s|>.cons r03Block_s|>.cons r03Top_s) ⟨Try.func20, Try.call20⟩ (hloCons r09Fresh_l (by kernel_rfl) hloNil) 400 [] [⟨_, _, q0⟩, ⟨_, _, q1⟩, ⟨_, _, h1⟩, ⟨_, _, h2⟩, ⟨_, _, h3⟩, ⟨_, _, lenTs (r09FreshM p).W (2 + 0 * 0) (r03Top ⟨1, 0⟩)⟩] (fun ρ => by kernel_rfl)
theorem r09Fresh_s : S_r09Fresh.Ok Try.prog := fun ls hp => Summ.at_canon (by kernel_rfl) (by kernel_rfl) (r09Fresh_w (⟨lI ls 0, lI ls 1, lI ls 2, lI ls 3, lI ls 4⟩) (hp _ (.head _)) (hp _ (.tail _ (.head _))) (hp _ (.tail _ (.tail _ (.head _)))))

end Go.Fl
