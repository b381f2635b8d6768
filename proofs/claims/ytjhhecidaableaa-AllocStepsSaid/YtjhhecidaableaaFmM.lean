/- AllocAll: its walk. Conditions: none. -/
import Derived.Test.YtjhhecidaableaaFmL
set_option linter.unusedVariables false
set_option linter.unusedSectionVars false
set_option maxRecDepth 20000
namespace Go.Fl
open Go Go.RowKit Go.Proofs

def aa_ls (c : Int) (k : Int) (l : Int) (i : Int) (p : GPlan) (m : GMem) : Ls := [.I c, .I k, .I l, .I i, .I p.Threads, .I p.Blocks, .I p.Table, .I p.Heap, .I p.Size, .O 0 m]
def aa_lp : Nat → (c k l i : Int) → (p : GPlan) → (m : GMem) → Option (Nat × Ls)
  | 0, _, _, _, _, _, _ => none
  | n + 1, c, k, l, i, p, m => match decide (i ≤ k) with
    | false => some (0, aa_ls c k l i p m)
    | true => match ((l10made_o 0 m (newAlloc p c 0 0)).isSome && (!(decide ((l10made p m c).1 < 0)) && (((l10made p m c).1 == 0) == (i == k)))) with
      | false => none
      | true => match decide ((l10made p m c).1 > 0) with
        | true => aa_lp n c k (l10made p m c).1 (binI .add .i64 i 1) p (l10made p m c).2
        | false => aa_lp n c k l (binI .add .i64 i 1) p (l10made p m c).2
abbrev aa_o (c k l i : Int) (p : GPlan) (m : GMem) : Option (Nat × Ls) := aa_lp 40 c k l i p m

def L_aa : LSumm := { r := 10, n0 := 0, ws := [], tm := tmP 0 97 [(6, .ptr 0 0 (.lit 0) 0), (8, .ptr 1 0 (.lit 0) 0), (10, pI64), (11, pI64), (12, pI64), (13, pI64)], A := [.cells 24 [pI64, pI64, pI64, pI64, pI64], .obj (0, false)], exits := [(.exit 0, tmP 0 97 [(6, .ptr 0 0 (.lit 0) 0), (8, .ptr 1 0 (.lit 0) 0), (10, pI64), (11, pI64), (12, pI64), (13, pI64)], [.cells 24 [pI64, pI64, pI64, pI64, pI64], .obj (0, false)])], pre := fun ls => [(aa_o (lI ls 0) (lI ls 1) (lI ls 2) (lI ls 3) (⟨lI ls 4, lI ls 5, lI ls 6, lI ls 7, lI ls 8⟩) (lO ls 9 0)).isSome], out := fun ls => (aa_o (lI ls 0) (lI ls 1) (lI ls 2) (lI ls 3) (⟨lI ls 4, lI ls 5, lI ls 6, lI ls 7, lI ls 8⟩) (lO ls 9 0)).getD (0, []) }
noncomputable def aa_b : Code := loopAt 10 Try.f13
theorem aa_e : ∀ (n : Nat) (c : Int) (k : Int) (l : Int) (i : Int) (p : GPlan) (m : GMem) (o : Nat × Ls), aa_lp n c k l i p m = some o → o.1 < 1 := by
  intro n
  induction n with
  | zero => intro c k l i p m o h; cases h
  | succ n ih =>
    intro c k l i p m o h
    unfold aa_lp at h
    (repeat' split at h) <;> first | (cases h; done) | (cases h; simp) | exact ih _ _ _ _ _ _ _ h
theorem aa_j (c : Int) (k : Int) (l : Int) (i : Int) (p : GPlan) (m : GMem) (h : (aa_o c k l i p m).isSome = true) : (((aa_o c k l i p m).getD (0, [])).1 == 0) = true := by
  obtain ⟨o, ho⟩ := Option.isSome_iff_exists.1 h
  have := aa_e _ _ _ _ _ _ _ o ho
  rw [ho]
  simp only [Option.getD_some, beq_iff_eq]
  omega
theorem aa_t : ∀ (n : Nat) (c : Int) (k : Int) (l : Int) (i : Int) (p : GPlan) (m : GMem) (o : Nat × Ls), aa_lp n c k l i p m = some o → LoopsTo Try.prog aa_b L_aa (aa_ls c k l i p m) o := by
  intro n
  induction n with
  | zero => intro c k l i p m o h; cases h
  | succ n ih =>
    intro c k l i p m o h
    unfold aa_lp at h
    cases h1 : decide (i ≤ k)
    · rw [h1] at h
      cases h
      exact goOut (B1.cons l10made_s) hloNil 400 (j := 0) _ rfl [0] [⟨_, _, h1⟩] (by kernel_rfl)
    · rw [h1] at h
      cases h2 : ((l10made_o 0 m (newAlloc p c 0 0)).isSome && (!(decide ((l10made p m c).1 < 0)) && (((l10made p m c).1 == 0) == (i == k))))
      · rw [h2] at h; cases h
      · rw [h2] at h
        simp only [Bool.and_eq_true, Bool.not_eq_true'] at h2
        cases h3 : decide ((l10made p m c).1 > 0)
        · rw [h3] at h
          refine goOn (B1.cons l10made_s) hloNil 400 (ls' := aa_ls c k l (binI .add .i64 i 1) p (l10made p m c).2) [1,0,0,0] [⟨_, _, h1⟩, ⟨_, _, h2.1⟩, ⟨_, _, h2.2.1⟩, ⟨_, _, h2.2.2⟩, ⟨_, _, h3⟩] (by kernel_rfl) ?_
          exact ih _ _ _ _ _ _ _ h
        · rw [h3] at h
          refine goOn (B1.cons l10made_s) hloNil 400 (ls' := aa_ls c k (l10made p m c).1 (binI .add .i64 i 1) p (l10made p m c).2) [1,0,0,1] [⟨_, _, h1⟩, ⟨_, _, h2.1⟩, ⟨_, _, h2.2.1⟩, ⟨_, _, h2.2.2⟩, ⟨_, _, h3⟩] (by kernel_rfl) ?_
          exact ih _ _ _ _ _ _ _ h
theorem aa_l : L_aa.Ok Try.prog aa_b := LSumm.ok_of fun ls hp => by
  have h := hp _ (.head _)
  obtain ⟨o, ho⟩ := Option.isSome_iff_exists.1 h
  have e : L_aa.out ls = o := by show (Option.getD _ _) = o; rw [ho]; rfl
  rw [e]
  intro e1 he1
  obtain ⟨n, hn⟩ := aa_t _ (lI ls 0) (lI ls 1) (lI ls 2) (lI ls 3) (⟨lI ls 4, lI ls 5, lI ls 6, lI ls 7, lI ls 8⟩) (lO ls 9 0) o ho e1 he1
  exact ⟨n, hn⟩

def fresh10Ok (p : GPlan) : Bool := (r04New p.Size).1.isSome && ((r09Fresh_o 0 p ((r04New p.Size).1.getD default)).isSome && (decide (2 < (r09FreshM p).W.length) && ((l10fresh_o 0 p (r09Fresh p) (memNew p.Size).1).isSome && (l10fresh p).1.isSome)))
def aaM (n : Int) : GMem := (l10fresh (ccP n)).1.getD default
def aaO (n c : Int) : Option (Nat × Ls) := aa_o c (binI .mul .i64 (ccP n).Blocks (r05Cells (r05Class c))) 0 0 (ccP n) (aaM n)
def aaR (n c : Int) : Ls := ((aaO n c).getD (0, [])).2
def push1 (x : GPush) (m : GMem) : Bool × GPush × GMem := pushStep x m
def push2 (x : GPush) (m : GMem) : Bool × GPush × GMem := pushStep (push1 x m).2.1 (push1 x m).2.2
def push3 (x : GPush) (m : GMem) : Bool × GPush × GMem := pushStep (push2 x m).2.1 (push2 x m).2.2
def aaX (R : Ls) : GPush := newPush (r05List 0 (r05Class (lI R 0))) (lI R 2) (lI R 2) (r05Class (lI R 0))
def aaP (R : Ls) : Bool × GPush × GMem := push3 (aaX R) (lO R 9 0)
def aaM1 (R : Ls) : Int × GMem := l10made (plR R 4) (aaP R).2.2 (lI R 0)
def aaM2 (R : Ls) : Int × GMem := l10made (plR R 4) (aaM1 R).2 (lI R 0)
def aaOk (n c : Int) : Bool := newOk 1 n && (fresh10Ok (ccP n) && ((aaO n c).isSome && (memOk (lO (aaR n c) 9 0) && (memOk (push1 (aaX (aaR n c)) (lO (aaR n c) 9 0)).2.2 && (memOk (push2 (aaX (aaR n c)) (lO (aaR n c) 9 0)).2.2 &&
  ((l10made_o 0 (aaP (aaR n c)).2.2 (newAlloc (plR (aaR n c) 4) (lI (aaR n c) 0) 0 0)).isSome && (((aaM1 (aaR n c)).1 == lI (aaR n c) 2) && (l10made_o 0 (aaM1 (aaR n c)).2 (newAlloc (plR (aaR n c) 4) (lI (aaR n c) 0) 0 0)).isSome)))))))
def aaRes (n c : Int) : Bool := ((aaM2 (aaR n c)).1 == 0)
def AllocAll (a b : Int) : Bool := aaRes (binI .add .i64 1 (kind10 a 4)) (kind10 b 8)

def AllocAll_pre (a : Int) (b : Int) : List Bool := [aaOk (binI .add .i64 1 (kind10 a 4)) (kind10 b 8)]
def AllocAll_out (a : Int) (b : Int) : Ls := [.B (AllocAll a b)]
def S_AllocAll : Summ := { f := 13, args := [pI64, pI64], H := [], v := pB, ws := [], H' := [], pre := fun ls => AllocAll_pre (lI ls 0) (lI ls 1), out := fun ls => AllocAll_out (lI ls 0) (lI ls 1) }
theorem AllocAll_w (a : Int) (b : Int) (q0 : (aaOk (binI .add .i64 1 (kind10 a 4)) (kind10 b 8)) = true) : S_AllocAll.At Try.prog [.I a, .I b] (AllocAll_out a b) := by
  unfold AllocAll_out
  have hs : l10shown = true := by kernel_rfl
  unfold aaOk newOk fresh10Ok at q0
  simp only [Bool.and_eq_true] at q0
  obtain ⟨q0, ⟨q1, q2, q3, q4, q5⟩, q6, q7, q8, q9, qa, qb, qc⟩ := q0
  unfold aaO at q6
  have hA := aa_j _ _ _ _ _ _ q6
  exact way (B1.cons l10shown_s|>.cons kind10_s|>.cons r05New_s|>.cons l10fresh_s|>.cons l10made_s|>.cons r05Class_s|>.cons r05Cells_s|>.cons r05List_s|>.cons newPush_s|>.cons pushStep_s) ⟨Try.func13, Try.call13⟩ (hloCons aa_l (by kernel_rfl) hloNil) 400 [0,1,1] [⟨true, true, rfl⟩, ⟨_, _, q0⟩, ⟨_, _, q1⟩, ⟨_, _, q2⟩, ⟨_, _, q3⟩, ⟨_, _, q4⟩, ⟨true, true, rfl⟩, ⟨_, _, hs⟩, ⟨_, _, q5⟩, ⟨_, _, q6⟩, ⟨_, _, hA⟩, ⟨_, _, q7⟩, ⟨_, _, q8⟩, ⟨_, _, q9⟩, ⟨_, _, qa⟩, ⟨_, _, qb⟩, ⟨_, _, qc⟩] (fun ρ => by kernel_rfl)
theorem AllocAll_s : S_AllocAll.Ok Try.prog := fun ls hp => Summ.at_canon (by kernel_rfl) (by kernel_rfl) (AllocAll_w (lI ls 0) (lI ls 1) (hp _ (.head _)))

def aaCk (n c : Nat) : Bool := aaOk (binI .add .i64 1 (n : Int)) (c : Int) && aaRes (binI .add .i64 1 (n : Int)) (c : Int)

end Go.Fl
