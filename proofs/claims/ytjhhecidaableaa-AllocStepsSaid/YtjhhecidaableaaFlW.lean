/- Patterns of values and blocks: their leaves taken and put. Conditions: none. -/
import Derived.Test.YtjhhecidaableaaFlU
set_option linter.unusedSimpArgs false
set_option linter.unusedVariables false
set_option linter.unusedSectionVars false
namespace Go.Fl
open Go Go.RowKit
variable [Objs]

inductive Leaf : Type
  | I (n : Int)
  | L (n : Int)      -- an integer that stands in the text
  | B (b : Bool)
  | A (l : List Int)
  | O (t : Nat) (x : T t)
  | P (t : Nat) (x : Option (T t))

abbrev Ls := List Leaf

def Leaf.i : Leaf → Int
  | .I n => n
  | .L n => n
  | _ => 0
def Leaf.b : Leaf → Bool
  | .B n => n
  | _ => false
def Leaf.a : Leaf → List Int
  | .A n => n
  | _ => []
def Leaf.o (l : Leaf) (t : Nat) : T t :=
  match l with
  | .O t' x => if h : t' = t then h ▸ x else dflt t
  | _ => dflt t
def Leaf.p (l : Leaf) (t : Nat) : Option (T t) :=
  match l with
  | .P t' x => if h : t' = t then h ▸ x else none
  | _ => none

def lI (ls : Ls) (k : Nat) : Int := (ls.getD k (.I 0)).i
def lB (ls : Ls) (k : Nat) : Bool := (ls.getD k (.I 0)).b
def lA (ls : Ls) (k : Nat) : List Int := (ls.getD k (.I 0)).a
def lO (ls : Ls) (k t : Nat) : T t := (ls.getD k (.I 0)).o t
def lP (ls : Ls) (k t : Nat) : Option (T t) := (ls.getD k (.I 0)).p t

@[reducible] def LU : Lf := ⟨Unit, Unit, Unit, Nat × Bool⟩

def fillE (ls : Ls) : SE LU → Nat → SE L0 × Nat
  | .lf _, k => (.lf (lI ls k), k + 1)
  | .lit n, k => (.lit n, k)
  | _, k => (.lit 0, k)
def fillB (ls : Ls) : SB LU → Nat → SB L0 × Nat
  | .lf _, k => (.lf (lB ls k), k + 1)
  | .lit n, k => (.lit n, k)
  | _, k => (.lit false, k)
def fillA (ls : Ls) : SA LU → Nat → SA L0 × Nat
  | .lf _, k => (.lf (lA ls k), k + 1)
  | _, k => (.nil, k)
def fillC (ls : Ls) : ACap LU → Nat → ACap L0 × Nat
  | .known e, k => (.known (fillE ls e k).1, (fillE ls e k).2)
  | .minus a b, k => (.minus (fillE ls a k).1 (fillE ls b (fillE ls a k).2).1, (fillE ls b (fillE ls a k).2).2)
  | .rest e, k => (.rest (fillE ls e k).1, (fillE ls e k).2)

mutual
def fillV (ls : Ls) : AV LU → Nat → AV L0 × Nat
  | .int k e, n => (.int k (fillE ls e n).1, (fillE ls e n).2)
  | .bool b, n => (.bool (fillB ls b n).1, (fillB ls b n).2)
  | .flat v, n => (.flat v, n)
  | .nilp, n => (.nilp, n)
  | .ptr i c t s, n => if s = 0 then (.ptr i c (.lit 0) 0, n) else (.ptr i c (fillE ls t n).1 s, (fillE ls t n).2)
  | .nils, n => (.nils, n)
  | .slice i c t s len cap, n =>
    if s = 0 then (.slice i c (.lit 0) 0 (fillE ls len n).1 (fillC ls cap (fillE ls len n).2).1, (fillC ls cap (fillE ls len n).2).2)
    else (.slice i c (fillE ls t n).1 s (fillE ls len (fillE ls t n).2).1 (fillC ls cap (fillE ls len (fillE ls t n).2).2).1, (fillC ls cap (fillE ls len (fillE ls t n).2).2).2)
  | .nilf, n => (.nilf, n)
  | .unk i, n => (.unk i, n)
  | .opt i, n => (.opt i, n)
  | .fsel e fs, n => (.fsel (fillE ls e n).1 fs, (fillE ls e n).2)
  | .sl i, n => (.sl i, n)
  | .func f a b, n => (.func f (fillVs ls a n).1 (fillVs ls b (fillVs ls a n).2).1, (fillVs ls b (fillVs ls a n).2).2)
  | .agg vs, n => (.agg (fillVs ls vs n).1, (fillVs ls vs n).2)
  | .tuple vs, n => (.tuple (fillVs ls vs n).1, (fillVs ls vs n).2)
def fillVs (ls : Ls) : List (AV LU) → Nat → List (AV L0) × Nat
  | [], n => ([], n)
  | v :: r, n => ((fillV ls v n).1 :: (fillVs ls r (fillV ls v n).2).1, (fillVs ls r (fillV ls v n).2).2)
end

def fillBl (ls : Ls) : ABlock LU → Nat → ABlock L0 × Nat
  | .gone, n => (.gone, n)
  | .cells e vs, n => (.cells e (fillVs ls vs n).1, (fillVs ls vs n).2)
  | .arr e k a, n => (.arr e k (fillA ls a n).1, (fillA ls a n).2)
  | .opq e s c, n => (.opq e s (fillE ls c n).1, (fillE ls c n).2)
  | .esl, n => (.esl, n)
  | .lst e k a, n => (.lst e k (fillA ls a n).1, (fillA ls a n).2)
  | .olst e s c, n => (.olst e s (fillE ls c n).1, (fillE ls c n).2)
  | .ro k a, n => (.ro k (fillA ls a n).1, (fillA ls a n).2)
  | .obj (t, false), n => (.obj (.one t (lO ls n t)), n + 1)
  | .obj (t, true), n => (.obj (.opt t (lP ls n t)), n + 1)
def fillBs (ls : Ls) : List (ABlock LU) → Nat → List (ABlock L0) × Nat
  | [], n => ([], n)
  | b :: r, n => ((fillBl ls b n).1 :: (fillBs ls r (fillBl ls b n).2).1, (fillBs ls r (fillBl ls b n).2).2)

def takeE : SE LU → SE L0 → Option Ls
  | .lf _, .lit n => some [.L n]
  | .lf _, e => some [.I (denI e)]
  | .lit n, .lit m => if n = m then some [] else none
  | _, _ => none
def takeB : SB LU → SB L0 → Option Ls
  | .lf _, e => some [.B (denB e)]
  | .lit n, .lit m => if n = m then some [] else none
  | _, _ => none
def takeA : SA LU → SA L0 → Option Ls
  | .lf _, e => some [.A (denA e)]
  | _, _ => none
def cat2 (a b : Option Ls) : Option Ls :=
  match a, b with
  | some x, some y => some (x ++ y)
  | _, _ => none
def takeC : ACap LU → ACap L0 → Option Ls
  | .known e, .known e' => takeE e e'
  | .minus a b, .minus a' b' => cat2 (takeE a a') (takeE b b')
  | .rest e, .rest e' => takeE e e'
  | _, _ => none

mutual
def takeV : AV LU → AV L0 → Option Ls
  | .int k e, .int k' e' => if k = k' then takeE e e' else none
  | .bool b, .bool b' => takeB b b'
  | .nilp, .nilp => some []
  | .ptr i c t s, .ptr i' c' t' s' => if i = i' ∧ c = c' ∧ s = s' then (if s = 0 then some [] else takeE t t') else none
  | .nils, .nils => some []
  | .slice i c t s len cap, .slice i' c' t' s' len' cap' => if i = i' ∧ c = c' ∧ s = s' then (if s = 0 then cat2 (takeE len len') (takeC cap cap') else cat2 (takeE t t') (cat2 (takeE len len') (takeC cap cap'))) else none
  | .nilf, .nilf => some []
  | .unk i, .unk i' => if i = i' then some [] else none
  | .opt i, .opt i' => if i = i' then some [] else none
  | .fsel e fs, .fsel e' fs' => if fs = fs' then takeE e e' else none
  | .sl i, .sl i' => if i = i' then some [] else none
  | .func f a b, .func f' a' b' => if f = f' then cat2 (takeVs a a') (takeVs b b') else none
  | .agg vs, .agg vs' => takeVs vs vs'
  | .tuple vs, .tuple vs' => takeVs vs vs'
  | _, _ => none
def takeVs : List (AV LU) → List (AV L0) → Option Ls
  | [], [] => some []
  | p :: r, v :: r' => cat2 (takeV p v) (takeVs r r')
  | _, _ => none
end

def takeBl : ABlock LU → ABlock L0 → Option Ls
  | .gone, .gone => some []
  | .cells e vs, .cells e' vs' => if e = e' then takeVs vs vs' else none
  | .arr e k a, .arr e' k' a' => if e = e' ∧ k = k' then takeA a a' else none
  | .opq e s c, .opq e' s' c' => if e = e' ∧ s = s' then takeE c c' else none
  | .esl, .esl => some []
  | .lst e k a, .lst e' k' a' => if e = e' ∧ k = k' then takeA a a' else none
  | .olst e s c, .olst e' s' c' => if e = e' ∧ s = s' then takeE c c' else none
  | .ro k a, .ro k' a' => if k = k' then takeA a a' else none
  | .obj (t, false), .obj (.one t' x) => if t = t' then some [.O t' x] else none
  | .obj (t, true), .obj (.opt t' x) => if t = t' then some [.P t' x] else none
  | _, _ => none
def takeBs : List (ABlock LU) → List (ABlock L0) → Option Ls
  | [], [] => some []
  | p :: r, v :: r' => cat2 (takeBl p v) (takeBs r r')
  | _, _ => none

theorem cat2_some {a b : Option Ls} {l : Ls} (h : cat2 a b = some l) : ∃ x y, a = some x ∧ b = some y ∧ l = x ++ y := by
  unfold cat2 at h
  split at h
  · rename_i x y; cases h; exact ⟨x, y, rfl, rfl, rfl⟩
  · cases h

theorem get_mid (pre post : Ls) (x : Leaf) (d : Leaf) : (pre ++ [x] ++ post).getD pre.length d = x := by
  simp [List.getD]

theorem takeE_ok : ∀ {p : SE LU} {e : SE L0} {l : Ls}, takeE p e = some l → ∀ pre post : Ls,
    (fillE (pre ++ l ++ post) p pre.length).2 = pre.length + l.length ∧ denI (fillE (pre ++ l ++ post) p pre.length).1 = denI e := by
  intro p e l h pre post
  unfold takeE at h
  split at h
  · cases h; simp only [fillE, lI, get_mid, denI, Leaf.i]; simp
  · cases h; simp only [fillE, lI, get_mid, denI, Leaf.i]; simp
  · split at h
    · rename_i hn; cases h; subst hn; simp [fillE]
    · cases h
  · cases h
theorem takeB_ok : ∀ {p : SB LU} {e : SB L0} {l : Ls}, takeB p e = some l → ∀ pre post : Ls,
    (fillB (pre ++ l ++ post) p pre.length).2 = pre.length + l.length ∧ denB (fillB (pre ++ l ++ post) p pre.length).1 = denB e := by
  intro p e l h pre post
  unfold takeB at h
  split at h
  · cases h; simp only [fillB, lB, get_mid, denB, Leaf.b]; simp
  · split at h
    · rename_i hn; cases h; subst hn; simp [fillB]
    · cases h
  · cases h
theorem takeA_ok : ∀ {p : SA LU} {e : SA L0} {l : Ls}, takeA p e = some l → ∀ pre post : Ls,
    (fillA (pre ++ l ++ post) p pre.length).2 = pre.length + l.length ∧ denA (fillA (pre ++ l ++ post) p pre.length).1 = denA e := by
  intro p e l h pre post
  unfold takeA at h
  split at h
  · cases h; simp only [fillA, lA, get_mid, denA, Leaf.a]; simp
  · cases h

/-- Two takes, one behind the other. -/
theorem cat_ok {α β : Type} {f : Ls → Nat → α × Nat} {g : Ls → Nat → β × Nat} {x y : Ls} {Qa : α → Prop} {Qb : β → Prop}
    (h1 : ∀ pre post : Ls, (f (pre ++ x ++ post) pre.length).2 = pre.length + x.length ∧ Qa (f (pre ++ x ++ post) pre.length).1)
    (h2 : ∀ pre post : Ls, (g (pre ++ y ++ post) pre.length).2 = pre.length + y.length ∧ Qb (g (pre ++ y ++ post) pre.length).1) (pre post : Ls) :
    (g (pre ++ (x ++ y) ++ post) (f (pre ++ (x ++ y) ++ post) pre.length).2).2 = pre.length + (x ++ y).length ∧ Qa (f (pre ++ (x ++ y) ++ post) pre.length).1 ∧
      Qb (g (pre ++ (x ++ y) ++ post) (f (pre ++ (x ++ y) ++ post) pre.length).2).1 := by
  have e1 : pre ++ (x ++ y) ++ post = pre ++ x ++ (y ++ post) := by simp
  have e2 : pre ++ (x ++ y) ++ post = (pre ++ x) ++ y ++ post := by simp
  have a1 := h1 pre (y ++ post)
  rw [← e1] at a1
  have a2 := h2 (pre ++ x) post
  rw [← e2] at a2
  rw [a1.1]
  rw [show (pre ++ x).length = pre.length + x.length from by simp] at a2
  exact ⟨by rw [a2.1]; simp; omega, a1.2, a2.2⟩

theorem takeC_ok : ∀ {p : ACap LU} {e : ACap L0} {l : Ls}, takeC p e = some l → ∀ pre post : Ls,
    (fillC (pre ++ l ++ post) p pre.length).2 = pre.length + l.length ∧ ∀ pl, denCap pl (fillC (pre ++ l ++ post) p pre.length).1 = denCap pl e := by
  intro p e l h pre post
  unfold takeC at h
  split at h
  · have := takeE_ok h pre post; simp only [fillC, denCap, this.2]; exact ⟨this.1, fun _ => trivial⟩
  · rename_i a b a' b'
    obtain ⟨x, y, h1, h2, rfl⟩ := cat2_some h
    have := cat_ok (f := fun ls n => fillE ls a n) (g := fun ls n => fillE ls b n) (Qa := fun e => denI e = denI a') (Qb := fun e => denI e = denI b') (takeE_ok h1) (takeE_ok h2) pre post
    simp only [fillC, denCap, this.2.1, this.2.2]; exact ⟨this.1, fun _ => trivial⟩
  · have := takeE_ok h pre post; simp only [fillC, denCap, this.2]; exact ⟨this.1, fun _ => trivial⟩
  · cases h

mutual
theorem takeV_ok : ∀ {p : AV LU} {v : AV L0} {l : Ls}, takeV p v = some l → ∀ pre post : Ls,
    (fillV (pre ++ l ++ post) p pre.length).2 = pre.length + l.length ∧ ∀ ρ, toV ρ (fillV (pre ++ l ++ post) p pre.length).1 = toV ρ v := by
  intro p v l h pre post
  match p, v, h with
  | .int k e, .int k' e', h =>
    simp only [takeV] at h
    split at h
    · rename_i hk; subst hk
      have := takeE_ok h pre post
      simp only [fillV, toV, this.2]; exact ⟨this.1, fun _ => trivial⟩
    · cases h
  | .bool b, .bool b', h =>
    simp only [takeV] at h
    have := takeB_ok h pre post
    simp only [fillV, toV, this.2]; exact ⟨this.1, fun _ => trivial⟩
  | .nilp, .nilp, h => simp only [takeV, Option.some.injEq] at h; subst h; simp [fillV]
  | .ptr i c t n, .ptr i' c' t' n', h =>
    simp only [takeV] at h
    split at h
    · rename_i hc; obtain ⟨rfl, rfl, rfl⟩ := hc
      split at h
      · rename_i h0; subst h0
        cases h
        simp [fillV, toV, addrOf]
      · rename_i h0
        have := takeE_ok h pre post
        simp only [fillV, if_neg h0, toV, addrOf, this.2]; exact ⟨this.1, fun _ => trivial⟩
    · cases h
  | .nils, .nils, h => simp only [takeV, Option.some.injEq] at h; subst h; simp [fillV]
  | .slice i c t n len cap, .slice i' c' t' n' len' cap', h =>
    simp only [takeV] at h
    split at h
    · rename_i hc; obtain ⟨rfl, rfl, rfl⟩ := hc
      split at h
      case isFalse =>
        rename_i h0
        obtain ⟨z, zz, h3, h4, rfl⟩ := cat2_some h
        obtain ⟨x, y, h1, h2, rfl⟩ := cat2_some h4
        have := cat_ok (f := fun ls n => fillE ls t n) (g := fun ls n => ((fillE ls len n, fillC ls cap (fillE ls len n).2), (fillC ls cap (fillE ls len n).2).2)) (Qa := fun e => denI e = denI t')
          (Qb := fun e => denI e.1.1 = denI len' ∧ ∀ pl, denCap pl e.2.1 = denCap pl cap') (takeE_ok h3)
          (fun pre post => by
            have := cat_ok (f := fun ls n => fillE ls len n) (g := fun ls n => fillC ls cap n) (Qa := fun e => denI e = denI len') (Qb := fun e => ∀ pl, denCap pl e = denCap pl cap') (takeE_ok h1) (takeC_ok h2) pre post
            exact ⟨this.1, this.2.1, this.2.2⟩) pre post
        obtain ⟨e1, e2, e3, e4⟩ := this
        simp only at e1 e3 e4
        simp only [fillV, if_neg h0, toV, addrOf, e2, e3, e4]
        exact ⟨e1, fun _ => trivial⟩
      rename_i h0
      subst h0
      obtain ⟨x, y, h1, h2, rfl⟩ := cat2_some h
      have := cat_ok (f := fun ls n => fillE ls len n) (g := fun ls n => fillC ls cap n) (Qa := fun e => denI e = denI len') (Qb := fun e => ∀ pl, denCap pl e = denCap pl cap') (takeE_ok h1) (takeC_ok h2) pre post
      simp only [fillV, if_true, toV, this.2.1, this.2.2, addrOf, Nat.mul_zero]; exact ⟨this.1, fun _ => trivial⟩
    · cases h
  | .nilf, .nilf, h => simp only [takeV, Option.some.injEq] at h; subst h; simp [fillV]
  | .unk i, .unk i', h =>
    simp only [takeV] at h
    split at h
    · rename_i hc; subst hc; cases h; simp [fillV]
    · cases h
  | .opt i, .opt i', h =>
    simp only [takeV] at h
    split at h
    · rename_i hc; subst hc; cases h; simp [fillV, toV]
    · cases h
  | .fsel e fs, .fsel e' fs', h =>
    simp only [takeV] at h
    split at h
    · rename_i hk; subst hk
      have := takeE_ok h pre post
      simp only [fillV, toV, this.2]; exact ⟨this.1, fun _ => trivial⟩
    · cases h
  | .sl i, .sl i', h =>
    simp only [takeV] at h
    split at h
    · rename_i hc; subst hc; cases h; simp [fillV, toV]
    · cases h
  | .func f a b, .func f' a' b', h =>
    simp only [takeV] at h
    split at h
    · rename_i hf; subst hf
      obtain ⟨x, y, h1, h2, rfl⟩ := cat2_some h
      have := cat_ok (f := fun ls n => fillVs ls a n) (g := fun ls n => fillVs ls b n) (Qa := fun e => ∀ ρ, toVs ρ e = toVs ρ a') (Qb := fun e => ∀ ρ, toVs ρ e = toVs ρ b') (takeVs_ok h1) (takeVs_ok h2) pre post
      simp only [fillV, toV, this.2.1, this.2.2]; exact ⟨this.1, fun _ => trivial⟩
    · cases h
  | .agg vs, .agg vs', h =>
    simp only [takeV] at h
    have := takeVs_ok h pre post
    simp only [fillV, toV, this.2]; exact ⟨this.1, fun _ => trivial⟩
  | .tuple vs, .tuple vs', h =>
    simp only [takeV] at h
    have := takeVs_ok h pre post
    simp only [fillV, toV, this.2]; exact ⟨this.1, fun _ => trivial⟩
theorem takeVs_ok : ∀ {p : List (AV LU)} {v : List (AV L0)} {l : Ls}, takeVs p v = some l → ∀ pre post : Ls,
    (fillVs (pre ++ l ++ post) p pre.length).2 = pre.length + l.length ∧ ∀ ρ, toVs ρ (fillVs (pre ++ l ++ post) p pre.length).1 = toVs ρ v := by
  intro p v l h pre post
  match p, v, h with
  | [], [], h => simp only [takeVs, Option.some.injEq] at h; subst h; simp [fillVs]
  | p :: r, v :: r', h =>
    simp only [takeVs] at h
    obtain ⟨x, y, h1, h2, rfl⟩ := cat2_some h
    have := cat_ok (f := fun ls n => fillV ls p n) (g := fun ls n => fillVs ls r n) (Qa := fun e => ∀ ρ, toV ρ e = toV ρ v) (Qb := fun e => ∀ ρ, toVs ρ e = toVs ρ r') (takeV_ok h1) (takeVs_ok h2) pre post
    simp only [fillVs, toVs, this.2.1, this.2.2]; exact ⟨this.1, fun _ => trivial⟩
end

theorem takeBl_ok : ∀ {p : ABlock LU} {b : ABlock L0} {l : Ls}, takeBl p b = some l → ∀ pre post : Ls,
    (fillBl (pre ++ l ++ post) p pre.length).2 = pre.length + l.length ∧ ∀ ρ, bden ρ (fillBl (pre ++ l ++ post) p pre.length).1 = bden ρ b := by
  intro p b l h pre post
  match p, b, h with
  | .gone, .gone, h => simp only [takeBl, Option.some.injEq] at h; subst h; simp [fillBl]
  | .cells e vs, .cells e' vs', h =>
    simp only [takeBl] at h
    split at h
    · rename_i he; subst he
      have := takeVs_ok h pre post
      simp only [fillBl, bden, this.2]; exact ⟨this.1, fun _ => trivial⟩
    · cases h
  | .arr e k a, .arr e' k' a', h =>
    simp only [takeBl] at h
    split at h
    · rename_i he; obtain ⟨rfl, rfl⟩ := he
      have := takeA_ok h pre post
      simp only [fillBl, bden, this.2]; exact ⟨this.1, fun _ => trivial⟩
    · cases h
  | .opq e k a, .opq e' k' a', h =>
    simp only [takeBl] at h
    split at h
    · rename_i he; obtain ⟨rfl, rfl⟩ := he
      have := takeE_ok h pre post
      simp only [fillBl, bden, this.2]; exact ⟨this.1, fun _ => trivial⟩
    · cases h
  | .esl, .esl, h => simp only [takeBl, Option.some.injEq] at h; subst h; simp [fillBl]
  | .lst e k a, .lst e' k' a', h =>
    simp only [takeBl] at h
    split at h
    · rename_i he; obtain ⟨rfl, rfl⟩ := he
      have := takeA_ok h pre post
      simp only [fillBl, bden, this.2]; exact ⟨this.1, fun _ => trivial⟩
    · cases h
  | .olst e k a, .olst e' k' a', h =>
    simp only [takeBl] at h
    split at h
    · rename_i he; obtain ⟨rfl, rfl⟩ := he
      have := takeE_ok h pre post
      simp only [fillBl, bden, this.2]; exact ⟨this.1, fun _ => trivial⟩
    · cases h
  | .ro k a, .ro k' a', h =>
    simp only [takeBl] at h
    split at h
    · rename_i he; subst he
      have := takeA_ok h pre post
      simp only [fillBl, bden, this.2]; exact ⟨this.1, fun _ => trivial⟩
    · cases h
  | .obj (t, false), .obj (.one t' x), h =>
    simp only [takeBl] at h
    split at h
    · rename_i he; subst he
      cases h
      simp only [fillBl, lO, get_mid, Leaf.o]; simp
    · cases h
  | .obj (t, true), .obj (.opt t' x), h =>
    simp only [takeBl] at h
    split at h
    · rename_i he; subst he
      cases h
      simp only [fillBl, lP, get_mid, Leaf.p]; simp
    · cases h

theorem takeBs_ok : ∀ {p : List (ABlock LU)} {b : List (ABlock L0)} {l : Ls}, takeBs p b = some l → ∀ pre post : Ls,
    (fillBs (pre ++ l ++ post) p pre.length).2 = pre.length + l.length ∧ ∀ ρ, (fillBs (pre ++ l ++ post) p pre.length).1.map (bden ρ) = b.map (bden ρ) := by
  intro p
  induction p with
  | nil =>
    intro b l h pre post
    cases b with
    | nil => simp only [takeBs, Option.some.injEq] at h; subst h; simp [fillBs]
    | cons b r => simp [takeBs] at h
  | cons p r ih =>
    intro b l h pre post
    cases b with
    | nil => simp [takeBs] at h
    | cons b r' =>
      simp only [takeBs] at h
      obtain ⟨x, y, h1, h2, rfl⟩ := cat2_some h
      have := cat_ok (f := fun ls n => fillBl ls p n) (g := fun ls n => fillBs ls r n) (Qa := fun e => ∀ ρ, bden ρ e = bden ρ b) (Qb := fun e => ∀ ρ, e.map (bden ρ) = r'.map (bden ρ)) (takeBl_ok h1) (ih h2) pre post
      simp only [fillBs, List.map_cons, this.2.1, this.2.2]; exact ⟨this.1, fun _ => trivial⟩

/-! ### Contracts by leaves -/

/-- What a function does: patterns of its arguments and of the objects handed, of its answer and the objects left; under the tests in pre the answer's leaves are out's. -/
structure Summ where
  f : FuncId
  args : List (AV LU)
  H : List (ABlock LU)
  v : AV LU
  ws : List Nat
  H' : List (ABlock LU)
  pre : Ls → List Bool
  out : Ls → Ls

def Summ.inV (s : Summ) (ls : Ls) : List (AV L0) := (fillVs ls s.args 0).1
def Summ.inH (s : Summ) (ls : Ls) : List (ABlock L0) := (fillBs ls s.H (fillVs ls s.args 0).2).1
def Summ.outV (s : Summ) (o : Ls) : AV L0 := (fillV o s.v 0).1
def Summ.outH (s : Summ) (o : Ls) : List (ABlock L0) := (fillBs o s.H' (fillV o s.v 0).2).1

def Summ.At (P : Program) (s : Summ) (ls o : Ls) : Prop := Contract P s.f (s.inV ls) (s.inH ls) (s.outV o) s.ws (s.outH o)
def Summ.Ok (P : Program) (s : Summ) : Prop := ∀ ls, (∀ b, b ∈ s.pre ls → b = true) → s.At P ls (s.out ls)

/-- A leaf that is to be nought or more: no test is owed where it stands in the text. -/
def nn (ls : Ls) (k : Nat) : List Bool :=
  match ls.getD k (.I 0) with
  | .L n => if 0 ≤ n then [] else [false]
  | l => [decide (0 ≤ l.i)]
theorem nn_ok {ls : Ls} {k : Nat} (h : ∀ b, b ∈ nn ls k → b = true) : decide (0 ≤ lI ls k) = true := by
  unfold nn at h
  unfold lI
  split at h
  · rename_i n hn
    rw [hn]
    by_cases h0 : 0 ≤ n
    · simp [Leaf.i, h0]
    · exact absurd (h false (by simp [h0])) (by simp)
  · exact h _ (by simp)

theorem Summ.at_canon {P : Program} {s : Summ} {ls ls' o : Ls} (h1 : s.inV ls = s.inV ls') (h2 : s.inH ls = s.inH ls') (h : s.At P ls' o) : s.At P ls o := by
  unfold Summ.At; rw [h1, h2]; exact h

/-- The leaves of a call. -/
def Summ.take (s : Summ) (args : List (AV L0)) (H : List (ABlock L0)) : Option Ls := cat2 (takeVs s.args args) (takeBs s.H H)

theorem Summ.take_ok {P : Program} {s : Summ} (h : s.Ok P) {args : List (AV L0)} {H : List (ABlock L0)} {ls : Ls} (ht : s.take args H = some ls) (hp : ∀ b, b ∈ s.pre ls → b = true) :
    Contract P s.f args H (s.outV (s.out ls)) s.ws (s.outH (s.out ls)) := by
  obtain ⟨x, y, h1, h2, rfl⟩ := cat2_some ht
  have := cat_ok (f := fun ls n => fillVs ls s.args n) (g := fun ls n => fillBs ls s.H n) (Qa := fun e => ∀ ρ, toVs ρ e = toVs ρ args) (Qb := fun e => ∀ ρ, e.map (bden ρ) = H.map (bden ρ)) (takeVs_ok h1) (takeBs_ok h2) [] []
  simp only [List.nil_append, List.append_nil, List.length_nil] at this
  exact Contract.conv (h (x ++ y) hp) this.2.1 (fun ρ => (this.2.2 ρ).symm) (fun _ => rfl) (fun _ => rfl)

/-- A call by a summary: the objects handed over, in the callee's order. -/
def bindV (ids : List Nat) : AV LU → AV L0 → List Nat
  | .ptr j _ _ _, .ptr g _ _ _ => if j = ids.length then ids ++ [g] else ids
  | .slice j _ _ _ _ _, .slice g _ _ _ _ _ => if j = ids.length then ids ++ [g] else ids
  | .opt j, .opt g => if j = ids.length then ids ++ [g] else ids
  | .sl j, .sl g => if j = ids.length then ids ++ [g] else ids
  | .func _ [] [], .func _ [] [] => ids
  | _, _ => ids
mutual
def bindD (ids : List Nat) : AV LU → AV L0 → List Nat
  | .func _ a b, .func _ a' b' => bindDs (bindDs ids a a') b b'
  | .agg a, .agg a' => bindDs ids a a'
  | .tuple a, .tuple a' => bindDs ids a a'
  | p, v => bindV ids p v
def bindDs (ids : List Nat) : List (AV LU) → List (AV L0) → List Nat
  | p :: r, v :: r' => bindDs (bindD ids p v) r r'
  | _, _ => ids
end
def bindH (A : AH L0) : List (ABlock LU) → Nat → List Nat → List Nat
  | [], _, ids => ids
  | .cells _ ps :: r, j, ids =>
    match getH A (ids.getD j 0) with
    | .cells _ vs => bindH A r (j + 1) (bindDs ids ps vs)
    | _ => bindH A r (j + 1) ids
  | _ :: r, j, ids => bindH A r (j + 1) ids

def preOb (l : List Bool) : List (Ob L0) := l.map fun b => .tst (.lf b) true

def Summ.ids (s : Summ) (args : List (AV L0)) (A : AH L0) : List Nat := bindH A s.H 0 (bindDs [] s.args args)

def Summ.look (s : Summ) (args : List (AV L0)) (A : AH L0) : Option Ls :=
  let ids := s.ids args A
  s.take (AV.rnL (fun i => ids.idxOf i) args) (ids.map fun i => (getH A i).rn fun i => ids.idxOf i)

def prCallS (sg : List Summ) (A : AH L0) (f : FuncId) (args : List (AV L0)) : Option (PR L0) :=
  match sg.find? (fun s => s.f == f && (s.look args A).isSome) with
  | some s =>
    match s.look args A with
    | some ls => (prCall A f args (s.ids args A) (s.outV (s.out ls)) s.ws (s.outH (s.out ls))).map fun r => { r with ob := preOb (s.pre ls) }
    | none => none
  | none => none

section
variable {P : Program} {Iso : ObRest}

theorem prCallS_ok {sg : List Summ} (hsg : ∀ s, s ∈ sg → s.Ok P) {tm : Tm L0} {A : AH L0} {o : Oper} {c : Call} {fo : Operand} {f : FuncId} {first caps as : List (AV L0)} {r : PR L0}
    (ho : o.op = .call c) (hc : c.callee = .value fo) (hf : evT tm fo = some (.func f first caps)) (has : evList tm c.args.toList = some as)
    (h : prCallS sg A f (first ++ as ++ caps) = some r) (hob : ∀ q, q ∈ r.ob → Obs (Contract P) Iso q) : OpOk P o (evT tm) (getH A) r := by
  unfold prCallS at h
  split at h
  case h_2 => cases h
  rename_i s hfind
  split at h
  case h_2 => cases h
  rename_i ls hl
  have hs := hsg s (List.mem_of_find?_eq_some hfind)
  have hsf : s.f = f := by
    have := List.find?_some hfind
    simp only [Bool.and_eq_true, beq_iff_eq] at this
    exact this.1
  simp only [Option.map_eq_some_iff] at h
  obtain ⟨r0, hr0, rfl⟩ := h
  have hpre : ∀ b, b ∈ s.pre ls → b = true := by
    intro b hb
    have := hob (.tst (.lf b) true) (by simp only [preOb]; exact List.mem_map.2 ⟨b, hb, rfl⟩)
    simpa [Obs, denB] using this
  have hcon := Summ.take_ok hs hl hpre
  have h0 : OpOk P o (evT tm) (getH A) r0 := by
    refine prCall_ok (Iso := Iso) ho hc hf has hr0 ?_
    have hob0 : r0.ob = [.call f (AV.rnL (fun i => (s.ids (first ++ as ++ caps) A).idxOf i) (first ++ as ++ caps)) ((s.ids (first ++ as ++ caps) A).map fun i => (getH A i).rn fun i => (s.ids (first ++ as ++ caps) A).idxOf i)
        (s.outV (s.out ls)) s.ws (s.outH (s.out ls))] := by
      unfold prCall at hr0
      simp only at hr0
      split at hr0
      · cases hr0; rfl
      · cases hr0
    rw [hob0]
    intro q hq
    simp only [List.mem_singleton] at hq
    subst hq
    rw [hsf] at hcon
    exact hcon
  intro ρ fps w a next Q B h1 h2 h3 h4 h5 h6
  exact h0 ρ fps w a next Q B h1 h2 h3 h4 h5 fun ρ' fps' w' hp => h6 ρ' fps' w' ⟨hp.rho, hp.hs, hp.fr, hp.same, hp.from_⟩
end
end Go.Fl
