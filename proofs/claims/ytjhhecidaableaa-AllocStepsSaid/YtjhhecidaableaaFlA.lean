/- A symbolic reading of Go values and memory: syntax with opaque Lean leaves, what it denotes, and when a world agrees with it. Conditions: none. -/
import Derived.Test.YtjhhecidaableaaFlZ
import Derived.Calls
import Derived.Orders
import Derived.Below
import Derived.KernelRfl
import Derived.Laws.AppendOwn
set_option linter.unusedSimpArgs false
set_option linter.unusedVariables false
set_option linter.unusedSectionVars false
namespace Go.Fl
open Go Go.RowKit

structure Place where
  block : Nat
  base : Nat
  cap : Nat
  ua : Addr := ⟨0, 0, none⟩
  uc : Nat := 0
  nil : Bool := false
  len : Nat := 0

structure ObjP where
  rep : Place → (Nat → Prop) → World → Prop
  ok : ∀ pl fp w w', rep pl fp w → w.heap.size ≤ w'.heap.size → (∀ b, fp b → w'.heap[b]? = w.heap[b]?) → rep pl fp w'
  lt : ∀ pl fp w, rep pl fp w → ∀ b, fp b → b < w.heap.size

/-- What the objects of the program's types are in memory. -/
class Objs where
  R : (t : Nat) → T t → ObjP

/-- An object of a type's number; or one that may be nil. -/
inductive TO : Type
  | one (t : Nat) (x : T t)
  | opt (t : Nat) (x : Option (T t))

structure Lf where
  I : Type
  B : Type
  A : Type
  O : Type

mutual
inductive SE (L : Lf) : Type
  | lf (x : L.I)
  | lit (n : Int)
  | bin (op : BinOp) (k : IntKind) (a b : SE L)
  | cv (k : IntKind) (a : SE L)
  | sel (a : SA L) (c : Nat) (t : SE L) (n : Nat)
  | mx (a b : SE L)
  | sb (a b : SE L)
  | len (a : SA L)
inductive SA (L : Lf) : Type
  | lf (x : L.A)
  | nil
  | snoc (a : SA L) (v : SE L)
  | app (a b : SA L)
  | drop (n : Nat) (a : SA L)
  | rep (n : SE L) (v : Int)
  | set (a : SA L) (c : Nat) (t : SE L) (n : Nat) (v : SE L)
end

inductive SB (L : Lf) : Type
  | lf (b : L.B)
  | lit (b : Bool)
  | cmp (op : BinOp) (a b : SE L)
  | not (a : SB L)
  | beq (a b : SB L)
  | and (a b : SB L)

/-- What a binary operation on integers of kind k gives (where it does not panic). -/
def binI (op : BinOp) (k : IntKind) (x y : Int) : Int :=
  match op with
  | .add => k.wrap (x + y)
  | .sub => k.wrap (x - y)
  | .mul => k.wrap (x * y)
  | .quo => k.wrap (x.tdiv y)
  | .rem => x.tmod y
  | .and => k.wrap (BitVec.ofInt k.bits x &&& BitVec.ofInt k.bits y).toNat
  | .or => k.wrap (BitVec.ofInt k.bits x ||| BitVec.ofInt k.bits y).toNat
  | .xor => k.wrap (BitVec.ofInt k.bits x ^^^ BitVec.ofInt k.bits y).toNat
  | .andNot => k.wrap (BitVec.ofInt k.bits x &&& ~~~ BitVec.ofInt k.bits y).toNat
  | .shl => k.wrap (x * 2 ^ (min y.toNat k.bits))
  | .shr => x.fdiv (2 ^ (min y.toNat k.bits))
  | _ => 0

def cmpI (op : BinOp) (x y : Int) : Bool :=
  match op with
  | .eql => x == y
  | .neq => x != y
  | .lss => x < y
  | .leq => x ≤ y
  | .gtr => x > y
  | .geq => x ≥ y
  | _ => false

@[reducible] def L0 : Lf := ⟨Int, Bool, List Int, TO⟩

mutual
def denI : SE L0 → Int
  | .lf x => x
  | .lit n => n
  | .bin op k a b => binI op k (denI a) (denI b)
  | .cv k a => k.wrap (denI a)
  | .sel a c t n => (denA a).getD (c + (denI t).toNat * n) 0
  | .mx a b => if denI b > denI a then denI b else denI a
  | .sb a b => denI a - denI b
  | .len a => (denA a).length
def denA : SA L0 → List Int
  | .lf x => x
  | .nil => []
  | .snoc a v => denA a ++ [denI v]
  | .app a b => denA a ++ denA b
  | .drop n a => (denA a).drop n
  | .rep n v => List.replicate (denI n).toNat v
  | .set a c t n v => (denA a).set (c + (denI t).toNat * n) (denI v)
end

def denB : SB L0 → Bool
  | .lf b => b
  | .lit b => b
  | .cmp op a b => cmpI op (denI a) (denI b)
  | .not a => !(denB a)
  | .beq a b => denB a == denB b
  | .and a b => denB a && denB b

inductive ACap (L : Lf) : Type
  | known (e : SE L)
  | minus (e l : SE L)
  | rest (e : SE L)

inductive AV (L : Lf) : Type
  | int (k : IntKind) (e : SE L)
  | bool (b : SB L)
  | flat (v : Value)
  | nilp
  | ptr (id c : Nat) (t : SE L) (n : Nat)
  | nils
  | slice (id c : Nat) (t : SE L) (n : Nat) (len : SE L) (cap : ACap L)
  | nilf
  | unk (id : Nat)
  | opt (id : Nat)
  | fsel (e : SE L) (fs : List (Option (FuncId × Option Nat)))
  | sl (id : Nat)
  | func (f : FuncId) (first caps : List (AV L))
  | agg (vs : List (AV L))
  | tuple (vs : List (AV L))

inductive ABlock (L : Lf) : Type
  | gone
  | cells (elem : TypeId) (vs : List (AV L))
  | arr (elem : TypeId) (k : IntKind) (a : SA L)
  | opq (elem : TypeId) (sz : Nat) (n : SE L)
  | esl
  | lst (elem : TypeId) (k : IntKind) (a : SA L)
  | olst (elem : TypeId) (sz : Nat) (n : SE L)
  | ro (k : IntKind) (a : SA L)
  | obj (o : L.O)

abbrev Rho := Nat → Place
abbrev Fps := Nat → Nat → Prop
abbrev AHF := Nat → ABlock L0

def denCap (pl : Place) : ACap L0 → Nat
  | .known e => (denI e).toNat
  | .minus e l => (denI e).toNat - (denI l).toNat
  | .rest e => pl.cap - (denI e).toNat

def addrOf (ρ : Rho) (id c : Nat) (t : SE L0) (n : Nat) : Addr :=
  ⟨(ρ id).block, (ρ id).base + (c + (denI t).toNat * n), none⟩

def fselV (ρ : Rho) : Option (FuncId × Option Nat) → Value
  | none => .nilFunc
  | some (f, none) => .func (.func f) #[] #[]
  | some (f, some id) => .func (.func f) #[.pointer (some ⟨(ρ id).block, (ρ id).base, none⟩)] #[]

mutual
def toV (ρ : Rho) : AV L0 → Value
  | .int k e => .int k (denI e)
  | .bool b => .bool (denB b)
  | .flat v => v
  | .nilp => .pointer none
  | .ptr id c t n => .pointer (some (addrOf ρ id c t n))
  | .nils => .slice none 0 0
  | .slice id c t n len cap => .slice (some (addrOf ρ id c t n)) (denI len).toNat (denCap (ρ id) cap)
  | .nilf => .nilFunc
  | .unk id => .slice (some (ρ id).ua) 0 (ρ id).uc
  | .opt id => .pointer (if (ρ id).nil then none else some ⟨(ρ id).block, (ρ id).base, none⟩)
  | .fsel e fs => fselV ρ (fs.getD (denI e).toNat none)
  | .sl id => .slice (if (ρ id).nil then none else some ⟨(ρ id).block, (ρ id).base, none⟩) (if (ρ id).nil then 0 else (ρ id).len) (if (ρ id).nil then 0 else (ρ id).cap)
  | .func f first caps => .func (.func f) (toVs ρ first).toArray (toVs ρ caps).toArray
  | .agg vs => .agg (toVs ρ vs).toArray
  | .tuple vs => .tuple (toVs ρ vs).toArray
def toVs (ρ : Rho) : List (AV L0) → List Value
  | [] => []
  | v :: r => toV ρ v :: toVs ρ r
end

theorem toVs_eq_map (ρ : Rho) : ∀ l : List (AV L0), toVs ρ l = l.map (toV ρ)
  | [] => by simp [toVs]
  | v :: r => by simp [toVs, toVs_eq_map ρ r]

@[simp] theorem toVs_length (ρ : Rho) (l : List (AV L0)) : (toVs ρ l).length = l.length := by simp [toVs_eq_map]

variable [Objs]

def objRep (o : TO) (pl : Place) (fp : Nat → Prop) (w : World) : Prop :=
  match o with
  | .one t x => (Objs.R t x).rep pl fp w
  | .opt _ none => pl.nil = true ∧ ∀ b, ¬ fp b
  | .opt t (some x) => pl.nil = false ∧ ∃ pl0 : Place, pl0.block = pl.block ∧ pl0.base = pl.base ∧ (Objs.R t x).rep pl0 fp w

theorem objRep_ok {o : TO} {pl : Place} {fp : Nat → Prop} {w w' : World} (h : objRep o pl fp w) (hs : w.heap.size ≤ w'.heap.size) (hb : ∀ b, fp b → w'.heap[b]? = w.heap[b]?) : objRep o pl fp w' := by
  match o, h with
  | .one t x, h => exact (Objs.R t x).ok pl fp w w' h hs hb
  | .opt _ none, h => exact h
  | .opt t (some x), h => obtain ⟨h1, p, h2, h3, h4⟩ := h; exact ⟨h1, p, h2, h3, (Objs.R t x).ok p fp w w' h4 hs hb⟩

theorem objRep_lt {o : TO} {pl : Place} {fp : Nat → Prop} {w : World} (h : objRep o pl fp w) : ∀ b, fp b → b < w.heap.size := by
  match o, h with
  | .one t x, h => exact (Objs.R t x).lt pl fp w h
  | .opt _ none, h => intro b hb; exact absurd hb (h.2 b)
  | .opt t (some x), h => obtain ⟨_, p, _, _, h4⟩ := h; exact (Objs.R t x).lt p fp w h4

/-- A block of the symbolic memory agrees with the world; fp: the blocks that it owns. -/
def Rep (ρ : Rho) (w : World) (pl : Place) (fp : Nat → Prop) : ABlock L0 → Prop
  | .gone => ∀ b, ¬ fp b
  | .cells elem vs => (∀ b, fp b ↔ b = pl.block) ∧ pl.base = 0 ∧ w.heap[pl.block]? = some (.cells (toVs ρ vs).toArray elem (0, 0))
  | .arr elem k a => (∀ b, fp b ↔ b = pl.block) ∧ pl.base = 0 ∧ ∃ c, w.heap[pl.block]? = some (.cells c elem (0, 0)) ∧ c.size = pl.cap ∧ pl.cap ≤ maxLen ∧
      (denA a).length ≤ pl.cap ∧ c.toList.take (denA a).length = (denA a).map (Value.int k)
  | .opq elem sz n => (∀ b, fp b ↔ b = pl.block) ∧ pl.base = 0 ∧ ∃ c, w.heap[pl.block]? = some (.cells c elem (0, 0)) ∧ c.size = pl.cap * sz ∧ pl.cap ≤ maxLen ∧
      (denI n).toNat ≤ pl.cap ∧ ∀ u, u ∈ c.toList → u.oneCell' = true
  | .esl => ∀ b, ¬ fp b
  | .ro k a => (∀ b, ¬ fp b) ∧ pl.block < w.heap.size ∧
      ∀ i, i < (denA a).length → w.cell? ⟨pl.block, pl.base + i, none⟩ = some (.int k ((denA a).getD i 0))
  | .lst elem k a => pl.nil = false ∧ pl.len = (denA a).length ∧ (∀ b, fp b ↔ b = pl.block) ∧ pl.base = 0 ∧ ∃ c, w.heap[pl.block]? = some (.cells c elem (0, 0)) ∧ c.size = pl.cap ∧ pl.cap ≤ maxLen ∧
      (denA a).length ≤ pl.cap ∧ c.toList.take (denA a).length = (denA a).map (Value.int k)
  | .olst elem sz n => (pl.nil = true ∧ denI n = 0 ∧ ∀ b, ¬ fp b) ∨ (pl.nil = false ∧ 0 < denI n ∧ pl.len = (denI n).toNat ∧ (∀ b, fp b ↔ b = pl.block) ∧ pl.base = 0 ∧ ∃ c, w.heap[pl.block]? = some (.cells c elem (0, 0)) ∧ c.size = pl.cap * sz ∧ pl.cap ≤ maxLen ∧
      (denI n).toNat ≤ pl.cap ∧ ∀ u, u ∈ c.toList → u.oneCell' = true)
  | .obj o => objRep o pl fp w

def ABlock.isRo {L : Lf} : ABlock L → Bool
  | .ro .. => true
  | _ => false

/-- The symbolic memory H agrees with the world w. -/
structure HS (H : AHF) (ρ : Rho) (fps : Fps) (w : World) : Prop where
  rep : ∀ i, Rep ρ w (ρ i) (fps i) (H i)
  disj : ∀ i j, i ≠ j → ∀ b, fps i b → ¬ fps j b
  ro : ∀ i, (H i).isRo = true → ∀ j, ¬ fps j (ρ i).block

theorem Rep.lt {ρ : Rho} {w : World} {pl : Place} {fp : Nat → Prop} {B : ABlock L0} (h : Rep ρ w pl fp B) : ∀ b, fp b → b < w.heap.size := by
  intro b hb
  cases B with
  | gone => exact absurd hb (h b)
  | cells e vs => obtain ⟨h1, _, h2⟩ := h; obtain rfl := (h1 b).1 hb; exact (Array.getElem?_eq_some_iff.1 h2).1
  | arr e k a => obtain ⟨h1, _, c, h2, _⟩ := h; obtain rfl := (h1 b).1 hb; exact (Array.getElem?_eq_some_iff.1 h2).1
  | opq e k a => obtain ⟨h1, _, c, h2, _⟩ := h; obtain rfl := (h1 b).1 hb; exact (Array.getElem?_eq_some_iff.1 h2).1
  | esl => exact absurd hb (h b)
  | ro k a => exact absurd hb (h.1 b)
  | lst e k a => obtain ⟨_, _, h1, _, c, h2, _⟩ := h; obtain rfl := (h1 b).1 hb; exact (Array.getElem?_eq_some_iff.1 h2).1
  | olst e k a =>
    rcases h with ⟨_, _, h⟩ | ⟨_, _, _, h1, _, c, h2, _⟩
    · exact absurd hb (h b)
    · obtain rfl := (h1 b).1 hb; exact (Array.getElem?_eq_some_iff.1 h2).1
  | obj o => exact objRep_lt h b hb

theorem HS.lt {H : AHF} {ρ : Rho} {fps : Fps} {w : World} (h : HS H ρ fps w) (i b : Nat) (hb : fps i b) : b < w.heap.size := (h.rep i).lt b hb

/-- What a step may turn of the world: the blocks in W alone. -/
structure Fr (W : Nat → Prop) (w w' : World) : Prop where
  os : w'.os = w.os
  tape : w'.tape = w.tape
  output : w'.output = w.output
  size : w.heap.size ≤ w'.heap.size
  block : ∀ b, b < w.heap.size → ¬ W b → w'.heap[b]? = w.heap[b]?

theorem Fr.refl (W : Nat → Prop) (w : World) : Fr W w w := ⟨rfl, rfl, rfl, Nat.le_refl _, fun _ _ _ => rfl⟩

theorem Fr.mono {W W' : Nat → Prop} {w w' : World} (h : Fr W w w') (hh : ∀ b, W b → W' b) : Fr W' w w' :=
  ⟨h.os, h.tape, h.output, h.size, fun b hb hn => h.block b hb fun hw => hn (hh b hw)⟩

/-- A step may write what lies in W or is new; then another. -/
theorem Fr.trans {W W2 : Nat → Prop} {a b c : World} (h : Fr W a b) (k : Fr W2 b c) (h2 : ∀ x, x < a.heap.size → W2 x → W x) : Fr W a c :=
  ⟨k.os.trans h.os, k.tape.trans h.tape, k.output.trans h.output, Nat.le_trans h.size k.size, fun x hx hn =>
    (k.block x (Nat.lt_of_lt_of_le hx h.size) (fun hw => hn (h2 x hx hw))).trans (h.block x hx hn)⟩

theorem cell?_of_block' {w w' : World} {a : Addr} (h : w'.heap[a.block]? = w.heap[a.block]?) : w'.cell? a = w.cell? a := by
  simp [World.cell?, h]

/-- A block's agreement stays where nothing that it owns or reads has turned. -/
theorem Rep.keep {ρ : Rho} {w w' : World} {pl : Place} {fp : Nat → Prop} {B : ABlock L0} (h : Rep ρ w pl fp B) (hs : w.heap.size ≤ w'.heap.size)
    (hb : ∀ b, fp b → w'.heap[b]? = w.heap[b]?) (hro : B.isRo = true → w'.heap[pl.block]? = w.heap[pl.block]?) : Rep ρ w' pl fp B := by
  cases B with
  | gone => exact h
  | cells e vs => obtain ⟨h1, h0, h2⟩ := h; exact ⟨h1, h0, (hb _ ((h1 _).2 rfl)).trans h2⟩
  | arr e k a => obtain ⟨h1, h0, c, h2, h3⟩ := h; exact ⟨h1, h0, c, (hb _ ((h1 _).2 rfl)).trans h2, h3⟩
  | opq e k a => obtain ⟨h1, h0, c, h2, h3⟩ := h; exact ⟨h1, h0, c, (hb _ ((h1 _).2 rfl)).trans h2, h3⟩
  | esl => exact h
  | ro k a =>
    obtain ⟨h1, h0, h2⟩ := h
    exact ⟨h1, Nat.lt_of_lt_of_le h0 hs, fun i hi => (cell?_of_block' (hro rfl)).trans (h2 i hi)⟩
  | lst e k a => obtain ⟨hn, hl, h1, h0, c, h2, h3⟩ := h; exact ⟨hn, hl, h1, h0, c, (hb _ ((h1 _).2 rfl)).trans h2, h3⟩
  | olst e k a =>
    rcases h with h | ⟨hn, hp, hl, h1, h0, c, h2, h3⟩
    · exact .inl h
    · exact .inr ⟨hn, hp, hl, h1, h0, c, (hb _ ((h1 _).2 rfl)).trans h2, h3⟩
  | obj o => exact objRep_ok h hs hb

end Go.Fl
