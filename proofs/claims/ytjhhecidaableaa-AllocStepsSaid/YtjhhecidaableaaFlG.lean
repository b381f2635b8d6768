/- Integers, tests, conversions, lengths, on symbolic values. Conditions: none. -/
import Derived.Test.YtjhhecidaableaaFlF
import Derived.ChangeKeysEq
set_option linter.unusedSimpArgs false
set_option linter.unusedVariables false
set_option linter.unusedSectionVars false
namespace Go.Fl
open Go Go.RowKit
variable [Objs]

section
variable {P : Program} {Ctr : FuncId → List (AV L0) → List (ABlock L0) → AV L0 → List Nat → List (ABlock L0) → Prop} {Iso : ObRest}

def mkBin {L : Lf} (op : BinOp) (k : IntKind) (a b : SE L) : SE L :=
  match a, b with
  | .lit x, .lit y => .lit (binI op k x y)
  | _, _ => .bin op k a b

theorem denI_mkBin (op : BinOp) (k : IntKind) (a b : SE L0) : denI (mkBin op k a b) = binI op k (denI a) (denI b) := by
  unfold mkBin; split <;> simp [denI]

def mkCmp {L : Lf} (op : BinOp) (a b : SE L) : SB L :=
  match a, b with
  | .lit x, .lit y => .lit (cmpI op x y)
  | _, _ => .cmp op a b

theorem denB_mkCmp (op : BinOp) (a b : SE L0) : denB (mkCmp op a b) = cmpI op (denI a) (denI b) := by
  unfold mkCmp; split <;> simp [denB, denI]

def mkCv {L : Lf} (k : IntKind) (a : SE L) : SE L :=
  match a with
  | .lit x => .lit (k.wrap x)
  | _ => .cv k a

theorem denI_mkCv (k : IntKind) (a : SE L0) : denI (mkCv k a) = k.wrap (denI a) := by
  unfold mkCv; split <;> simp [denI]

def mkNot {L : Lf} (a : SB L) : SB L :=
  match a with
  | .lit x => .lit (!x)
  | .not b => b
  | _ => .not a

theorem denB_mkNot (a : SB L0) : denB (mkNot a) = !(denB a) := by
  unfold mkNot; split <;> simp [denB]

def mkBeq {L : Lf} (a b : SB L) : SB L :=
  match a, b with
  | .lit x, .lit y => .lit (x == y)
  | .lit true, b => b
  | .lit false, b => mkNot b
  | a, .lit true => a
  | a, .lit false => mkNot a
  | _, _ => .beq a b

theorem denB_mkBeq (a b : SB L0) : denB (mkBeq a b) = (denB a == denB b) := by
  unfold mkBeq
  split <;> simp [denB, denB_mkNot] <;> (rename_i x; cases denB x <;> rfl)

def mkAnd {L : Lf} (a b : SB L) : SB L :=
  match a, b with
  | .lit true, b => b
  | .lit false, _ => .lit false
  | a, .lit true => a
  | _, _ => .and a b

theorem denB_mkAnd (a b : SB L0) : denB (mkAnd a b) = (denB a && denB b) := by
  unfold mkAnd
  split <;> simp [denB]

/-! ### Equality of values of plain types -/

/-- The types whose values may be held against each other part by part: what the kernel was asked of them. -/
structure EqTab (P : Program) (tab : List TypeId) : Prop where
  held : ∀ t, t ∈ tab → P.stoodInHeld t = false
  guard : ∀ t, t ∈ tab → P.eqGuardType P.depth t = false
  named : ∀ t, t ∈ tab → ∀ f, f ∈ (P.fieldsOf t).toList → f.name ≠ "_"

def eqFs {L : Lf} (P : Program) (rec : TypeId → AV L → AV L → Option (SB L)) (xs ys : List (AV L)) : List Field → Option (SB L)
  | [] => some (.lit true)
  | f :: fs =>
    match partL P f.type xs f.offset, partL P f.type ys f.offset with
    | some a, some b =>
      match rec f.type a b, eqFs P rec xs ys fs with
      | some p, some q => some (mkAnd p q)
      | _, _ => none
    | _, _ => none

def eqEs {L : Lf} (P : Program) (rec : TypeId → AV L → AV L → Option (SB L)) (elem : TypeId) (xs ys : List (AV L)) : List Nat → Option (SB L)
  | [] => some (.lit true)
  | i :: is =>
    match partL P elem xs (i * P.cellsOf elem), partL P elem ys (i * P.cellsOf elem) with
    | some a, some b =>
      match rec elem a b, eqEs P rec elem xs ys is with
      | some p, some q => some (mkAnd p q)
      | _, _ => none
    | _, _ => none

def eqT {L : Lf} (P : Program) (tab : List TypeId) : Nat → TypeId → AV L → AV L → Option (SB L)
  | 0, _, _, _ => none
  | d + 1, t, x, y =>
    match P.underlying t, x, y with
    | some .bool, .bool a, .bool b => some (mkBeq a b)
    | some (.int _), .int k a, .int k' b => if k = k' then some (mkCmp .eql a b) else none
    | some (.struct fields), .agg xs, .agg ys => if t ∈ tab then eqFs P (eqT P tab d) xs ys fields.toList else none
    | some (.array len elem), .agg xs, .agg ys => if (P.info? elem).isSome then eqEs P (eqT P tab d) elem xs ys (List.range len) else none
    | _, _, _ => none

theorem eqT_ok {tab : List TypeId} (ht : EqTab P tab) (ρ : Rho) (w : World) : ∀ (d D : Nat) (t : TypeId) (x y : AV L0) (b : SB L0), d ≤ D → eqT P tab d t x y = some b →
    (Op.equalIn D t (toV ρ x) (toV ρ y)).run P w = .ok (denB b) w := by
  intro d
  induction d with
  | zero => intro D t x y b _ h; simp [eqT] at h
  | succ d ih =>
    intro D t x y b hD h
    obtain ⟨D, rfl⟩ : ∃ m, D = m + 1 := ⟨D - 1, by omega⟩
    have hD' : d ≤ D := by omega
    have fields : ∀ (xs ys : List (AV L0)) (fs : List Field) (q : SB L0), (∀ f, f ∈ fs → f.name ≠ "_") → eqFs P (eqT P tab d) xs ys fs = some q →
        (Op.eqFields D (toVs ρ xs).toArray (toVs ρ ys).toArray fs).run P w = .ok (denB q) w := by
      intro xs ys fs
      induction fs with
      | nil => intro q _ h; simp [eqFs] at h; subst h; simp [Op.eqFields, denB]
      | cons f fs ihf =>
        intro q hn h
        simp only [eqFs] at h
        split at h
        case h_2 => cases h
        rename_i a b ha hb
        split at h
        case h_2 => cases h
        rename_i p q' hp hq
        cases h
        simp only [Op.eqFields]
        rw [if_pos (hn f (by simp))]
        simp only [Sem.run_bind, partL_ok ha, partL_ok hb, Result.andThen_ok, ih D f.type a b p hD' hp, denB_mkAnd]
        cases hpb : denB p with
        | false => simp
        | true => simp [ihf q' (fun g hg => hn g (by simp [hg])) hq]
    have elems : ∀ (elem : TypeId) (xs ys : List (AV L0)) (is : List Nat) (q : SB L0), eqEs P (eqT P tab d) elem xs ys is = some q →
        (Op.eqItems D elem (P.cellsOf elem) (toVs ρ xs).toArray (toVs ρ ys).toArray is).run P w = .ok (denB q) w := by
      intro elem xs ys is
      induction is with
      | nil => intro q h; simp [eqEs] at h; subst h; simp [Op.eqItems, denB]
      | cons i is ihf =>
        intro q h
        simp only [eqEs] at h
        split at h
        case h_2 => cases h
        rename_i a b ha hb
        split at h
        case h_2 => cases h
        rename_i p q' hp hq
        cases h
        simp only [Op.eqItems]
        simp only [Sem.run_bind, partL_ok ha, partL_ok hb, Result.andThen_ok, ih D elem a b p hD' hp, denB_mkAnd]
        cases hpb : denB p with
        | false => simp
        | true => simp [ihf q' hq]
    simp only [eqT] at h
    split at h
    · rename_i hu
      cases h
      simp [toV, Op.equalIn, run_und hu, denB_mkBeq]
    · rename_i hu
      split at h
      case isFalse => cases h
      rename_i hk
      subst hk
      cases h
      simp [toV, Op.equalIn, run_und hu, denB_mkCmp, cmpI]
    · rename_i fs xs ys hu
      split at h
      case isFalse => cases h
      rename_i hm
      have hf : P.fieldsOf t = fs := by simp [Program.fieldsOf, hu]
      simp only [toV]
      rw [run_equalIn_struct w D t _ _ (by rw [hf]; exact hu) (ht.held t hm), hf]
      exact fields xs ys fs.toList b (by have := ht.named t hm; rwa [hf] at this) h
    · rename_i len elem xs ys hu
      split at h
      case isFalse => cases h
      rename_i hi
      obtain ⟨i, hi⟩ := Option.isSome_iff_exists.1 hi
      simp only [toV]
      rw [run_equalIn_array w D _ _ hu hi]
      exact elems elem xs ys (List.range len) b h
    · cases h

end
end Go.Fl
