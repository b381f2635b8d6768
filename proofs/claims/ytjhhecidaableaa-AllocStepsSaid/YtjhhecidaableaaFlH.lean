/- Binary and unary operations, conversions and lengths on symbolic values. Conditions: none. -/
import Derived.Test.YtjhhecidaableaaFlG
set_option linter.unusedSimpArgs false
set_option linter.unusedVariables false
set_option linter.unusedSectionVars false
namespace Go.Fl
open Go Go.RowKit
variable [Objs]

section
variable {P : Program} {Ctr : FuncId → List (AV L0) → List (ABlock L0) → AV L0 → List Nat → List (ABlock L0) → Prop} {Iso : ObRest}

def sNz {L : Lf} (a : SE L) : List (Ob L) :=
  match a with
  | .lit x => if x ≠ 0 then [] else [.nz a]
  | _ => [.nz a]

theorem sNz_ok {a : SE L0} (h : ∀ q, q ∈ sNz a → Obs Ctr Iso q) : denI a ≠ 0 := by
  unfold sNz at h
  split at h
  · split at h
    · assumption
    · exact h (.nz _) (List.mem_singleton.2 rfl)
  · exact h (.nz _) (List.mem_singleton.2 rfl)

/-- Is the operation a test? -/
def isCmp : BinOp → Bool
  | .eql | .neq | .lss | .leq | .gtr | .geq => true
  | _ => false

/-- A value that is nil or not: true for nil. -/
def nilness {L : Lf} : AV L → Option Bool
  | .nilp | .nils | .nilf => some true
  | .ptr .. | .slice .. | .func .. => some false
  | _ => none

def eqPlain {L : Lf} (P : Program) (tab : List TypeId) (t : TypeId) (x y : AV L) : Option (SB L) :=
  match P.underlying t, x, y with
  | some (.pointer _), .nilp, .nilp => some (.lit true)
  | some (.pointer _), .nilp, .ptr .. => some (.lit false)
  | some (.pointer _), .ptr .., .nilp => some (.lit false)
  | some (.slice _), .nils, .nils => some (.lit true)
  | some (.slice _), .nils, .slice .. => some (.lit false)
  | some (.slice _), .slice .., .nils => some (.lit false)
  | some (.func ..), .nilf, .nilf => some (.lit true)
  | some (.func ..), .nilf, .func .. => some (.lit false)
  | some (.func ..), .func .., .nilf => some (.lit false)
  | some .bool, .bool a, .bool b => some (mkBeq a b)
  | some (.struct _), .agg xs, .agg ys => if t ∈ tab then eqT P tab 40 t (.agg xs) (.agg ys) else none
  | some (.array ..), .agg xs, .agg ys => if t ∈ tab then eqT P tab 40 t (.agg xs) (.agg ys) else none
  | _, _, _ => none

theorem equal_succ : ∃ D, 40 ≤ D + 1 ∧ ∀ t x y, Op.equal t x y = Op.equalIn (D + 1) t x y := ⟨9999, by omega, fun _ _ _ => rfl⟩

theorem eqPlain_ok {tab : List TypeId} (ht : EqTab P tab) {t : TypeId} {x y : AV L0} {b : SB L0} (h : eqPlain P tab t x y = some b) (ρ : Rho) (w : World) :
    (Op.equal t (toV ρ x) (toV ρ y)).run P w = .ok (denB b) w ∧ ∀ op xo yo, (eqGuard op t xo yo (toV ρ x) (toV ρ y)).run P w = .ok () w := by
  obtain ⟨D, hD40, hD⟩ := equal_succ
  unfold eqPlain at h
  split at h
  case h_11 =>
    split at h
    case isFalse => cases h
    rename_i hm
    refine ⟨by rw [hD]; exact eqT_ok ht ρ w 40 (D + 1) t _ _ b hD40 h, fun op xo yo => ?_⟩
    simp only [toV]
    exact run_eqGuard_agg w op t xo yo _ _ (ht.guard t hm)
  case h_12 =>
    split at h
    case isFalse => cases h
    rename_i hm
    refine ⟨by rw [hD]; exact eqT_ok ht ρ w 40 (D + 1) t _ _ b hD40 h, fun op xo yo => ?_⟩
    simp only [toV]
    exact run_eqGuard_agg w op t xo yo _ _ (ht.guard t hm)
  case h_13 => cases h
  all_goals
    rename_i hu
    cases h
    refine ⟨?_, fun op xo yo => ?_⟩
    · simp [toV, hD, Op.equalIn, run_und hu, denB, denB_mkBeq]
    · cases op <;> simp [toV, eqGuard]

def prBin {L : Lf} (P : Program) (tab : List TypeId) (tm : Tm L) (op : BinOp) (t : TypeId) (x y : Operand) : Option (PR L) :=
  match evT tm x, evT tm y with
  | some (.int k a), some (.int k' b) =>
    match op with
    | .shl => some { val := .int k (mkBin op k a b), ob := sLe (.lit 0) b }
    | .shr => some { val := .int k (mkBin op k a b), ob := sLe (.lit 0) b }
    | .quo => if k = k' then some { val := .int k (mkBin op k a b), ob := sNz b } else none
    | .rem => if k = k' then some { val := .int k (mkBin op k a b), ob := sNz b } else none
    | .add => if k = k' then some { val := .int k (mkBin op k a b) } else none
    | .sub => if k = k' then some { val := .int k (mkBin op k a b) } else none
    | .mul => if k = k' then some { val := .int k (mkBin op k a b) } else none
    | .and => if k = k' then some { val := .int k (mkBin op k a b) } else none
    | .or => if k = k' then some { val := .int k (mkBin op k a b) } else none
    | .xor => if k = k' then some { val := .int k (mkBin op k a b) } else none
    | .andNot => if k = k' then some { val := .int k (mkBin op k a b) } else none
    | _ => if k = k' then some { val := .bool (mkCmp op a b) } else none
  | some u, some v =>
    match op with
    | .eql => (eqPlain P tab t u v).map fun b => { val := .bool b }
    | .neq => (eqPlain P tab t u v).map fun b => { val := .bool (mkNot b) }
    | _ => none
  | _, _ => none

theorem run_eqGuard_int (op : BinOp) (t : TypeId) (xo yo : Operand) (k k' : IntKind) (a b : Int) (w : World) : (eqGuard op t xo yo (.int k a) (.int k' b)).run P w = .ok () w := by
  cases op <;> simp [eqGuard]

theorem prBin_ok {tab : List TypeId} (ht : EqTab P tab) {tm : Tm L0} {A : AH L0} {o : Oper} {op : BinOp} {t t' : TypeId} {x y : Operand} {r : PR L0} (ho : o.op = .binOp op t x y t')
    (h : prBin P tab tm op t x y = some r) (hob : ∀ q, q ∈ r.ob → Obs Ctr Iso q) : OpOk P o (evT tm) (getH A) r := by
  have hmx : x ∈ o.op.operands := by simp [ho, Op.operands]
  have hmy : y ∈ o.op.operands := by simp [ho, Op.operands]
  unfold prBin at h
  split at h
  · rename_i k a k' b hx hy
    split at h
    case h_1 =>
      cases h
      have h0 : denI (.lit 0) ≤ denI b := sLe_ok hob
      simp only [denI] at h0
      refine OpOk.of_value fun ρ fps w a' B hev hH hB => ?_
      simp only [execOp, ho, hev x _ hmx hx, hev y _ hmy hy, toV, Sem.run_bind, run_eqGuard_int, Result.andThen_ok, binOp, Op.shift]
      rw [if_neg (by omega)]
      simp [denI_mkBin, binI]
    case h_2 =>
      cases h
      have h0 : denI (.lit 0) ≤ denI b := sLe_ok hob
      simp only [denI] at h0
      refine OpOk.of_value fun ρ fps w a' B hev hH hB => ?_
      simp only [execOp, ho, hev x _ hmx hx, hev y _ hmy hy, toV, Sem.run_bind, run_eqGuard_int, Result.andThen_ok, binOp, Op.shift]
      rw [if_neg (by omega)]
      simp [denI_mkBin, binI]
    case h_3 =>
      split at h
      case isFalse => cases h
      rename_i hk
      subst hk
      cases h
      have h0 : denI b ≠ 0 := sNz_ok hob
      refine OpOk.of_value fun ρ fps w a' B hev hH hB => ?_
      simp [execOp, ho, hev x _ hmx hx, hev y _ hmy hy, toV, run_eqGuard_int, binOp, Op.intDiv, h0, denI_mkBin, binI]
    case h_4 =>
      split at h
      case isFalse => cases h
      rename_i hk
      subst hk
      cases h
      have h0 : denI b ≠ 0 := sNz_ok hob
      refine OpOk.of_value fun ρ fps w a' B hev hH hB => ?_
      simp [execOp, ho, hev x _ hmx hx, hev y _ hmy hy, toV, run_eqGuard_int, binOp, Op.intDiv, h0, denI_mkBin, binI]
    case h_12 =>
      split at h
      case isFalse => cases h
      rename_i hk
      subst hk
      cases h
      refine OpOk.of_value fun ρ fps w a' B hev hH hB => ?_
      cases op <;> first
        | (exfalso; simp_all; done)
        | simp [execOp, ho, hev x _ hmx hx, hev y _ hmy hy, toV, run_eqGuard_int, binOp, Op.intCmp, denB_mkCmp, cmpI]
    all_goals
      split at h
      case isFalse => cases h
      rename_i hk
      subst hk
      cases h
      refine OpOk.of_value fun ρ fps w a' B hev hH hB => ?_
      simp [execOp, ho, hev x _ hmx hx, hev y _ hmy hy, toV, run_eqGuard_int, binOp, Op.intArith, Op.intBits, denI_mkBin, binI]
  · rename_i u v hni hx hy
    have hev2 : ∀ (ρ : Rho) (w : World) (b : SB L0), eqPlain P tab t u v = some b → (binOp .eql t (toV ρ u) (toV ρ v)).run P w = .ok (.bool (denB b)) w ∧ (binOp .neq t (toV ρ u) (toV ρ v)).run P w = .ok (.bool (!(denB b))) w := by
      intro ρ w b hb
      have he := (eqPlain_ok ht hb ρ w).1
      unfold eqPlain at hb
      split at hb <;> first
        | cases hb; done
        | (simp only [toV] at he ⊢; simp [binOp, he])
    split at h
    · cases hb : eqPlain P tab t u v with
      | none => simp [hb] at h
      | some b =>
        simp [hb] at h
        subst h
        refine OpOk.of_value fun ρ fps w a' B hev hH hB => ?_
        simp only [execOp, ho, hev x _ hmx hx, hev y _ hmy hy, Sem.run_bind, (eqPlain_ok ht hb ρ w).2, Result.andThen_ok, (hev2 ρ w b hb).1, toV, Sem.run_pure]
    · cases hb : eqPlain P tab t u v with
      | none => simp [hb] at h
      | some b =>
        simp [hb] at h
        subst h
        refine OpOk.of_value fun ρ fps w a' B hev hH hB => ?_
        simp only [execOp, ho, hev x _ hmx hx, hev y _ hmy hy, Sem.run_bind, (eqPlain_ok ht hb ρ w).2, Result.andThen_ok, (hev2 ρ w b hb).2, toV, Sem.run_pure, denB_mkNot]
    · cases h
  · cases h

def prUn {L : Lf} (tm : Tm L) (op : UnOp) (x : Operand) : Option (PR L) :=
  match op, evT tm x with
  | .neg, some (.int k e) => some { val := .int k (mkBin .sub k (.lit 0) e) }
  | .not, some (.bool b) => some { val := .bool (mkNot b) }
  | .xor, some (.int k e) => some { val := .int k (mkBin .xor k (.lit (if k.signed then -1 else k.max)) e) }
  | _, _ => none

theorem prUn_ok {tm : Tm L0} {A : AH L0} {o : Oper} {op : UnOp} {t : TypeId} {x : Operand} {r : PR L0} (ho : o.op = .unOp op t x)
    (h : prUn tm op x = some r) : OpOk P o (evT tm) (getH A) r := by
  have hmx : x ∈ o.op.operands := by simp [ho, Op.operands]
  unfold prUn at h
  split at h
  case h_4 => cases h
  all_goals
    rename_i hx
    cases h
    refine OpOk.of_value fun ρ fps w a' B hev hH hB => ?_
    simp [execOp, ho, hev x _ hmx hx, toV, Op.unary, Op.intArith, Op.intBits, denI_mkBin, denB_mkNot, binI, denI]

def prConv {L : Lf} (P : Program) (tm : Tm L) (src dst : TypeId) (x : Operand) : Option (PR L) :=
  match P.underlying src, P.underlying dst, evT tm x with
  | some _, some (.int k), some (.int _ e) => some { val := .int k (mkCv k e) }
  | _, _, _ => none

theorem prConv_ok {tm : Tm L0} {A : AH L0} {o : Oper} {src dst : TypeId} {x : Operand} {r : PR L0} (ho : o.op = .convert src dst x)
    (h : prConv P tm src dst x = some r) : OpOk P o (evT tm) (getH A) r := by
  have hmx : x ∈ o.op.operands := by simp [ho, Op.operands]
  unfold prConv at h
  split at h
  case h_2 => cases h
  rename_i hs hd hx
  cases h
  refine OpOk.of_value fun ρ fps w a' B hev hH hB => ?_
  simp [execOp, ho, hev x _ hmx hx, toV, convert, run_und hs, run_und hd, Conv.intToInt, denI_mkCv]

/-! ### Built-in functions that only look -/

def lenOfAV {L : Lf} (len : SE L) : SE L × List (Ob L) :=
  match len with
  | .lit n => (.lit n, sLe (.lit 0) (.lit n))
  | .len a => (.len a, [])
  | e => (e, [.ile (.lit 0) e])

theorem lenOfAV_ok {len : SE L0} (h : ∀ q, q ∈ (lenOfAV len).2 → Obs Ctr Iso q) : denI (lenOfAV len).1 = ((denI len).toNat : Int) := by
  unfold lenOfAV at h ⊢
  split at h
  · rename_i n
    have : denI (.lit 0) ≤ denI (.lit n) := sLe_ok (Ctr := Ctr) (Iso := Iso) fun q hq => h q hq
    simp only [denI] at this ⊢
    omega
  · simp [denI]
  · have : denI (.lit 0) ≤ denI len := h (.ile _ _) (List.mem_singleton.2 rfl)
    simp only [denI] at this ⊢
    omega

def prLen {L : Lf} (P : Program) (tm : Tm L) (t : TypeId) (x : Operand) : Option (PR L) :=
  match P.underlying t, evT tm x with
  | some (.slice _), some (.slice _ _ _ _ len _) => some { val := .int .i64 (lenOfAV len).1, ob := (lenOfAV len).2 }
  | some (.slice _), some .nils => some { val := .int .i64 (.lit 0) }
  | some (.array n _), some _ => some { val := .int .i64 (.lit n) }
  | _, _ => none

theorem run_builtin {o : Oper} {a : Act} {b : Builtin} {args : Array Operand} {argTypes : Array TypeId} (ho : o.op = .call { callee := .builtin b, args, argTypes }) (w : World) :
    (execOp a.eval o).run P w = (builtin b argTypes o.type (args.map fun | .const _ => true | _ => false) (args.map a.eval)).run P w := by
  simp [execOp, ho, resolve, invoke]
  rfl

theorem prLen_ok {tm : Tm L0} {A : AH L0} {o : Oper} {t : TypeId} {x : Operand} {r : PR L0} (ho : o.op = .call { callee := .builtin .len, args := #[x], argTypes := #[t] })
    (h : prLen P tm t x = some r) (hob : ∀ q, q ∈ r.ob → Obs Ctr Iso q) : OpOk P o (evT tm) (getH A) r := by
  have hmx : x ∈ o.op.operands := by simp [ho, Op.operands, Call.operands]
  unfold prLen at h
  split at h
  · rename_i hu hx
    cases h
    have hl := lenOfAV_ok hob
    refine OpOk.of_value fun ρ fps w a' B hev hH hB => ?_
    rw [run_builtin ho]
    simp [builtin, Builtin.len_, hev x _ hmx hx, toV, run_und hu, goInt, hl]
  · rename_i hu hx
    cases h
    refine OpOk.of_value fun ρ fps w a' B hev hH hB => ?_
    rw [run_builtin ho]
    simp [builtin, Builtin.len_, hev x _ hmx hx, toV, run_und hu, goInt, denI]
  · rename_i n e v hu hx
    cases h
    refine OpOk.of_value fun ρ fps w a' B hev hH hB => ?_
    rw [run_builtin ho]
    simp only [builtin, Builtin.len_, Array.map, Sem.run_bind, run_und hu, goInt, toV, denI]
    simp [run_und hu]
  · cases h

def prMax {L : Lf} (tm : Tm L) (x y : Operand) : Option (PR L) :=
  match evT tm x, evT tm y with
  | some (.int k a), some (.int _ b) => some { val := .int k (.mx a b) }
  | _, _ => none

theorem prMax_ok {tm : Tm L0} {A : AH L0} {o : Oper} {ts : Array TypeId} {x y : Operand} {r : PR L0} (ho : o.op = .call { callee := .builtin .max, args := #[x, y], argTypes := ts })
    (h : prMax tm x y = some r) : OpOk P o (evT tm) (getH A) r := by
  have hmx : x ∈ o.op.operands := by simp [ho, Op.operands, Call.operands]
  have hmy : y ∈ o.op.operands := by simp [ho, Op.operands, Call.operands]
  unfold prMax at h
  split at h
  case h_2 => cases h
  rename_i hx hy
  cases h
  refine OpOk.of_value fun ρ fps w a' B hev hH hB => ?_
  rw [run_builtin ho]
  simp [builtin, Builtin.max_, Builtin.max2, hev x _ hmx hx, hev y _ hmy hy, toV, denI]

end
end Go.Fl
