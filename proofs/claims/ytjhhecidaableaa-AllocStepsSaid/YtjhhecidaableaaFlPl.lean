/- A planner: which steps bring a state into the form that an operation, a call, a loop or a function's end wants. Nothing here is relied on: what it plans is carried out by proved steps. Conditions: none. -/
import Derived.Test.YtjhhecidaableaaFlY
set_option linter.unusedSimpArgs false
set_option linter.unusedVariables false
set_option linter.unusedSectionVars false
namespace Go.Fl
open Go Go.RowKit
variable [Objs]

inductive Res (α : Type) : Type
  | ok (a : α)
  | more (n : Nat)
  | bad (m : Nat) (l : List Nat := [])

def Res.bind {α β : Type} (r : Res α) (f : α → Res β) : Res β :=
  match r with
  | .ok a => f a
  | .more n => .more n
  | .bad m l => .bad m l

def pick (n : Nat) (ch : List Nat) : Res (Nat × List Nat) :=
  match ch with
  | [] => .more n
  | c :: r => if c < n then .ok (c, r) else .bad 1 [c, n]

structure PSt where
  s : S2
  cs : List Cmd      -- reversed
  ch : List Nat
  ids : List Nat

structure Ctx where
  n0 : Nat
  ws : List Nat

def emit (x : Ctx) (c : Cmd) (p : PSt) : Res PSt :=
  match execC x.n0 x.ws c p.s with
  | some s' => .ok { p with s := s', cs := c :: p.cs }
  | none => .bad 2 [match c with | .unf i => i | .fold t ids => 100 + t | .optN i => 200 + i | .optS i => 300 + i | .unSl i => 400 + i | .unOl i _ => 500 + i | .mkN t _ => 600 + t | .mkS _ => 700 | .foL _ => 800 | .foO _ => 900 | .foO0 .. => 1000 | .fselC _ _ i => 1100 + i | .fselT t i => 1200 + t | .drop _ => 1300]

def bindId (j g : Nat) (p : PSt) : Res PSt :=
  if j = p.ids.length then .ok { p with ids := p.ids ++ [g] }
  else if p.ids.getD j 0 = g then .ok p else .bad 3 [j, g]

def lastId (p : PSt) : Nat := p.s.A.length - 1

def optTag (HP : List (ABlock LU)) (j : Nat) : Nat :=
  match HP[j]? with
  | some (.obj (t, _)) => t
  | _ => 0

def findIdx (f : Option (FuncId × Option Nat) → Bool) : List (Option (FuncId × Option Nat)) → Nat → Option Nat
  | [], _ => none
  | x :: r, k => if f x then some k else findIdx f r (k + 1)

def adaptV (x : Ctx) (fold : Nat → Nat → PSt → Res PSt) (HP : List (ABlock LU)) (pat : AV LU) (v : AV L0) (loc : Option Loc) (p : PSt) : Res PSt :=
  match pat, v with
  | .ptr j _ _ _, .ptr g _ _ _ => bindId j g p
  | .ptr j _ _ _, .opt g => (emit x (.optS g) p).bind fun p => bindId j (lastId p) p
  | .opt j, .opt g => bindId j g p
  | .opt j, .nilp => match loc with
    | some l => (emit x (.mkN (optTag HP j) l) p).bind fun p => bindId j (lastId p) p
    | none => .bad 4 [j]
  | .opt j, .ptr g _ _ _ => match loc with
    | some l => (fold (optTag HP j) g p).bind fun p => (emit x (.mkS l) p).bind fun p => bindId j (lastId p) p
    | none => .bad 5 [j]
  | .sl j, .sl g => bindId j g p
  | .sl j, .slice g _ _ _ _ _ => match loc, HP[j]? with
    | some l, some (.lst ..) => (emit x (.foL l) p).bind fun p => bindId j (lastId p) p
    | some l, some (.olst ..) => (emit x (.foO l) p).bind fun p => bindId j (lastId p) p
    | _, _ => .bad 6 [j]
  | .sl j, .nils => match loc, HP[j]? with
    | some l, some (.olst e sz _) => (emit x (.foO0 e sz l) p).bind fun p => bindId j (lastId p) p
    | _, _ => .bad 7 [j]
  | .slice j _ _ _ _ _, .slice g _ _ _ _ _ => bindId j g p
  | .slice j _ _ _ _ _, .sl g => match getH p.s.A g with
    | .lst .. => (emit x (.unSl g) p).bind fun p => bindId j g p
    | _ => .bad 8 [j]
  | .fsel _ fs, .fsel _ _ => .ok p
  | .fsel _ fs, w => match loc with
    | some l =>
      let fs' := fs.map fun y => y.map fun q => (q.1, q.2.map fun i => p.ids.getD i 0)
      match findIdx (fun y => isFsel y w) fs' 0 with
      | some i => emit x (.fselC l fs' i) p
      | none => .bad 9 []
    | none => .bad 10 []
  | _, _ => .ok p

/-- Values inside values: only their numbers are bound. -/
def bindIn (x : Ctx) : Nat → AV LU → AV L0 → PSt → Res PSt
  | 0, _, _, p => .ok p
  | k + 1, .func _ a b, .func _ a' b', p => (a.zip a' ++ b.zip b').foldl (fun r q => r.bind fun p => bindIn x k q.1 q.2 p) (.ok p)
  | k + 1, .agg a, .agg a', p => (a.zip a').foldl (fun r q => r.bind fun p => bindIn x k q.1 q.2 p) (.ok p)
  | k + 1, .tuple a, .tuple a', p => (a.zip a').foldl (fun r q => r.bind fun p => bindIn x k q.1 q.2 p) (.ok p)
  | _, pat, v, p => adaptV x (fun _ _ p => .bad 11 []) [] pat v none p

def adaptT (x : Ctx) (fold : Nat → Nat → PSt → Res PSt) (HP : List (ABlock LU)) (pat : AV LU) (v : AV L0) (loc : Option Loc) (p : PSt) : Res PSt :=
  match pat with
  | .func .. | .agg .. | .tuple .. => bindIn x 4 pat v p
  | _ => adaptV x fold HP pat v loc p

/-- The cells of the block g. -/
def adaptCells (x : Ctx) (fold : Nat → Nat → PSt → Res PSt) (HP : List (ABlock LU)) (g : Nat) : List (AV LU) → Nat → PSt → Res PSt
  | [], _, p => .ok p
  | pat :: r, k, p => match getLoc p.s (.cell g k) with
    | some v => (adaptT x fold HP pat v (some (.cell g k)) p).bind fun p => adaptCells x fold HP g r (k + 1) p
    | none => .bad 12 [g, k]

def adaptBlocks (x : Ctx) (fold : Nat → Nat → PSt → Res PSt) (HP : List (ABlock LU)) : List (ABlock LU) → Nat → PSt → Res PSt
  | [], _, p => .ok p
  | b :: r, j, p =>
    if j < p.ids.length then
      let g := p.ids.getD j 0
      let q : Res PSt := match b, getH p.s.A g with
        | .obj (t, false), .cells .. => fold t g p
        | .cells _ pats, .obj _ => (emit x (.unf g) p).bind fun p => adaptCells x fold HP g pats 0 p
        | .cells _ pats, .cells .. => adaptCells x fold HP g pats 0 p
        | _, _ => .ok p
      q.bind fun p => adaptBlocks x fold HP r (j + 1) p
    else .bad 13 [j]

/-- Put the object g together, as one of the type t. -/
def foldObj (x : Ctx) : Nat → Nat → Nat → PSt → Res PSt
  | 0, _, _, _ => .bad 14 []
  | k + 1, t, g, p =>
    match getH p.s.A g with
    | .obj _ => .ok p
    | .cells .. =>
      let tp := tplT t
      (adaptBlocks x (foldObj x k) tp tp 0 { p with ids := [g] }).bind fun q => (emit x (.fold t q.ids) q).bind fun q => .ok { q with ids := p.ids }
    | _ => .bad 15 [t, g]

def operandOf (a : List Operand) (k : Nat) : Option Loc :=
  match a[k]? with
  | some (.tmp t) => some (.tm t)
  | _ => none

def adaptArgs (x : Ctx) (fold : Nat → Nat → PSt → Res PSt) (HP : List (ABlock LU)) : List (AV LU) → List (AV L0) → List (Option Loc) → PSt → Res PSt
  | pat :: r, v :: vs, l :: ls, p => (adaptT x fold HP pat v l p).bind fun p => adaptArgs x fold HP r vs ls p
  | _, _, _, p => .ok p

/-- Bring the state into the form that the callee's summary wants. -/
def planCall (x : Ctx) (s : Summ) (args : List (AV L0)) (locs : List (Option Loc)) (st : S2) (ch : List Nat) : Res PSt :=
  (adaptArgs x (foldObj x 6) s.H s.args args locs ⟨st, [], ch, []⟩).bind fun p => adaptBlocks x (foldObj x 6) s.H s.H 0 p

def isTake (o : Op) : List Operand :=
  match o with
  | .load _ x => [x]
  | .store _ x _ => [x]
  | .nilCheck x => [x]
  | .binOp _ _ x y _ => [x, y]
  | .fieldAddr _ x _ => [x]
  | .indexAddr _ x _ => [x]
  | .index _ x _ => [x]
  | .slice _ x _ _ _ => [x]
  | .call c => match c.callee with
    | .builtin _ => c.args.toList
    | _ => []
  | _ => []

def planX (x : Ctx) (st : S2) (ch : List Nat) : List Operand → Res PSt
  | [] => .bad 16 []
  | o :: r =>
    let p0 : PSt := ⟨st, [], ch, []⟩
    match evT st.tm o with
    | some (.opt id) => (pick 2 ch).bind fun c => (emit x (if c.1 = 0 then .optN id else .optS id) { p0 with ch := c.2 })
    | some (.sl id) => match getH st.A id with
      | .lst .. => emit x (.unSl id) p0
      | .olst .. => (pick 2 ch).bind fun c => emit x (.unOl id (c.1 = 0)) { p0 with ch := c.2 }
      | _ => planX x st ch r
    | some (.fsel _ fs) => match o with
      | .tmp t => (pick fs.length ch).bind fun c => emit x (.fselT t c.1) { p0 with ch := c.2 }
      | _ => .bad 17 []
    | some (.ptr id _ _ _) => match getH st.A id with
      | .obj (.one ..) => emit x (.unf id) p0
      | _ => planX x st ch r
    | _ => planX x st ch r

def planOp (x : Ctx) (sg : List Summ) (ops : Array Oper) (i : Nat) (st : S2) (ch : List Nat) : Res PSt :=
  match ops[i]? with
  | none => .bad 18 [i]
  | some o =>
    match o.op with
    | .call c =>
      match c.callee with
      | .value fo =>
        match evT st.tm fo, evList st.tm c.args.toList with
        | some (.func f first caps), some as =>
          let locs := first.map (fun _ => none) ++ (List.range as.length).map (operandOf c.args.toList) ++ caps.map (fun _ => none)
          let cands := sg.filter fun s => s.f == f
          let tries := cands.map fun s => planCall x s (first ++ as ++ caps) locs st ch
          match tries.find? (fun r => match r with | .ok p => !p.cs.isEmpty | .more _ => true | _ => false) with
          | some r => r
          | none => if cands.isEmpty then .bad 1000 [f] else match (first ++ as ++ caps).findSome? (fun v => match v with
              | .sl g => (match getH st.A g with | .olst .. => some g | _ => none)
              | _ => none) with
            | some g => (pick 2 ch).bind fun c => emit x (.unOl g (c.1 = 0)) ⟨st, [], c.2, []⟩
            | none => match tries.head? with
            | some (.bad m l) => .bad m (f :: l)
            | _ => .bad 19 [f]
        | some (.fsel ..), _ => planX x st ch [fo]
        | some (.opt ..), _ => planX x st ch [fo]
        | _, _ => .bad 20 [i]
      | _ => planX x st ch (isTake o.op)
    | _ => planX x st ch (isTake o.op)

/-- Which ways a guard or an index goes. -/
def opHints (P : Program) (ops : Array Oper) (i : Nat) (st : S2) (ch : List Nat) : Res (List (Hint L0) × List Nat) :=
  match ops[i]? with
  | none => .bad 21 [i]
  | some o =>
    let g : Res (Bool × List (Hint L0) × List Nat) :=
      match o.guard with
      | none => .ok (true, [], ch)
      | some (j, want) =>
        match (ops[j]?).bind (·.dst) with
        | none => .ok (true, [], ch)
        | some d =>
          match st.tm.getD d none with
          | some (.bool (.lit b)) => .ok (b == want, [], ch)
          | some (.bool _) => (pick 2 ch).bind fun c => .ok ((c.1 == 1) == want, [.br (c.1 == 1)], c.2)
          | _ => .ok (false, [], ch)
    g.bind fun r =>
      if r.1 then
        let fx (t : TypeId) (a : Operand) (ix : Operand) : Res (List (Hint L0) × List Nat) :=
          match ix with
          | .tmp u =>
            match st.tm.getD u none, P.underlying t with
            | some (.int k (.lit _)), _ => .ok r.2
            | some (.int k e), some (.array n _) => (pick n r.2.2).bind fun c => .ok (r.2.1 ++ [.fix u c.1], c.2)
            | _, _ => .ok r.2
          | _ => .ok r.2
        match o.op with
        | .indexAddr t a ix => match evT st.tm a with
          | some (.ptr id _ _ _) => match getH st.A id with
            | .cells .. => fx t a ix
            | _ => .ok r.2
          | _ => .ok r.2
        | .index t a ix => fx t a ix
        | _ => .ok r.2
      else .ok r.2

def mkSt (s : S2) (hs : List (Hint L0)) : St L0 := ⟨s.tm, s.A, hs, s.ob⟩
def ofSt (s : St L0) : S2 := ⟨s.tm, s.A, s.ob⟩

/-- A region whose order is open: steps ahead of it, and its hints. -/
def planDraw (P : Program) (tab : List TypeId) (sg : List Summ) (x : Ctx) (ops : Array Oper) : Nat → List Nat → S2 → S2 → List (Hint L0) → List Cmd → List Nat → List Nat → Res (List Cmd × List (Hint L0) × List Nat)
  | 0, _, _, _, _, _, _, _ => .bad 22 []
  | _ + 1, [], _, _, hs, cs, _, ch => .ok (cs, hs, ch)
  | k + 1, i :: r, st0, st, hs, cs, ch0, ch =>
    (opHints P ops i st ch).bind fun h =>
      match opStep P tab sg x.n0 x.ws ops i (mkSt st h.1) with
      | some (_, st1) => planDraw P tab sg x ops k r st0 (ofSt st1) (hs ++ h.1) cs ch0 h.2
      | none => (planOp x sg ops i st ch).bind fun p =>
        let ch' := ch0.take (ch0.length - ch.length) ++ p.ch
        match execCs x.n0 x.ws p.cs.reverse st0 with
        | some st0' => planDraw P tab sg x ops k (List.range ops.size) st0' st0' [] (cs ++ p.cs.reverse) ch' ch'
        | none => .bad 23 [i]

def resLoc (st : S2) : ResultVar → Option Loc
  | .tmp t => some (.tm t)
  | .cell a _ => match st.tm.getD a none with
    | some (.ptr id c _ 0) => some (.cell id c)
    | _ => none

def adaptLocs (x : Ctx) (HP : List (ABlock LU)) : List (AV LU) → List (Option Loc) → PSt → Res PSt
  | pat :: r, some l :: ls, p => match getLoc p.s l with
    | some v => (adaptT x (foldObj x 6) HP pat v (some l) p).bind fun p => adaptLocs x HP r ls p
    | none => adaptLocs x HP r ls p
  | _ :: r, none :: ls, p => adaptLocs x HP r ls p
  | _, _, p => .ok p

def resPats (v : AV LU) : List (AV LU) :=
  match v with
  | .tuple l => l
  | v => [v]

/-- A function's end: the answer and the objects as the summary tells them. -/
def planEnd (x : Ctx) (s : Summ) (rs : List ResultVar) (st : S2) (ch : List Nat) : Res PSt :=
  (adaptLocs x s.H' (resPats s.v) (rs.map (resLoc st)) ⟨st, [], ch, List.range x.n0⟩).bind fun p => adaptBlocks x (foldObj x 6) s.H' s.H' 0 p

/-- A loop's head, or its end. -/
def planTm (x : Ctx) (tmP : List (Option (AV LU))) (AP : List (ABlock LU)) (st : S2) (ch : List Nat) : Res PSt :=
  let dr := (List.range st.tm.length).filter fun t => (tmP.getD t none).isNone && (st.tm.getD t none).isSome
  (emit x (.drop dr) ⟨st, [], ch, List.range x.n0⟩).bind fun p =>
    (adaptLocs x AP (tmP.filterMap id) ((tmP.zipIdx.filterMap fun (q : Option (AV LU) × Nat) => q.1.map fun _ => some (Loc.tm q.2))) p).bind fun p => adaptBlocks x (foldObj x 6) AP AP 0 p

end Go.Fl
