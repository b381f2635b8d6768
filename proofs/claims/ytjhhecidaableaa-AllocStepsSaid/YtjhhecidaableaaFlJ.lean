/- append on symbolic values. Conditions: none. -/
import Derived.Test.YtjhhecidaableaaFlI
set_option linter.unusedSimpArgs false
set_option linter.unusedVariables false
set_option linter.unusedSectionVars false
namespace Go.Fl
open Go Go.RowKit
variable [Objs]

section
variable {P : Program} {Ctr : FuncId → List (AV L0) → List (ABlock L0) → AV L0 → List Nat → List (ABlock L0) → Prop} {Iso : ObRest}

/-- A grown slice: the object n over the block g', the elder object (if any) is gone. -/
theorem Post.grow {v : AV L0} {t wr : List Nat} {n : Nat} {blk : ABlock L0} {upd : List (Nat × ABlock L0)} {ob : List (Ob L0)} {B : AHF} {ρ : Rho} {fps : Fps} {w w' : World} {g' cap' : Nat}
    (h : HS B ρ fps w) (hg : B n = .gone) (hid : ∀ i, n ∉ (B i).ids)
    (hwr : (wr = [] ∧ upd = [(n, blk)]) ∨ ∃ d, wr = [d] ∧ d ≠ n ∧ upd = [(n, blk), (d, .gone)])
    (fr : Fr (fun b => ∃ i, i ∈ wr ∧ fps i b) w w') (hgb : (∃ i, i ∈ wr ∧ fps i g') ∨ w.heap.size ≤ g') (hgl : g' < w'.heap.size)
    (hrep : Rep (setRho ρ n { block := g', base := 0, cap := cap' }) w' { block := g', base := 0, cap := cap' } (fun b => b = g') blk) (hro : blk.isRo = false) :
    Post { val := v, tch := t, wr := wr, news := [n], upd := upd, ob := ob } B ρ fps w (setRho ρ n { block := g', base := 0, cap := cap' })
      (fun i => if i = n then (fun b => b = g') else if i ∈ wr then (fun _ => False) else fps i) w' := by
  have hne : ∀ b, ¬ fps n b := by have := h.rep n; rw [hg] at this; exact this
  have hnw : n ∉ wr := by
    rcases hwr with ⟨rfl, _⟩ | ⟨d, rfl, hd, _⟩
    · simp
    · simp; exact fun e => hd e.symm
  have hu : ∀ i, updF B upd i = if i = n then blk else if i ∈ wr then .gone else B i := by
    intro i
    rcases hwr with ⟨rfl, rfl⟩ | ⟨d, rfl, hd, rfl⟩ <;> simp [updF]
  have hkeep : ∀ i, i ≠ n → i ∉ wr → Rep ρ w' (ρ i) (fps i) (B i) := fun i hi hw =>
    (h.rep i).keep fr.size (fun b hb => fr.block b (h.lt i b hb) (fun ⟨j, hj, hjb⟩ => h.disj i j (fun e => hw (e ▸ hj)) b hb hjb))
      (fun hr => fr.block _ (by
        have := h.rep i
        cases hB : B i <;> rw [hB] at hr this <;> simp [ABlock.isRo] at hr
        exact this.2.1) (fun ⟨j, hj, hjb⟩ => h.ro i hr j hjb))
  have hgfree : ∀ i, i ≠ n → i ∉ wr → ¬ fps i g' := by
    intro i hi hw hb
    rcases hgb with ⟨j, hj, hjb⟩ | hge
    · exact h.disj i j (fun e => hw (e ▸ hj)) g' hb hjb
    · have := h.lt i g' hb; omega
  refine ⟨fun i hi => ?_, ⟨fun i => ?_, ?_, ?_⟩, fr, fun i hi1 hi2 b => ?_, fun i hi b hb => ?_⟩
  · simp only [List.mem_singleton] at hi; simp [setRho, hi]
  · rw [hu]
    by_cases hi : i = n
    · subst hi; simp only [setRho, if_true]; exact hrep
    · simp only [setRho, if_neg hi]
      by_cases hw : i ∈ wr
      · simp only [if_pos hw]; intro b hb; exact hb
      · simp only [if_neg hw]
        refine Rep_congr (hkeep i hi hw) fun j hj => ?_
        have : j ≠ n := fun e => hid i (e ▸ hj)
        simp [setRho, this]
  · intro i j hij b hb
    by_cases hi : i = n <;> by_cases hj : j = n
    · omega
    · simp only [if_pos hi] at hb
      simp only [if_neg hj]
      subst hb
      by_cases hw : j ∈ wr
      · simp [hw]
      · simp only [if_neg hw]; exact hgfree j hj hw
    · simp only [if_neg hi] at hb
      simp only [if_pos hj]
      intro e
      subst e
      by_cases hw : i ∈ wr
      · simp [hw] at hb
      · simp only [if_neg hw] at hb; exact hgfree i hi hw hb
    · simp only [if_neg hi] at hb
      simp only [if_neg hj]
      by_cases hw : i ∈ wr
      · simp [hw] at hb
      · simp only [if_neg hw] at hb
        by_cases hw2 : j ∈ wr
        · simp [hw2]
        · simp only [if_neg hw2]; exact h.disj i j hij b hb
  · intro i hr j
    rw [hu] at hr
    by_cases hi : i = n
    · subst hi; simp [hro] at hr
    · simp only [if_neg hi] at hr
      by_cases hw : i ∈ wr
      · simp [hw, ABlock.isRo] at hr
      · simp only [if_neg hw] at hr
        simp only [setRho, if_neg hi]
        by_cases hj : j = n
        · simp only [if_pos hj]
          intro e
          rcases hgb with ⟨k, hk, hkb⟩ | hge
          · exact h.ro i hr k (e ▸ hkb)
          · have := h.rep i
            cases hB : B i <;> rw [hB] at hr this <;> simp [ABlock.isRo] at hr
            have := this.2.1; omega
        · simp only [if_neg hj]
          by_cases hw2 : j ∈ wr
          · simp [hw2]
          · simp only [if_neg hw2]; exact h.ro i hr j
  · simp only [List.mem_singleton] at hi2
    simp [hi1, hi2]
  · by_cases hi1 : i = n
    · simp only [if_pos hi1] at hb
      subst hb
      exact hgb
    · rcases hi with hi | hi
      · simp only [if_neg hi1, if_pos hi] at hb
      · simp at hi; exact absurd hi hi1

def listInts {L : Lf} (k : IntKind) : List (AV L) → Option (List (SE L))
  | [] => some []
  | .int k' e :: r => if k' = k then (listInts k r).map (e :: ·) else none
  | _ :: _ => none

def saList {L : Lf} : SA L → List (SE L) → SA L
  | a, [] => a
  | a, e :: r => saList (.snoc a e) r

theorem denA_saList : ∀ (a : SA L0) (l : List (SE L0)), denA (saList a l) = denA a ++ l.map denI
  | a, [] => by simp [saList]
  | a, e :: r => by rw [saList, denA_saList (.snoc a e) r]; simp [denA]

theorem listInts_ok {k : IntKind} (ρ : Rho) : ∀ {l : List (AV L0)} {es : List (SE L0)}, listInts k l = some es → toVs ρ l = (es.map denI).map (Value.int k)
  | [], es, h => by simp [listInts] at h; subst h; rfl
  | v :: r, es, h => by
    cases v with
    | int k' e =>
      simp only [listInts] at h
      split at h
      case isFalse => cases h
      rename_i hk
      subst hk
      cases hr : listInts k' r with
      | none => simp [hr] at h
      | some es' =>
        simp [hr] at h
        subst h
        simp [toVs, toV, listInts_ok ρ hr]
    | _ => simp [listInts] at h

/-- What the source of an append holds: integers. -/
def srcInts {L : Lf} (A : AH L) (k : IntKind) (y : AV L) : Option (Nat × SE L × (SA L → SA L) × List (Ob L)) :=
  match y with
  | .slice id c _ 0 len _ =>
    match getH A id with
    | .cells _ vs =>
      match len with
      | .lit m =>
        if 0 < m ∧ c + m.toNat ≤ vs.length then
          (listInts k ((vs.drop c).take m.toNat)).map fun es => (id, .lit m, (fun a => saList a es), [])
        else none
      | _ => none
    | .arr _ k' a =>
      if k' = k then
        if c = 0 then some (id, len, (fun b => match b with | .nil => a | b => .app b a), sLt (.lit 0) len ++ [.alen len a])
        else some (id, len, (fun b => match b with | .nil => .drop c a | b => .app b (.drop c a)), sLt (.lit 0) len ++ [.alen len (.drop c a)])
      else none
    | .ro k' a =>
      if k' = k ∧ c = 0 then some (id, len, (fun b => match b with | .nil => a | b => .app b a), sLt (.lit 0) len ++ [.alen len a]) else none
    | _ => none
  | _ => none

theorem srcInts_ok {A : AH L0} {k : IntKind} {y : AV L0} {id : Nat} {len : SE L0} {f : SA L0 → SA L0} {ob : List (Ob L0)} (h : srcInts A k y = some (id, len, f, ob))
    (hob : ∀ q, q ∈ ob → Obs Ctr Iso q) {B : AHF} {ρ : Rho} {fps : Fps} {w : World} (hH : HS B ρ fps w) (hB : B id = getH A id) :
    ∃ (ad : Addr) (cap : Nat) (ns : List Int), toV ρ y = .slice (some ad) (denI len).toNat cap ∧ 0 < (denI len).toNat ∧ ns.length = (denI len).toNat ∧
      (∀ j u, (ns.map (Value.int k))[j]? = some u → w.cell? (ad.add j) = some u) ∧ ∀ b, denA (f b) = denA b ++ ns := by
  unfold srcInts at h
  split at h
  case h_2 => cases h
  rename_i id' c e len' cap
  split at h
  · rename_i el vs hA
    split at h
    case h_2 => cases h
    rename_i m
    split at h
    case isFalse => cases h
    rename_i hc
    cases hes : listInts k ((vs.drop c).take m.toNat) with
    | none => simp [hes] at h
    | some es =>
      simp [hes] at h
      obtain ⟨rfl, rfl, rfl, rfl⟩ := h
      have hb := hH.rep id'
      rw [hB, hA] at hb
      obtain ⟨_, h0, h2⟩ := hb
      have hl := listInts_ok ρ hes
      refine ⟨_, _, es.map denI, rfl, by simp only [denI]; omega, ?_, ?_, fun b => denA_saList b es⟩
      · have := congrArg List.length hl
        simp at this
        simp only [denI, List.length_map]
        omega
      · intro j u hu
        rw [← hl, toVs_take, toVs_drop] at hu
        rw [List.getElem?_take] at hu
        split at hu
        · rw [List.getElem?_drop] at hu
          simp only [addrOf, addr_add, h0]
          rw [cell_cells h2]
          simpa [Nat.add_assoc] using hu
        · cases hu
  · rename_i el k' a hA
    split at h
    case isFalse => cases h
    rename_i hk
    subst hk
    have hb := hH.rep id'
    split at h
    · rename_i hc0
      subst hc0
      cases h
      have hpos : denI (.lit 0) < denI len := sLt_ok (Ctr := Ctr) (Iso := Iso) fun q hq => hob q (List.mem_append_left _ hq)
      have hal : (denI len).toNat = (denA a).length := hob (.alen len a) (by simp)
      simp only [denI] at hpos
      rw [hB, hA] at hb
      obtain ⟨_, h0, cc, h2, _, _, hle, h3⟩ := hb
      refine ⟨_, _, denA a, rfl, by omega, hal.symm, ?_, ?_⟩
      · intro j u hu
        rw [← h3, List.getElem?_take] at hu
        split at hu
        · simp only [addrOf, addr_add, h0]
          rw [cell_cells h2]
          simpa using hu
        · cases hu
      · intro b
        cases b <;> simp [denA]
    · rename_i hc0
      cases h
      have hpos : denI (.lit 0) < denI len := sLt_ok (Ctr := Ctr) (Iso := Iso) fun q hq => hob q (List.mem_append_left _ hq)
      have hal : (denI len).toNat = (denA (.drop c a)).length := hob (.alen len (.drop c a)) (by simp)
      simp only [denI] at hpos
      rw [hB, hA] at hb
      obtain ⟨_, h0, cc, h2, _, _, hle, h3⟩ := hb
      refine ⟨_, _, (denA a).drop c, rfl, by omega, by simpa [denA] using hal.symm, ?_, ?_⟩
      · intro j u hu
        rw [List.map_drop, ← h3, List.getElem?_drop, List.getElem?_take] at hu
        split at hu
        · simp only [addrOf, addr_add, h0]
          rw [cell_cells h2]
          simpa using hu
        · cases hu
      · intro b
        cases b <;> simp [denA]
  · rename_i k' a hA
    split at h
    case isFalse => cases h
    rename_i hk
    obtain ⟨rfl, rfl⟩ := hk
    have hb := hH.rep id'
    cases h
    have hpos : denI (.lit 0) < denI len := sLt_ok (Ctr := Ctr) (Iso := Iso) fun q hq => hob q (List.mem_append_left _ hq)
    have hal : (denI len).toNat = (denA a).length := hob (.alen len a) (by simp)
    simp only [denI] at hpos
    rw [hB, hA] at hb
    refine ⟨_, _, denA a, rfl, by omega, hal.symm, ?_, ?_⟩
    · intro j u hu
      rw [List.getElem?_map] at hu
      cases hj : (denA a)[j]? with
      | none => simp [hj] at hu
      | some x =>
        simp [hj] at hu
        subst hu
        have hlt := (List.getElem?_eq_some_iff.1 hj).1
        have := hb.2.2 j hlt
        simp only [addrOf, addr_add, Nat.mul_zero, Nat.add_zero, Nat.zero_add]
        rw [this]
        simp [List.getD, hj]
    · intro b
      cases b <;> simp [denA]
  · cases h

/-- What the destination of an append holds: integers; which object it is (none: the nil slice). -/
def dstInts {L : Lf} (A : AH L) (k : IntKind) (elem : TypeId) (x : AV L) : Option (Option Nat × SE L × SA L × List (Ob L)) :=
  match x with
  | .nils => some (none, .lit 0, .nil, [])
  | .slice id 0 _ 0 len cap =>
    match getH A id with
    | .arr el k' a =>
      match cap with
      | .rest (.lit 0) => if k' = k ∧ el = elem then some (some id, .len a, a, [.alen len a]) else none
      | _ => none
    | .cells el vs =>
      match cap, len with
      | .known (.lit m), .lit m' => if el = elem ∧ m = vs.length ∧ m' = vs.length ∧ vs.length ≤ 4096 then (listInts k vs).map fun es => (some id, .lit m, saList .nil es, []) else none
      | _, _ => none
    | _ => none
  | _ => none

theorem dstInts_ok {A : AH L0} {k : IntKind} {elem : TypeId} {x : AV L0} {d : Option Nat} {len : SE L0} {a : SA L0} {ob : List (Ob L0)} (h : dstInts A k elem x = some (d, len, a, ob))
    (hob : ∀ q, q ∈ ob → Obs Ctr Iso q) {B : AHF} {ρ : Rho} {fps : Fps} {w : World} (hH : HS B ρ fps w) (hB : ∀ i, d = some i → B i = getH A i) :
    (d = none ∧ toV ρ x = .slice none 0 0 ∧ denA a = []) ∨
    ∃ id cap cur, d = some id ∧ toV ρ x = .slice (some ⟨(ρ id).block, 0, none⟩) (denA a).length cap ∧ (∀ b, fps id b ↔ b = (ρ id).block) ∧ w.heap[(ρ id).block]? = some (.cells cur elem (0, 0)) ∧
      (denA a).length ≤ cap ∧ cap ≤ maxLen ∧ cap * 1 ≤ cur.size ∧ (0 < cap → cur.size = cap * 1) ∧ cur.toList.take ((denA a).length * 1) = (denA a).map (Value.int k) := by
  unfold dstInts at h
  split at h
  · cases h; exact .inl ⟨rfl, rfl, rfl⟩
  · rename_i id e len' cap
    split at h
    · rename_i el k' a' hA
      split at h
      case h_2 => cases h
      split at h
      case isFalse => cases h
      rename_i hk
      obtain ⟨rfl, rfl⟩ := hk
      cases h
      have hal : (denI len').toNat = (denA a).length := hob (.alen len' a) (by simp)
      have hb := hH.rep id
      rw [hB id rfl, hA] at hb
      obtain ⟨h1, h0, cc, h2, hcs, hml, hle, h3⟩ := hb
      refine .inr ⟨id, (ρ id).cap, cc, rfl, ?_, h1, h2, hle, hml, by omega, fun _ => by omega, by simpa using h3⟩
      simp [toV, addrOf, h0, hal, denCap, denI]
    · rename_i el vs hA
      split at h
      case h_2 => cases h
      rename_i m m'
      split at h
      case isFalse => cases h
      rename_i hc
      obtain ⟨rfl, rfl, rfl, h4096⟩ := hc
      cases hes : listInts k vs with
      | none => simp [hes] at h
      | some es =>
        simp [hes] at h
        obtain ⟨rfl, rfl, rfl, rfl⟩ := h
        have hb := hH.rep id
        rw [hB id rfl, hA] at hb
        obtain ⟨h1, h0, h2⟩ := hb
        have hl := listInts_ok ρ hes
        have hlen : es.length = vs.length := by have := congrArg List.length hl; simpa using this.symm
        refine .inr ⟨id, vs.length, _, rfl, ?_, h1, h2, ?_, ?_, ?_, ?_, ?_⟩
        · simp [toV, addrOf, h0, denCap, denI, denA_saList, denA, hlen]
        · simp [denA_saList, denA, hlen]
        · simp only [maxLen]; omega
        · simp
        · simp
        · simp only [denA_saList, denA, List.nil_append, List.length_map, hlen, hl, Nat.mul_one]
          rw [List.take_of_length_le (by simp; omega)]
    · cases h
  · cases h

def appOb {L : Lf} (a : SA L) : List (Ob L) := [.ile (.len a) (.lit 1099511627776)]

/-- append of integers to integers. -/
def prAppInts {L : Lf} (P : Program) (A : AH L) (elem : TypeId) (k : IntKind) (x y : AV L) : Option (PR L) :=
  match dstInts A k elem x, srcInts A k y with
  | some (d, _, a, ob1), some (id2, _, f, ob2) =>
    if d = some A.length then none else
    some { val := .slice A.length 0 (.lit 0) 0 (.len (f a)) (.rest (.lit 0)), tch := d.toList ++ [id2], wr := d.toList, news := [A.length],
           upd := (A.length, .arr elem k (f a)) :: d.toList.map (fun i => (i, .gone)), ob := ob1 ++ ob2 ++ appOb (f a) }
  | _, _ => none

theorem toNat_add_le {a b c : Int} (ha : 0 ≤ a) (hb : 0 < b.toNat) (h : a + b ≤ c) : a.toNat + b.toNat ≤ c.toNat := by omega
theorem toNat_add' {a b : Int} (ha : 0 ≤ a) (hb : 0 < b.toNat) : (a + b).toNat = a.toNat + b.toNat := by omega

def mkAdd {L : Lf} (n m : SE L) : SE L :=
  match n, m with
  | .lit a, .lit b => .lit (a + b)
  | _, _ => .sb n (.sb (.lit 0) m)

theorem denI_mkAdd (n m : SE L0) : denI (mkAdd n m) = denI n + denI m := by
  unfold mkAdd; split <;> simp [denI] <;> omega

/-- append to a slice of which nothing but its length is known. -/
def prAppOpq {L : Lf} (P : Program) (A : AH L) (elem : TypeId) (sz : Nat) (x y : AV L) : Option (PR L) :=
  let src : Option (Nat × SE L × List (Ob L)) := match y with
    | .slice id c _ 0 len _ =>
      match getH A id with
      | .cells _ vs =>
        match len with
        | .lit m => if 0 < m ∧ c + m.toNat * sz ≤ vs.length ∧ ((vs.drop c).take (m.toNat * sz)).all (·.one) then some (id, len, []) else none
        | _ => none
      | .opq _ sz' n => if sz' = sz ∧ c = 0 then some (id, len, sLt (.lit 0) len ++ [.ile len n]) else none
      | _ => none
    | _ => none
  let dst : Option (Option Nat × SE L × List (Ob L)) := match x with
    | .nils => some (none, .lit 0, [])
    | .slice id 0 _ 0 len (.rest (.lit 0)) =>
      match getH A id with
      | .opq el sz' n => if sz' = sz ∧ el = elem then some (some id, len, [.ile (.lit 0) len, .ile len n]) else none
      | _ => none
    | .slice id 0 _ 0 (.lit 0) (.known (.lit 0)) =>
      match getH A id with
      | .cells el [] => if el = elem then some (some id, .lit 0, []) else none
      | _ => none
    | _ => none
  match dst, src with
  | some (d, n, ob1), some (id2, m, ob2) =>
    if d = some A.length then none else
    let n' : SE L := mkAdd n m
    some { val := .slice A.length 0 (.lit 0) 0 n' (.rest (.lit 0)), tch := d.toList ++ [id2], wr := d.toList, news := [A.length],
           upd := (A.length, .opq elem sz n') :: d.toList.map (fun i => (i, .gone)), ob := ob1 ++ ob2 ++ [.ile n' (.lit 1099511627776)] }
  | _, _ => none

def prAppend {L : Lf} (P : Program) (tm : Tm L) (A : AH L) (t : TypeId) (x y : Operand) : Option (PR L) :=
  match P.underlying t with
  | some (.slice elem) =>
    match P.info? elem, evT tm x, evT tm y with
    | some i, some vx, some vy =>
      match i.zero with
      | some z =>
        if z.cells.size = i.size ∧ 0 < i.size ∧ i.bytes ≤ 64 ∧ z.cells.all (·.oneCell') = true then
          match intKind? P elem with
          | some k => if i.size = 1 then prAppInts P A elem k vx vy else none
          | none => prAppOpq P A elem i.size vx vy
        else none
      | none => none
    | _, _, _ => none
  | _ => none

theorem zeroCells_one {z : Array Value} (hz : z.all (·.oneCell') = true) (hp : 0 < z.size) (n : Nat) : ∀ u, u ∈ (Builtin.zeroCells z n).toList → u.oneCell' = true := by
  intro u hu
  simp only [Builtin.zeroCells, Array.toList_map, List.mem_map] at hu
  obtain ⟨j, _, rfl⟩ := hu
  have hlt : j % z.size < z.size := Nat.mod_lt _ hp
  rw [getElem!_pos z _ hlt]
  exact Array.all_eq_true.1 hz _ hlt

/-- The same of slices all of whose cells are single values: so are those of the grown one. -/
theorem run_append_one (w : World) {t ty e : TypeId} {i : TypeInfo} {z : Value} (hu : P.underlying t = some (.slice e)) (hi : P.info? e = some i) (hz : i.zero = some z)
    (hzs : z.cells.size = i.size) (hone : z.cells.all (·.oneCell') = true) (hsz : 0 < i.size)
    {v : Value} {n : Nat} {xs : List Value} (hxl : xs.length = n * i.size)
    (hv : (v = .slice none 0 0 ∧ n = 0) ∨ ∃ g cap cur, v = .slice (some ⟨g, 0, none⟩) n cap ∧ w.heap[g]? = some (.cells cur e (0, 0)) ∧ n ≤ cap ∧ cap ≤ maxLen ∧ cap * i.size ≤ cur.size ∧ (0 < cap → cur.size = cap * i.size) ∧ cur.toList.take (n * i.size) = xs)
    (a : Addr) (m c : Nat) (news : List Value) (hl : news.length = m * i.size) (hnews : ∀ j u, news[j]? = some u → w.cell? (a.add j) = some u) (h1 : ∀ u ∈ news, u.oneCell' = true)
    (hm : 0 < m) (hbytes : (n + m) * i.bytes ≤ 140737488355328) (hsm : n + m ≤ maxLen)
    (hold : ∀ g cur, v.ownBlock = some g → w.heap[g]? = some (.cells cur e (0, 0)) → ∀ u, u ∈ cur.toList → u.oneCell' = true) :
    ∃ g' cap' cur' w', (Builtin.append_ #[t, t] ty #[v, .slice (some a) m c]).run P w = .ok (.slice (some ⟨g', 0, none⟩) (n + m) cap') w' ∧
      w'.heap[g']? = some (.cells cur' e (0, 0)) ∧ cur'.size = cap' * i.size ∧ cap' ≤ maxLen ∧ n + m ≤ cap' ∧ cur'.toList.take ((n + m) * i.size) = xs ++ news ∧
      (v.ownBlock = some g' ∨ w.heap.size ≤ g') ∧ Fr (fun b => v.ownBlock = some b) w w' ∧ ∀ u, u ∈ cur'.toList → u.oneCell' = true := by
  have hsmall : n + m ≤ 9223372036854775807 := by simp only [maxLen] at hsm; omega
  have hlen : (xs ++ news).length = (n + m) * i.size := by rw [List.length_append, hxl, hl, Nat.add_mul]
  have hxone : ∀ u, u ∈ xs → u.oneCell' = true := by
    rcases hv with ⟨rfl, rfl⟩ | ⟨g, cap, cur, rfl, hg, _, _, _, _, htake⟩
    · have hx : xs = [] := List.eq_nil_of_length_eq_zero (by simpa using hxl)
      subst hx; simp
    · intro u hu
      rw [← htake] at hu
      exact hold g cur rfl hg u (List.mem_of_mem_take hu)
  have grown : ∀ (old : Nat) (W : Nat → Prop),
      (w.drew.alloc (.cells (xs.toArray ++ news.toArray ++ Builtin.zeroCells z.cells (grownCap w (n + m) old e - (n + m))) e)).heap[w.heap.size]? = some (.cells (xs.toArray ++ news.toArray ++ Builtin.zeroCells z.cells (grownCap w (n + m) old e - (n + m))) e (0, 0)) ∧
      (xs.toArray ++ news.toArray ++ Builtin.zeroCells z.cells (grownCap w (n + m) old e - (n + m))).size = grownCap w (n + m) old e * i.size ∧ grownCap w (n + m) old e ≤ maxLen ∧ n + m ≤ grownCap w (n + m) old e ∧
      (xs.toArray ++ news.toArray ++ Builtin.zeroCells z.cells (grownCap w (n + m) old e - (n + m))).toList.take ((n + m) * i.size) = xs ++ news ∧
      Fr W w (w.drew.alloc (.cells (xs.toArray ++ news.toArray ++ Builtin.zeroCells z.cells (grownCap w (n + m) old e - (n + m))) e)) ∧
      ∀ u, u ∈ (xs.toArray ++ news.toArray ++ Builtin.zeroCells z.cells (grownCap w (n + m) old e - (n + m))).toList → u.oneCell' = true := by
    intro old W
    have hge := grownCap_ge w (n + m) old e
    have hcm : grownCap w (n + m) old e ≤ maxLen := grownCap_le_maxLen w (n + m) old e hsm
    refine ⟨heap_alloc_at w.drew _, ?_, hcm, hge, ?_, ⟨rfl, rfl, rfl, by simp, fun b hb _ => Below.heap_alloc w.drew _ b hb⟩, ?_⟩
    · simp only [Array.size_append, List.size_toArray, size_zeroCells, hzs, hxl, hl, ← Nat.add_mul]
      congr 1
      omega
    · simp only [Array.toList_append, List.append_assoc]
      rw [← List.append_assoc, ← hlen]
      exact List.take_left
    · intro u hu
      simp only [Array.toList_append, List.mem_append] at hu
      rcases hu with (hu | hu) | hu
      · exact hxone u hu
      · exact h1 u hu
      · exact zeroCells_one hone (by omega) _ u hu
  rcases hv with ⟨rfl, rfl⟩ | ⟨g, cap, cur, rfl, hg, hnc, hcm, hcl, hcs, htake⟩
  · have hx : xs = [] := List.eq_nil_of_length_eq_zero (by simpa using hxl)
    subst hx
    have hr := run_append_nil (P := P) w t ty e i z hu hi hz a m c news hl hnews hm (by omega) (by have hb := hbytes; simp only [Nat.zero_add] at hb; omega)
    obtain ⟨g1, g2, g3, g4, g5, g6, g7⟩ := grown 0 (fun b => Value.ownBlock (.slice none 0 0) = some b)
    simp only [Nat.zero_add, List.nil_append, Array.empty_append] at g1 g2 g3 g4 g5 g6 g7 hr ⊢
    exact ⟨_, _, _, _, hr, g1, g2, g3, g4, g5, .inr (Nat.le_refl _), g6, g7⟩
  · by_cases hroom : n + m ≤ cap
    · have hcs' := hcs (by omega)
      have hfit : n * i.size + news.length ≤ cur.size := by rw [hl, hcs', ← Nat.add_mul]; exact Nat.mul_le_mul_right _ hroom
      have hr := run_append_room (P := P) w t ty e i hu hi g n cap cur hg a m c news hl hnews h1 hroom hfit
      refine ⟨_, _, _, _, hr, setRow_heap w g cur _ e _ hg, ?_, hcm, hroom, ?_, .inl rfl, ⟨rfl, rfl, rfl, by simp, fun b _ hb => setRow_other w g b _ (fun e => hb (by simp [Value.ownBlock, e]))⟩, ?_⟩
      · simp only [List.size_toArray, List.length_append, List.length_take, List.length_drop, Array.length_toList]
        omega
      · rw [htake, ← hlen]
        exact List.take_left
      · intro u hu
        simp only [List.mem_append] at hu
        rcases hu with (hu | hu) | hu
        · exact hold g cur rfl hg u (List.mem_of_mem_take hu)
        · exact h1 u hu
        · exact hold g cur rfl hg u (List.mem_of_mem_drop hu)
    · have holds : ∀ j u, xs[j]? = some u → w.cell? ((⟨g, 0, none⟩ : Addr).add j) = some u := by
        intro j u hu'
        rw [addr_add, cell_cells hg]
        rw [← htake, List.getElem?_take] at hu'
        split at hu'
        · simpa using hu'
        · cases hu'
      have hr := run_append_grow (P := P) w t ty e i z hu hi hz ⟨g, 0, none⟩ n cap xs hxl holds a m c news hl hnews (by omega) (by omega) (growslice_fits (by omega) hbytes)
      obtain ⟨g1, g2, g3, g4, g5, g6, g7⟩ := grown cap (fun b => Value.ownBlock (.slice (some ⟨g, 0, none⟩) n cap) = some b)
      exact ⟨_, _, _, _, hr, g1, g2, g3, g4, g5, .inr (Nat.le_refl _), g6, g7⟩

theorem prAppend_ok {tm : Tm L0} {A : AH L0} {o : Oper} {t : TypeId} {x y : Operand} {r : PR L0} (ho : o.op = .call { callee := .builtin .append, args := #[x, y], argTypes := #[t, t] })
    (h : prAppend P tm A t x y = some r) (hob : ∀ q, q ∈ r.ob → Obs Ctr Iso q) : OpOk P o (evT tm) (getH A) r := by
  have hmx : x ∈ o.op.operands := by simp [ho, Op.operands, Call.operands]
  have hmy : y ∈ o.op.operands := by simp [ho, Op.operands, Call.operands]
  unfold prAppend at h
  split at h
  case h_2 => cases h
  rename_i elem hu
  split at h
  case h_2 => cases h
  rename_i i vx vy hi hx hy
  split at h
  case h_2 => cases h
  rename_i z hz
  split at h
  case isFalse => cases h
  rename_i hc
  obtain ⟨hzs, hsz, hby, hone⟩ := hc
  split at h
  · rename_i k hk
    split at h
    case isFalse => cases h
    rename_i hs1
    unfold prAppInts at h
    split at h
    case h_2 => cases h
    rename_i d dl a ob1 id2 sl f ob2 hd hs
    split at h
    case isTrue => cases h
    rename_i hdn
    cases h
    intro ρ fps w ac next Q B hev hH hB hg hid hn
    obtain ⟨ad, cap, ns, hty, hpos, hnl, hns, hfa⟩ := srcInts_ok hs (fun q hq => hob q (by simp [hq])) hH (hB id2 (by simp))
    have hd' := dstInts_ok hd (fun q hq => hob q (by simp [hq])) hH (fun i hi => hB i (by simp [hi]))
    have hlen : denI (.len (f a)) ≤ denI (.lit 1099511627776) := hob (.ile _ _) (by simp [appOb])
    simp only [denI, hfa] at hlen
    have hv : (toV ρ vx = .slice none 0 0 ∧ (denA a).length = 0) ∨ ∃ g cap cur, toV ρ vx = .slice (some ⟨g, 0, none⟩) (denA a).length cap ∧ w.heap[g]? = some (.cells cur elem (0, 0)) ∧ (denA a).length ≤ cap ∧ cap ≤ maxLen ∧ cap * 1 ≤ cur.size ∧ (0 < cap → cur.size = cap * 1) ∧ cur.toList.take ((denA a).length * 1) = (denA a).map (Value.int k) := by
      rcases hd' with ⟨_, h1, h2⟩ | ⟨id, cap, cur, _, h1, _, h2⟩
      · exact .inl ⟨h1, by simp [h2]⟩
      · exact .inr ⟨_, cap, cur, h1, h2⟩
    have hml : (denA a).length + (denI sl).toNat ≤ 1099511627776 := by simp at hlen; omega
    obtain ⟨g', cap', cur', w', hrun, hg', hcs, hcm, hle, htk, hwh, hfr⟩ := run_append_any (P := P) (ty := o.type) w hu hi hz (hsize := hs1) (by rw [hzs, hs1]) (by omega)
      (by simp) hv ad (denI sl).toNat cap (ns.map (Value.int k)) (by simp [hnl]) hns (by intro u hu; obtain ⟨q, _, rfl⟩ := List.mem_map.1 hu; rfl) hpos
      (by have := Nat.mul_le_mul_left ((denA a).length + (denI sl).toNat) hby; omega) (by simp only [maxLen]; omega)
    unfold Oper.wp
    rw [run_builtin ho]
    simp only [builtin, List.map_toArray, List.map_cons, List.map_nil, hev x _ hmx hx, hev y _ hmy hy, hty, Sem.run_bind, hrun, Result.andThen_ok, Sem.run_pure, Oper.upon]
    have hown : ∀ b, (toV ρ vx).ownBlock = some b → ∃ i, i ∈ d.toList ∧ fps i b := by
      intro b hb
      rcases hd' with ⟨_, h1, h2⟩ | ⟨id, cap, cur, h0, h1, hf, h2⟩
      · rw [h1] at hb; simp [Value.ownBlock] at hb
      · rw [h1] at hb
        simp [Value.ownBlock] at hb
        exact ⟨id, by simp [h0], (hf b).2 hb.symm⟩
    have hpost := Post.grow (v := .slice A.length 0 (.lit 0) 0 (.len (f a)) (.rest (.lit 0))) (t := d.toList ++ [id2]) (wr := d.toList) (n := A.length) (blk := .arr elem k (f a))
      (upd := (A.length, .arr elem k (f a)) :: d.toList.map (fun i => (i, .gone))) (ob := ob1 ++ ob2 ++ appOb (f a)) (cap' := cap') (g' := g') (w' := w') hH (hg A.length (by simp)) (fun i => hid i A.length (by simp))
      (by
        cases d with
        | none => exact .inl ⟨rfl, rfl⟩
        | some i => exact .inr ⟨i, rfl, fun e => hdn (by rw [e]), rfl⟩)
      (hfr.mono hown) (by
        rcases hwh with hw | hw
        · exact .inl (hown g' hw)
        · exact .inr hw) (Array.getElem?_eq_some_iff.1 hg').1
      ⟨fun _ => Iff.rfl, rfl, cur', hg', by simpa using hcs, hcm, by rw [hfa]; simp [hnl]; exact hle, by rw [hfa]; simp [hnl] at htk ⊢; exact htk⟩ rfl
    have hval : toV (setRho ρ A.length { block := g', base := 0, cap := cap' }) (.slice A.length 0 (.lit 0) 0 (.len (f a)) (.rest (.lit 0))) = Value.slice (some ⟨g', 0, none⟩) ((denA a).length + (denI sl).toNat) cap' := by
      simp only [toV, addrOf, setRho, denI, denCap, hfa, List.length_append, hnl]
      simp
      omega
    rw [← hval]
    exact hn _ _ _ hpost
  · rename_i hk
    unfold prAppOpq at h
    simp only at h
    split at h
    case h_2 => cases h
    rename_i d n ob1 id2 m ob2 hd hs
    split at h
    case isTrue => cases h
    rename_i hdn
    cases h
    intro ρ fps w ac next Q B hev hH hB hg hid hn
    have hsrc : ∃ (ad : Addr) (cap : Nat) (news : List Value), toV ρ vy = .slice (some ad) (denI m).toNat cap ∧ 0 < (denI m).toNat ∧ news.length = (denI m).toNat * i.size ∧
        (∀ j u, news[j]? = some u → w.cell? (ad.add j) = some u) ∧ ∀ u, u ∈ news → u.oneCell' = true := by
      split at hs
      case h_2 => cases hs
      rename_i id c e len cap
      split at hs
      · rename_i el vs hA
        split at hs
        case h_2 => cases hs
        rename_i m'
        split at hs
        case isFalse => cases hs
        rename_i hc
        obtain ⟨h0, hle, hall⟩ := hc
        cases hs
        have hb := hH.rep id2
        rw [hB id2 (by simp), hA] at hb
        obtain ⟨_, hb0, h2⟩ := hb
        refine ⟨_, _, toVs ρ ((vs.drop c).take (m'.toNat * i.size)), rfl, by simp only [denI]; omega, ?_, ?_, toVs_one ρ hall⟩
        · simp [denI]; omega
        · intro j u hu
          rw [toVs_take, toVs_drop, List.getElem?_take] at hu
          split at hu
          · rw [List.getElem?_drop] at hu
            simp only [addrOf, addr_add, hb0]
            rw [cell_cells h2]
            simpa [Nat.add_assoc] using hu
          · cases hu
      · rename_i el sz' n' hA
        split at hs
        case isFalse => cases hs
        rename_i hc
        obtain ⟨rfl, rfl⟩ := hc
        cases hs
        have hpos : denI (.lit 0) < denI m := sLt_ok (Ctr := Ctr) (Iso := Iso) fun q hq => hob q (by simp [hq])
        have hle : denI m ≤ denI n' := hob (.ile _ _) (by simp)
        simp only [denI] at hpos
        have hb := hH.rep id2
        rw [hB id2 (by simp), hA] at hb
        obtain ⟨_, hb0, cc, h2, hcs, _, hnc, hall⟩ := hb
        have hle2 : (denI m).toNat * i.size ≤ cc.size := by rw [hcs]; exact Nat.mul_le_mul_right _ (by omega)
        refine ⟨_, _, cc.toList.take ((denI m).toNat * i.size), rfl, by omega, ?_, ?_, fun u hu => hall u (List.mem_of_mem_take hu)⟩
        · simp; omega
        · intro j u hu
          rw [List.getElem?_take] at hu
          split at hu
          · simp only [addrOf, addr_add, hb0]
            rw [cell_cells h2]
            simpa using hu
          · cases hu
      · cases hs
    obtain ⟨ad, cap, news, hty, hpos, hnl, hns, h1⟩ := hsrc
    have hdst : ∃ xs : List Value, xs.length = (denI n).toNat * i.size ∧ 0 ≤ denI n ∧ (∀ u, u ∈ xs → u.oneCell' = true) ∧
        ((d = none ∧ toV ρ vx = .slice none 0 0 ∧ (denI n).toNat = 0) ∨
        ∃ id cap cur, d = some id ∧ toV ρ vx = .slice (some ⟨(ρ id).block, 0, none⟩) (denI n).toNat cap ∧ (∀ b, fps id b ↔ b = (ρ id).block) ∧ w.heap[(ρ id).block]? = some (.cells cur elem (0, 0)) ∧
          (denI n).toNat ≤ cap ∧ cap ≤ maxLen ∧ cap * i.size ≤ cur.size ∧ (0 < cap → cur.size = cap * i.size) ∧ cur.toList.take ((denI n).toNat * i.size) = xs ∧ ∀ u, u ∈ cur.toList → u.oneCell' = true) := by
      split at hd
      · cases hd
        exact ⟨[], by simp [denI], by simp [denI], by simp, .inl ⟨rfl, rfl, rfl⟩⟩
      · rename_i id e len
        split at hd
        case h_2 => cases hd
        rename_i el sz' n' hA
        split at hd
        case isFalse => cases hd
        rename_i hc
        obtain ⟨rfl, rfl⟩ := hc
        cases hd
        have h0 : denI (.lit 0) ≤ denI n := hob (.ile _ _) (by simp)
        have hle : denI n ≤ denI n' := hob (.ile _ n') (by simp)
        simp only [denI] at h0
        have hb := hH.rep id
        rw [hB id (by simp), hA] at hb
        obtain ⟨hf, hb0, cc, h2, hcs, hml, hnc, hall⟩ := hb
        have hle2 : (denI n).toNat * i.size ≤ cc.size := by rw [hcs]; exact Nat.mul_le_mul_right _ (by omega)
        refine ⟨cc.toList.take ((denI n).toNat * i.size), by simp; omega, h0, fun u hu => hall u (List.mem_of_mem_take hu), .inr ⟨id, (ρ id).cap, cc, rfl, ?_, hf, h2, by omega, hml, by omega, fun _ => hcs, rfl, hall⟩⟩
        simp [toV, addrOf, hb0, denCap, denI]
      · rename_i id e
        split at hd
        case h_2 => cases hd
        rename_i el hA
        split at hd
        case isFalse => cases hd
        rename_i hc
        subst hc
        cases hd
        have hb := hH.rep id
        rw [hB id (by simp), hA] at hb
        obtain ⟨hf, hb0, h2⟩ := hb
        refine ⟨[], by simp [denI], by simp [denI], by simp, .inr ⟨id, 0, _, rfl, ?_, hf, h2, by simp [denI], by simp, by simp, by simp, by simp [denI], by simp [toVs]⟩⟩
        simp [toV, addrOf, hb0, denCap, denI]
      · cases hd
    obtain ⟨xs, hxl, hn0, hxo, hd'⟩ := hdst
    have hden := denI_mkAdd n m
    have hlen : denI (mkAdd n m) ≤ denI (.lit 1099511627776) := hob (.ile _ _) (by simp)
    generalize hn' : mkAdd n m = n' at *
    rw [hden] at hlen
    simp only [denI] at hlen
    have hv : (toV ρ vx = .slice none 0 0 ∧ (denI n).toNat = 0) ∨ ∃ g cap cur, toV ρ vx = .slice (some ⟨g, 0, none⟩) (denI n).toNat cap ∧ w.heap[g]? = some (.cells cur elem (0, 0)) ∧ (denI n).toNat ≤ cap ∧ cap ≤ maxLen ∧ cap * i.size ≤ cur.size ∧ (0 < cap → cur.size = cap * i.size) ∧ cur.toList.take ((denI n).toNat * i.size) = xs := by
      rcases hd' with ⟨_, h1, h2⟩ | ⟨id, cap, cur, _, h1, _, h2, h3, h4, h5, h6, h7, _⟩
      · exact .inl ⟨h1, h2⟩
      · exact .inr ⟨_, cap, cur, h1, h2, h3, h4, h5, h6, h7⟩
    have hml : (denI n).toNat + (denI m).toNat ≤ 1099511627776 := toNat_add_le hn0 hpos hlen
    obtain ⟨g', cap', cur', w', hrun, hg', hcs, hcm, hle, htk, hwh, hfr, hall'⟩ := run_append_one (P := P) (ty := o.type) w hu hi hz hzs hone hsz
      hxl hv ad (denI m).toNat cap news hnl hns h1 hpos
      (by have := Nat.mul_le_mul_left ((denI n).toNat + (denI m).toNat) hby; omega) (by simp only [maxLen]; omega)
      (by
        rcases hd' with ⟨_, h1, h2⟩ | ⟨id, cap, cur, _, h1, _, h2, h3, h4, h5, h6, h7, h8⟩
        · intro g cur hb hc; rw [h1] at hb; simp [Value.ownBlock] at hb
        · intro g cur' hb hc
          rw [h1] at hb
          simp [Value.ownBlock] at hb
          subst hb
          rw [h2] at hc
          cases hc
          exact h8)
    unfold Oper.wp
    rw [run_builtin ho]
    simp only [builtin, List.map_toArray, List.map_cons, List.map_nil, hev x _ hmx hx, hev y _ hmy hy, hty, Sem.run_bind, hrun, Result.andThen_ok, Sem.run_pure, Oper.upon]
    have hown : ∀ b, (toV ρ vx).ownBlock = some b → ∃ i, i ∈ d.toList ∧ fps i b := by
      intro b hb
      rcases hd' with ⟨_, h1, h2⟩ | ⟨id, cap, cur, h0, h1, hf, h2⟩
      · rw [h1] at hb; simp [Value.ownBlock] at hb
      · rw [h1] at hb
        simp [Value.ownBlock] at hb
        exact ⟨id, by simp [h0], (hf b).2 hb.symm⟩
    have hpost := Post.grow (v := .slice A.length 0 (.lit 0) 0 n' (.rest (.lit 0))) (t := d.toList ++ [id2]) (wr := d.toList) (n := A.length) (blk := .opq elem i.size n')
      (upd := (A.length, .opq elem i.size n') :: d.toList.map (fun i => (i, .gone))) (ob := ob1 ++ ob2 ++ [.ile n' (.lit 1099511627776)]) (cap' := cap') (g' := g') (w' := w') hH (hg A.length (by simp)) (fun i => hid i A.length (by simp))
      (by
        cases d with
        | none => exact .inl ⟨rfl, rfl⟩
        | some i => exact .inr ⟨i, rfl, fun e => hdn (by rw [e]), rfl⟩)
      (hfr.mono hown) (by
        rcases hwh with hw | hw
        · exact .inl (hown g' hw)
        · exact .inr hw) (Array.getElem?_eq_some_iff.1 hg').1
      ⟨fun _ => Iff.rfl, rfl, cur', hg', hcs, hcm, by rw [hden, toNat_add' hn0 hpos]; exact hle, hall'⟩ rfl
    have hval : toV (setRho ρ A.length { block := g', base := 0, cap := cap' }) (.slice A.length 0 (.lit 0) 0 n' (.rest (.lit 0))) = Value.slice (some ⟨g', 0, none⟩) ((denI n).toNat + (denI m).toNat) cap' := by
      simp only [toV, addrOf, setRho, denI, denCap, hden, toNat_add' hn0 hpos]
      simp
    rw [← hval]
    exact hn _ _ _ hpost

end
end Go.Fl
