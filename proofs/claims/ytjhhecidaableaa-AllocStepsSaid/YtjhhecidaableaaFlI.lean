/- Slices that are made, cut and grown, on symbolic values. Conditions: none. -/
import Derived.Test.YtjhhecidaableaaFlH
import Derived.IntWalk
set_option linter.unusedSimpArgs false
set_option linter.unusedVariables false
set_option linter.unusedSectionVars false
namespace Go.Fl
open Go Go.RowKit
variable [Objs]

section
variable {P : Program} {Ctr : FuncId → List (AV L0) → List (ABlock L0) → AV L0 → List Nat → List (ABlock L0) → Prop} {Iso : ObRest}

def intKind? (P : Program) (t : TypeId) : Option IntKind :=
  match P.underlying t with
  | some (.int k) => some k
  | _ => none

/-- make of a slice of integers (zeros), its length twice the same operand. -/
def prMakeSlice {L : Lf} (P : Program) (tm : Tm L) (A : AH L) (t : TypeId) (l c : Operand) : Option (PR L) :=
  match l, c with
  | .tmp l, .tmp c =>
    if l = c then
      match P.underlying t, evT tm (.tmp l) with
      | some (.slice elem), some (.int .i64 e) =>
        match P.info? elem, intKind? P elem with
        | some i, some k =>
          match i.zero with
          | some (.int k' z) =>
            if k' = k ∧ z = 0 ∧ i.size = 1 ∧ i.bytes ≤ 8 then
              some { val := .slice A.length 0 (.lit 0) 0 e (.rest (.lit 0)), news := [A.length],
                     upd := [(A.length, .arr elem k (.rep e 0))], ob := sLe (.lit 0) e ++ sLe e (.lit 1073741824) }
            else none
          | _ => none
        | _, _ => none
      | _, _ => none
    else none
  | _, _ => none

theorem wrap64_id {n : Int} (h0 : 0 ≤ n) (h1 : n ≤ 1073741824) : IntKind.i64.wrap n = n := IntWalk.i64_in n (by omega)

theorem prMakeSlice_ok {tm : Tm L0} {A : AH L0} {o : Oper} {t : TypeId} {l c : Operand} {r : PR L0} (ho : o.op = .makeSlice t l c)
    (h : prMakeSlice P tm A t l c = some r) (hob : ∀ q, q ∈ r.ob → Obs Ctr Iso q) : OpOk P o (evT tm) (getH A) r := by
  unfold prMakeSlice at h
  split at h
  case h_2 => cases h
  rename_i l c
  split at h
  case isFalse => cases h
  rename_i hlc
  subst hlc
  split at h
  case h_2 => cases h
  rename_i elem e hu hl
  split at h
  case h_2 => cases h
  rename_i i k hi hk
  split at h
  case h_2 => cases h
  rename_i k' z hz
  split at h
  case isFalse => cases h
  rename_i hc
  obtain ⟨rfl, rfl, hsz, hby⟩ := hc
  cases h
  have hml : (.tmp l : Operand) ∈ o.op.operands := by simp [ho, Op.operands]
  have h0 : denI (.lit 0) ≤ denI e := sLe_ok (Ctr := Ctr) (Iso := Iso) fun q hq => hob q (List.mem_append_left _ hq)
  have h1 : denI e ≤ denI (.lit 1073741824) := sLe_ok (Ctr := Ctr) (Iso := Iso) fun q hq => hob q (List.mem_append_right _ hq)
  simp only [denI] at h0 h1
  refine OpOk.of_new rfl fun ρ fps w a B hev hH hB hid => ⟨w, .cells ((Array.range (denI e).toNat).map fun _ => Value.int k' 0) elem, (denI e).toNat, rfl, Fr.refl _ _, ?_, fun _ => Iff.rfl, rfl, _, heap_alloc_at _ _, ?_, ?_, ?_, ?_⟩
  · have hti : (typeInfo elem).run P w = .ok i w := by simp [typeInfo, hi]
    have hzv : (zeroValue elem).run P w = .ok (.int k' 0) w := by simp [zeroValue, typeInfo, hi, hz]
    have hss : (sizeOf elem).run P w = .ok 1 w := by simp [sizeOf, typeInfo, hi, hsz]
    have hb : ¬ ((i.bytes : Int) * denI e > 2 ^ 48) := by
      have : (i.bytes : Int) * denI e ≤ 8 * 1073741824 := Int.mul_le_mul (by omega) h1 h0 (by omega)
      omega
    simp only [execOp, ho, hev _ _ hml hl, toV, Instr.makeSlice, Sem.run_bind, run_und hu, Result.andThen_ok, asInt, asIntOf, Sem.run_pure, hti, wrap64_id h0 h1, hb, Sem.run_ite]
    rw [if_neg (by simp; omega)]
    simp only [Sem.run_bind, run_askRoom, Result.andThen_ok, hss, Nat.mul_one]
    by_cases hn : (denI e).toNat = 0
    · simp only [if_pos hn, Sem.run_bind, Sem.run_pure, Result.andThen_ok, newRow, run_newObj, hn]
      simp only [toV, addrOf, setRho, denI, denCap, hn]
      simp
      congr 2
      apply Array.ext'
      simp
    · simp only [if_neg hn, Sem.run_bind, Sem.run_pure, Result.andThen_ok, newRow, run_newObj, hzv, Value.cells]
      have : ((Array.range (denI e).toNat).map fun x => (#[Value.int k' 0] : Array Value)[x % (#[Value.int k' 0] : Array Value).size]!) = (Array.range (denI e).toNat).map fun _ => Value.int k' 0 := by
        congr 1
        funext x
        simp [Nat.mod_one]
      rw [this]
      simp [toV, addrOf, setRho, denI, denCap]
  · simp
  · simp only [maxLen]; omega
  · simp [denA]
  · simp only [denA, List.length_replicate, List.map_replicate]
    apply List.ext_getElem?
    intro j
    simp only [List.getElem?_take, Array.toList_map, Array.toList_range, List.getElem?_map, List.getElem?_range, List.getElem?_replicate]
    split <;> simp_all

/-! ### Cutting -/

/-- x[l:] of a slice of integers that is longer than l; x[:0:0]. -/
def prSlice {L : Lf} (P : Program) (tm : Tm L) (A : AH L) (t : TypeId) (x : Operand) (lo hi mx : Option Operand) : Option (PR L) :=
  match P.underlying t, evT tm x, lo, hi, mx with
  | some (.slice elem), some (.slice id c e n len cap), some l, none, none =>
    match evT tm l, tySize P elem, getH A id with
    | some (.int _ i), some 1, .arr _ _ a =>
      match offIdx c e n i 1, cap with
      | some (c', e', n'), .rest (.lit 0) =>
        if c = 0 ∧ n = 0 then
          some { val := .slice id c' e' n' (.sb len i) (.rest i), tch := [id], ob := sLe (.lit 0) i ++ sLe i len ++ [.inb c' e' n' a] }
        else none
      | _, _ => none
    | _, _, _ => none
  | _, _, _, _, _ => none

theorem prSlice_ok {tm : Tm L0} {A : AH L0} {o : Oper} {t : TypeId} {x : Operand} {lo hi mx : Option Operand} {r : PR L0} (ho : o.op = .slice t x lo hi mx)
    (h : prSlice P tm A t x lo hi mx = some r) (hob : ∀ q, q ∈ r.ob → Obs Ctr Iso q) : OpOk P o (evT tm) (getH A) r := by
  have hmx : x ∈ o.op.operands := by simp [ho, Op.operands]
  unfold prSlice at h
  split at h
  case h_2 => cases h
  rename_i elem id c e n len cap l hu hx
  split at h
  case h_2 => cases h
  rename_i i el k a hl hs hA
  split at h
  case h_2 => cases h
  rename_i c' e' n' hoff
  split at h
  case isFalse => cases h
  rename_i hcn
  obtain ⟨rfl, rfl⟩ := hcn
  cases h
  have hml : l ∈ o.op.operands := by simp [ho, Op.operands]
  have h0 : denI (.lit 0) ≤ denI i := sLe_ok (Ctr := Ctr) (Iso := Iso) fun q hq => hob q (List.mem_append_left _ (List.mem_append_left _ hq))
  have h1 : denI i ≤ denI len := sLe_ok (Ctr := Ctr) (Iso := Iso) fun q hq => hob q (List.mem_append_left _ (List.mem_append_right _ hq))
  have h2 : c' + (denI e').toNat * n' < (denA a).length := hob (.inb c' e' n' a) (by simp)
  simp only [denI] at h0
  have hof := offIdx_ok hoff
  refine OpOk.of_value fun ρ fps w a' B hev hH hB => ?_
  have hb := hH.rep id
  rw [hB id (by simp), hA] at hb
  obtain ⟨_, hb0, cc, _, hcs, hml', hlen, _⟩ := hb
  simp only [execOp, ho, hev x _ hmx hx, Option.map_some, Option.map_none, hev l _ hml hl, Instr.sliceAt, Instr.slice, toV, Sem.run_bind, run_und hu, Result.andThen_ok, Instr.sliceBounds, Instr.sliceBound, asIntOf, Sem.run_pure, denCap, denI, Sem.run_ite]
  rw [if_pos ⟨h0, by omega⟩]
  simp only [Sem.run_pure, Result.andThen_ok, run_size hs]
  rw [if_neg (by simp; omega)]
  simp only [Option.map_some, addrOf, addr_add, Sem.run_pure]
  have e1 : (denI len).toNat - (denI i).toNat = (denI len - denI i).toNat := by omega
  have e2 : (ρ id).base + (0 + (denI e).toNat * 0) + (denI i).toNat * 1 = (ρ id).base + (c' + (denI e').toNat * n') := by omega
  rw [e1, e2]
  simp

/-! ### Growing -/

/-- What an append to a slice over the block g (g: none: the nil slice) comes to. -/
theorem run_append_any (w : World) {t ty e : TypeId} {i : TypeInfo} {z : Value} {size : Nat} (hu : P.underlying t = some (.slice e)) (hi : P.info? e = some i) (hz : i.zero = some z)
    (hsize : i.size = size) (hzs : z.cells.size = size) (hsz : 0 < size)
    {v : Value} {n : Nat} {xs : List Value} (hxl : xs.length = n * size)
    (hv : (v = .slice none 0 0 ∧ n = 0) ∨ ∃ g cap cur, v = .slice (some ⟨g, 0, none⟩) n cap ∧ w.heap[g]? = some (.cells cur e (0, 0)) ∧ n ≤ cap ∧ cap ≤ maxLen ∧ cap * size ≤ cur.size ∧ (0 < cap → cur.size = cap * size) ∧ cur.toList.take (n * size) = xs)
    (a : Addr) (m c : Nat) (news : List Value) (hl : news.length = m * size) (hnews : ∀ j u, news[j]? = some u → w.cell? (a.add j) = some u) (h1 : ∀ u ∈ news, u.oneCell' = true)
    (hm : 0 < m) (hbytes : (n + m) * i.bytes ≤ 140737488355328) (hsm : n + m ≤ maxLen) :
    ∃ g' cap' cur' w', (Builtin.append_ #[t, t] ty #[v, .slice (some a) m c]).run P w = .ok (.slice (some ⟨g', 0, none⟩) (n + m) cap') w' ∧
      w'.heap[g']? = some (.cells cur' e (0, 0)) ∧ cur'.size = cap' * size ∧ cap' ≤ maxLen ∧ n + m ≤ cap' ∧ cur'.toList.take ((n + m) * size) = xs ++ news ∧
      (v.ownBlock = some g' ∨ w.heap.size ≤ g') ∧ Fr (fun b => v.ownBlock = some b) w w' := by
  subst hsize
  have hsmall : n + m ≤ 9223372036854775807 := by simp only [maxLen] at hsm; omega
  have hlen : (xs ++ news).length = (n + m) * i.size := by rw [List.length_append, hxl, hl, Nat.add_mul]
  have grown : ∀ (old : Nat) (W : Nat → Prop),
      (w.drew.alloc (.cells (xs.toArray ++ news.toArray ++ Builtin.zeroCells z.cells (grownCap w (n + m) old e - (n + m))) e)).heap[w.heap.size]? = some (.cells (xs.toArray ++ news.toArray ++ Builtin.zeroCells z.cells (grownCap w (n + m) old e - (n + m))) e (0, 0)) ∧
      (xs.toArray ++ news.toArray ++ Builtin.zeroCells z.cells (grownCap w (n + m) old e - (n + m))).size = grownCap w (n + m) old e * i.size ∧ grownCap w (n + m) old e ≤ maxLen ∧ n + m ≤ grownCap w (n + m) old e ∧
      (xs.toArray ++ news.toArray ++ Builtin.zeroCells z.cells (grownCap w (n + m) old e - (n + m))).toList.take ((n + m) * i.size) = xs ++ news ∧
      Fr W w (w.drew.alloc (.cells (xs.toArray ++ news.toArray ++ Builtin.zeroCells z.cells (grownCap w (n + m) old e - (n + m))) e)) := by
    intro old W
    have hge := grownCap_ge w (n + m) old e
    have hcm : grownCap w (n + m) old e ≤ maxLen := grownCap_le_maxLen w (n + m) old e hsm
    refine ⟨heap_alloc_at w.drew _, ?_, hcm, hge, ?_, ⟨rfl, rfl, rfl, by simp, fun b hb _ => Below.heap_alloc w.drew _ b hb⟩⟩
    · simp only [Array.size_append, List.size_toArray, size_zeroCells, hzs, hxl, hl, ← Nat.add_mul]
      congr 1
      omega
    · simp only [Array.toList_append, List.append_assoc]
      rw [← List.append_assoc, ← hlen]
      exact List.take_left
  rcases hv with ⟨rfl, rfl⟩ | ⟨g, cap, cur, rfl, hg, hnc, hcm, hcl, hcs, htake⟩
  · have hx : xs = [] := List.eq_nil_of_length_eq_zero (by simpa using hxl)
    subst hx
    have hr := run_append_nil (P := P) w t ty e i z hu hi hz a m c news hl hnews hm (by omega) (by have hb := hbytes; simp only [Nat.zero_add] at hb; omega)
    obtain ⟨g1, g2, g3, g4, g5, g6⟩ := grown 0 (fun b => Value.ownBlock (.slice none 0 0) = some b)
    simp only [Nat.zero_add, List.nil_append, Array.empty_append] at g1 g2 g3 g4 g5 g6 hr ⊢
    exact ⟨_, _, _, _, hr, g1, g2, g3, g4, g5, .inr (Nat.le_refl _), g6⟩
  · by_cases hroom : n + m ≤ cap
    · have hcs' := hcs (by omega)
      have hfit : n * i.size + news.length ≤ cur.size := by rw [hl, hcs', ← Nat.add_mul]; exact Nat.mul_le_mul_right _ hroom
      have hr := run_append_room (P := P) w t ty e i hu hi g n cap cur hg a m c news hl hnews h1 hroom hfit
      refine ⟨_, _, _, _, hr, setRow_heap w g cur _ e _ hg, ?_, hcm, hroom, ?_, .inl rfl, ⟨rfl, rfl, rfl, by simp, fun b _ hb => setRow_other w g b _ (fun e => hb (by simp [Value.ownBlock, e]))⟩⟩
      · simp only [List.size_toArray, List.length_append, List.length_take, List.length_drop, Array.length_toList]
        omega
      · rw [htake, ← hlen]
        exact List.take_left
    · have holds : ∀ j u, xs[j]? = some u → w.cell? ((⟨g, 0, none⟩ : Addr).add j) = some u := by
        intro j u hu'
        rw [addr_add, cell_cells hg]
        rw [← htake, List.getElem?_take] at hu'
        split at hu'
        · simpa using hu'
        · cases hu'
      have hr := run_append_grow (P := P) w t ty e i z hu hi hz ⟨g, 0, none⟩ n cap xs hxl holds a m c news hl hnews (by omega) (by omega) (growslice_fits (by omega) hbytes)
      obtain ⟨g1, g2, g3, g4, g5, g6⟩ := grown cap (fun b => Value.ownBlock (.slice (some ⟨g, 0, none⟩) n cap) = some b)
      exact ⟨_, _, _, _, hr, g1, g2, g3, g4, g5, .inr (Nat.le_refl _), g6⟩

end
end Go.Fl
