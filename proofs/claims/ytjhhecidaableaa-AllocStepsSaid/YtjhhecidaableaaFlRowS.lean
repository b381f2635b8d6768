/- A slice of integers that comes in: what its reading tells, that it reads so afterwards, and the walk of a law on it. Conditions: none. -/
import Derived.Test.YtjhhecidaableaaFlRow
import Derived.ChangeSlices
import Derived.WalkKit
set_option linter.unusedVariables false
set_option linter.unusedSectionVars false
namespace Go.Fl
open Go Go.RowKit Go.WideShapes Go.ChangeShapes

section
variable {H : Type} {enc : TypeId × Value → H} {P : Program}

structure SlArg (W : World) (k : IntKind) (b off len cap : Nat) (zs : List Int) : Prop where
  hl : len ≤ cap
  hm : cap ≤ maxLen
  hz : zs.length = cap
  hb : b < W.heap.size
  cell : ∀ i, i < zs.length → W.cell? ⟨b, off + i, none⟩ = some (.int k (zs.getD i 0))
  wf : ∀ n ∈ zs, (Lit.int k n).wf = true

theorem slice_arg {W : World} {base : Nat} {t e : TypeId} {k : IntKind} {v : Value} {d : DataW H} {p : List MemPlace} (ht : P.underlying t = some (.slice e)) (he : P.underlying e = some (.int k)) (hc : P.cellsOf e = 1)
    (hval : Value.okWide P W .any base t v) (h : DataW.Trod enc P W 0 (fun _ => true) true t v d p) :
    (v = .slice none 0 0 ∧ d = .nil ∧ p = []) ∨ ∃ b off len cap zs, v = .slice (some ⟨b, off, none⟩) len cap ∧ d = .slice (lits k (zs.take len)) (lits k (zs.drop len)) ∧ p = MemPlace.row ⟨b, off, none⟩ zs.length ∧ SlArg W k b off len cap zs := by
  obtain ⟨a0, len, cap, rfl⟩ := okWide_slice ht hval
  obtain ⟨fuel, hf⟩ := h
  rcases open_ints ht he hc hf with ⟨hcs, hx⟩ | ⟨a, len', cap', zs, hcs, _, hl, hm, hz, hx, hcell, hwz⟩
  · left
    simp [Value.cells] at hcs
    obtain ⟨rfl, rfl, rfl⟩ := hcs
    simp only [Prod.mk.injEq] at hx
    exact ⟨rfl, hx.1, hx.2⟩
  · right
    simp [Value.cells] at hcs
    obtain ⟨rfl, rfl, rfl⟩ := hcs
    simp only [Prod.mk.injEq] at hx
    simp only [if_true] at hz
    simp only [Value.okWide, ht, Cell.okWide, Cell.ok, World.has] at hval
    obtain ⟨_, _, _, hs, row, cells, hsh, _⟩ := hval
    obtain ⟨b, off, spot⟩ := a
    subst hs
    refine ⟨b, off, len, cap, zs, rfl, hx.1, hx.2, hl, hm, hz, ?_, fun i hi => ?_, hwz⟩
    · unfold World.shape? at hsh
      cases hh : W.heap[b]? with
      | none => simp [hh] at hsh
      | some o => exact (Array.getElem?_eq_some_iff.1 hh).1
    · rw [← add_plain]
      exact hcell i hi

theorem slice_nil {W' : World} {t e : TypeId} {sp : Nat → Bool} {held : Bool} (ht : P.underlying t = some (.slice e)) : DataW.Trod enc P W' 0 sp held t (.slice none 0 0) .nil [] :=
  ⟨1, by simp [Value.cells, DataW.trod, ht]⟩

theorem slice_back {W W' : World} {t e : TypeId} {k : IntKind} {b off len cap : Nat} {zs : List Int} {sp : Nat → Bool} (ht : P.underlying t = some (.slice e)) (he : P.underlying e = some (.int k)) (hc : P.cellsOf e = 1)
    (hs : SlArg W k b off len cap zs) (ho : Old W W') (hsp : ∀ q ∈ MemPlace.row ⟨b, off, none⟩ zs.length, sp q.block = true) :
    DataW.Trod enc P W' 0 sp true t (.slice (some ⟨b, off, none⟩) len cap) (.slice (lits k (zs.take len)) (lits k (zs.drop len))) (MemPlace.row ⟨b, off, none⟩ zs.length) := by
  have hz : zs.length = (if sp b then cap else len) := by
    by_cases h0 : zs.length = 0
    · have h1 := hs.hz
      have h2 := hs.hl
      split <;> omega
    · have : sp b = true := hsp (.cell b (off + 0)) (MemPlace.mem_row.2 ⟨0, by omega, rfl⟩)
      rw [this]
      exact hs.hz
  have t0 := shut_ints' (enc := enc) (w := W') (base := 0) (spare := sp) (held := true) (len := len) (cap := cap) (zs := zs) 0 ht he hc (Nat.zero_le b) hs.hl hs.hm hz
    (fun i hi => by
      have h1 := hs.cell i hi
      unfold World.cell? at h1 ⊢
      rw [show (⟨b, off + i, none⟩ : Addr).block = b from rfl] at h1 ⊢
      rw [ho.block b hs.hb (fun f => f)]
      exact h1) hs.wf
  exact ⟨2, by simpa [Value.cells] using t0⟩
end

theorem HS_ro [Objs] {W : World} {k : IntKind} {b off len cap : Nat} {zs : List Int} (hs : SlArg W k b off len cap zs) :
    HS (getH [.ro k (.lf (zs.take len))]) (fun _ => { block := b, base := off, cap := cap }) (fun _ _ => False) W where
  rep := fun i => by
    match i with
    | 0 =>
      refine ⟨fun _ h => h, hs.hb, fun i hi => ?_⟩
      have hi' : i < (zs.take len).length := hi
      rw [List.length_take] at hi'
      have h1 := hs.cell i (by omega)
      refine h1.trans ?_
      show _ = some (Value.int k ((zs.take len).getD i 0))
      rw [List.getD_eq_getElem?_getD, List.getD_eq_getElem?_getD, List.getElem?_take_of_lt (by omega)]
    | _ + 1 => exact fun _ h => h
  disj := fun _ _ _ _ h => h.elim
  ro := fun _ _ _ h => h

/-- A law of plain arguments and one slice: its contract, on a memory that holds the slice alone. -/
theorem law_walkS [Objs] {P : Program} {f : FuncId} {args : List (AV L0)} {bb : SB L0} {H' : List (ABlock L0)} {W : World} {k : IntKind} {b off len cap : Nat} {zs : List Int} (h : Contract P f args [.ro k (.lf (zs.take len))] (.bool bb) [] H') (hb : denB bb = true) (hs : SlArg W k b off len cap zs) :
    Calls P f (toVs (fun _ => { block := b, base := off, cap := cap }) args).toArray W fun e w' => e = .returned (.bool true) ∧ Old W w' := by
  refine (h.2 _ (fun _ _ => False) W (HS_ro hs)).mono fun e w' ⟨ρ', fps', he, hp⟩ => ⟨?_, ?_⟩
  · rw [he]
    simp only [toV, hb]
  · exact hp.fr.mono fun b ⟨i, hi, _⟩ => by cases hi

/-- The same off a summary: what it takes and answers is told by equations that the kernel sees. -/
theorem law_atS [Objs] {P : Program} {s : Summ} {ls o : Ls} {W : World} {k : IntKind} {b off len cap : Nat} {zs : List Int} (h : s.At P ls o) (x : Bool) (hx : x = true) (args : Array Value)
    (hs : SlArg W k b off len cap zs) (hH : s.inH ls = [.ro k (.lf (zs.take len))]) (hw : s.ws = []) (ho : s.outV o = .bool (.lf x))
    (ha : (toVs (fun _ => { block := b, base := off, cap := cap }) (s.inV ls)).toArray = args) :
    Calls P s.f args W fun e w' => e = .returned (.bool true) ∧ Old W w' := by
  unfold Summ.At at h
  rw [hH, hw, ho] at h
  rw [← ha]
  exact law_walkS h (show denB (.lf x) = true from hx) hs

end Go.Fl
