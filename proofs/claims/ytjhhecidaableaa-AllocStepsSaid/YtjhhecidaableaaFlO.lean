/- A region whose order is open comes, in every order, to what it comes to in its text's order. Conditions: none. -/
import Derived.Test.YtjhhecidaableaaFlN
set_option linter.unusedSimpArgs false
set_option linter.unusedVariables false
set_option linter.unusedSectionVars false
namespace Go.Fl
open Go Go.RowKit
variable [Objs]

/-! ### The last one that wrote -/

section
variable {σ ν : Type} {wr : σ → Option ν}

def lastW (wr : σ → Option ν) (b : ν) : List σ → ν
  | [] => b
  | s :: r => lastW wr ((wr s).getD b) r

theorem lastW_append (b : ν) : ∀ (l m : List σ), lastW wr b (l ++ m) = lastW wr (lastW wr b l) m
  | [], m => rfl
  | s :: r, m => by simp only [List.cons_append, lastW]; exact lastW_append _ r m

theorem lastW_skip : ∀ {l : List σ} {b : ν}, (∀ q, q ∈ l → wr q = none) → lastW wr b l = b
  | [], b, _ => rfl
  | s :: r, b, h => by
    simp only [lastW, h s (by simp), Option.getD_none]
    exact lastW_skip fun q hq => h q (by simp [hq])

theorem lastW_filter {E : σ → Bool} : ∀ {l : List σ} {b : ν}, (∀ q, q ∈ l → wr q ≠ none → E q = true) → lastW wr b (l.filter E) = lastW wr b l
  | [], b, _ => rfl
  | s :: r, b, h => by
    by_cases hE : E s = true
    · rw [List.filter_cons_of_pos hE]
      simp only [lastW]
      exact lastW_filter fun q hq => h q (by simp [hq])
    · rw [List.filter_cons_of_neg hE]
      have : wr s = none := Classical.byContradiction fun hc => hE (h s (by simp) hc)
      simp only [lastW, this, Option.getD_none]
      exact lastW_filter fun q hq => h q (by simp [hq])

theorem lastW_from : ∀ (l : List σ) (b : ν), lastW wr b l = b ∨ ∃ q, q ∈ l ∧ wr q = some (lastW wr b l)
  | [], b => .inl rfl
  | s :: r, b => by
    simp only [lastW]
    rcases lastW_from r ((wr s).getD b) with h | ⟨q, hq, h⟩
    · rw [h]
      cases hs : wr s with
      | none => exact .inl rfl
      | some v => exact .inr ⟨s, by simp, by simp [hs]⟩
    · exact .inr ⟨q, by simp [hq], h⟩
end

def lk {L : Lf} : List (Nat × ABlock L) → Nat → Option (ABlock L)
  | [], _ => none
  | (i, b) :: r, j => if j = i then some b else lk r j

theorem updF_lk (H : AHF) : ∀ (l : List (Nat × ABlock L0)) (j : Nat), updF H l j = (lk l j).getD (H j)
  | [], j => rfl
  | (i, b) :: r, j => by
    simp only [updF, lk]
    split
    · rfl
    · exact updF_lk H r j

theorem lk_mem {L : Lf} : ∀ {l : List (Nat × ABlock L)} {j : Nat} {b : ABlock L}, lk l j = some b → (j, b) ∈ l
  | [], _, _, h => by simp [lk] at h
  | (i, c) :: r, j, b, h => by
    simp only [lk] at h
    split at h
    · rename_i e; subst e; simp only [Option.some.injEq] at h; subst h; simp
    · simp [lk_mem h]

def wrT (t : Nat) (s : Step L0) : Option (Option (AV L0)) := if s.o.dst = some t then some (some s.r.val) else none
def wrH (i : Nat) (s : Step L0) : Option (ABlock L0) := lk s.r.upd i

/-! ### What is asked of a region -/

def disj (a b : List Nat) : Bool := a.all fun x => !b.contains x

def noConf {L : Lf} (ops : Array Oper) (s q : Step L) : Bool :=
  let ks := s.r.upd.map (·.1)
  let kq := q.r.upd.map (·.1)
  Oper.apart ops s.o q.o && disj ks kq && disj ks q.r.tch && disj kq s.r.tch && disj s.r.news kq && disj s.r.news q.r.val.ids && q.r.upd.all (fun p => disj s.r.news p.2.ids) &&
  disj kq s.r.news

def ancs (acc : List Nat) : List Oper → List Nat
  | [] => acc
  | o :: r => ancs (acc ++ [o.after.toList.foldl (fun m e => if Region.binds .any e then m ||| 2 ^ e.on ||| acc.getD e.on 0 else m) 0]) r

def pairsOk {L : Lf} (ops : Array Oper) (anc : List Nat) : List (Step L) → Bool
  | [] => true
  | s :: r => r.all (fun q => Nat.testBit (anc.getD q.i 0) s.i || noConf ops s q) && pairsOk ops anc r

def drawOk {L : Lf} (ops : Array Oper) (ss : List (Step L)) : Bool :=
  pairsOk ops (ancs [] ops.toList) ss && ss.all fun s => s.o.after.toList.all fun e => !Region.binds .any e || decide (e.on < s.i)

theorem disj_ok {a b : List Nat} (h : disj a b = true) {x : Nat} (hx : x ∈ a) : x ∉ b := by
  have := List.all_eq_true.1 h x hx
  simpa using this

section
variable {P : Program} {Iso : ObRest}

theorem ancs_ok {S : Nat → Prop} : ∀ (r : List Oper) (acc : List Nat) (pre : List Oper),
    pre.length = acc.length → (∀ k o, (pre ++ r)[k]? = some o → S k → ∀ e, e ∈ o.after.toList → Region.binds .any e = true → S e.on) →
    (∀ k, S k → ∀ i, Nat.testBit (acc.getD k 0) i = true → S i) → ∀ k, S k → ∀ i, Nat.testBit ((ancs acc r).getD k 0) i = true → S i
  | [], acc, pre, _, _, h, k, hk, i, hi => h k hk i hi
  | o :: r, acc, pre, hl, hD, h, k, hk, i, hi => by
    simp only [ancs] at hi
    refine ancs_ok r _ (pre ++ [o]) (by simp [hl]) (by simpa using hD) ?_ k hk i hi
    clear hi hk i k
    intro k hk i hi
    by_cases hlt : k < acc.length
    · rw [List.getD, List.getElem?_append_left hlt] at hi
      exact h k hk i hi
    · by_cases he : k = acc.length
      · subst he
        have hat : (acc ++ [o.after.toList.foldl (fun m e => if Region.binds .any e then m ||| 2 ^ e.on ||| acc.getD e.on 0 else m) 0]).getD acc.length 0 = o.after.toList.foldl (fun m e => if Region.binds .any e then m ||| 2 ^ e.on ||| acc.getD e.on 0 else m) 0 := by
          simp [List.getD]
        rw [hat] at hi
        have hD' := hD acc.length o (by rw [← hl]; simp) hk
        have fold : ∀ (es : List Edge) (m : Nat), (∀ e, e ∈ es → Region.binds .any e = true → S e.on) → (Nat.testBit m i = true → S i) →
            Nat.testBit (es.foldl (fun m e => if Region.binds .any e then m ||| 2 ^ e.on ||| acc.getD e.on 0 else m) m) i = true → S i := by
          intro es
          induction es with
          | nil => intro m _ hm hi; exact hm hi
          | cons e es ih =>
            intro m hes hm hi
            simp only [List.foldl_cons] at hi
            refine ih _ (fun e' he' => hes e' (by simp [he'])) ?_ hi
            intro hb
            split at hb
            · rename_i hbind
              have hon := hes e (by simp) hbind
              simp only [Nat.testBit_or, Bool.or_eq_true, Nat.testBit_two_pow, decide_eq_true_eq] at hb
              rcases hb with (hb | hb) | hb
              · exact hm hb
              · rw [← hb]; exact hon
              · exact h e.on hon i hb
            · exact hm hb
        exact fold o.after.toList 0 hD' (by simp) hi
      · have : (acc ++ [o.after.toList.foldl (fun m e => if Region.binds .any e then m ||| 2 ^ e.on ||| acc.getD e.on 0 else m) 0]).getD k 0 = 0 := by
          rw [List.getD, List.getElem?_eq_none (by simp; omega)]; rfl
        rw [this] at hi
        simp at hi

end
end Go.Fl
