/- Whole functions over summaries: their contracts, way by way. Conditions: none. -/
import Derived.Test.YtjhhecidaableaaFlEv
set_option linter.unusedSimpArgs false
set_option linter.unusedVariables false
set_option linter.unusedSectionVars false
namespace Go.Fl
open Go Go.RowKit
variable [Objs]

/-- What a variable in memory holds. -/
def loadAV {L : Lf} (P : Program) (A : AH L) (t : TypeId) : AV L → Option (AV L)
  | .ptr id c _ 0 =>
    match getH A id with
    | .cells _ vs =>
      match tyAgg P t with
      | some true => match tySize P t with
        | some s => if c + s ≤ vs.length then some (.agg ((vs.drop c).take s)) else none
        | none => none
      | some false => vs[c]?
      | none => none
    | _ => none
  | _ => none

def resL {L : Lf} (P : Program) (tm : Tm L) (A : AH L) : List ResultVar → Option (List (AV L))
  | [] => some []
  | .tmp t :: r => match tm.getD t none, resL P tm A r with
    | some v, some l => some (v :: l)
    | _, _ => none
  | .cell a t :: r => match (tm.getD a none).bind (loadAV P A t), resL P tm A r with
    | some v, some l => some (v :: l)
    | _, _ => none

def resV {L : Lf} : List (AV L) → AV L
  | [v] => v
  | l => .tuple l

def begin {L : Lf} (fn : Func) (args : List (AV L)) : Tm L := args.map some ++ List.replicate (fn.ntmps - args.length) (some (.flat undef))

/-- The function fn, handed these arguments, on the way that ch tells: what is owed, its answer, the memory behind it. -/
def runFn (P : Program) (tab : List TypeId) (sg : List Summ) (lo : List LSumm) (fn : Func) (s : Summ) (ls : Ls) (k : Nat) (ch : List Nat) : Res (List (Ob L0) × AV L0 × AH L0) :=
  let args := s.inV ls
  let H := s.inH ls
  let n0 := H.length
  let x : Ctx := ⟨n0, s.ws⟩
  if args.all (idsIn (· < n0)) = true ∧ H.all (idsInB (· < n0)) = true ∧ s.ws.all (· < n0) = true then
    match fn.body with
    | none => .bad 90
    | some c =>
      (evC P tab sg lo x k c ⟨begin fn args, H, []⟩ ch).bind fun q =>
        match q.1 with
        | .exit _ => .bad 91
        | _ => (planEnd x s fn.results.toList q.2.1 q.2.2).bind fun p =>
          match execCs n0 s.ws p.cs.reverse q.2.1 with
          | none => .bad 92
          | some st2 =>
            match resL P st2.tm st2.A fn.results.toList with
            | none => .bad 93
            | some l =>
              let ks := p.ids.drop n0
              let ids := List.range n0 ++ ks
              let v := resV l
              if ids.Nodup ∧ ids.all (· < st2.A.length) = true ∧ idsIn (fun j => ids.contains j) v = true ∧ ids.all (fun i => idsInB (fun j => ids.contains j) (getH st2.A i)) = true ∧ ks.all (fun i => decide (n0 ≤ i)) = true then
                if p.ch.isEmpty then .ok (st2.ob, v.rn (fun i => ids.idxOf i), ids.map fun i => (getH st2.A i).rn fun i => ids.idxOf i) else .bad 95 p.ch
              else .bad 94 ids
  else .bad 96

section
variable {P : Program}

theorem loadAV_ok {A : AH L0} {t : TypeId} {u v : AV L0} (h : loadAV P A t u = some v) {ρ : Rho} {fps : Fps} {w : World} (hH : HS (getH A) ρ fps w) :
    ∃ a, toV ρ u = .pointer (some a) ∧ (loadVar t a).run P w = .ok (toV ρ v) w := by
  unfold loadAV at h
  split at h
  case h_2 => cases h
  rename_i id c e
  split at h
  case h_2 => cases h
  rename_i el vs hA
  have hb := hH.rep id
  rw [hA] at hb
  obtain ⟨_, h0, h2⟩ := hb
  refine ⟨_, rfl, ?_⟩
  split at h
  · rename_i hagg
    split at h
    case h_2 => cases h
    rename_i s hs
    split at h
    case isFalse => cases h
    rename_i hle
    cases h
    simp only [loadVar, addrOf, Sem.run_bind, run_aggT hagg, Result.andThen_ok, if_true, run_size hs, h0, Nat.mul_zero, Nat.add_zero, Nat.zero_add]
    rw [run_loadCells_mid P h2 c s (by simpa using hle)]
    simp [toVs_take, toVs_drop, toV]
  · rename_i hagg
    have hc : w.cell? ⟨(ρ id).block, c, none⟩ = some (toV ρ v) := by
      rw [cell_cells h2]; simp [toVs_eq_map, h]
    simp only [loadVar, addrOf, Sem.run_bind, run_aggT hagg, Result.andThen_ok, Bool.false_eq_true, if_false, h0, Nat.mul_zero, Nat.add_zero, Nat.zero_add]
    exact run_load_at P hc
  · cases h

def resOp (tmps : Array Value) : ResultVar → Sem Value
  | .tmp t => pure (tmps.getD t undef)
  | .cell p t => do loadVar t (← asAddr (tmps.getD p undef))

theorem results_eq (fn : Func) (tmps : Array Value) : results fn tmps = (do let vs ← fn.results.mapM (resOp tmps); pure (if h : vs.size = 1 then vs[0] else .tuple vs)) := by
  unfold results resOp
  rfl

theorem resL_ok {tm : Tm L0} {A : AH L0} {ρ : Rho} {fps : Fps} {w : World} {a : Act} (hs : SR tm A ρ fps w a) : ∀ {rs : List ResultVar} {l : List (AV L0)}, resL P tm A rs = some l →
    (rs.mapM (resOp a.tmps)).run P w = .ok (toVs ρ l) w
  | [], l, h => by simp [resL] at h; subst h; simp [toVs]
  | .tmp t :: r, l, h => by
    simp only [resL] at h
    split at h
    case h_2 => cases h
    rename_i v l' hv hr
    cases h
    have h1 := hs.tmps t v (getD_some hv)
    simp only [List.mapM_cons, resOp, Sem.run_bind, Sem.run_pure, Result.andThen_ok, resL_ok hs hr, toVs]
    simp [h1]
  | .cell p t :: r, l, h => by
    simp only [resL] at h
    split at h
    case h_2 => cases h
    rename_i v l' hv hr
    cases h
    cases hp : tm.getD p none with
    | none => rw [hp] at hv; simp at hv
    | some u =>
      rw [hp] at hv
      simp only [Option.bind_some] at hv
      obtain ⟨ad, e1, e2⟩ := loadAV_ok hv hs.hs
      have h1 := hs.tmps p u (getD_some hp)
      have h2 : a.tmps.getD p undef = .pointer (some ad) := by simp [h1, e1]
      simp only [List.mapM_cons, resOp, Sem.run_bind, h2, asAddr, Sem.run_pure, Result.andThen_ok, e2, resL_ok hs hr, toVs]

theorem results_ok {tm : Tm L0} {A : AH L0} {ρ : Rho} {fps : Fps} {w : World} {a : Act} (hs : SR tm A ρ fps w a) {fn : Func} {l : List (AV L0)} (h : resL P tm A fn.results.toList = some l) :
    (results fn a.tmps).run P w = .ok (toV ρ (resV l)) w := by
  rw [results_eq, Sem.run_bind, Array.mapM_eq_mapM_toList, Sem.run_map, resL_ok (P := P) hs h]
  simp only [Result.andThen_ok, Sem.run_pure]
  match l with
  | [] => simp [resV, toV, toVs]
  | [v] => simp [resV, toVs]
  | v :: u :: r => simp [resV, toV, toVs]

theorem contract_of_run [ObjsOk] (hg : GlueOk) {tab : List TypeId} {sg : List Summ} {lo : List LSumm} (het : EqTab P tab) (hsg : ∀ s, s ∈ sg → s.Ok P) (hmix : P.follows .mixedOrders = true) {fn : Func} {s : Summ} {ls : Ls}
    (hlo : ∀ L, L ∈ lo → ∀ b, b ∈ loopsOf (fn.body.getD .skip) → firstReg b = some L.r → L.Ok P b)
    (hf : P.funcs[s.f]? = some fn) (hcall : ∀ as w, (callFunc s.f as).run P w = .ok (.enter s.f as) w)
    {k : Nat} {ch : List Nat} {ob : List (Ob L0)} {v : AV L0} {H' : AH L0}
    (h : runFn P tab sg lo fn s ls k ch = .ok (ob, v, H')) (hob : ∀ q, q ∈ ob → Holds P q) : Contract P s.f (s.inV ls) (s.inH ls) v s.ws H' := by
  refine ⟨hcall, fun ρ fps w hH => ?_⟩
  unfold runFn at h
  simp only at h
  generalize hargs : s.inV ls = args at h ⊢
  generalize hHH : s.inH ls = H at h hH ⊢
  generalize hwsE : s.ws = ws at h ⊢
  split at h
  case isFalse => cases h
  rename_i hc
  obtain ⟨hca, hcH, hws⟩ := hc
  split at h
  case h_1 => cases h
  rename_i c hbody
  obtain ⟨⟨e, st, ch1⟩, hev, h⟩ := Res.bind_ok h
  have hex : (∀ id, e ≠ .exit id) := by
    intro id he
    subst he
    simp only at h
    cases h
  have hws' : ∀ i, i ∈ ws → i < H.length := fun i hi => by have := List.all_eq_true.1 hws i hi; simpa using this
  have hmain : ∃ p : PSt, ∃ st2 l, execCs H.length ws p.cs.reverse st = some st2 ∧ resL P st2.tm st2.A fn.results.toList = some l ∧
      ((List.range H.length ++ p.ids.drop H.length).Nodup ∧ (List.range H.length ++ p.ids.drop H.length).all (· < st2.A.length) = true ∧ idsIn (fun j => (List.range H.length ++ p.ids.drop H.length).contains j) (resV l) = true ∧
        (List.range H.length ++ p.ids.drop H.length).all (fun i => idsInB (fun j => (List.range H.length ++ p.ids.drop H.length).contains j) (getH st2.A i)) = true ∧ (p.ids.drop H.length).all (fun i => decide (H.length ≤ i)) = true) ∧
      ob = st2.ob ∧ v = (resV l).rn (fun i => (List.range H.length ++ p.ids.drop H.length).idxOf i) ∧
      H' = (List.range H.length ++ p.ids.drop H.length).map fun i => (getH st2.A i).rn fun i => (List.range H.length ++ p.ids.drop H.length).idxOf i := by
    cases e with
    | exit id => exact absurd rfl (hex id)
    | normal =>
      simp only at h
      obtain ⟨p, _, h⟩ := Res.bind_ok h
      split at h
      · cases h
      rename_i st2 h2
      split at h
      · cases h
      rename_i l hl
      split at h
      case isFalse => cases h
      rename_i hck
      split at h
      case isFalse => cases h
      cases h
      exact ⟨p, st2, l, h2, hl, hck, rfl, rfl, rfl⟩
    | ret =>
      simp only at h
      obtain ⟨p, _, h⟩ := Res.bind_ok h
      split at h
      · cases h
      rename_i st2 h2
      split at h
      · cases h
      rename_i l hl
      split at h
      case isFalse => cases h
      rename_i hck
      split at h
      case isFalse => cases h
      cases h
      exact ⟨p, st2, l, h2, hl, hck, rfl, rfl, rfl⟩
  obtain ⟨p, st2, l, hcs, hres, hck, rfl, rfl, rfl⟩ := hmain
  generalize hks : p.ids.drop H.length = ks at hck ⊢
  obtain ⟨hnd, hlt, hcv, hcb, hks'⟩ := hck
  obtain ⟨mcs, gcs⟩ := execCs_ok (P := P) hg hcs
  obtain ⟨hcode, _⟩ := evC_ok (x := ⟨H.length, ws⟩) hg het hsg hmix hws' k (fun L hL b hb hr => hlo L hL b (by rw [hbody]; exact hb) hr) hev fun q hq => hob q (mcs q hq)
  have hfpsN : ∀ i, H.length ≤ i → ∀ b, ¬ fps i b := by
    intro i hi b hb
    have := hH.rep i
    rw [show getH H i = .gone by simp [getH, List.getElem?_eq_none hi]] at this
    exact this b hb
  refine calls_of_wp hf hbody ?_
  refine hcode ρ fps w ρ fps w _ _ ?_ ?_ ?_
  · refine ⟨?_, fun t u hu => ?_, fun t u hu i hi => ?_, hH, fun i j hj => ?_, rfl⟩
    · simp [begin]
    · simp only [begin, List.getElem?_append, List.length_map] at hu
      split at hu
      · rename_i hl
        simp only [List.getElem?_map] at hu
        cases ha : args[t]? with
        | none => simp [ha] at hu
        | some x =>
          simp [ha] at hu
          subst hu
          rw [Array.getElem?_append_left (by simpa using hl)]
          simp [toVs_eq_map, ha]
      · rename_i hl
        rw [List.getElem?_replicate] at hu
        split at hu
        · rename_i hl2
          simp only [Option.some.injEq] at hu
          subst hu
          rw [Array.getElem?_append_right (by simpa using hl)]
          simp only [List.size_toArray, toVs_length, Array.getElem?_replicate]
          simp [toV, hl2]
        · cases hu
    · simp only [begin, List.getElem?_append, List.length_map] at hu
      split at hu
      · simp only [List.getElem?_map] at hu
        cases ha : args[t]? with
        | none => simp [ha] at hu
        | some x =>
          simp [ha] at hu
          subst hu
          have := List.all_eq_true.1 (List.all_eq_true.1 hca x (List.mem_of_getElem? ha)) i hi
          simpa using this
      · rw [List.getElem?_replicate] at hu
        split at hu
        · simp only [Option.some.injEq] at hu
          subst hu
          simp [AV.ids] at hi
        · cases hu
    · unfold getH at hj
      cases hq : H[i]? with
      | none => simp [hq, ABlock.ids] at hj
      | some b =>
        simp [hq] at hj
        have := List.all_eq_true.1 (List.all_eq_true.1 hcH b (List.mem_of_getElem? hq)) j hj
        simpa using this
  · exact ⟨fun _ _ => rfl, Fr.refl _ _, fun _ _ _ _ => Iff.rfl, fun i hi b hb => by
      rcases hi with hi | hi
      · exact .inl ⟨i, hi, hb⟩
      · exact absurd hb (hfpsN i hi b)⟩
  · intro ρ1 fps1 w1 a1 hs1 ht1
    obtain ⟨ρ2, fps2, hs2, ht2⟩ := gcs hob hs1 ht1
    have hr := results_ok (P := P) hs2 hres
    have hcl : ∀ i, i ∈ List.range H.length ++ ks → ∀ j, j ∈ (getH st2.A i).ids → j ∈ List.range H.length ++ ks := by
      intro i hi j hj
      have := List.all_eq_true.1 (List.all_eq_true.1 hcb i hi) j hj
      simpa using this
    have hpart := hs2.hs.part hnd (N := st2.A.length) hcl
    have hget : ∀ i, i < H.length → (List.range H.length ++ ks).getD i 0 = i := by
      intro i hi
      simp [List.getD, List.getElem?_append, hi]
    have hlen : H.length ≤ (List.range H.length ++ ks).length := by simp
    have hval : toV ρ2 (resV l) = toV (fun j => ρ2 (mapIds (List.range H.length ++ ks) st2.A.length j)) ((resV l).rn fun i => (List.range H.length ++ ks).idxOf i) := by
      rw [toV_rn]
      refine toV_congr _ fun i hi => ?_
      have h1 := List.all_eq_true.1 hcv i hi
      have hi' : i ∈ List.range H.length ++ ks := by simpa using h1
      have hl := List.idxOf_lt_length_iff.2 hi'
      simp only [mapIds, if_pos hl, getD_idxOf hi']
    have hpost : ∃ ρ' fps', Ending.returned (toV ρ2 (resV l)) = .returned (toV ρ' ((resV l).rn fun i => (List.range H.length ++ ks).idxOf i)) ∧
        CPost H ((List.range H.length ++ ks).map fun i => (getH st2.A i).rn fun i => (List.range H.length ++ ks).idxOf i) ws ρ fps w ρ' fps' w1 := by
      refine ⟨_, _, by rw [hval], ⟨fun i hi => ?_, hpart, ht2.fr, fun i hi hiw b => ?_, fun i hi b hb => ?_⟩⟩
      · simp only [mapIds, if_pos (show i < (List.range H.length ++ ks).length by omega), hget i hi]
        exact ht2.rho i hi
      · simp only [if_pos (show i < (List.range H.length ++ ks).length by omega), hget i hi]
        exact ht2.same i hi hiw b
      · split at hb
        case isFalse => exact hb.elim
        rename_i hil
        by_cases hi0 : i < H.length
        · rw [hget i hi0] at hb
          rcases hi with hi | hi
          · exact ht2.from_ i (.inl hi) b hb
          · omega
        · refine ht2.from_ _ (.inr ?_) b hb
          have hm : (List.range H.length ++ ks).getD i 0 ∈ ks := by
            simp only [List.getD]
            rw [List.getElem?_append_right (by simp; omega)]
            have : i - (List.range H.length).length < ks.length := by simp at hil ⊢; omega
            rw [List.getElem?_eq_getElem this]
            exact List.getElem_mem _
          have := List.all_eq_true.1 hks' _ hm
          simpa using this
    have hfin : a1.defers = [] ∧ ∃ v', (results fn a1.tmps).run P w1 = .ok v' w1 ∧ ∃ ρ' fps', Ending.returned v' = .returned (toV ρ' ((resV l).rn fun i => (List.range H.length ++ ks).idxOf i)) ∧
        CPost H ((List.range H.length ++ ks).map fun i => (getH st2.A i).rn fun i => (List.range H.length ++ ks).idxOf i) ws ρ fps w ρ' fps' w1 := ⟨hs2.nd, _, hr, hpost⟩
    cases e with
    | normal => exact hfin
    | ret => exact hfin
    | exit id => exact absurd rfl (hex id)

/-! ### Way by way -/

/-- What is owed, as tests. -/
def tstN : SB L0 → Bool → Bool × Bool
  | .not c, o => tstN c (!o)
  | c, o => (denB c, o)
def tst : Ob L0 → Bool × Bool
  | .tst c o => tstN c o
  | .ilt a b => (decide (denI a < denI b), true)
  | .ile a b => (decide (denI a ≤ denI b), true)
  | .ieq a n => (denI a == n, true)
  | .nz a => (denI a == 0, false)
  | .inb c t n a => (decide (c + (denI t).toNat * n < (denA a).length), true)
  | .alen len a => (decide ((denI len).toNat = (denA a).length), true)
  | _ => (false, true)

theorem tstN_ok : ∀ {c : SB L0} {o : Bool}, (tstN c o).1 = (tstN c o).2 → denB c = o
  | .not c, o, h => by
    simp only [tstN] at h
    have := tstN_ok h
    simp [denB, this]
  | .lf _, o, h => h
  | .lit _, o, h => h
  | .cmp .., o, h => h
  | .beq .., o, h => h
  | .and .., o, h => h

theorem tst_ok {q : Ob L0} (h : (tst q).1 = (tst q).2) : Holds P q := by
  cases q with
  | tst c o => exact tstN_ok h
  | ilt a b => simpa [tst, Holds, Obs] using h
  | ile a b => simpa [tst, Holds, Obs] using h
  | ieq a n => simpa [tst, Holds, Obs] using h
  | nz a => simpa [tst, Holds, Obs] using h
  | inb c t n a => simpa [tst, Holds, Obs] using h
  | alen len a => simpa [tst, Holds, Obs] using h
  | call => simp [tst] at h
  | isobj => simp [tst] at h
  | code => simp [tst] at h

/-- A test that is known. -/
structure Kn where
  b : Bool
  o : Bool
  h : b = o

def viewFn (ρ : Rho) (r : Res (List (Ob L0) × AV L0 × AH L0)) : Option (List (Bool × Bool) × Value × List DB) :=
  match r with
  | .ok (ob, v, H') => some (ob.map tst, toV ρ v, H'.map (bden ρ))
  | _ => none

/-- All that the walks over one program rest on. -/
structure Base (P : Program) (tab : List TypeId) (sg : List Summ) : Prop where
  oo : ObjsOk
  hg : GlueOk
  het : EqTab P tab
  hsg : ∀ s, s ∈ sg → s.Ok P
  hmix : P.follows .mixedOrders = true

structure FnIs (P : Program) (f : FuncId) (fn : Func) : Prop where
  at_ : P.funcs[f]? = some fn
  call : ∀ as w, (callFunc f as).run P w = .ok (.enter f as) w

theorem way {tab : List TypeId} {sg : List Summ} {lo : List LSumm} (B : Base P tab sg) {fn : Func} {s : Summ} (F : FnIs P s.f fn)
    (hlo : ∀ L, L ∈ lo → ∀ b, b ∈ loopsOf (fn.body.getD .skip) → firstReg b = some L.r → L.Ok P b) {ls o : Ls} (k : Nat) (ch : List Nat) (ts : List Kn)
    (h : ∀ ρ, viewFn ρ (runFn P tab sg lo fn s ls k ch) = some (ts.map (fun t => (t.b, t.o)), toV ρ (s.outV o), (s.outH o).map (bden ρ))) : s.At P ls o := by
  have := B.oo
  have h0 := h fun _ => { block := 0, base := 0, cap := 0 }
  cases hr : runFn P tab sg lo fn s ls k ch with
  | ok q =>
    obtain ⟨ob, v, H'⟩ := q
    simp only [hr, viewFn, Option.some.injEq, Prod.mk.injEq] at h h0
    have hob : ∀ q, q ∈ ob → Holds P q := by
      intro q hq
      refine tst_ok ?_
      have : tst q ∈ ts.map (fun t => (t.b, t.o)) := by rw [← h0.1]; exact List.mem_map.2 ⟨q, hq, rfl⟩
      obtain ⟨t, _, ht⟩ := List.mem_map.1 this
      rw [← ht]
      exact t.h
    exact Contract.conv (contract_of_run B.hg B.het B.hsg B.hmix hlo F.at_ F.call hr hob) (fun _ => rfl) (fun _ => rfl) (fun ρ => (h ρ).2.1) (fun ρ => (h ρ).2.2)
  | more n => simp [hr, viewFn] at h0
  | bad m l => simp [hr, viewFn] at h0

theorem noLo {fn : Func} : ∀ L, L ∈ ([] : List LSumm) → ∀ b, b ∈ loopsOf (fn.body.getD .skip) → firstReg b = some L.r → L.Ok P b := fun L h => by cases h

end
end Go.Fl
