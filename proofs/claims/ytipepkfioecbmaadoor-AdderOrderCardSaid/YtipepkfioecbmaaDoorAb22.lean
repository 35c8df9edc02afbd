/- Regions that draw their order: which operations may change places. -/
import Derived.Test.YtipepkfioecbmaaDoorAb21
set_option linter.unusedVariables false
set_option linter.unusedSimpArgs false
namespace Go.Ab

mutual
theorem dem_dem : ∀ x : AV, x.dem.dem = x.dem
  | .own s xs => by simp [AV.dem]
  | .ag cs => by simp [AV.dem, demL_demL cs]
  | .tu vs => by simp [AV.dem, demL_demL vs]
  | .p x => by simp [AV.dem]
  | .tgt s xs => by simp [AV.dem]
  | .cptr x => by simp [AV.dem]
  | .ref i v o => by simp [AV.dem]
  | .arr s i v o l => by simp [AV.dem]
  | .mp i => by simp [AV.dem]
  | .fn f a b => by simp [AV.dem]
  | .ifc t x => by simp [AV.dem]
theorem demL_demL : ∀ l : List AV, AV.demL (AV.demL l) = AV.demL l
  | [] => by simp [AV.demL]
  | x :: xs => by simp [AV.demL, dem_dem x, demL_demL xs]
end

mutual
theorem pv_dem : ∀ x : AV, x.dem.pv = x.pv
  | .own s xs => by simp [AV.dem, AV.pv]
  | .ag cs => by simp [AV.dem, AV.pv, pvL_demL cs]
  | .tu vs => by simp [AV.dem, AV.pv]
  | .p x => by simp [AV.dem, AV.pv]
  | .tgt s xs => by simp [AV.dem, AV.pv]
  | .cptr x => by simp [AV.dem, AV.pv]
  | .ref i v o => by simp [AV.dem, AV.pv]
  | .arr s i v o l => by simp [AV.dem, AV.pv]
  | .mp i => by simp [AV.dem, AV.pv]
  | .fn f a b => by simp [AV.dem, AV.pv]
  | .ifc t x => by simp [AV.dem, AV.pv]
theorem pvL_demL : ∀ l : List AV, AV.pvL (AV.demL l) = AV.pvL l
  | [] => by simp [AV.demL]
  | x :: xs => by simp [AV.demL, AV.pvL, pv_dem x, pvL_demL xs]
end

def Ent.dem : Ent → Ent
  | .cells v cs => .cells v (AV.demL cs)
  | .map kvs => .map (kvs.map fun x => (x.1, x.2.dem))
  | .dead => .dead
/-- The same heaps but for who owns. -/
def Dm (σ σ' : List Ent) : Prop := σ.map Ent.dem = σ'.map Ent.dem

theorem Dm.symm {σ σ' : List Ent} (h : Dm σ σ') : Dm σ' σ := Eq.symm h
theorem Dm.at {σ σ' : List Ent} (h : Dm σ σ') (i : Nat) : (σ[i]?).map Ent.dem = (σ'[i]?).map Ent.dem := by
  have := congrArg (·[i]?) h
  simpa using this
theorem Dm.cells {σ σ' : List Ent} (h : Dm σ σ') {i v : Nat} {cs : List AV} (he : σ[i]? = some (.cells v cs)) : ∃ cs', σ'[i]? = some (.cells v cs') ∧ AV.demL cs' = AV.demL cs := by
  have := h.at i
  rw [he] at this
  cases h2 : σ'[i]? with
  | none => rw [h2] at this; cases this
  | some e =>
    rw [h2] at this
    cases e <;> simp [Ent.dem] at this
    case cells v' cs' => exact ⟨cs', by rw [this.1], this.2.symm⟩
theorem Dm.map {σ σ' : List Ent} (h : Dm σ σ') {i : Nat} {kvs : List (Int × AV)} (he : σ[i]? = some (.map kvs)) : ∃ kvs', σ'[i]? = some (.map kvs') ∧ (kvs'.map fun x => (x.1, x.2.dem)) = kvs.map fun x => (x.1, x.2.dem) := by
  have := h.at i
  rw [he] at this
  cases h2 : σ'[i]? with
  | none => rw [h2] at this; cases this
  | some e =>
    rw [h2] at this
    cases e <;> simp [Ent.dem] at this
    case map kvs' => exact ⟨kvs', rfl, by simpa using this.symm⟩
theorem Dm.set {σ : List Ent} {i : Nat} {e e' : Ent} (he : σ[i]? = some e) (h : e'.dem = e.dem) : Dm σ (σ.set i e') := by
  unfold Dm
  rw [List.map_set, h]
  apply List.ext_getElem?
  intro j
  rw [List.getElem?_set]
  split
  · rename_i hij
    subst hij
    have := (List.getElem?_eq_some_iff.1 he).1
    have h2 := (List.getElem?_eq_some_iff.1 he).2
    simp [this, h2]
  · rfl

/-- How it looks at the heap: not at all; copies; takes; anything. -/
def eff (H : Hint) (o : Oper) : Nat := match o.op with
  | .load .. => if hd H.tk o.dst then 2 else 1
  | .lookup .. => if hd H.tk o.dst then 2 else 1
  | .store .. => 3
  | .mapUpdate .. => 3
  | .call c => match c.callee with
    | .builtin .len => 1
    | .builtin .append => if hd H.fz o.dst || hd H.ar o.dst then 3 else 1
    | .builtin _ => 0
    | _ => 3
  | _ => 0

section
variable {P : Program} {H : Hint} {o : Oper} {ρ : Operand → AV} {σ σ2 σ' : List Ent} {v : AV}

theorem loadA_copy {t : TypeId} {a : AV} (h : loadA P t false a σ = some (v, σ')) : σ' = σ ∧ ∀ σ2, Dm σ σ2 → loadA P t false a σ2 = some (v, σ2) := by
  unfold loadA at h ⊢
  cases hA : agT P t with
  | none => rw [hA] at h; cases h
  | some T =>
    obtain ⟨isA, n⟩ := T
    rw [hA] at h
    simp only at h ⊢
    cases a with
    | cptr x =>
      simp only at h ⊢
      cases isA <;> cases x <;> simp only at h ⊢ <;> first | (simp only [Option.some.injEq, Prod.mk.injEq] at h; exact ⟨h.2.symm, fun _ _ => by rw [h.1]⟩) | (split at h; (simp only [Option.some.injEq, Prod.mk.injEq] at h; exact ⟨h.2.symm, fun _ _ => by simp [*]⟩); cases h) | cases h
    | ref id ver off =>
      simp only at h ⊢
      cases he : σ[id]? with
      | none => rw [he] at h; cases h
      | some e =>
        rw [he] at h
        cases e with
        | cells ver' cs =>
          simp only at h
          split at h
          · cases h
          · rename_i hv
            cases isA with
            | true =>
              simp only [if_true] at h
              split at h
              · rename_i hle
                simp only [Bool.false_eq_true, if_false, Option.some.injEq, Prod.mk.injEq] at h
                refine ⟨h.2.symm, fun σ2 hd => ?_⟩
                obtain ⟨cs', he', hc'⟩ := hd.cells he
                have hl : cs'.length = cs.length := by have := congrArg List.length hc'; simpa [AV.demL_eq] using this
                have hp : AV.demL ((cs'.drop off).take n) = AV.demL ((cs.drop off).take n) := by
                  rw [AV.demL_eq, AV.demL_eq, List.map_take, List.map_drop, List.map_take, List.map_drop, ← AV.demL_eq, ← AV.demL_eq, hc']
                simp only [he', hv, if_false, if_true, hl, hle, hp, Bool.false_eq_true, h.1]
              · cases h
            | false =>
              simp only [Bool.false_eq_true, if_false] at h
              cases hy : cs[off]? with
              | none => rw [hy] at h; cases h
              | some y =>
                rw [hy] at h
                simp only [Option.some.injEq, Prod.mk.injEq] at h
                refine ⟨h.2.symm, fun σ2 hd => ?_⟩
                obtain ⟨cs', he', hc'⟩ := hd.cells he
                have hp : (cs'[off]?).map AV.dem = some y.dem := by
                  have := congrArg (·[off]?) hc'
                  simpa [AV.demL_eq, hy] using this
                cases hy' : cs'[off]? with
                | none => rw [hy'] at hp; cases hp
                | some y' =>
                  rw [hy'] at hp
                  simp only [Option.map_some, Option.some.injEq] at hp
                  simp only [he', hv, if_false, Bool.false_eq_true, hy', hp, h.1]
        | _ => cases h
    | _ => cases h

theorem loadA_take {t : TypeId} {a : AV} (h : loadA P t true a σ = some (v, σ')) : Dm σ σ' := by
  unfold loadA at h
  cases hA : agT P t with
  | none => rw [hA] at h; cases h
  | some T =>
    obtain ⟨isA, n⟩ := T
    rw [hA] at h
    simp only at h
    cases a with
    | cptr x =>
      simp only at h
      cases isA <;> cases x <;> simp only at h <;> first | (simp only [Option.some.injEq, Prod.mk.injEq] at h; rw [h.2]; rfl) | (split at h; (simp only [Option.some.injEq, Prod.mk.injEq] at h; rw [h.2]; rfl); cases h) | cases h
    | ref id ver off =>
      simp only at h
      cases he : σ[id]? with
      | none => rw [he] at h; cases h
      | some e =>
        rw [he] at h
        cases e with
        | cells ver' cs =>
          simp only at h
          split at h
          · cases h
          · rename_i hv
            simp only [ne_eq, Decidable.not_not] at hv
            subst hv
            cases isA with
            | true =>
              simp only [if_true] at h
              split at h
              · simp only [Option.some.injEq, Prod.mk.injEq] at h
                rw [← h.2]
                refine Dm.set he ?_
                simp only [Ent.dem, AV.demL_eq, List.map_append, List.map_map]
                congr 1
                have : (AV.dem ∘ AV.dem) = AV.dem := funext fun x => dem_dem x
                rw [this, ← List.map_append, ← List.map_append]
                congr 1
                rw [List.append_assoc]
                conv => rhs; rw [← List.take_append_drop off cs, ← List.take_append_drop n (cs.drop off)]
                simp
              · cases h
            | false =>
              simp only [Bool.false_eq_true, if_false] at h
              cases hy : cs[off]? with
              | none => rw [hy] at h; cases h
              | some y =>
                rw [hy] at h
                simp only [if_true, Option.some.injEq, Prod.mk.injEq] at h
                rw [← h.2]
                refine Dm.set he ?_
                simp only [Ent.dem, AV.demL_eq, List.map_set, dem_dem]
                congr 1
                apply List.ext_getElem?
                intro j
                rw [List.getElem?_set]
                split
                · rename_i hij
                  subst hij
                  have := (List.getElem?_eq_some_iff.1 hy).1
                  have h2 := (List.getElem?_eq_some_iff.1 hy).2
                  simp [this, h2]
                · rfl
        | _ => cases h
    | _ => cases h

theorem mget_dem {k : Int} : ∀ {kvs kvs' : List (Int × AV)}, (kvs'.map fun x => (x.1, x.2.dem)) = (kvs.map fun x => (x.1, x.2.dem)) → (mget k kvs').map AV.dem = (mget k kvs).map AV.dem := by
  intro kvs
  induction kvs with
  | nil => intro kvs' h; simp at h; subst h; rfl
  | cons x kvs ih =>
    intro kvs' h
    cases kvs' with
    | nil => simp at h
    | cons y kvs' =>
      simp only [List.map_cons, List.cons.injEq, Prod.mk.injEq] at h
      obtain ⟨⟨h1, h2⟩, h3⟩ := h
      obtain ⟨y1, y2⟩ := y
      obtain ⟨x1, x2⟩ := x
      simp only at h1 h2
      subst h1
      simp only [mget]
      split
      · simp [h2]
      · exact ih h3

theorem mset_dem {k : Int} {v : AV} : ∀ {kvs : List (Int × AV)}, mget k kvs = some v → ((mset k v.dem kvs).map fun x => (x.1, x.2.dem)) = kvs.map fun x => (x.1, x.2.dem) := by
  intro kvs
  induction kvs with
  | nil => intro h; cases h
  | cons x kvs ih =>
    intro h
    obtain ⟨x1, x2⟩ := x
    simp only [mget] at h
    simp only [mset]
    split at h
    · rename_i he
      simp only [Option.some.injEq] at h
      subst h
      simp [he, dem_dem]
    · rename_i he
      simp [he, ih h]

theorem lookA_copy {t e : TypeId} {ok : Bool} {m k : AV} (h : lookA P t e false ok m k σ = some (v, σ')) : σ' = σ ∧ ∀ σ2, Dm σ σ2 → lookA P t e false ok m k σ2 = some (v, σ2) := by
  unfold lookA at h ⊢
  split at h
  · rename_i z id k' hT
    cases he : σ[id]? with
    | none => rw [he] at h; cases h
    | some en =>
      rw [he] at h
      cases en with
      | map kvs =>
        simp only at h
        cases hg : mget k' kvs with
        | none =>
          rw [hg] at h
          simp only [Option.some.injEq, Prod.mk.injEq] at h
          refine ⟨h.2.symm, fun σ2 hd => ?_⟩
          obtain ⟨kvs', he', hc'⟩ := hd.map he
          have := mget_dem (k := k') hc'
          rw [hg] at this
          simp only [Option.map_none, Option.map_eq_none_iff] at this
          simp only [hT, he', this, h.1]
        | some y =>
          rw [hg] at h
          refine ⟨by simp only at h; split at h <;> simp at h <;> exact h.2.symm, fun σ2 hd => ?_⟩
          obtain ⟨kvs', he', hc'⟩ := hd.map he
          have := mget_dem (k := k') hc'
          rw [hg] at this
          cases hg' : mget k' kvs' with
          | none => rw [hg'] at this; cases this
          | some y' =>
            rw [hg'] at this
            simp only [Option.map_some, Option.some.injEq] at this
            simp only [hT, he', hg', this]
            simp only at h
            split at h <;> simp at h <;> simp [*]
      | _ => cases h
  · cases h

theorem lookA_take {t e : TypeId} {ok : Bool} {m k : AV} (h : lookA P t e true ok m k σ = some (v, σ')) : Dm σ σ' := by
  unfold lookA at h
  split at h
  · rename_i z id k' hT
    cases he : σ[id]? with
    | none => rw [he] at h; cases h
    | some en =>
      rw [he] at h
      cases en with
      | map kvs =>
        simp only at h
        cases hg : mget k' kvs with
        | none =>
          rw [hg] at h
          simp only [Option.some.injEq, Prod.mk.injEq] at h
          rw [h.2]; rfl
        | some y =>
          rw [hg] at h
          simp only [if_true] at h
          split at h
          · simp only [Option.some.injEq, Prod.mk.injEq] at h; rw [h.2]; rfl
          · simp only [Option.some.injEq, Prod.mk.injEq] at h
            rw [← h.2]
            exact Dm.set he (by simp only [Ent.dem, mset_dem hg])
      | _ => cases h
  · cases h

theorem seen_dm {x : AV} {r : Nat × List PV} (h : seen x σ = some r) (hd : Dm σ σ2) : seen x σ2 = some r := by
  unfold seen at h ⊢
  cases x with
  | arr s id ver off len =>
    simp only at h ⊢
    cases he : σ[id]? with
    | none => rw [he] at h; cases h
    | some e =>
      rw [he] at h
      cases e with
      | cells ver' cs =>
        obtain ⟨cs', he', hc'⟩ := hd.cells he
        have hl : cs'.length = cs.length := by have := congrArg List.length hc'; simpa [AV.demL_eq] using this
        have hp : AV.pvL ((cs'.drop off).take len) = AV.pvL ((cs.drop off).take len) := by
          rw [← pvL_demL, ← pvL_demL ((cs.drop off).take len), AV.demL_eq, AV.demL_eq, List.map_take, List.map_drop, List.map_take, List.map_drop, ← AV.demL_eq, ← AV.demL_eq, hc']
        simp only at h
        simp only [he', hl, hp]
        exact h
      | _ => cases h
  | _ => exact h

theorem appA_copy {t : TypeId} {x y : AV} (hz : fzok false x = true) (h : appA P t false x y σ = some (v, σ')) : σ' = σ ∧ ∀ σ2, Dm σ σ2 → appA P t false x y σ2 = some (v, σ2) := by
  unfold appA at h ⊢
  cases hT : slT P t with
  | none => rw [hT] at h; cases h
  | some T =>
    obtain ⟨e, s, b, z⟩ := T
    rw [hT] at h
    cases hs : seen y σ with
    | none => rw [hs] at h; cases h
    | some r =>
      obtain ⟨s2, ys⟩ := r
      rw [hs] at h
      simp only at h
      split at h
      · cases h
      · rename_i hc
        simp only [Bool.false_eq_true, if_false] at h
        have hf : ∀ σ, freezeA x σ = some (x, σ) := by
          intro σ
          cases x with
          | arr => simp [fzok] at hz
          | _ => rfl
        rw [hf] at h
        simp only at h
        have key : σ' = σ ∧ ∀ σ2, appO s ys x σ2 = some (v, σ2) := by
          unfold appO at h ⊢
          cases x with
          | own s' xs => simp only at h ⊢; split at h; cases h; rename_i hh; simp only [Option.some.injEq, Prod.mk.injEq] at h; exact ⟨h.2.symm, fun σ2 => by simp [hh, h.1]⟩
          | tgt s' xs => simp only at h ⊢; split at h; cases h; rename_i hh; simp only [Option.some.injEq, Prod.mk.injEq] at h; exact ⟨h.2.symm, fun σ2 => by rw [if_neg hh, h.1]⟩
          | _ => cases h
        refine ⟨key.1, fun σ2 hd => ?_⟩
        simp only [seen_dm hs hd, hc, if_false, Bool.false_eq_true, hf, key.2]

theorem eff0 (he : eff H o = 0) (h : opV P H o ρ σ = some (v, σ')) : σ' = σ ∧ ∀ σ2, opV P H o ρ σ2 = some (v, σ2) := by
  obtain ⟨dst, op, type, pos, after, guard⟩ := o
  cases op with
  | load => simp only [eff] at he; split at he <;> cases he
  | lookup => simp only [eff] at he; split at he <;> cases he
  | store => cases he
  | mapUpdate => cases he
  | call c =>
    obtain ⟨callee, args, ts⟩ := c
    cases callee with
    | builtin b =>
      cases b with
      | len => cases he
      | append => simp only [eff] at he; split at he <;> cases he
      | min =>
        simp only [opV] at h ⊢
        split at h
        · simp only [Option.map_eq_some_iff, Prod.mk.injEq] at h
          obtain ⟨a, h1, h2, h3⟩ := h
          exact ⟨h3.symm, fun σ2 => by simp [h1, h2]⟩
        · cases h
      | max =>
        simp only [opV] at h ⊢
        split at h
        · simp only [Option.map_eq_some_iff, Prod.mk.injEq] at h
          obtain ⟨a, h1, h2, h3⟩ := h
          exact ⟨h3.symm, fun σ2 => by simp [h1, h2]⟩
        · cases h
      | _ => cases h
    | _ => cases h
  | build t ps =>
    simp only [opV] at h ⊢
    split at h
    · split at h
      · simp only [Option.map_eq_some_iff, Prod.mk.injEq] at h
        obtain ⟨a, h1, h2, h3⟩ := h
        rename_i hc
        exact ⟨h3.symm, fun σ2 => by simp [hc, h1, h2]⟩
      · cases h
    · cases h
  | buildSlice t m ps =>
    simp only [opV] at h ⊢
    split at h
    · split at h
      · split at h
        · simp only [Option.map_eq_some_iff, Prod.mk.injEq] at h
          obtain ⟨a, h1, h2, h3⟩ := h
          rename_i hc
          exact ⟨h3.symm, fun σ2 => by simp [hc, h1, h2]⟩
        · cases h
      · cases h
    · cases h
  | move x => simp only [opV, Option.some.injEq, Prod.mk.injEq] at h; exact ⟨h.2.symm, fun σ2 => by simp [opV, h.1]⟩
  | assign x => simp only [opV, Option.some.injEq, Prod.mk.injEq] at h; exact ⟨h.2.symm, fun σ2 => by simp [opV, h.1]⟩
  | makeFunc f a b => simp only [opV, Option.some.injEq, Prod.mk.injEq] at h; exact ⟨h.2.symm, fun σ2 => by simp [opV, h.1]⟩
  | pick c x y =>
    simp only [opV] at h ⊢
    split at h
    · simp only [Option.some.injEq, Prod.mk.injEq] at h; exact ⟨h.2.symm, fun σ2 => by simp [h.1]⟩
    · cases h
  | nilCheck x =>
    simp only [opV] at h ⊢
    split at h <;> first | (simp only [Option.some.injEq, Prod.mk.injEq] at h; exact ⟨h.2.symm, fun σ2 => by simp [h.1]⟩) | (exfalso; cases h; done)
  | convert s d x =>
    simp only [opV] at h ⊢
    split at h
    · simp only [Option.some.injEq, Prod.mk.injEq] at h; exact ⟨h.2.symm, fun σ2 => by simp [h.1]⟩
    · cases h
  | indexAddr t x i =>
    cases x <;> (
      simp only [opV, Option.map_eq_some_iff, Prod.mk.injEq] at h
      obtain ⟨a, h1, h2, h3⟩ := h
      exact ⟨h3.symm, fun σ2 => by simp [opV, h1, h2]⟩)
  | binOp b t x y ty =>
    simp only [opV] at h ⊢
    split at h
    · simp only [Option.map_eq_some_iff, Prod.mk.injEq] at h
      obtain ⟨a, h1, h2, h3⟩ := h
      exact ⟨h3.symm, fun σ2 => by simp [h1, h2]⟩
    · simp only [Option.map_eq_some_iff, Prod.mk.injEq] at h
      obtain ⟨a, h1, h2, h3⟩ := h
      exact ⟨h3.symm, fun σ2 => by simp [h1, h2]⟩
  | unOp b t x =>
    simp only [opV] at h ⊢
    split at h
    · simp only [Option.map_eq_some_iff, Prod.mk.injEq] at h
      obtain ⟨a, h1, h2, h3⟩ := h
      exact ⟨h3.symm, fun σ2 => by simp [h1, h2]⟩
    · cases h
  | _ =>
    first
      | cases h
      | (simp only [opV, Option.map_eq_some_iff, Prod.mk.injEq] at h
         obtain ⟨a, h1, h2, h3⟩ := h
         exact ⟨h3.symm, fun σ2 => by simp [opV, h1, h2]⟩)

theorem eff1 (he : eff H o ≤ 1) (h : opV P H o ρ σ = some (v, σ')) : σ' = σ ∧ ∀ σ2, Dm σ σ2 → opV P H o ρ σ2 = some (v, σ2) := by
  by_cases h0 : eff H o = 0
  · exact ⟨(eff0 h0 h).1, fun σ2 _ => (eff0 h0 h).2 σ2⟩
  · obtain ⟨dst, op, type, pos, after, guard⟩ := o
    cases op with
    | load t a =>
      simp only [eff] at he
      split at he
      · omega
      · rename_i hc
        simp only [opV, hc] at h ⊢
        exact loadA_copy h
    | lookup t m k ok =>
      simp only [eff] at he
      split at he
      · omega
      · rename_i hc
        simp only [opV, hc] at h ⊢
        exact lookA_copy h
    | store => simp [eff] at he
    | mapUpdate => simp [eff] at he
    | call c =>
      obtain ⟨callee, args, ts⟩ := c
      cases callee with
      | builtin b =>
        cases b with
        | len =>
          simp only [opV] at h ⊢
          cases hx : args[0]? with
          | none => rw [hx] at h; cases h
          | some x =>
            cases ht : ts[0]? with
            | none => rw [hx, ht] at h; cases h
            | some t =>
              rw [hx, ht] at h
              simp only at h ⊢
              cases hr : ρ x with
              | mp id =>
                rw [hr] at h
                simp only at h ⊢
                cases hm : mpT P t with
                | none => rw [hm] at h; cases h
                | some z =>
                  rw [hm] at h
                  cases he : σ[id]? with
                  | none => rw [he] at h; cases h
                  | some e =>
                    rw [he] at h
                    cases e with
                    | map kvs =>
                      simp only [Option.some.injEq, Prod.mk.injEq] at h
                      refine ⟨h.2.symm, fun σ2 hd => ?_⟩
                      obtain ⟨kvs', he', hc'⟩ := hd.map he
                      have hl : kvs'.length = kvs.length := by have := congrArg List.length hc'; simpa using this
                      simp only [he', hl, h.1]
                    | _ => cases h
              | _ =>
                rw [hr] at h
                simp only at h ⊢
                split at h
                · simp only [Option.some.injEq, Prod.mk.injEq] at h
                  exact ⟨h.2.symm, fun σ2 hd => by simp only [h.1]⟩
                · cases h
        | append =>
          simp only [eff] at he
          split at he
          · omega
          · rename_i hc
            simp only [Bool.not_eq_true, Bool.or_eq_false_iff] at hc
            simp only [opV, hc.1, hc.2, Bool.or_self] at h ⊢
            cases hx : args[0]? with
            | none => rw [hx] at h; cases h
            | some x =>
              cases hy : args[1]? with
              | none => rw [hx, hy] at h; cases h
              | some y =>
                cases ht : ts[0]? with
                | none => rw [hx, hy, ht] at h; cases h
                | some t =>
                  cases ht' : ts[1]? with
                  | none => rw [hx, hy, ht, ht'] at h; cases h
                  | some t' =>
                    rw [hx, hy, ht, ht'] at h
                    simp only at h ⊢
                    cases hT : slT P t' with
                    | none => rw [hT] at h; cases h
                    | some T =>
                      rw [hT] at h
                      simp only at h ⊢
                      split at h
                      · rename_i hz
                        simp only [hz, if_true]
                        exact appA_copy hz h
                      · cases h
        | _ => simp [eff] at h0
      | _ => simp [eff] at he
    | _ => simp [eff] at h0

theorem eff2 (he : eff H o ≤ 2) (h : opV P H o ρ σ = some (v, σ')) : Dm σ σ' := by
  by_cases h1 : eff H o ≤ 1
  · rw [(eff1 h1 h).1]; rfl
  · obtain ⟨dst, op, type, pos, after, guard⟩ := o
    cases op with
    | load t a =>
      simp only [eff] at h1
      split at h1
      · rename_i hc
        simp only [opV, hc] at h
        exact loadA_take h
      · omega
    | lookup t m k ok =>
      simp only [eff] at h1
      split at h1
      · rename_i hc
        simp only [opV, hc] at h
        exact lookA_take h
      · omega
    | store => simp [eff] at he
    | mapUpdate => simp [eff] at he
    | call c =>
      obtain ⟨callee, args, ts⟩ := c
      cases callee with
      | builtin b =>
        cases b with
        | append => simp only [eff] at he h1; split at h1 <;> simp_all
        | _ => simp [eff] at h1
      | _ => simp [eff] at he
    | _ => simp [eff] at h1

end
end Go.Ab
