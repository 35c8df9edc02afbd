/- From a contract to a statement: arguments opened, the call, the arguments read again. -/
import Derived.Test.YtipepkfioecbmaaDoorAb25
import Derived.WalkKit
import Derived.ProofKit
import Derived.OpenShut
import Derived.Deep.DeepHandedRow
import Derived.Lib.LaidTab
set_option linter.unusedVariables false
namespace Go.Ab
open Go.ChangeShapes Go.WideShapes Go.RowKit

/-- All that is there stands still. -/
def gOf (W : World) : Gm := ⟨fun b => match W.heap[b]? with | some (.cells arr _ _) => arr.size | _ => 0, fun _ _ => none, 0, fun _ => 0⟩

/-- What was there is there. -/
def Kept (W W' : World) : Prop := W'.os = W.os ∧ W'.output = W.output ∧ ∀ b, b < W.heap.size → W'.heap[b]? = W.heap[b]?

theorem Kept.cell {W W' : World} (h : Kept W W') {a : Addr} {v : Value} (hc : W.cell? a = some v) : W'.cell? a = some v := by
  have hb := World.block_lt_of_cell? W _ hc
  unfold World.cell? at hc ⊢
  rw [h.2.2 _ hb]
  exact hc

theorem Kept.keptBut {W W' : World} (h : Kept W W') (may : MemPlace → Prop) : W.keptBut W' may := by
  refine ⟨h.1, h.2.1, fun i hi => ?_⟩
  rw [h.2.2 i hi]
  cases W.heap[i]? with
  | none => rfl
  | some o => cases o <;> simp

theorem calls_true {P : Program} {f : FuncId} {xs : List AV} {W : World} {vals : List Value} {σ' : List Ent} (h : Ret P f xs [] (bv true) σ') (hl : vals.length = xs.length)
    (hr : ∀ (i : Nat) x v, xs[i]? = some x → vals[i]? = some v → RepA W (gOf W) (fun _ _ => False) x v) (ht : Tab P W (gOf W) (fun _ => none)) :
    Calls P f vals.toArray W fun e W' => e = .returned (.bool true) ∧ Kept W W' := by
  refine (h.2 W (gOf W) (fun _ => none) vals hl (fun i x v hx hv => (hr i x v hx hv).mono fun _ _ h => h.elim) (fun id e he => by simp at he) rfl (fun b hb => absurd rfl hb) ht).mono fun e w' ⟨v, he, g', ow', hX, hv, _, _, _⟩ => ?_
  subst he
  have : v = .bool true := by
    cases hv with
    | p h => cases h; rfl
  subst this
  exact ⟨rfl, hX.os, hX.output, fun b hb => (hX.same b hb rfl).1⟩

section
variable {H : Type} {enc : TypeId × Value → H} {P : Program}

/-- An argument: what it is, and that it is read again. -/
structure Opn (enc : TypeId × Value → H) (P : Program) (W : World) (t : TypeId) (v : Value) (d : DataW H) (p : List MemPlace) (x : AV) : Prop where
  rep : RepA W (gOf W) (fun _ _ => False) x v
  again : ∀ W', Kept W W' → DataW.Trod enc P W' 0 (fun b => decide (b < W.heap.size)) true t v d p

inductive OpnAll (enc : TypeId × Value → H) (P : Program) (W : World) : List TypeId → List Value → List (DataW H) → List MemPlace → List AV → Prop
  | nil : OpnAll enc P W [] [] [] [] []
  | cons {t v d p x ts vs ds ps xs} (h : Opn enc P W t v d p x) (hs : OpnAll enc P W ts vs ds ps xs) : OpnAll enc P W (t :: ts) (v :: vs) (d :: ds) (p ++ ps) (x :: xs)

theorem OpnAll.len {W : World} {ts : List TypeId} {vs : List Value} {ds : List (DataW H)} {ps : List MemPlace} {xs : List AV} (h : OpnAll enc P W ts vs ds ps xs) : vs.length = xs.length := by
  induction h with
  | nil => rfl
  | cons h hs ih => simp [ih]
theorem OpnAll.rep {W : World} {ts : List TypeId} {vs : List Value} {ds : List (DataW H)} {ps : List MemPlace} {xs : List AV} (h : OpnAll enc P W ts vs ds ps xs) :
    ∀ (i : Nat) x v, xs[i]? = some x → vs[i]? = some v → RepA W (gOf W) (fun _ _ => False) x v := by
  induction h with
  | nil => intro i x v hx; simp at hx
  | cons h hs ih =>
    intro i x v hx hv
    cases i with
    | zero => simp at hx hv; subst hx; subst hv; exact h.rep
    | succ i => exact ih i x v (by simpa using hx) (by simpa using hv)
theorem OpnAll.again {W W' : World} {ts : List TypeId} {vs : List Value} {ds : List (DataW H)} {ps : List MemPlace} {xs : List AV} (h : OpnAll enc P W ts vs ds ps xs) (hk : Kept W W') :
    DataW.TrodAll enc P W' 0 (fun b => decide (b < W.heap.size)) true ts vs ds ps := by
  induction h with
  | nil => exact trodAll_mk0
  | cons h hs ih => exact trodAll_cons_mk (h.again W' hk) ih

theorem i64_of_wf {n : Int} (h : (Lit.int .i64 n).wf = true) : -9223372036854775808 ≤ n ∧ n < 9223372036854775808 := by
  have e1 : IntKind.i64.min = -9223372036854775808 := rfl
  have e2 : IntKind.i64.max = 9223372036854775807 := rfl
  simp only [Lit.wf, e1, e2, Bool.and_eq_true, decide_eq_true_eq] at h
  omega

theorem opn_int {W : World} {r : Reach} {b0 : Nat} {t : TypeId} {v : Value} {d : DataW H} {p : List MemPlace} (ht : P.underlying t = some (.int .i64)) (hval : Value.okWide P W r b0 t v) (hd : DataW.Trod enc P W 0 (fun _ => true) true t v d p) :
    ∃ n, Opn enc P W t v d p (iv n) ∧ -9223372036854775808 ≤ n ∧ n < 9223372036854775808 := by
  obtain ⟨n, rfl, rfl, rfl, hw⟩ := open_int ht hval hd
  exact ⟨n, ⟨.p (.sc _), fun W' _ => shut_int ht hw⟩, i64_of_wf hw⟩

theorem opn_ints {W : World} {r : Reach} {b0 : Nat} {t e : TypeId} {v : Value} {d : DataW H} {p : List MemPlace} (ht : P.underlying t = some (.slice e)) (he : P.underlying e = some (.int .i64)) (hc : P.cellsOf e = 1) (hval : Value.okWide P W r b0 t v)
    (hd : DataW.Trod enc P W 0 (fun _ => true) true t v d p) :
    ∃ l : List Int, Opn enc P W t v d p (.p (.sl 1 (ints l))) ∧ l.length ≤ maxLen ∧ ∀ n ∈ l, -9223372036854775808 ≤ n ∧ n < 9223372036854775808 := by
  obtain ⟨a0, len, cap, rfl⟩ := okWide_slice ht hval
  obtain ⟨fuel, hf⟩ := hd
  rcases open_ints ht he hc hf with ⟨hcs, hx⟩ | ⟨a, len', cap', zs, hcs, hb, hl, hm, hz, hx, hcell, hwz⟩
  · simp [Value.cells] at hcs
    obtain ⟨rfl, rfl, rfl⟩ := hcs
    simp only [Prod.mk.injEq] at hx
    obtain ⟨rfl, rfl⟩ := hx
    exact ⟨[], ⟨.p (.nil 1 none 0), fun W' _ => shut_slice_nil ht⟩, by simp, by simp⟩
  · simp [Value.cells] at hcs
    obtain ⟨rfl, rfl, rfl⟩ := hcs
    simp only [Prod.mk.injEq] at hx
    obtain ⟨rfl, rfl⟩ := hx
    simp only [if_true] at hz
    refine ⟨zs.take len, ⟨?_, fun W' hk => ⟨2, ?_⟩⟩, ?_, fun n hn => i64_of_wf (hwz n (List.mem_of_mem_take hn))⟩
    · refine .p ?_
      have hlen : (ints (zs.take len)).length = len := by simp [ints_len]; omega
      by_cases h0 : len = 0
      · subst h0
        exact .nil 1 _ _
      · obtain ⟨b, o, s⟩ := a
        have hs : s = none := by
          have := hcell 0 (by omega)
          unfold World.cell? at this
          simp only [Addr.add, if_true] at this
          split at this
          · cases s with
            | none => rfl
            | some s => simp at this
          · cases this
        subst hs
        have hcl : ∀ i, i < cap → W.cell? ⟨b, o + i, none⟩ = some (.int .i64 (zs.getD i 0)) := by
          intro i hi
          have := hcell i (by omega)
          unfold Addr.add at this
          split at this
          · rename_i h; subst h; exact this
          · exact this
        have key := RepP.sl (w := W) (φ := (gOf W).φ) 1 (ints (zs.take len)) b o cap (fun i _ => .int .i64 (zs.getD i 0)) (by intro h; rw [h] at hlen; simp at hlen; omega) (by omega) (by omega) ?_ ?_ ?_ ?_ ?_
        · rw [hlen] at key; exact key
        · rw [hlen]
          have hcc := hcl (len - 1) (by omega)
          unfold World.cell? at hcc
          simp only [gOf]
          simp only at hcc
          split at hcc
          · rename_i arr _ _ hbk
            simp only [Option.isSome_none, Bool.false_eq_true, if_false] at hcc
            have := (Array.getElem?_eq_some_iff.1 hcc).1
            rw [hbk]
            simp only
            omega
          · cases hcc
        all_goals
          intro i x
          simp only [ints_at, Option.map_eq_some_iff]
        · rintro ⟨n, _, rfl⟩; rfl
        all_goals
          rintro j y ⟨n, hn, rfl⟩ hy
          have hi : i < len := by have := (List.getElem?_eq_some_iff.1 hn).1; simp at this; omega
          cases j with
          | succ j => simp [PV.cells] at hy
          | zero => ?_
        · rw [Nat.mul_one, Nat.add_zero]; exact hcl i (by omega)
        · rfl
        · simp only [PV.cells, List.getElem?_cons_zero, Option.some.injEq] at hy
          subst hy
          rw [List.getElem?_take, if_pos hi] at hn
          have : zs.getD i 0 = n := by simp [List.getD, hn]
          rw [this]
          exact .sc _
    · refine shut_ints 0 ht he hc (Nat.zero_le _) hl hm ?_ (fun i hi => hk.cell (hcell i hi)) hwz
      by_cases h0 : cap = 0
      · have : len = 0 := by omega
        subst h0; subst this
        simp [hz]
      · have := World.block_lt_of_cell? W _ (hcell 0 (by omega))
        rw [block_add] at this
        simp only [this, decide_true, if_true]
        exact hz
    · simp; omega

/-- The statement of a law out of its contract. -/
theorem post_true {s : ChangeSpec} {f : FuncId} {fn : Func} {W : World} {args : Array Value} {ds gs : List (DataW H)} {before ps : List MemPlace} {xs : List AV} {σ' : List Ent} {tb : TypeId} (hr : Ret P f xs [] (bv true) σ') (ht : Tab P W (gOf W) (fun _ => none))
    (ho : OpnAll enc P W fn.params.toList args.toList ds ps xs) (hW : DataW.Whole enc P fn.params.toList s.vars false W args.toList ds gs before) (hv : s.vars = []) (hrt : fn.resultTypes = #[tb]) (hb : P.underlying tb = some .bool)
    (hres : (s.fn H (ds ++ gs)).results = [.lit (.bool true)]) (hargs : (s.fn H (ds ++ gs)).args = ds) (hvars : (s.fn H (ds ++ gs)).vars = []) :
    Calls P f args W fun e W' => ∃ v, e = .returned v ∧ s.post enc P fn false true false false W args v W' := by
  have hc := calls_true hr ho.len ho.rep ht
  rw [show args.toList.toArray = args by simp] at hc
  refine hc.mono fun e W' ⟨he, hk⟩ => ?_
  subst he
  refine ⟨_, rfl, ds, gs, before, [], ps, [], hW, ?_, ?_, ?_, hk.keptBut _, fun h => by cases h⟩
  · rw [hres, hrt]
    exact trodAll_cons_mk (shut_bool hb true) trodAll_mk0
  · rw [hargs]; exact ho.again hk
  · rw [hvars, hv]; exact rfl

end
end Go.Ab
