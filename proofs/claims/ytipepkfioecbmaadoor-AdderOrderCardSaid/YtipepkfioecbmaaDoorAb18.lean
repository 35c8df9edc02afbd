/- A function's contract out of its body. -/
import Derived.Test.YtipepkfioecbmaaDoorAb17
set_option linter.unusedVariables false
set_option linter.unusedSimpArgs false
namespace Go.Ab

/-- The results as they stand. -/
def resL (P : Program) (env : Nat → AV) : List ResultVar → List Ent → Option (List AV × List Ent)
  | [], σ => some ([], σ)
  | .tmp t :: r, σ => match resL P env r σ with
    | some (vs, σ') => some (env t :: vs, σ')
    | none => none
  | .cell a t :: r, σ => match env a, agT P t with
    | .ref id ver off, some (false, _) => match σ[id]? with
      | some (.cells ver' cs) => if ver' = ver then (match cs[off]? with
          | some y => match resL P env r (σ.set id .dead) with
            | some (vs, σ') => some (nz P t y :: vs, σ')
            | none => none
          | none => none) else none
      | _ => none
    | .ref id ver off, some (true, m) => match σ[id]? with
      | some (.cells ver' cs) => if ver' = ver ∧ off + m ≤ cs.length then (match resL P env r σ with
          | some (vs, σ') => some (.ag (AV.demL ((cs.drop off).take m)) :: vs, σ')
          | none => none) else none
      | _ => none
    | _, _ => none

def tmpsR : List ResultVar → List Nat
  | [] => []
  | .tmp t :: r => t :: tmpsR r
  | .cell _ _ :: r => tmpsR r

def oneOf (vs : List AV) : AV := match vs with | [v] => v | vs => .tu vs

def resA (P : Program) (fn : Func) (st : St) : Option (AV × List Ent) :=
  if (tmpsR fn.results.toList).Nodup then (match resL P st.env fn.results.toList st.σ with
    | some (vs, σ') => some (oneOf vs, σ')
    | none => none) else none

section
variable {P : Program} {w : World} {g : Gm}

def resOf (tmps : Array Value) : ResultVar → Sem Value
  | .tmp t => pure (tmps.getD t undef)
  | .cell a t => do loadVar t (← asAddr (tmps.getD a undef))

theorem resL_ok {env : Nat → AV} {tmps : Array Value} : ∀ (rs : List ResultVar) (k : Nat) (σ : List Ent) (ow : Ow) (vs : List AV) (σ' : List Ent),
    (∀ (id : Nat) e, σ[id]? = some e → RepE w g ow id e) → (∀ t ∈ tmpsR rs, RepA w g (fun path b => ow b = some (.slot t path)) (env t) (tmps.getD t undef)) → (∀ a, ∃ own, RepA w g own (env a) (tmps.getD a undef)) →
    (tmpsR rs).Nodup → g.N = σ.length → resL P env rs σ = some (vs, σ') →
    ∃ (ow' : Ow) (us : List Value), (∀ b, ow b = none → ow' b = none) ∧ (∀ b p, ow b = some (.acc p) → ow' b = some (.acc p)) ∧ (∀ (id : Nat) e, σ'[id]? = some e → RepE w g ow' id e) ∧ σ'.length = σ.length ∧ vs.length = us.length ∧ us.length = rs.length ∧
      (∀ (i : Nat) v u, vs[i]? = some v → us[i]? = some u → RepA w g (fun path b => ow' b = some (.acc ((k + i) :: path))) v u) ∧
      (rs.mapM (resOf tmps)).run P w = .ok us w := by
  intro rs
  induction rs with
  | nil =>
    intro k σ ow vs σ' hE hT hA hnd hN h
    simp only [resL, Option.some.injEq, Prod.mk.injEq] at h
    obtain ⟨rfl, rfl⟩ := h
    exact ⟨ow, [], fun _ h => h, fun _ _ h => h, hE, rfl, rfl, rfl, by simp, rfl⟩
  | cons r rs ih =>
    intro k σ ow vs σ' hE hT hA hnd hN h
    -- one more in front
    have cons : ∀ {ow1 : Ow} {σ1 : List Ent} {v : AV} {u : Value} {vs : List AV}, (∀ b, ow b = none → ow1 b = none) → (∀ b p, ow b = some (.acc p) → ow1 b = some (.acc p)) → (∀ (id : Nat) e, σ1[id]? = some e → RepE w g ow1 id e) → σ1.length = σ.length →
        (∀ t ∈ tmpsR rs, RepA w g (fun path b => ow1 b = some (.slot t path)) (env t) (tmps.getD t undef)) → (tmpsR rs).Nodup → RepA w g (fun path b => ow1 b = some (.acc (k :: path))) v u → (resOf tmps r).run P w = .ok u w →
        resL P env rs σ1 = some (vs, σ') → ∃ (ow' : Ow) (us : List Value), (∀ b, ow b = none → ow' b = none) ∧ (∀ b p, ow b = some (.acc p) → ow' b = some (.acc p)) ∧ (∀ (id : Nat) e, σ'[id]? = some e → RepE w g ow' id e) ∧ σ'.length = σ.length ∧ (v :: vs).length = us.length ∧ us.length = (r :: rs).length ∧
          (∀ (i : Nat) v' u, (v :: vs)[i]? = some v' → us[i]? = some u → RepA w g (fun path b => ow' b = some (.acc ((k + i) :: path))) v' u) ∧ ((r :: rs).mapM (resOf tmps)).run P w = .ok us w := by
      intro ow1 σ1 v u vs hn ha hE1 hl1 hT1 hnd1 hv hrun h
      obtain ⟨ow', us, k1, k2, k3, k4, k5, k6, k7, k8⟩ := ih (k + 1) σ1 ow1 vs σ' hE1 hT1 hA hnd1 (by rw [hl1]; exact hN) h
      refine ⟨ow', u :: us, fun b hb => k1 b (hn b hb), fun b p hb => k2 b p (ha b p hb), k3, by rw [k4, hl1], by simp [k5], by simp [k6], fun i v' u' h1 h2 => ?_, ?_⟩
      · cases i with
        | zero => simp at h1 h2; subst h1 h2; exact hv.mono fun path b hb => by rw [Nat.add_zero]; exact k2 b _ hb
        | succ i => have := k7 i v' u' (by simpa using h1) (by simpa using h2); rwa [show k + (i + 1) = k + 1 + i by omega]
      · simp only [List.mapM_cons, Sem.run_bind, hrun, Result.andThen_ok, k8, Sem.run_pure]
    cases r with
    | tmp t =>
      simp only [resL] at h
      split at h
      · rename_i vs2 σ2 hr
        simp only [Option.some.injEq, Prod.mk.injEq] at h
        obtain ⟨rfl, rfl⟩ := h
        simp only [tmpsR, List.nodup_cons] at hnd
        let ow1 : Ow := fun b => match ow b with | some (.slot i p) => if i = t then some (.acc (k :: p)) else some (.slot i p) | o => o
        refine cons (ow1 := ow1) (σ1 := σ) (fun b hb => by simp [ow1, hb]) (fun b p hb => by simp [ow1, hb]) (fun id e he => (hE id e he).ow (fun b hb => by simp [ow1, hb]) (fun b p hb => by simp [ow1, hb])) rfl (fun t' ht' => ?_) hnd.2 (u := tmps.getD t undef) ?_ rfl hr
        · exact (hT t' (by simp [tmpsR, ht'])).mono fun path b hb => by
            have : t' ≠ t := fun e => hnd.1 (e ▸ ht')
            simp [ow1, hb, this]
        · exact (hT t (by simp [tmpsR])).mono fun path b hb => by simp [ow1, hb]
      · cases h
    | cell a t =>
      simp only [resL] at h
      obtain ⟨owna, hra⟩ := hA a
      split at h
      · rename_i id ver off m hea hag
        obtain ⟨d, i, hd, hi, hm, hAg⟩ := agT_eq hag
        rw [hea] at hra
        obtain ⟨b, q, hid, hV, hβ, hv⟩ := hra.ref_inv
        split at h
        · rename_i ver' cs hent
          split at h
          · rename_i hver
            subst hver
            split at h
            · rename_i y hy
              split at h
              · rename_i vs2 σ2 hr
                simp only [Option.some.injEq, Prod.mk.injEq] at h
                obtain ⟨rfl, rfl⟩ := h
                obtain ⟨hVid, hor⟩ := hE id _ hent
                rcases hor with ⟨b', q', arr, e, h1, h2, h3, h4, h5, h6⟩ | ⟨h1, _⟩
                · rw [hβ] at h1
                  simp only [Option.some.injEq, Prod.mk.injEq] at h1
                  obtain ⟨rfl, rfl⟩ := h1
                  obtain ⟨u, hu, _, hru⟩ := h6 off y hy
                  let ow1 : Ow := fun b => match ow b with | some (.ent i (j :: p)) => if i = id ∧ j = off then some (.acc (k :: p)) else some (.ent i (j :: p)) | o => o
                  refine cons (ow1 := ow1) (σ1 := σ.set id .dead) (fun b hb => by simp [ow1, hb]) (fun b p hb => by simp [ow1, hb]) (fun id' e' he' => ?_) (by simp) (fun t' ht' => ?_) (by simpa [tmpsR] using hnd) (u := u) ?_ ?_ hr
                  · rw [List.getElem?_set] at he'
                    split at he'
                    · split at he'
                      · simp only [Option.some.injEq] at he'; subst he'; trivial
                      · cases he'
                    · rename_i hne
                      exact (hE id' e' he').ow (fun b hb => by simp [ow1, hb]) (fun b p hb => by
                        have : id' ≠ id := fun e => hne e.symm
                        cases p <;> simp [ow1, hb, this])
                  · exact (hT t' (by simpa [tmpsR] using ht')).mono fun path b hb => by simp [ow1, hb]
                  · exact RepA.nz (hru.mono fun path b hb => by simp [ow1, hb])
                  · have hc : w.cell? ⟨b, q + off, none⟩ = some u := by rw [cell_of_block h4]; exact hu
                    have hl := run_loadAt1 (P := P) hd hAg hc
                    simp only [Instr.loadAt, Instr.sureAddr, Sem.run_bind, Sem.run_pure, Result.andThen_ok] at hl
                    simp only [resOf, hv, asAddr, Sem.run_bind, Sem.run_pure, Result.andThen_ok, hl]
                · rw [hβ] at h1; cases h1
              · cases h
            · cases h
          · cases h
        · cases h
      · rename_i id ver off m hea hag
        obtain ⟨d, i, hd, hi, hm, hAg⟩ := agT_eq hag
        rw [hea] at hra
        obtain ⟨b, q, hid, hV, hβ, hv⟩ := hra.ref_inv
        split at h
        · rename_i ver' cs hent
          split at h
          · rename_i hver
            obtain ⟨rfl, hle⟩ := hver
            split at h
            · rename_i vs2 σ2 hr
              simp only [Option.some.injEq, Prod.mk.injEq] at h
              obtain ⟨rfl, rfl⟩ := h
              obtain ⟨hVid, hor⟩ := hE id _ hent
              rcases hor with ⟨b', q', arr, e, h1, h2, h3, h4, h5, h6⟩ | ⟨h1, _⟩
              · rw [hβ] at h1
                simp only [Option.some.injEq, Prod.mk.injEq] at h1
                obtain ⟨rfl, rfl⟩ := h1
                refine cons (ow1 := ow) (σ1 := σ) (fun _ h => h) (fun _ _ h => h) hE rfl (fun t' ht' => hT t' (by simpa [tmpsR] using ht')) (by simpa [tmpsR] using hnd) (u := .agg ((arr.toList.drop (q + off)).take m).toArray) ?_ ?_ hr
                · rw [AV.demL_eq]
                  refine .ag _ _ (by simp; omega) (fun j y u hy hu => ?_)
                  rw [List.getElem?_map, Option.map_eq_some_iff] at hy
                  obtain ⟨z, hz, rfl⟩ := hy
                  rw [List.getElem?_take] at hz hu
                  split at hz
                  · rename_i hj
                    rw [if_pos hj, List.getElem?_drop] at hu
                    rw [List.getElem?_drop] at hz
                    obtain ⟨u', hu', _, hru⟩ := h6 _ z hz
                    have : u' = u := by
                      have h2 : arr[q + (off + j)]? = some u := by rw [← Nat.add_assoc]; simpa using hu
                      rw [hu'] at h2
                      exact Option.some.inj h2
                    subst this
                    exact hru.dem
                  · cases hz
                · have hl := run_loadAtA (P := P) (w := w) hd hi hAg (b := b) (k := q + off) (xs := (arr.toList.drop (q + off)).take m) (by simp; omega) (fun j x hx => by
                    rw [cell_of_block h4]
                    rw [List.getElem?_take] at hx
                    split at hx
                    · rw [List.getElem?_drop] at hx; simpa using hx
                    · cases hx)
                  simp only [Instr.loadAt, Instr.sureAddr, Sem.run_bind, Sem.run_pure, Result.andThen_ok] at hl
                  simp only [resOf, hv, asAddr, Sem.run_bind, Sem.run_pure, Result.andThen_ok, hl]
              · rw [hβ] at h1; cases h1
            · cases h
          · cases h
        · cases h
      · cases h

def oneV (us : List Value) : Value := match us with | [u] => u | us => .tuple us.toArray

theorem results_eq (fn : Func) (tmps : Array Value) : results fn tmps = (do let vs ← fn.results.mapM (resOf tmps); pure (if h : vs.size = 1 then vs[0] else .tuple vs)) := by
  unfold results
  congr 1

theorem run_results (fn : Func) (tmps : Array Value) {us : List Value} (h : (fn.results.toList.mapM (resOf tmps)).run P w = .ok us w) : (results fn tmps).run P w = .ok (oneV us) w := by
  rw [results_eq, Array.mapM_eq_mapM_toList]
  simp only [Sem.run_bind, Sem.run_map, h, Result.andThen_ok, Sem.run_pure]
  match us with
  | [] => rfl
  | [u] => rfl
  | u :: u' :: us => rfl

theorem resA_ok {fn : Func} {ow : Ow} {n : Nat} {a : Act} {st : St} {res : AV} {σ' : List Ent} (hI : Inv w g ow n a st) (hid : Idle ow) (h : resA P fn st = some (res, σ')) :
    ∃ (ow' : Ow) (v : Value), (∀ b, ow b = none → ow' b = none) ∧ (∀ (id : Nat) e, σ'[id]? = some e → RepE w g ow' id e) ∧ σ'.length = st.σ.length ∧ RepA w g (fun path b => ow' b = some (.acc path)) res v ∧ (results fn a.tmps).run P w = .ok v w := by
  unfold resA at h
  split at h
  · rename_i hnd
    split at h
    · rename_i vs σ2 hr
      simp only [Option.some.injEq, Prod.mk.injEq] at h
      obtain ⟨rfl, rfl⟩ := h
      obtain ⟨ow', us, k1, k2, k3, k4, k5, k6, k7, k8⟩ := resL_ok fn.results.toList 0 st.σ ow vs σ2 hI.ent (fun t _ => hI.env t) (fun a' => ⟨_, hI.env a'⟩) hnd hI.N hr
      have hrun := run_results fn a.tmps k8
      by_cases h1 : ∃ u, us = [u]
      · obtain ⟨u, rfl⟩ := h1
        have hv : ∃ v, vs = [v] := by
          cases vs with
          | nil => simp at k5
          | cons v vs => cases vs with
            | nil => exact ⟨v, rfl⟩
            | cons => simp at k5
        obtain ⟨v, rfl⟩ := hv
        let ow2 : Ow := fun b => match ow' b with | some (.acc (0 :: p)) => some (.acc p) | some (.acc _) => none | o => o
        refine ⟨ow2, u, fun b hb => by simp [ow2, k1 b hb], fun id e he => (k3 id e he).ow (fun b hb => by simp [ow2, hb]) (fun b p hb => by simp [ow2, hb]), k4, ?_, hrun⟩
        exact (k7 0 v u rfl rfl).mono fun path b hb => by simp [ow2, hb]
      · have hm : oneV us = .tuple us.toArray := by
          match us with
          | [] => rfl
          | [u] => exact absurd ⟨u, rfl⟩ h1
          | u :: u' :: us => rfl
        rw [hm] at hrun
        have ho : oneOf vs = .tu vs := by
          match vs with
          | [] => rfl
          | [v] =>
            exfalso
            cases us with
            | nil => simp at k5
            | cons u us => cases us with
              | nil => exact h1 ⟨u, rfl⟩
              | cons => simp at k5
          | v :: v' :: vs => rfl
        rw [ho]
        exact ⟨ow', _, k1, k3, k4, .tu vs us k5 (fun i v u h1 h2 => by have := k7 i v u h1 h2; rwa [Nat.zero_add] at this), hrun⟩
    · cases h
  · cases h

/-- How a body may end. -/
def endE (P : Program) (fn : Func) (res : AV) (σ' : List Ent) (e : Exit) (st : St) : Prop :=
  (match e with | .normal | .ret => True | _ => False) ∧ resA P fn st = some (res, σ')

def env0 (args : List AV) : Nat → AV := fun i => (args[i]?).getD un

theorem ret_of_body {H : Hint} {f : FuncId} {fn : Func} {body : Code} {dr : Array Oper → Bool} {args : List AV} {σ : List Ent} {res : AV} {σ' : List Ent} (hf : P.funcs[f]? = some fn) (hb : fn.body = some body) (hp : plainF P f = true)
    (hn : args.length ≤ fn.ntmps) (hwf : wfC fn.ntmps body = true) (hdr : DrOk P H fn.ntmps dr) (h : evC P H dr body (endE P fn res σ') ⟨env0 args, σ⟩) : Ret P f args σ res σ' := by
  refine ⟨hp, fun w g ow vals hl hargs hE hN hlt ht => ?_⟩
  refine calls_of_wp hf hb ?_
  -- only what came in is owned
  let ow1 : Ow := fun b => match ow b with | some (.acc _) => none | o => o
  have hI : Inv w g ow1 fn.ntmps { tmps := vals.toArray ++ Array.replicate (fn.ntmps - vals.toArray.size) undef, defers := [] } ⟨env0 args, σ⟩ := by
    refine ⟨by simp; omega, rfl, fun i => ?_, fun id e he => (hE id e he).ow (fun b hb => by simp [ow1, hb]) (fun b p hb => by simp [ow1, hb]), hN, fun b hb => hlt b fun h0 => hb (by simp [ow1, h0])⟩
    by_cases hi : i < args.length
    · have h1 : args[i]? = some args[i] := by simp [hi]
      have h2 : vals[i]? = some vals[i] := by simp
      have h3 : (vals.toArray ++ Array.replicate (fn.ntmps - vals.toArray.size) undef).getD i undef = vals[i] := by
        have hiv : i < vals.length := by omega
        rw [Array.getD_eq_getD_getElem?, Array.getElem?_append_left (by simp; omega)]
        simp [hiv]
      simp only [env0, h1, Option.getD_some]
      rw [h3]
      exact (hargs i _ _ h1 h2).mono fun path b hb => by simp [ow1, hb]
    · have h1 : args[i]? = none := List.getElem?_eq_none (by omega)
      have h3 : (vals.toArray ++ Array.replicate (fn.ntmps - vals.toArray.size) undef).getD i undef = undef := by
        rw [Array.getD_eq_getD_getElem?, Array.getElem?_append_right (by simp; omega)]
        simp only [Array.getElem?_replicate]
        split <;> rfl
      simp only [env0, h1, Option.getD_none]
      rw [h3]
      exact .p (.sc undef)
  have hid : Idle ow1 := by
    intro b path hb
    simp only [ow1] at hb
    split at hb <;> simp_all
  refine wp_mono (evC_ok hdr body _ w g ow1 _ hwf h hI hid (ht.ext (Ext.ow fun b hb => by simp [ow1, hb]))) fun e a' w' hp => ?_
  obtain ⟨_, st', g', ow', ⟨he, hres⟩, hI', hid', hX⟩ := hp
  obtain ⟨ow2, v, k1, k2, k3, k4, k5⟩ := resA_ok hI' hid' hres
  have fin : CPost w g ow res σ' v w' := by
    refine ⟨g', fun b => match ow2 b with | some (.slot _ _) => none | o => o, ((Ext.ow fun b hb => by simp [ow1, hb]).trans hX).trans (Ext.ow fun b hb => by simp [k1 b hb]), k4.mono fun path b hb => by simp [hb], fun id e he => (k2 id e he).ow (fun b hb => by simp [hb]) (fun b p hb => by simp [hb]), by rw [k3]; exact hI'.N, fun b hb => ?_⟩
    refine hI'.lt b fun h0 => hb ?_
    simp [k1 b h0]
  cases e with
  | normal => exact ⟨hI'.df, v, k5, v, rfl, fin⟩
  | ret => exact ⟨hI'.df, v, k5, v, rfl, fin⟩
  | _ => exact he.elim

/-- The result owns nothing more; what nobody names is forgotten. -/
theorem CPost.weak {w w' : World} {g : Gm} {ow : Ow} {res0 res : AV} {σ0 σ' : List Ent} {v : Value} (h : CPost w g ow res0 σ0 v w') (hn : g.N ≤ σ'.length) (hr : res = res0 ∨ res = res0.dem)
    (hs : σ' = σ0 ∨ (σ' = σ0.take σ'.length ∧ res.lt σ'.length = true ∧ σ'.all (Ent.below σ'.length) = true)) : CPost w g ow res σ' v w' := by
  obtain ⟨g', ow', hX, hv, hE, hN', hlt⟩ := h
  have hv' : RepA w' g' (fun path b => ow' b = some (.acc path)) res v := by
    rcases hr with rfl | rfl
    · exact hv
    · exact hv.dem
  rcases hs with rfl | ⟨hs, hl, ha⟩
  · exact ⟨g', ow', hX, hv', hE, hN', hlt⟩
  · have cut : ∀ {own : List Nat → Nat → Prop} {y : AV} {u : Value}, RepA w' g' own y u → y.lt σ'.length = true → RepA w' { g' with N := σ'.length } own y u := by
      intro own y u h hl
      exact h.ltN (n := σ'.length) (g2 := { g' with N := σ'.length }) rfl (fun _ _ _ _ => rfl) (fun _ _ => Nat.le_refl _) (fun _ h => h) hl _ (fun _ _ h => h)
    refine ⟨{ g' with N := σ'.length }, ow', ⟨hX.os, hX.tape, hX.output, hX.size, hX.stab, hX.shape, hX.same, hn, hX.V, hX.β⟩, cut hv' hl, fun id e he => ?_, rfl, hlt⟩
    have hb := List.all_eq_true.1 ha e (List.mem_of_getElem? he)
    rw [hs, List.getElem?_take] at he
    split at he
    · have hr := hE id e he
      cases e with
      | cells ver cs =>
        simp only [Ent.below, ltL_iff] at hb
        obtain ⟨hv, hr⟩ := hr
        refine ⟨hv, ?_⟩
        rcases hr with ⟨b, k, arr, e, h1, h2, h3, h4, h5, h6⟩ | h1
        · refine .inl ⟨b, k, arr, e, h1, h2, h3, h4, h5, fun j y hy => ?_⟩
          obtain ⟨u, hu, h1u, hru⟩ := h6 j y hy
          exact ⟨u, hu, h1u, cut hru (hb y (List.mem_of_getElem? hy))⟩
        · exact .inr h1
      | map kvs =>
        simp only [Ent.below, ltL_iff] at hb
        obtain ⟨b, k, es, clock, h1, h2, h3, h4, h5⟩ := hr
        refine ⟨b, k, es, clock, h1, h2, h3, h4, fun j kk y e hk he => ?_⟩
        obtain ⟨hkey, hru⟩ := h5 j kk y e hk he
        exact ⟨hkey, cut hru (hb y (by simp only [List.mem_map]; exact ⟨(kk, y), List.mem_of_getElem? hk, rfl⟩))⟩
      | dead => trivial
    · cases he

/-- How a body may end, where the result may lose what it owns and the heap what is done with. -/
def endG (P : Program) (fn : Func) (res : AV) (σ' : List Ent) (e : Exit) (st : St) : Prop :=
  (match e with | .normal | .ret => True | _ => False) ∧ ∃ res0 σ0, resA P fn st = some (res0, σ0) ∧ (res = res0 ∨ res = res0.dem) ∧ (σ' = σ0 ∨ (σ' = σ0.take σ'.length ∧ res.lt σ'.length = true ∧ σ'.all (Ent.below σ'.length) = true))

theorem ret_of_bodyG {H : Hint} {f : FuncId} {fn : Func} {body : Code} {dr : Array Oper → Bool} {args : List AV} {σ : List Ent} {res : AV} {σ' : List Ent} (hf : P.funcs[f]? = some fn) (hb : fn.body = some body) (hp : plainF P f = true)
    (hn : args.length ≤ fn.ntmps) (hwf : wfC fn.ntmps body = true) (hdr : DrOk P H fn.ntmps dr) (hle : σ.length ≤ σ'.length) (h : evC P H dr body (endG P fn res σ') ⟨env0 args, σ⟩) : Ret P f args σ res σ' := by
  refine ⟨hp, fun w g ow vals hl hargs hE hN hlt ht => ?_⟩
  refine calls_of_wp hf hb ?_
  -- only what came in is owned
  let ow1 : Ow := fun b => match ow b with | some (.acc _) => none | o => o
  have hI : Inv w g ow1 fn.ntmps { tmps := vals.toArray ++ Array.replicate (fn.ntmps - vals.toArray.size) undef, defers := [] } ⟨env0 args, σ⟩ := by
    refine ⟨by simp; omega, rfl, fun i => ?_, fun id e he => (hE id e he).ow (fun b hb => by simp [ow1, hb]) (fun b p hb => by simp [ow1, hb]), hN, fun b hb => hlt b fun h0 => hb (by simp [ow1, h0])⟩
    by_cases hi : i < args.length
    · have h1 : args[i]? = some args[i] := by simp [hi]
      have h2 : vals[i]? = some vals[i] := by simp
      have h3 : (vals.toArray ++ Array.replicate (fn.ntmps - vals.toArray.size) undef).getD i undef = vals[i] := by
        have hiv : i < vals.length := by omega
        rw [Array.getD_eq_getD_getElem?, Array.getElem?_append_left (by simp; omega)]
        simp [hiv]
      simp only [env0, h1, Option.getD_some]
      rw [h3]
      exact (hargs i _ _ h1 h2).mono fun path b hb => by simp [ow1, hb]
    · have h1 : args[i]? = none := List.getElem?_eq_none (by omega)
      have h3 : (vals.toArray ++ Array.replicate (fn.ntmps - vals.toArray.size) undef).getD i undef = undef := by
        rw [Array.getD_eq_getD_getElem?, Array.getElem?_append_right (by simp; omega)]
        simp only [Array.getElem?_replicate]
        split <;> rfl
      simp only [env0, h1, Option.getD_none]
      rw [h3]
      exact .p (.sc undef)
  have hid : Idle ow1 := by
    intro b path hb
    simp only [ow1] at hb
    split at hb <;> simp_all
  refine wp_mono (evC_ok hdr body _ w g ow1 _ hwf h hI hid (ht.ext (Ext.ow fun b hb => by simp [ow1, hb]))) fun e a' w' hp => ?_
  obtain ⟨_, st', g', ow', ⟨he, res0, σ0, hres, hr0, hs0⟩, hI', hid', hX⟩ := hp
  obtain ⟨ow2, v, k1, k2, k3, k4, k5⟩ := resA_ok hI' hid' hres
  have fin : CPost w g ow res σ' v w' := by
    refine CPost.weak (res0 := res0) (σ0 := σ0) ?_ (by rw [hN]; exact hle) hr0 hs0
    refine ⟨g', fun b => match ow2 b with | some (.slot _ _) => none | o => o, ((Ext.ow fun b hb => by simp [ow1, hb]).trans hX).trans (Ext.ow fun b hb => by simp [k1 b hb]), k4.mono fun path b hb => by simp [hb], fun id e he => (k2 id e he).ow (fun b hb => by simp [hb]) (fun b p hb => by simp [hb]), by rw [k3]; exact hI'.N, fun b hb => ?_⟩
    refine hI'.lt b fun h0 => hb ?_
    simp [k1 b h0]
  cases e with
  | normal => exact ⟨hI'.df, v, k5, v, rfl, fin⟩
  | ret => exact ⟨hI'.df, v, k5, v, rfl, fin⟩
  | _ => exact he.elim

end
end Go.Ab
