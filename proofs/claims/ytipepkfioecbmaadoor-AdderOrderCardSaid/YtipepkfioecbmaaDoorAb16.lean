/- Calls of functions. -/
import Derived.Test.YtipepkfioecbmaaDoorAb15
set_option linter.unusedVariables false
set_option linter.unusedSimpArgs false
namespace Go.Ab

theorem ltL_iff {n : Nat} (l : List AV) : AV.ltL n l = true ↔ ∀ x ∈ l, x.lt n = true := by
  induction l with
  | nil => simp [AV.ltL]
  | cons x xs ih => simp [AV.ltL, ih]

theorem RepA.ltN {w : World} {g : Gm} {own : List Nat → Nat → Prop} {x : AV} {v : Value} (h : RepA w g own x v) {n : Nat} {g2 : Gm} (hφ : g2.φ = g.φ)
    (hβ : ∀ i ver, i < n → ver ≤ g.V i → g2.β i ver = g.β i ver) (hV : ∀ i, i < n → g.V i ≤ g2.V i) (hN : ∀ i, i < n → i < g2.N) :
    x.lt n = true → ∀ own2 : List Nat → Nat → Prop, (∀ path b, own path b → own2 path b) → RepA w g2 own2 x v := by
  induction h with
  | p h => intro _ own2 _; exact .p (by rw [hφ]; exact h)
  | own0 s ad => intro _ own2 _; exact .own0 s ad
  | ownX s xs b k c arr e hob hs hφ' hb hz hc hr => intro _ own2 ho; exact .ownX s xs b k c arr e (ho _ _ hob) hs (by rw [hφ]; exact hφ') hb hz hc (by rw [hφ]; exact hr)
  | tgt s xs ad hr => intro _ own2 _; exact .tgt s xs ad (by rw [hφ]; exact hr)
  | cptr1 x b k v hx hc h1 hφ' hr => intro _ own2 _; exact .cptr1 x b k v hx hc h1 (by rw [hφ]; exact hφ') (by rw [hφ]; exact hr)
  | cptrA cs b k val h0 hφ' hv h1 hr => intro _ own2 _; exact .cptrA cs b k val h0 (by rw [hφ]; exact hφ') hv h1 (by rw [hφ]; exact hr)
  | ref id ver off b k hi hv h =>
    intro hl own2 _
    have hid : id < n := by simpa [AV.lt] using hl
    exact .ref id ver off b k (hN id hid) (Nat.le_trans hv (hV id hid)) (by rw [hβ id ver hid hv]; exact h)
  | arr s id ver off len b k c arr e hi hv h hb hz hc =>
    intro hl own2 _
    have hid : id < n := by simpa [AV.lt] using hl
    exact .arr s id ver off len b k c arr e (hN id hid) (Nat.le_trans hv (hV id hid)) (by rw [hβ id ver hid hv]; exact h) hb hz hc
  | arr0 s id ver ad hi hv h =>
    intro hl own2 _
    have hid : id < n := by simpa [AV.lt] using hl
    exact .arr0 s id ver ad (hN id hid) (Nat.le_trans hv (hV id hid)) (by rw [hβ id ver hid hv]; exact h)
  | mp id b k hi h =>
    intro hl own2 _
    have hid : id < n := by simpa [AV.lt] using hl
    exact .mp id b k (hN id hid) (by rw [hβ id 0 hid (Nat.zero_le _)]; exact h)
  | fn f xs ys us vs hl hk hx hy ihx ihy =>
    intro hlt own2 _
    simp only [AV.lt, Bool.and_eq_true, ltL_iff] at hlt
    exact .fn f xs ys us vs hl hk (fun i y v h1 h2 => ihx i y v h1 h2 (hlt.1 y (List.mem_of_getElem? h1)) _ fun _ _ h => h) (fun i y v h1 h2 => ihy i y v h1 h2 (hlt.2 y (List.mem_of_getElem? h1)) _ fun _ _ h => h)
  | ag cs vs hl hr ih =>
    intro hlt own2 ho
    simp only [AV.lt, ltL_iff] at hlt
    exact .ag cs vs hl fun i y v h1 h2 => ih i y v h1 h2 (hlt y (List.mem_of_getElem? h1)) _ fun path b h => ho _ _ h
  | tu cs vs hl hr ih =>
    intro hlt own2 ho
    simp only [AV.lt, ltL_iff] at hlt
    exact .tu cs vs hl fun i y v h1 h2 => ih i y v h1 h2 (hlt y (List.mem_of_getElem? h1)) _ fun path b h => ho _ _ h
  | ifc t x v h => intro _ own2 _; exact .ifc t x v (by rw [hφ]; exact h)

/-- All of memory stands still while a call runs that owns nothing of it. -/
def stillφ (w : World) (φ : Nat → Nat) (b : Nat) : Nat := match w.heap[b]? with
  | some (.cells arr _ _) => max (φ b) arr.size
  | _ => φ b

theorem still_le (w : World) (φ : Nat → Nat) (b : Nat) : φ b ≤ stillφ w φ b := by
  unfold stillφ
  split
  · omega
  · exact Nat.le_refl _

theorem still_stab (w : World) (φ : Nat → Nat) : Stab w φ w (stillφ w φ) := ⟨fun b _ => still_le w φ b, fun _ _ _ _ h => h⟩

section
variable {P : Program} {H : Hint} {o : Oper} {c : Call} {w : World} {g : Gm} {ow : Ow} {n : Nat} {a : Act} {st : St}

/-- An argument that is handed on, seen by the callee. -/
theorem arg_rep {vw : Bool} (hI : Inv w g ow n a st) (x : Operand) : ∃ own, RepA w { g with φ := if vw then stillφ w g.φ else g.φ } own (argA vw st.σ (rd st.env x)) (a.eval x) ∧ ∀ path b, ¬ own path b := by
  obtain ⟨own, hr⟩ := rd_ok hI x
  have up : ∀ {u : AV} {y : Value}, RepA w g Free u y → RepA w { g with φ := if vw then stillφ w g.φ else g.φ } Free u y := by
    intro u y h
    cases vw with
    | false => exact h
    | true => exact h.keep (g' := { g with φ := stillφ w g.φ }) (still_stab w g.φ) (Shape.refl w) (Nat.le_refl _) (fun _ _ => Nat.le_refl _) (fun _ _ _ _ => rfl) Free (fun _ _ h => h.elim)
  refine ⟨Free, ?_, fun _ _ h => h⟩
  cases vw with
  | false => exact up hr.dem
  | true =>
    simp only [argA, ↓reduceIte]
    split
    · rename_i s id ver off len hx
      rw [hx] at hr
      split
      · rename_i s2 xs hseen
        rw [hx] at hseen
        -- the array as it stands
        unfold seen at hseen
        split at hseen
        · rename_i s' id' ver' off' len' heq
          simp only [AV.arr.injEq] at heq
          obtain ⟨rfl, rfl, rfl, rfl, rfl⟩ := heq
          split at hseen
          · rename_i ver' cs hent
            split at hseen
            · rename_i hc
              obtain ⟨rfl, rfl, hle⟩ := hc
              rw [Option.map_eq_some_iff] at hseen
              obtain ⟨ds, hds, hseen⟩ := hseen
              simp only [Prod.mk.injEq] at hseen
              obtain ⟨rfl, rfl⟩ := hseen
              obtain ⟨hl, hpv⟩ := pvL_some hds
              have hdl : ds.length = len := by rw [← hl]; simp; omega
              refine .p ?_
              generalize hy : a.eval x = y at hr
              cases hr with
              | arr0 _ _ _ ad =>
                have : ds = [] := List.eq_nil_of_length_eq_zero hdl
                subst this
                exact .nil 1 ad 0
              | arr _ _ _ _ _ b k cc arr e hi hV hβ hb hz hcc =>
                obtain ⟨_, _, _, _, arr', e', hb', hsz, hcells⟩ := ent_cells hI hent hβ
                rw [hb] at hb'
                cases hb'
                by_cases h0 : ds = []
                · subst h0
                  simp at hdl
                  rw [← hdl]
                  exact .nil 1 _ cc
                · rw [← hdl] at hcc ⊢
                  have helem : ∀ (i : Nat) x, ds[i]? = some x → ∃ u, arr[k + off + i]? = some u ∧ u.oneCell' = true ∧ RepP w (stillφ w g.φ) x u ∧ x.cells = [x] := by
                    intro i x hx
                    have hi : i < len := by rw [← hdl]; exact (List.getElem?_eq_some_iff.1 hx).1
                    obtain ⟨q, hq, hqp⟩ := hpv i x hx
                    rw [List.getElem?_take, if_pos hi, List.getElem?_drop] at hq
                    obtain ⟨u, hu, h1u, hru⟩ := hcells _ q hq
                    exact ⟨u, by rw [Nat.add_assoc]; exact hu, h1u, (hru.pv hqp).keep (still_stab w g.φ), AV.pv_cells hru hqp h1u⟩
                  have hone : ∀ (i : Nat) x (j : Nat) z, ds[i]? = some x → x.cells[j]? = some z → j = 0 ∧ z = x := by
                    intro i x j z hx hz
                    obtain ⟨_, _, _, _, h1⟩ := helem i x hx
                    rw [h1] at hz
                    cases j with
                    | zero => simp at hz; exact ⟨rfl, hz.symm⟩
                    | succ j => simp at hz
                  refine .sl 1 ds b (k + off) cc (fun i _ => arr.getD (k + off + i) undef) h0 (by omega) hcc ?_ (fun i x hx => by obtain ⟨_, _, _, _, h1⟩ := helem i x hx; rw [h1]; rfl) ?_ ?_ ?_
                  · simp only [stillφ, hb]; omega
                  all_goals
                    intro i x j z hx hz
                    obtain ⟨rfl, rfl⟩ := hone i x j z hx hz
                    obtain ⟨u, hu, h1u, hru, _⟩ := helem i z hx
                    have hd : arr.getD (k + off + i) undef = u := by simp [Array.getD_eq_getD_getElem?, hu]
                    simp only [hd]
                  · rw [cell_of_block hb, Nat.add_zero, Nat.mul_one]; exact hu
                  · exact h1u
                  · exact hru
            · cases hseen
          · cases hseen
        · rename_i hno
          exact absurd rfl (hno s id ver off len)
      · rw [hx]; exact up (hr.dem (own' := Free))
    · exact up hr.dem

theorem nzL_get {ts : List TypeId} {xs : List AV} {i : Nat} {y : AV} (h : (nzL P ts xs)[i]? = some y) : ∃ x, xs[i]? = some x ∧ (y = x ∨ ∃ t, y = nz P t x) := by
  induction ts generalizing xs i with
  | nil => exact ⟨y, by simpa [nzL] using h, .inl rfl⟩
  | cons t ts ih =>
    cases xs with
    | nil => simp [nzL] at h
    | cons x xs =>
      simp only [nzL] at h
      cases i with
      | zero => simp at h; subst h; exact ⟨x, rfl, .inr ⟨t, rfl⟩⟩
      | succ i => simpa using ih (by simpa using h)

theorem nzL_len {ts : List TypeId} {xs : List AV} : (nzL P ts xs).length = xs.length := by
  induction ts generalizing xs with
  | nil => simp [nzL]
  | cons t ts ih => cases xs <;> simp [nzL, ih]

/-- All that a call hands on. -/
theorem args_rep {vw : Bool} (hI : Inv w g ow n a st) {f : Operand} {q : FuncId} {first captured : List AV} (hf : rd st.env f = .fn (.func q) first captured) {us vs : List Value} (hv : a.eval f = .func (.func q) us.toArray vs.toArray)
    (hl : first.length = us.length) (hk : captured.length = vs.length) (hx : ∀ (i : Nat) y v, first[i]? = some y → us[i]? = some v → RepA w g Free y v) (hy : ∀ (i : Nat) y v, captured[i]? = some y → vs[i]? = some v → RepA w g Free y v) :
    (us ++ c.args.toList.map a.eval ++ vs).length = (first ++ nzL P c.argTypes.toList (c.args.toList.map fun x => argA vw st.σ (rd st.env x)) ++ captured).length ∧
    ∀ (i : Nat) x v, (first ++ nzL P c.argTypes.toList (c.args.toList.map fun x => argA vw st.σ (rd st.env x)) ++ captured)[i]? = some x → (us ++ c.args.toList.map a.eval ++ vs)[i]? = some v →
      RepA w { g with φ := if vw then stillφ w g.φ else g.φ } Free x v := by
  have up : ∀ {u : AV} {y : Value}, RepA w g Free u y → RepA w { g with φ := if vw then stillφ w g.φ else g.φ } Free u y := by
    intro u y h
    cases vw with
    | false => exact h
    | true => exact h.keep (g' := { g with φ := stillφ w g.φ }) (still_stab w g.φ) (Shape.refl w) (Nat.le_refl _) (fun _ _ => Nat.le_refl _) (fun _ _ _ _ => rfl) Free (fun _ _ h => h.elim)
  refine ⟨by simp [nzL_len, hl, hk], fun i x v h1 h2 => ?_⟩
  rw [List.append_assoc] at h1 h2
  by_cases hi : i < us.length
  · rw [List.getElem?_append_left (by omega)] at h1 h2
    exact up (hx i x v h1 h2)
  · rw [List.getElem?_append_right (by omega)] at h1 h2
    rw [hl] at h1
    by_cases hj : i - us.length < c.args.size
    · rw [List.getElem?_append_left (by simp [nzL_len]; omega)] at h1
      rw [List.getElem?_append_left (by simp; omega)] at h2
      obtain ⟨y, hy1, hy2⟩ := nzL_get h1
      rw [List.getElem?_map, Option.map_eq_some_iff] at hy1 h2
      obtain ⟨z, hz, rfl⟩ := hy1
      obtain ⟨z', hz', rfl⟩ := h2
      rw [hz] at hz'
      cases hz'
      obtain ⟨own, hr, hno⟩ := arg_rep (vw := vw) hI z
      have hr := hr.mono (own' := Free) fun path b h => hno path b h
      rcases hy2 with rfl | ⟨t, rfl⟩
      · exact hr
      · exact hr.nz
    · rw [List.getElem?_append_right (by simp [nzL_len]; omega)] at h1
      rw [List.getElem?_append_right (by simp; omega)] at h2
      simp only [nzL_len, List.length_map, Array.length_toList] at h1 h2
      exact up (hy _ x v h1 h2)

theorem exec_call {f : Operand} (ho : o.op = .call c) (hc : c.callee = .value f) {q : FuncId} {us vs : List Value} (hv : a.eval f = .func (.func q) us.toArray vs.toArray) (hp : plainF P q = true) :
    (execOp a.eval o).run P w = .ok (.enter q (us ++ c.args.toList.map a.eval ++ vs).toArray) w := by
  unfold plainF at hp
  split at hp
  · rename_i fn hfn
    simp only [Bool.and_eq_true, Bool.not_eq_true'] at hp
    obtain ⟨body, hb⟩ := Option.isSome_iff_exists.1 hp.1
    have e : us.toArray ++ Array.map a.eval c.args ++ vs.toArray = (us ++ c.args.toList.map a.eval ++ vs).toArray := by
      apply Array.ext'
      simp
    have hn : (fn.name == "runtime.NumGoroutine") = false := hp.2
    simp only [execOp, ho, resolve, hc, hv, Deferred.ofValue, Sem.run_bind, Sem.run_pure, Result.andThen_ok, invoke, callFunc, run_program, hfn, hn, hb, Option.isNone_some, Bool.false_eq_true, if_false, e]
  · cases hp

/-- What a call comes to. -/
theorem call_wp {N : Act → World → Prop} {Q : Exit → Act → World → Prop} {f : Operand} (ho : o.op = .call c) (hc : c.callee = .value f) {q : FuncId} {us vs : List Value} (hv : a.eval f = .func (.func q) us.toArray vs.toArray)
    (hp : plainF P q = true) {R : Value → World → Prop} (h : Calls P q (us ++ c.args.toList.map a.eval ++ vs).toArray w fun e w' => ∃ v, e = .returned v ∧ R v w') (hN : ∀ v w', R v w' → N (a.put o.dst v) w') : o.wp P a w N Q := by
  unfold Oper.wp
  rw [exec_call ho hc hv hp, Oper.upon_enter]
  refine h.mono fun e w' he => ?_
  obtain ⟨v, rfl, hr⟩ := he
  exact hN v w' hr

theorem callW_ok {N : Act → World → Prop} {Q : Exit → Act → World → Prop} {K : AV → St → Prop} (hI : Inv w g ow n a st) (hid : Idle ow) (ht : Tab P w g ow) (ho : o.op = .call c) (h : callW P H o c st K)
    (hN : ∀ x v st' w' g' ow', K v st' → Ext w g ow w' g' ow' → Inv w' g' ow' n a st' → RepA w' g' (fun path b => ow' b = some (.acc path)) v x → N (a.put o.dst x) w') : o.wp P a w N Q := by
  unfold callW at h
  cases hc : c.callee with
  | value f =>
    simp only [hc] at h
    cases hf : rd st.env f with
    | fn fn first captured =>
      cases fn with
      | func q =>
        simp only [hf] at h
        obtain ⟨ownf, hrf⟩ := rd_ok hI f
        rw [hf] at hrf
        obtain ⟨us, vs, hv, hl, hk, hx, hy⟩ := hrf.fn_inv
        split at h
        · -- it sees no entry
          rename_i hlt
          obtain ⟨res, σ', ⟨hp, hret⟩, hres, hvw, v, st', himp, hK⟩ := h
          generalize hvwe : hd H.vw o.dst = vw at hlt hret hvw
          obtain ⟨hlen, hrep⟩ := args_rep (P := P) (c := c) (vw := vw) hI hf hv hl hk hx hy
          rw [ltL_iff] at hlt
          let gC : Gm := { g with φ := if vw then stillφ w g.φ else g.φ, N := 0 }
          have hcall := hret w gC (fun _ => none) _ hlen (fun i x v h1 h2 => (hrep i x v h1 h2).ltN (n := 0) (g2 := gC) rfl (fun i _ h => absurd h (Nat.not_lt_zero _)) (fun i h => absurd h (Nat.not_lt_zero _)) (fun i h => absurd h (Nat.not_lt_zero _)) (hlt x (List.mem_of_getElem? h1)) _ (fun _ _ h => h.elim))
            (fun id e h => by simp at h) rfl (fun b h => absurd rfl h) (fun v vs hv => by
              obtain ⟨h1, h2, h3, h4⟩ := ht v vs hv
              refine ⟨rfl, h2, ?_, h4⟩
              cases vw with
              | false => exact h3
              | true => exact Nat.le_trans h3 (still_le w g.φ v))
          refine call_wp ho hc hv hp hcall fun x w' hR => ?_
          obtain ⟨g', ow', hX, hr, _, _, hlt'⟩ := hR
          -- what is left of the callee
          let g2 : Gm := { φ := fun b => if b < w.heap.size then g.φ b else g'.φ b, β := g.β, N := g.N, V := g.V }
          let ow2 : Ow := fun b => if b < w.heap.size then ow b else match ow' b with | some (.acc p) => some (.acc p) | _ => none
          have hG : Gro w g ow w' g2 ow2 := ⟨hX.os, hX.tape, hX.output, hX.size, fun b hb => (hX.same b hb rfl).1, fun b hb => by simp [g2, hb], fun b hb => by simp [ow2, hb], Nat.le_refl _, fun _ _ => rfl, fun _ _ _ => rfl⟩
          have hlt2 : ∀ b, ow2 b ≠ none → b < w'.heap.size := by
            intro b hb
            by_cases hbs : b < w.heap.size
            · exact Nat.lt_of_lt_of_le hbs hX.size
            · simp only [ow2, hbs, if_false] at hb
              exact hlt' b fun h0 => by simp [h0] at hb
          have hI2 : Inv w' g2 ow2 n a st := hG.inv hI rfl hlt2
          have hfresh : ∀ path b, ow' b = some (.acc path) → ¬ b < w.heap.size ∧ ow2 b = some (.acc path) := by
            intro path b hb
            have : ¬ b < w.heap.size := fun hbs => by rw [(hX.same b hbs rfl).2.2] at hb; cases hb
            exact ⟨this, by simp [ow2, this, hb]⟩
          have hr2 : RepA w' g2 (fun path b => ow2 b = some (.acc path)) res x := by
            cases vw with
            | false =>
              have hφ : g2.φ = g'.φ := by
                funext b
                by_cases hbs : b < w.heap.size
                · simp only [g2, hbs, if_true]; exact ((hX.same b hbs rfl).2.1).symm
                · simp [g2, hbs]
              exact hr.ltN (n := 0) (g2 := g2) hφ (fun i _ h => absurd h (Nat.not_lt_zero _)) (fun i h => absurd h (Nat.not_lt_zero _)) (fun i h => absurd h (Nat.not_lt_zero _)) hres _ (fun path b hb => (hfresh path b hb).2)
            | true =>
              have hs := hvw rfl
              clear hres hvw himp hcall
              have aux : ∀ {own : List Nat → Nat → Prop} {u : AV} {y : Value}, RepA w' g' own u y → u.scal = true → ∀ own2, RepA w' g2 own2 u y := by
                intro own u y h
                induction h with
                | p h =>
                  intro hs own2
                  rename_i x v
                  cases x with
                  | sc c => cases h; exact .p (.sc _)
                  | _ => simp [AV.scal] at hs
                | tu cs vs hl hr ih =>
                  intro hs own2
                  have hall : ∀ y ∈ cs, y.scal = true := by
                    have : ∀ l : List AV, AV.scalL l = true → ∀ y ∈ l, y.scal = true := by
                      intro l
                      induction l with
                      | nil => intro _ y hy; cases hy
                      | cons z zs ihz =>
                        intro hz y hy
                        simp only [AV.scalL, Bool.and_eq_true] at hz
                        rcases List.mem_cons.1 hy with rfl | hy
                        · exact hz.1
                        · exact ihz hz.2 y hy
                    exact this cs (by simpa [AV.scal] using hs)
                  exact .tu cs vs hl fun i y v h1 h2 => ih i y v h1 h2 (hall y (List.mem_of_getElem? h1)) _
                | _ => intro hs; simp [AV.scal] at hs
              exact aux hr hs _
          -- an array of it
          unfold impA at himp
          split at himp
          · split at himp
            · rename_i xs
              split at himp
              · rename_i hall
                simp only [Option.some.injEq, Prod.mk.injEq] at himp
                obtain ⟨rfl, rfl⟩ := himp
                generalize hzz : AV.own 1 xs = zz at hr2
                cases hr2 with
                | own0 s ad =>
                  cases hzz
                  obtain ⟨hG3, hI3, hr3⟩ := empty_arr hI2 ad 1
                  exact hN _ _ _ _ _ _ hK (hG.trans hG3).ext hI3 hr3.free
                | ownX s xs b k cc arr e hob hs hφ hb hz hcc hrr =>
                  cases hzz
                  have hbf : ¬ b < w.heap.size := by
                    intro hbs
                    simp only [ow2, hbs, if_true] at hob
                    exact hid _ _ hob
                  let g3 : Gm := { (g.entry (some (b, k))) with φ := fun q => if q = b then k else g2.φ q }
                  let ow3 : Ow := fun q => if q = b then some (.box g.N) else ow2 q
                  have hG3 : Gro w g ow w' g3 ow3 := ⟨hX.os, hX.tape, hX.output, hX.size, hG.heap, fun q hq => by
                      have : q ≠ b := fun e => hbf (e ▸ hq)
                      simp only [g3, this, if_false]; exact hG.φ q hq, fun q hq => by
                      have : q ≠ b := fun e => hbf (e ▸ hq)
                      simp only [ow3, this, if_false]; exact hG.ow q hq, Nat.le_succ _, fun i hi => by simp [g3, Gm.entry, Nat.ne_of_lt hi], fun i ver hi => by simp [g3, Gm.entry, Nat.ne_of_lt hi]⟩
                  have hI3 : Inv w' g3 ow3 n a { st with σ := st.σ ++ [.cells 0 (xs.map .p)] } := hG3.inv_snoc hI rfl (fun q hq => by
                      by_cases hqb : q = b
                      · subst hqb; exact heap_lt hb
                      · exact hlt2 q (by simpa [ow3, hqb] using hq)) (by
                    refine ⟨by simp [g3, Gm.entry], .inl ⟨b, k, arr, e, by simp [g3, Gm.entry], by simp [ow3], by simp [g3], hb, by simp; omega, fun j y hy => ?_⟩⟩
                    rw [List.getElem?_map, Option.map_eq_some_iff] at hy
                    obtain ⟨z, hz', rfl⟩ := hy
                    have hzs := List.all_eq_true.1 hall z (List.mem_of_getElem? hz')
                    cases z with
                    | sc u =>
                      refine ⟨u, ?_, hzs, .p (.sc u)⟩
                      cases hrr with
                      | nil => cases hz'
                      | sl _ _ _ _ _ val h0 hs' hc' hφ0 hl0 hv0 h10 hr0 =>
                        have hcv := hv0 j _ 0 _ hz' rfl
                        have hrv := hr0 j _ 0 _ hz' rfl
                        rw [cell_of_block hb] at hcv
                        generalize val j 0 = vv at hcv hrv
                        cases hrv
                        rw [← hcv]
                        congr 1
                        omega
                    | _ => simp at hzs)
                  have hr3 : RepA w' g3 Free (.arr 1 st.σ.length 0 0 xs.length) (.slice (some ⟨b, k + 0, none⟩) xs.length cc) := by
                    rw [← hI.N]
                    exact .arr 1 g.N 0 0 xs.length b k cc arr e (Nat.lt_succ_self _) (Nat.zero_le _) (by simp [g3, Gm.entry]) hb (by omega) hcc
                  exact hN _ _ _ _ _ _ hK hG3.ext hI3 hr3.free
                | _ => cases hzz
              · cases himp
            · cases himp
          · simp only [Option.some.injEq, Prod.mk.injEq] at himp
            obtain ⟨rfl, rfl⟩ := himp
            exact hN _ _ _ _ _ _ hK hG.ext hI2 hr2
        · -- it shares the heap
          obtain ⟨hvw, har, res, σ', ⟨hp, hret⟩, hK⟩ := h
          rw [hvw] at hret
          obtain ⟨hlen, hrep⟩ := args_rep (P := P) (c := c) (vw := false) hI hf hv hl hk hx hy
          let owC : Ow := fun b => match ow b with | some (.ent i p) => some (.ent i p) | some (.box i) => some (.box i) | _ => none
          have hC1 : ∀ b i p, ow b = some (.ent i p) → owC b = some (.ent i p) := fun b i p h => by simp [owC, h]
          have hC2 : ∀ b i, ow b = some (.box i) → owC b = some (.box i) := fun b i h => by simp [owC, h]
          have hC0 : ∀ b, ow b = none → owC b = none := fun b h => by simp [owC, h]
          have hCs : ∀ b i p, ow b = some (.slot i p) → owC b = none := fun b i p h => by simp [owC, h]
          have hcall := hret w g owC _ hlen (fun i x v h1 h2 => (hrep i x v h1 h2).mono fun _ _ h => h.elim) (fun id e he => (hI.ent id e he).ow (fun b => hC2 b id) (fun b p => hC1 b id p)) hI.N (fun b hb => hI.lt b fun h0 => hb (hC0 b h0)) (fun v vs hv => by obtain ⟨h1, h2, h3, h4⟩ := ht v vs hv; exact ⟨hC0 v h1, h2, h3, h4⟩)
          refine call_wp ho hc hv hp hcall fun x w' hR => ?_
          obtain ⟨g', ow', hX, hr, hE, hN', hlt'⟩ := hR
          let ow2 : Ow := fun b => if b < w.heap.size ∧ owC b = none then (match ow b with | some (.acc _) => none | o => o) else ow' b
          have hslot : ∀ b i p, ow b = some (.slot i p) → ow2 b = some (.slot i p) ∧ w'.heap[b]? = w.heap[b]? ∧ g'.φ b = g.φ b := by
            intro b i p hb
            have hbs := hI.lt b (by simp [hb])
            have hc := hCs b i p hb
            obtain ⟨h1, h2, h3⟩ := hX.same b hbs hc
            exact ⟨by simp [ow2, hbs, hc, hb], h1, h2⟩
          have hthis : ∀ b oo, ow' b = some oo → ow2 b = some oo := by
            intro b oo hb
            have : ¬ (b < w.heap.size ∧ owC b = none) := by
              rintro ⟨h1, h2⟩
              rw [(hX.same b h1 h2).2.2] at hb
              cases hb
            simp only [ow2, this, if_false, hb]
          have hX2 : ∀ g2 : Gm, g2.φ = g'.φ → g.N ≤ g2.N → g2.V = g'.V → g2.β = g'.β → Ext w g ow w' g2 ow2 := by
            intro g2 h1 h2 h3 h4
            refine ⟨hX.os, hX.tape, hX.output, hX.size, by rw [h1]; exact hX.stab, hX.shape, fun b hb ho => ?_, h2, by rw [h3]; exact hX.V, by rw [h4]; exact hX.β⟩
            obtain ⟨k1, k2, k3⟩ := hX.same b hb (hC0 b ho)
            exact ⟨k1, by rw [h1]; exact k2, by simp [ow2, hb, hC0 b ho, ho]⟩
          have hlt2 : ∀ b, ow2 b ≠ none → b < w'.heap.size := by
            intro b hb
            by_cases hbs : b < w.heap.size ∧ owC b = none
            · exact Nat.lt_of_lt_of_le hbs.1 hX.size
            · simp only [ow2, hbs, if_false] at hb
              exact hlt' b hb
          have fin : ∀ (g2 : Gm) (σ2 : List Ent), g2.φ = g'.φ → g.N ≤ g2.N → g2.V = g'.V → g2.β = g'.β → g2.N = σ2.length → (∀ (id : Nat) e, σ2[id]? = some e → RepE w' g2 ow' id e) → RepA w' g2 (fun path b => ow' b = some (.acc path)) res x → K res { st with σ := σ2 } → N (a.put o.dst x) w' := by
            intro g2 σ2 h1 h2 h3 h4 h5 h6 h7 hK'
            refine hN x res { st with σ := σ2 } w' g2 ow2 hK' (hX2 g2 h1 h2 h3 h4) ⟨hI.sz, hI.df, fun i => ?_, fun id e he => (h6 id e he).ow (fun b hb => hthis b _ hb) (fun b p hb => hthis b _ hb), h5, hlt2⟩ (h7.mono fun path b hb => hthis b _ hb)
            exact (hI.env i).ext (hX2 g2 h1 h2 h3 h4) fun path b hb => by
              obtain ⟨k1, k2, k3⟩ := hslot b i path hb
              exact ⟨k1, k2, by rw [h1]; exact k3⟩
          unfold gcσ at hK
          split at hK
          · exact fin g' σ' rfl hX.N rfl rfl hN' hE hr hK
          · split at hK
            · rename_i hgc
              simp only [Bool.and_eq_true] at hgc
              obtain ⟨hrl, hal⟩ := hgc
              have hle : st.σ.length ≤ σ'.length := by rw [← hI.N, ← hN']; exact hX.N
              refine fin { g' with N := st.σ.length } _ rfl (Nat.le_of_eq hI.N) rfl rfl (by simp; omega) (fun id e he => ?_) ?_ hK
              · rw [List.getElem?_take] at he
                split at he
                · rename_i hid
                  have hb := List.all_eq_true.1 hal e (List.mem_of_getElem? (i := id) (by rw [List.getElem?_take, if_pos hid]; exact he))
                  have hr := hE id e he
                  have cut : ∀ {own : List Nat → Nat → Prop} {y : AV} {u : Value}, RepA w' g' own y u → y.lt st.σ.length = true → RepA w' { g' with N := st.σ.length } own y u := by
                    intro own y u h hl
                    exact h.ltN (n := st.σ.length) (g2 := { g' with N := st.σ.length }) rfl (fun _ _ _ _ => rfl) (fun _ _ => Nat.le_refl _) (fun _ h => h) hl _ (fun _ _ h => h)
                  cases e with
                  | cells ver cs =>
                    simp only [Ent.below, ltL_iff] at hb
                    obtain ⟨hv, hr⟩ := hr
                    refine ⟨hv, ?_⟩
                    rcases hr with ⟨b, k, arr, e, h1, h2, h3, h4, h5, h6⟩ | h1
                    · refine .inl ⟨b, k, arr, e, h1, h2, h3, h4, h5, fun j y hy => ?_⟩
                      obtain ⟨u, hu, h1u, hru⟩ := h6 j y hy
                      exact ⟨u, hu, h1u, cut hru (hb y (List.mem_of_getElem? hy))⟩
                    · exact .inr h1
                  | map kvs =>
                    simp only [Ent.below, ltL_iff] at hb
                    obtain ⟨b, k, es, clock, h1, h2, h3, h4, h5⟩ := hr
                    refine ⟨b, k, es, clock, h1, h2, h3, h4, fun j kk y e hk he => ?_⟩
                    obtain ⟨hkey, hru⟩ := h5 j kk y e hk he
                    exact ⟨hkey, cut hru (hb y (by simp only [List.mem_map]; exact ⟨(kk, y), List.mem_of_getElem? hk, rfl⟩))⟩
                  | dead => trivial
                · cases he
              · exact hr.ltN (n := st.σ.length) (g2 := { g' with N := st.σ.length }) rfl (fun _ _ _ _ => rfl) (fun _ _ => Nat.le_refl _) (fun _ h => h) hrl _ (fun _ _ h => h)
            · exact fin g' σ' rfl hX.N rfl rfl hN' hE hr hK
      | _ => simp only [hf] at h
    | _ => simp only [hf] at h
  | _ => simp only [hc] at h

end
end Go.Ab
