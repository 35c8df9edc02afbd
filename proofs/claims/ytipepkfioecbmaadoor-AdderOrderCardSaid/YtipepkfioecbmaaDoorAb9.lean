/- Moves with hints, slices of slices, builtins that read, maps. -/
import Derived.Test.YtipepkfioecbmaaDoorAb8
set_option linter.unusedVariables false
set_option linter.unusedSimpArgs false
namespace Go.Ab
section
variable {P : Program} {H : Hint} {o : Oper} {w w' : World} {g : Gm} {ow ow' : Ow} {n : Nat} {a : Act} {st st' : St} {v : AV}

theorem AV.pv_cells {own : List Nat → Nat → Prop} {u : AV} {y : PV} {x : Value} (h : RepA w g own u x) (hu : u.pv = some y) (h1 : x.oneCell' = true) : y.cells = [y] := by
  have := h.pv hu
  cases this <;> first | rfl | simp [Value.oneCell'] at h1

/-- A frozen entry: its block stands still from now on. -/
theorem freeze_ok {u u' : AV} {x : Value} {σ' : List Ent} (hI : Inv w g ow n a st) (hr : RepA w g (fun path b => ow b = some (.acc path)) u x) (h : freezeA u st.σ = some (u', σ')) :
    ∃ g' ow', Ext w g ow w g' ow' ∧ Inv w g' ow' n a { st with σ := σ' } ∧ RepA w g' (fun path b => ow' b = some (.acc path)) u' x := by
  unfold freezeA at h
  split at h
  · rename_i s id ver off len
    split at h
    · rename_i ver' cs hent
      split at h
      · cases h
      · rename_i hc
        have hver : ver' = ver := by omega
        have hs1 : s = 1 := by omega
        have hoff : off = 0 := by omega
        have hlen : cs.length = len := by omega
        subst hver hs1 hoff
        split at h
        · rename_i xs hxs
          simp only [Option.some.injEq, Prod.mk.injEq] at h
          obtain ⟨rfl, rfl⟩ := h
          obtain ⟨hl, hpv⟩ := pvL_some hxs
          cases x with
          | slice ad l c =>
            have hinv0 : ∀ (g' : Gm) (ow' : Ow), g'.N = g.N → Inv w g' ow' n a st → Inv w g' ow' n a { st with σ := st.σ.set id .dead } := by
              intro g' ow' hN hI'
              refine ⟨hI'.sz, hI'.df, hI'.env, fun i e he => ?_, by simpa using hI'.N, hI'.lt⟩
              rw [List.getElem?_set] at he
              split at he
              · split at he
                · simp only [Option.some.injEq] at he; subst he; trivial
                · cases he
              · exact hI'.ent i e he
            cases hr with
            | arr0 _ _ _ _ hi hV hβ =>
              refine ⟨g, ow, Ext.refl w g ow, hinv0 g ow rfl hI, ?_⟩
              have : xs = [] := by
                cases xs with
                | nil => rfl
                | cons => simp at hl; omega
              subst this
              exact .own0 1 ad
            | arr _ _ _ _ _ b k _ arr e hi hV hβ hb hz hcc =>
              obtain ⟨hid, hVid, hbox, hφ, arr', e', hb', hsz, hcells⟩ := ent_cells hI hent hβ
              rw [hb] at hb'
              cases hb'
              -- the block stands still up to its end
              let g' : Gm := { g with φ := fun q => if q = b then k + cs.length else g.φ q }
              let ow' : Ow := fun q => if q = b then some (.acc []) else ow q
              have hX : Ext w g ow w g' ow' := by
                refine ⟨rfl, rfl, rfl, Nat.le_refl _, ⟨fun q _ => ?_, fun _ _ _ _ h => h⟩, Shape.refl _, fun q _ hq => ?_, Nat.le_refl _, fun _ _ => Nat.le_refl _, fun _ _ _ _ => rfl⟩
                · by_cases hq : q = b
                  · subst hq; simp only [g', if_true]; omega
                  · simp [g', hq]
                · have : q ≠ b := fun e => by subst e; rw [hbox] at hq; cases hq
                  simp [g', ow', this, hq]
              have hne : ∀ q oo, ow q = some oo → oo ≠ .box id → q ≠ b := fun q oo hq hoo e => by
                subst e; rw [hbox] at hq; cases hq; exact hoo rfl
              have hkeep : ∀ {oo : List Nat → Own} {y : AV} {u : Value}, (∀ path, oo path ≠ .box id) → RepA w g (fun path q => ow q = some (oo path)) y u → RepA w g' (fun path q => ow' q = some (oo path)) y u := by
                intro oo y u hoo hr
                exact hr.ext hX fun path q hq => by
                  have := hne q _ hq (hoo path)
                  exact ⟨by simp [ow', this, hq], rfl, by simp [g', this]⟩
              refine ⟨g', ow', hX, ?_, ?_⟩
              · refine ⟨hI.sz, hI.df, fun i => hkeep (fun _ => by simp) (hI.env i), fun i ee he => ?_, by simpa using hI.N, fun q hq => ?_⟩
                · rw [List.getElem?_set] at he
                  split at he
                  · split at he
                    · simp only [Option.some.injEq] at he; subst he; trivial
                    · cases he
                  · rename_i hij
                    have hr := hI.ent i ee he
                    cases ee with
                    | cells ver cs =>
                      obtain ⟨hv, hr⟩ := hr
                      refine ⟨hv, ?_⟩
                      rcases hr with ⟨c, k, arr, e, h1, h2, h3, h4, h5, h6⟩ | h1
                      · have hcb := hne c _ h2 (by simpa using Ne.symm hij)
                        refine .inl ⟨c, k, arr, e, h1, by simp [ow', hcb, h2], by simpa [g', hcb] using h3, h4, h5, fun j y hy => ?_⟩
                        obtain ⟨u, hu, h1u, hru⟩ := h6 j y hy
                        exact ⟨u, hu, h1u, hkeep (oo := fun path => .ent i (j :: path)) (fun _ => by simp) hru⟩
                      · exact .inr h1
                    | map kvs =>
                      obtain ⟨c, k, es, clock, h1, h2, h3, h4, h5⟩ := hr
                      have hcb := hne c _ h2 (by simpa using Ne.symm hij)
                      refine ⟨c, k, es, clock, h1, by simp [ow', hcb, h2], h3, h4, fun j kk y e hk he => ?_⟩
                      obtain ⟨hkey, hru⟩ := h5 j kk y e hk he
                      exact ⟨hkey, hkeep (oo := fun path => .ent i (j :: path)) (fun _ => by simp) hru⟩
                    | dead => trivial
                · by_cases hqb : q = b
                  · subst hqb; exact heap_lt hb
                  · exact hI.lt q (by simpa [ow', hqb] using hq)
              · have hlx : len = xs.length := by omega
                subst hlx
                refine .ownX 1 xs b (k + 0) c arr e (by simp [ow']) (by omega) (by simp [g', hl]) hb (by omega) hcc ?_
                by_cases h0 : xs = []
                · subst h0; exact .nil _ _ _
                · have helem : ∀ (i : Nat) y, xs[i]? = some y → y.cells = [y] ∧ ∃ u, arr[k + i]? = some u ∧ u.oneCell' = true ∧ RepP w g'.φ y u := by
                    intro i y hy
                    obtain ⟨q, hq, hqp⟩ := hpv i y hy
                    obtain ⟨u, hu, h1u, hru⟩ := hcells i q hq
                    exact ⟨AV.pv_cells hru hqp h1u, u, hu, h1u, (hru.pv hqp).keep hX.stab⟩
                  have hcell1 : ∀ (i : Nat) y (j : Nat) z, xs[i]? = some y → y.cells[j]? = some z → j = 0 ∧ z = y := by
                    intro i y j z hy hz
                    rw [(helem i y hy).1] at hz
                    cases j with
                    | zero => simp at hz; exact ⟨rfl, hz.symm⟩
                    | succ j => simp at hz
                  refine .sl 1 xs b (k + 0) c (fun i _ => arr.getD (k + i) undef) h0 (by omega) hcc (by simp [g', hl]) (fun i y hy => by rw [(helem i y hy).1]; rfl) (fun i y j z hy hz => ?_) (fun i y j z hy hz => ?_) (fun i y j z hy hz => ?_)
                  all_goals
                    obtain ⟨rfl, rfl⟩ := hcell1 i y j z hy hz
                    obtain ⟨_, u, hu, h1u, hru⟩ := helem i z hy
                    have hd : arr.getD (k + i) undef = u := by simp [Array.getD_eq_getD_getElem?, hu]
                    simp only [hd]
                  · rw [cell_of_block hb]
                    rw [show k + 0 + i * 1 + 0 = k + i by omega]
                    exact hu
                  · exact h1u
                  · exact hru
          | _ => cases hr
        · cases h
    · cases h
  · simp only [Option.some.injEq, Prod.mk.injEq] at h
    obtain ⟨rfl, rfl⟩ := h
    exact ⟨g, ow, Ext.refl w g ow, hI, hr⟩

/-- An empty array without a block. -/
theorem empty_arr (hI : Inv w g ow n a st) (ad : Option Addr) (s : Nat) :
    Gro w g ow w (g.entry none) ow ∧ Inv w (g.entry none) ow n a { st with σ := st.σ ++ [.cells 0 []] } ∧ RepA w (g.entry none) Free (.arr s st.σ.length 0 0 0) (.slice ad 0 0) := by
  have hG := gro_entry w g ow none
  refine ⟨hG, hG.inv_snoc hI rfl hI.lt ⟨by simp [Gm.entry], .inr ⟨by simp [Gm.entry], rfl⟩⟩, ?_⟩
  rw [← hI.N]
  exact .arr0 s g.N 0 ad (Nat.lt_succ_self _) (Nat.zero_le _) (by simp [Gm.entry])

theorem thaw_empty {s : Nat} {x : Value} (hI : Inv w g ow n a st) (hr : RepA w g (fun path b => ow b = some (.acc path)) (.own s []) x) :
    ∃ g' ow', Ext w g ow w g' ow' ∧ Inv w g' ow' n a { st with σ := st.σ ++ [.cells 0 []] } ∧ RepA w g' (fun path b => ow' b = some (.acc path)) (.arr s st.σ.length 0 0 0) x := by
  generalize hz : ([] : List PV) = zs at hr
  cases hr with
  | own0 _ ad =>
    obtain ⟨hG, hI', hr'⟩ := empty_arr hI ad s
    exact ⟨_, _, hG.ext, hI', hr'.free⟩
  | ownX _ _ b k c arr e hob hs hφ hb hz' hc hrr =>
    subst hz
    let g' := g.entry (some (b, k))
    let ow' : Ow := fun q => if q = b then some (.box g.N) else ow q
    have hX : Ext w g ow w g' ow' := ⟨rfl, rfl, rfl, Nat.le_refl _, Stab.refl _ _, Shape.refl _, fun q _ hq => by
        have : q ≠ b := fun e => by subst e; rw [hob] at hq; cases hq
        simp [ow', this, hq, g', Gm.entry], Nat.le_succ _, fun id hid => by simp [g', Gm.entry, Nat.ne_of_lt hid], fun id ver hid _ => by simp [g', Gm.entry, Nat.ne_of_lt hid]⟩
    have hne : ∀ q oo, ow q = some oo → (∀ path, oo ≠ .acc path) → q ≠ b := fun q oo hq hoo e => by
      subst e; rw [hob] at hq; simp only [Option.some.injEq] at hq; exact hoo _ hq.symm
    have hkeep : ∀ {oo : List Nat → Own} {y : AV} {u : Value}, (∀ path p, oo path ≠ .acc p) → RepA w g (fun path q => ow q = some (oo path)) y u → RepA w g' (fun path q => ow' q = some (oo path)) y u := by
      intro oo y u hoo hr
      exact hr.ext hX fun path q hq => by
        have := hne q _ hq (hoo path)
        exact ⟨by simp [ow', this, hq], rfl, rfl⟩
    refine ⟨g', ow', hX, ⟨hI.sz, hI.df, fun i => hkeep (fun _ _ => by simp) (hI.env i), fun i ee he => ?_, by simp [g', Gm.entry, hI.N], fun q hq => ?_⟩, ?_⟩
    · by_cases hi : i < st.σ.length
      · have he' : st.σ[i]? = some ee := by simpa [List.getElem?_append_left hi] using he
        have hiN : i ≠ g.N := by rw [hI.N]; omega
        have hr := hI.ent i ee he'
        cases ee with
        | cells ver cs =>
          obtain ⟨hv, hr⟩ := hr
          refine ⟨by simpa [g', Gm.entry, hiN] using hv, ?_⟩
          rcases hr with ⟨c, k, arr, e, h1, h2, h3, h4, h5, h6⟩ | h1
          · have hcb := hne c _ h2 (by simp)
            refine .inl ⟨c, k, arr, e, by simpa [g', Gm.entry, hiN] using h1, by simp [ow', hcb, h2], h3, h4, h5, fun j y hy => ?_⟩
            obtain ⟨u, hu, h1u, hru⟩ := h6 j y hy
            exact ⟨u, hu, h1u, hkeep (oo := fun path => .ent i (j :: path)) (fun _ _ => by simp) hru⟩
          · exact .inr ⟨by simpa [g', Gm.entry, hiN] using h1.1, h1.2⟩
        | map kvs =>
          obtain ⟨c, k, es, clock, h1, h2, h3, h4, h5⟩ := hr
          have hcb := hne c _ h2 (by simp)
          refine ⟨c, k, es, clock, by simpa [g', Gm.entry, hiN] using h1, by simp [ow', hcb, h2], h3, h4, fun j kk y e hk he => ?_⟩
          obtain ⟨hkey, hru⟩ := h5 j kk y e hk he
          exact ⟨hkey, hkeep (oo := fun path => .ent i (j :: path)) (fun _ _ => by simp) hru⟩
        | dead => trivial
      · have : i = st.σ.length := by
          have := (List.getElem?_eq_some_iff.1 he).1
          simp at this; omega
        subst this
        simp at he
        subst he
        rw [← hI.N]
        exact ⟨by simp [g', Gm.entry], .inl ⟨b, k, arr, e, by simp [g', Gm.entry], by simp [ow'], by simpa [g', Gm.entry] using hφ, hb, by simp; omega, fun j y hy => by simp at hy⟩⟩
    · by_cases hqb : q = b
      · subst hqb; exact heap_lt hb
      · exact hI.lt q (by simpa [ow', hqb] using hq)
    · rw [← hI.N]
      have : RepA w g' (fun path q => ow' q = some (.acc path)) (.arr s g.N 0 0 0) (.slice (some ⟨b, k + 0, none⟩) 0 c) :=
        .arr s g.N 0 0 0 b k c arr e (Nat.lt_succ_self _) (Nat.zero_le _) (by simp [g', Gm.entry]) hb (by omega) (Nat.zero_le _)
      simpa using this

theorem movA_ok {tk : Bool} {x : Operand} (hI : Inv w g ow n a st) (ho : (execOp a.eval o).run P w = .ok (.value (a.eval x)) w) (h : movA P H o tk x st = some (v, st')) : OpOk P o w g ow n a st' v := by
  unfold movA at h
  cases hg : grab tk x st with
  | mk u st1 =>
    rw [hg] at h
    obtain ⟨ow1, hI1, hr, hn, hσ⟩ := grab_ok hI hg
    have hr := RepA.nz (P := P) (t := o.type) hr
    simp only at h
    generalize nz P o.type u = q at h hr
    split at h
    · rw [Option.map_eq_some_iff] at h
      obtain ⟨⟨y, σ'⟩, hf, h⟩ := h
      simp only [Prod.mk.injEq] at h
      obtain ⟨rfl, rfl⟩ := h
      obtain ⟨g', ow', hX, hI', hr'⟩ := freeze_ok hI1 hr hf
      exact ⟨_, w, g', ow', .inl ho, (Ext.ow hn).trans hX, hI', hr'⟩
    · split at h
      · split at h
        · rename_i s
          simp only [newArr, Option.some.injEq, Prod.mk.injEq] at h
          obtain ⟨rfl, rfl⟩ := h
          obtain ⟨g', ow', hX, hI', hr'⟩ := thaw_empty hI1 hr
          exact ⟨_, w, g', ow', .inl ho, (Ext.ow hn).trans hX, hI', hr'⟩
        · simp only [Option.some.injEq, Prod.mk.injEq] at h
          obtain ⟨rfl, rfl⟩ := h
          exact ⟨_, w, g, ow1, .inl ho, Ext.ow hn, hI1, hr⟩
      · simp only [Option.some.injEq, Prod.mk.injEq] at h
        obtain ⟨rfl, rfl⟩ := h
        exact ⟨_, w, g, ow1, .inl ho, Ext.ow hn, hI1, hr⟩

end
end Go.Ab
