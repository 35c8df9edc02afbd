/- Slices of slices; builtins that read. -/
import Derived.Test.YtipepkfioecbmaaDoorAb9
set_option linter.unusedVariables false
set_option linter.unusedSimpArgs false
namespace Go.Ab
section
variable {P : Program} {H : Hint} {o : Oper} {w w' : World} {g : Gm} {ow ow' : Ow} {n : Nat} {a : Act} {st st' : St} {v : AV}

theorem RepP.cap {φ : Nat → Nat} {s : Nat} {xs : List PV} {ad : Option Addr} {c : Nat} (h : RepP w φ (.sl s xs) (.slice ad xs.length c)) (c' : Nat) (hc' : xs.length ≤ c') : RepP w φ (.sl s xs) (.slice ad xs.length c') := by
  generalize hx : Value.slice ad xs.length c = x at h
  cases h with
  | nil s a c => cases hx; exact .nil s _ c'
  | sl _ _ b k c val h0 hs hc hφ hl hv h1 hr =>
    cases hx
    exact .sl s xs b k c' val h0 hs hc' hφ hl hv h1 hr

/-- A part of a slice that is read. -/
theorem RepP.sub {φ : Nat → Nat} {s : Nat} {xs : List PV} {ad : Option Addr} {c : Nat} (h : RepP w φ (.sl s xs) (.slice ad xs.length c)) {l q m c' : Nat} (hl : l ≤ q) (hq : q ≤ xs.length) (hqm : q ≤ m) (hc' : q - l ≤ c') :
    RepP w φ (.sl s ((xs.take q).drop l)) (.slice (if m = l then ad else ad.map (·.add (l * s))) (q - l) c') := by
  have hlen : ((xs.take q).drop l).length = q - l := by simp; omega
  by_cases h0 : q - l = 0
  · have : (xs.take q).drop l = [] := List.eq_nil_of_length_eq_zero (by omega)
    rw [this, h0]
    exact .nil s _ c'
  · have hml : ¬ (m = l) := by omega
    rw [if_neg hml]
    generalize hx : Value.slice ad xs.length c = x at h
    cases h with
    | nil s a c => simp at hq; omega
    | sl _ _ b k c val hne hs hc hφ hcl hv h1 hr =>
      cases hx
      simp only [Option.map_some, add_at]
      have hget : ∀ (i : Nat) y, ((xs.take q).drop l)[i]? = some y → xs[l + i]? = some y ∧ l + i < q := by
        intro i y hy
        rw [List.getElem?_drop, List.getElem?_take] at hy
        split at hy
        · exact ⟨hy, by omega⟩
        · cases hy
      have hmul : l * s + (q - l) * s = q * s := by rw [← Nat.add_mul]; congr 1; omega
      have hmul2 : q * s ≤ xs.length * s := Nat.mul_le_mul_right s hq
      rw [← hlen]
      rw [← hlen] at hc'
      refine .sl s _ b (k + l * s) c' (fun i j => val (l + i) j) (fun e => by rw [e] at hlen; simp at hlen; omega) hs hc' (by rw [hlen]; omega) (fun i y hy => hcl _ _ (hget i y hy).1) (fun i y j z hy hz => ?_) (fun i y j z hy hz => h1 _ _ j z (hget i y hy).1 hz) (fun i y j z hy hz => hr _ _ j z (hget i y hy).1 hz)
      have := hv _ _ j z (hget i y hy).1 hz
      rw [Nat.add_mul] at this
      rw [show k + l * s + i * s + j = k + (l * s + i * s) + j by omega]
      exact this

theorem numb {n d l : Nat} {x : Option AV} (h : (match x with
      | none => some d
      | some (.p (.sc (.int _ i))) => if 0 ≤ i ∧ i ≤ n then some i.toNat else none
      | some _ => none) = some l) : (x = none ∧ l = d) ∨ ∃ k i, x = some (.p (.sc (.int k i))) ∧ 0 ≤ i ∧ i ≤ n ∧ l = i.toNat := by
  split at h
  · exact .inl ⟨rfl, by simpa using h.symm⟩
  · rename_i k i
    split at h
    · rename_i hc
      simp only [Option.some.injEq] at h
      exact .inr ⟨k, i, rfl, hc.1, hc.2, h.symm⟩
    · cases h
  · cases h

theorem opt_eval (hI : Inv w g ow n a st) {x : Option Operand} {k : IntKind} {i : Int} (h : x.map (rd st.env) = some (.p (.sc (.int k i)))) : x.map a.eval = some (.int k i) := by
  cases x with
  | none => cases h
  | some x =>
    simp only [Option.map_some, Option.some.injEq] at h ⊢
    exact rd_sc hI h

/-- The bounds of x[lo:hi:mx], none beyond the length. -/
theorem run_bounds (hI : Inv w g ow n a st) {lo hi mx : Option Operand} {len cap l q m : Nat} (hcap : len ≤ cap)
    (hl : (lo = none ∧ l = 0) ∨ ∃ k i, lo.map (rd st.env) = some (.p (.sc (.int k i))) ∧ 0 ≤ i ∧ i ≤ len ∧ l = i.toNat)
    (hq : (hi = none ∧ q = len) ∨ ∃ k i, hi.map (rd st.env) = some (.p (.sc (.int k i))) ∧ 0 ≤ i ∧ i ≤ len ∧ q = i.toNat)
    (hm : (mx = none ∧ m = cap) ∨ ∃ k i, mx.map (rd st.env) = some (.p (.sc (.int k i))) ∧ hi ≠ none ∧ 0 ≤ i ∧ i ≤ len ∧ m = i.toNat) (hlq : l ≤ q) (hqm : q ≤ m) (w' : World) :
    (Instr.sliceBounds true len cap (lo.map a.eval) (hi.map a.eval) (mx.map a.eval)).run P w' = .ok (l, q, m) w' := by
  have hb : ∀ (k : IntKind) (i : Int) (y : Nat) (code : BoundsCode), 0 ≤ i → i ≤ y → (Instr.sliceBound (.int k i) y code).run P w' = .ok i.toNat w' := by
    intro k i y code h0 h1
    simp [Instr.sliceBound, asIntOf, h0, h1]
  rcases hm with ⟨rfl, rfl⟩ | ⟨km, im, hm, hne, hm0, hm1, rfl⟩
  · rcases hq with ⟨rfl, rfl⟩ | ⟨kq, iq, hq, hq0, hq1, rfl⟩
    · rcases hl with ⟨rfl, rfl⟩ | ⟨kl, il, hl, hl0, hl1, rfl⟩
      · simp [Instr.sliceBounds]
      · simp [Instr.sliceBounds, opt_eval hI hl, hb kl il _ _ hl0 hl1]
    · rcases hl with ⟨rfl, rfl⟩ | ⟨kl, il, hl, hl0, hl1, rfl⟩
      · simp [Instr.sliceBounds, opt_eval hI hq, hb kq iq m _ hq0 (by omega)]
      · simp [Instr.sliceBounds, opt_eval hI hq, opt_eval hI hl, hb kq iq m _ hq0 (by omega), hb kl il iq.toNat _ hl0 (by omega)]
  · rcases hq with ⟨rfl, rfl⟩ | ⟨kq, iq, hq, hq0, hq1, rfl⟩
    · exact absurd rfl hne
    · rcases hl with ⟨rfl, rfl⟩ | ⟨kl, il, hl, hl0, hl1, rfl⟩
      · simp [Instr.sliceBounds, opt_eval hI hm, opt_eval hI hq, hb km im cap _ hm0 (by omega), hb kq iq im.toNat _ hq0 (by omega)]
      · simp [Instr.sliceBounds, opt_eval hI hm, opt_eval hI hq, opt_eval hI hl, hb km im cap _ hm0 (by omega), hb kq iq im.toNat _ hq0 (by omega), hb kl il iq.toNat _ hl0 (by omega)]

theorem lenA_rep {own : List Nat → Nat → Prop} {u : AV} {x : Value} {len : Nat} (h : RepA w g own u x) (hl : lenA u = some len) : ∃ ad c, x = .slice ad len c ∧ len ≤ c := by
  unfold lenA at hl
  split at hl <;> (try cases hl)
  · obtain ⟨ad, c, he, hc⟩ := (h.elems rfl).sl_form; exact ⟨ad, c, he, hc⟩
  · obtain ⟨ad, c, he, hc⟩ := (h.elems rfl).sl_form; exact ⟨ad, c, he, hc⟩
  · obtain ⟨ad, c, he, hc⟩ := (h.elems rfl).sl_form; exact ⟨ad, c, he, hc⟩
  · cases h with
    | arr _ _ _ _ _ b k c _ _ _ _ _ _ _ hc => exact ⟨_, c, rfl, hc⟩
    | arr0 _ _ _ ad => exact ⟨ad, 0, rfl, Nat.le_refl _⟩

theorem map_none {α β : Type} {x : Option α} {f : α → β} : x.map f = none ↔ x = none := by cases x <;> simp

theorem slice_ok {t : TypeId} {x : Operand} {lo hi mx : Option Operand} (hI : Inv w g ow n a st) (ho : o.op = .slice t x lo hi mx) (h : opF P H o st = some (v, st')) : OpOk P o w g ow n a st' v := by
  simp only [opF, ho] at h
  cases hg : grab true x st with
  | mk u st1 =>
    rw [hg] at h
    simp only [only, Option.map_eq_some_iff, Prod.mk.injEq] at h
    obtain ⟨y, hs, rfl, rfl⟩ := h
    obtain ⟨ow1, hI1, hr, hn, hσ⟩ := grab_ok hI hg
    unfold sliceA at hs
    split at hs
    · rename_i e s' bb z len hT hlen
      obtain ⟨hu, i, zv, hi', hz, hss, hb, rfl⟩ := slT_eq hT
      obtain ⟨ad, c, hx, hc⟩ := lenA_rep hr hlen
      have fin : ∀ {l q m : Nat} {y : AV}, (Instr.sliceBounds true len c (lo.map a.eval) (hi.map a.eval) (mx.map a.eval)).run P w = .ok (l, q, m) w →
          RepA w g (fun path b => ow1 b = some (.acc path)) y (.slice (if m = l then ad else ad.map (·.add (l * s'))) (q - l) (m - l)) → OpOk P o w g ow n a st1 y := by
        intro l q m y hbnd hry
        refine ⟨_, w, g, ow1, .inl ?_, Ext.ow hn, hI1, hry⟩
        simp [execOp, ho, hx, Instr.sliceAt, Instr.slice, run_underlying hu, hbnd, run_sizeOf' w hi', hss]
      rw [hx] at hr
      simp only at hs
      split at hs
      · rename_i l q hl hq hmx
        have hmx' : mx = none := map_none.1 hmx
        split at hs
        · rename_i hlq
          have h1 := numb hl
          have h2 := numb hq
          rw [map_none] at h1 h2
          have hq' : q ≤ len := by rcases h2 with ⟨_, rfl⟩ | ⟨_, _, _, _, _, rfl⟩ <;> omega
          have hbnd := run_bounds (P := P) hI (a := a) (lo := lo) (hi := hi) (mx := mx) hc h1 h2 (.inl ⟨hmx', rfl⟩) hlq (by omega) w
          refine fin hbnd ?_
          split at hs
          · rename_i s id ver off len'
            split at hs
            · rename_i hc'
              obtain ⟨rfl, hlt⟩ := hc'
              simp only [Option.some.injEq] at hs
              subst hs
              simp only [lenA, Option.some.injEq] at hlen
              subst hlen
              cases hr with
              | arr _ _ _ _ _ b k _ arr e hid hV hβ hb hz hcc =>
                rw [if_neg (by omega)]
                simp only [Option.map_some, add_at]
                have hmul : l * s + (c - l) * s = c * s := by rw [← Nat.add_mul]; congr 1; omega
                rw [show k + off + l * s = k + (off + l * s) by omega]
                exact .arr s id ver (off + l * s) (q - l) b k (c - l) arr e hid hV hβ hb (by omega) (by omega)
              | arr0 => omega
            · cases hs
          · rename_i s xs
            split at hs
            · rename_i hss'
              subst hss'
              simp only [Option.some.injEq] at hs
              subst hs
              simp only [lenA, Option.some.injEq] at hlen
              subst hlen
              by_cases hqn : q = xs.length
              · rw [if_pos hqn]
                subst hqn
                by_cases hcl : c = l
                · subst hcl
                  have : xs.length = c := by omega
                  have h0 : xs.drop c = [] := by simp; omega
                  rw [h0, if_pos rfl, this, Nat.sub_self]
                  exact .own0 s ad
                · rw [if_neg hcl]
                  generalize hxx : Value.slice ad xs.length c = xv at hr
                  cases hr with
                  | own0 s a => cases hxx; omega
                  | ownX _ _ b k c arr e hob hs0 hφ hb hz hcc hrr =>
                    cases hxx
                    simp only [Option.map_some, add_at]
                    have hmul : l * s + (c - l) * s = c * s := by rw [← Nat.add_mul]; congr 1; omega
                    have hmul2 : l * s + (xs.length - l) * s = xs.length * s := by rw [← Nat.add_mul]; congr 1; omega
                    have hsub := hrr.sub (l := l) (q := xs.length) (m := c) (c' := c - l) hlq (Nat.le_refl _) (by omega) (by omega)
                    rw [if_neg hcl] at hsub
                    simp only [Option.map_some, add_at, List.take_length] at hsub
                    have hdl : (xs.drop l).length = xs.length - l := by simp
                    rw [← hdl] at hsub ⊢
                    exact .ownX s (xs.drop l) b (k + l * s) (c - l) arr e hob hs0 (by rw [hdl]; omega) hb (by omega) (by rw [hdl]; omega) hsub
              · rw [if_neg hqn]
                exact .p ((hr.elems rfl).sub hlq hq' (by omega) (by omega))
            · cases hs
          · rename_i s xs
            split at hs
            · rename_i hss'
              subst hss'
              simp only [Option.some.injEq] at hs
              subst hs
              simp only [lenA, Option.some.injEq] at hlen
              subst hlen
              have hel := hr.elems rfl
              by_cases hqn : q = xs.length
              · rw [if_pos hqn]
                subst hqn
                have hcx : c = xs.length := by
                  generalize hxx : Value.slice ad xs.length c = xv at hr
                  cases hr with
                  | tgt => cases hxx; rfl
                subst hcx
                have hsub := hel.sub (l := l) (q := xs.length) (m := xs.length) (c' := xs.length - l) hlq (Nat.le_refl _) (Nat.le_refl _) (by omega)
                simp only [List.take_length] at hsub
                have hdl : (xs.drop l).length = xs.length - l := by simp
                rw [← hdl] at hsub ⊢
                exact .tgt s _ _ hsub
              · rw [if_neg hqn]
                exact .p (hel.sub hlq hq' (by omega) (by omega))
            · cases hs
          · rename_i s xs
            split at hs
            · rename_i hss'
              subst hss'
              simp only [Option.some.injEq] at hs
              subst hs
              simp only [lenA, Option.some.injEq] at hlen
              subst hlen
              exact .p ((hr.elems rfl).sub hlq hq' (by omega) (by omega))
            · cases hs
          · cases hs
        · cases hs
      · rename_i l q mv hl hq hmx
        split at hs
        · cases hs
        rename_i hhin
        split at hs
        · rename_i m hm
          split at hs
          · cases hs
          · rename_i hqm
            have hqm' : q = m := by omega
            subst hqm'
            split at hs
            · rename_i hlq
              split at hs
              · rename_i s xs hel
                split at hs
                · rename_i hss'
                  subst hss'
                  simp only [Option.some.injEq] at hs
                  subst hs
                  have h1 := numb hl
                  have h2 := numb hq
                  have h3 := numb hm
                  rw [map_none] at h1 h2
                  have hx' := hr.elems hel
                  obtain ⟨ad', c', hv', _⟩ := hx'.sl_form
                  cases hv'
                  have hq' : q ≤ xs.length := by rcases h2 with ⟨_, rfl⟩ | ⟨_, _, _, _, _, rfl⟩ <;> omega
                  rcases h3 with ⟨h3, _⟩ | ⟨k3, i3, h3, h30, h31, h3e⟩
                  · cases h3
                  · simp only [Option.some.injEq] at h3
                    subst h3
                    have hhi : hi ≠ none := by
                      intro hnone
                      subst hnone
                      exact hhin rfl
                    have hbnd := run_bounds (P := P) hI (a := a) (lo := lo) (hi := hi) (mx := mx) hc h1 h2 (.inr ⟨k3, i3, hmx, hhi, h30, h31, h3e⟩) hlq (Nat.le_refl _) w
                    refine fin hbnd ?_
                    have hsub := hx'.sub (l := l) (q := q) (m := q) (c' := q - l) hlq hq' (Nat.le_refl _) (Nat.le_refl _)
                    have hdl : ((xs.take q).drop l).length = q - l := by simp; omega
                    rw [← hdl] at hsub ⊢
                    exact .tgt s _ _ hsub
                · cases hs
              · cases hs
            · cases hs
        · cases hs
      · cases hs
    · cases hs

end
end Go.Ab
