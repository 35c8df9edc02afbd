/- Maps; len, min, max. -/
import Derived.Test.YtipepkfioecbmaaDoorAb10
set_option linter.unusedVariables false
set_option linter.unusedSimpArgs false
namespace Go.Ab
section
variable {P : Program} {H : Hint} {o : Oper} {w w' : World} {g : Gm} {ow ow' : Ow} {n : Nat} {a : Act} {st st' : St} {v : AV}

theorem mpT_eq {t : TypeId} {z : Value} (h : mpT P t = some z) : ∃ k e i, P.underlying t = some (.map k e) ∧ P.underlying k = some (.int .i64) ∧ P.info? e = some i ∧ i.zero = some z := by
  unfold mpT at h
  split at h
  · rename_i k e hu
    split at h
    · rename_i i hk hi
      exact ⟨k, e, i, hu, hk, hi, h⟩
    · cases h
  · cases h

/-- Where a key stands. -/
theorem find_ok (k : Int) : ∀ (kvs : List (Int × AV)) (es : List MapEntry) (q : Nat), es.length = kvs.length → (∀ (j : Nat) k' y e, kvs[j]? = some (k', y) → es[j]? = some e → e.key = .int .i64 k') →
    (mget k kvs = none ∧ Instr.findNow (.int .i64) (.int .i64 k) es q = some none ∧ ∀ v, mset k v kvs = kvs ++ [(k, v)]) ∨
    ∃ j y e, mget k kvs = some y ∧ kvs[j]? = some (k, y) ∧ es[j]? = some e ∧ Instr.findNow (.int .i64) (.int .i64 k) es q = some (some (q + j, e.val)) ∧ ∀ v, mset k v kvs = kvs.set j (k, v) := by
  intro kvs
  induction kvs with
  | nil =>
    intro es q hl hk
    cases es with
    | nil => exact .inl ⟨rfl, rfl, fun _ => rfl⟩
    | cons => simp at hl
  | cons p kvs ih =>
    intro es q hl hk
    obtain ⟨k', y⟩ := p
    cases es with
    | nil => simp at hl
    | cons e es =>
      have hke := hk 0 k' y e rfl rfl
      by_cases hkk : k' = k
      · subst hkk
        refine .inr ⟨0, y, e, by simp [mget], rfl, rfl, by simp [Instr.findNow, hke, Instr.sameNow], fun v => by simp [mset]⟩
      · have hkk' : ¬ k = k' := fun e => hkk e.symm
        rcases ih es (q + 1) (by simpa using hl) (fun j k2 y2 e2 h1 h2 => hk (j + 1) k2 y2 e2 (by simpa using h1) (by simpa using h2)) with ⟨h1, h2, h3⟩ | ⟨j, y2, e2, h1, h2, h3, h4, h5⟩
        · refine .inl ⟨by simp [mget, hkk, h1], by
            simp only [Instr.findNow, hke, Instr.sameNow, if_true]
            rw [show (k == k') = false by simpa using hkk']
            exact h2, fun v => by simp [mset, hkk, h3]⟩
        · refine .inr ⟨j + 1, y2, e2, by simp [mget, hkk, h1], by simpa using h2, by simpa using h3, ?_, fun v => by simp [mset, hkk, h5]⟩
          simp only [Instr.findNow, hke, Instr.sameNow, if_true]
          rw [show (k == k') = false by simpa using hkk']
          simp only [h4]
          congr 3
          omega

theorem run_getObj {b : Nat} {es : Array MapEntry} {clock : Nat} (h : w.heap[b]? = some (.map es clock)) : (getObj b).run P w = .ok (.map es clock) w := by
  simp [getObj, Sem.run, h]

theorem run_setObj {b : Nat} {es : Array MapEntry} {clock : Nat} (h : w.heap[b]? = some (.map es clock)) (ob : Obj) : (setObj b ob).run P w = .ok () { w with heap := w.heap.setIfInBounds b ob } := by
  simp [setObj, Sem.run, h]

theorem run_checkKey {kt : TypeId} (h : P.underlying kt = some (.int .i64)) (em : Bool) (k : Int) (d : Nat) : (Instr.checkKey em (d + 1) kt (.int .i64 k)).run P w = .ok () w := by
  simp [Instr.checkKey, run_underlying h]

theorem run_checkKey' {kt : TypeId} (h : P.underlying kt = some (.int .i64)) (em : Bool) (k : Int) : (Instr.checkKey em 10000 kt (.int .i64 k)).run P w = .ok () w := run_checkKey h em k 9999

theorem ent_map (hI : Inv w g ow n a st) {id : Nat} {kvs : List (Int × AV)} (h : st.σ[id]? = some (.map kvs)) {b k : Nat} (hβ : g.β id 0 = some (b, k)) :
    ow b = some (.box id) ∧ ∃ es clock, w.heap[b]? = some (.map es clock) ∧ es.size = kvs.length ∧
      ∀ (j : Nat) k y e, kvs[j]? = some (k, y) → es[j]? = some e → e.key = .int .i64 k ∧ RepA w g (fun path b' => ow b' = some (.ent id (j :: path))) y e.val := by
  obtain ⟨b', k', es, clock, h1, h2, h3, h4, h5⟩ := hI.ent id _ h
  rw [hβ] at h1
  simp only [Option.some.injEq, Prod.mk.injEq] at h1
  obtain ⟨rfl, rfl⟩ := h1
  exact ⟨h2, es, clock, h3, h4, h5⟩

theorem RepA.mp_inv {own : List Nat → Nat → Prop} {id : Nat} {x : Value} (h : RepA w g own (.mp id) x) : ∃ b k, id < g.N ∧ g.β id 0 = some (b, k) ∧ x = .map (some b) := by
  cases h with
  | mp _ b k hi hβ => exact ⟨b, k, hi, hβ, rfl⟩

theorem ofVal_ok (z : Value) {own : List Nat → Nat → Prop} : RepA w g own (ofVal z) z := by
  unfold ofVal
  split
  · rename_i cs
    have : RepA w g own (.ag (cs.toList.map fun c => .p (.sc c))) (.agg cs.toList.toArray) := .ag _ _ (by simp) (fun j y v hy hv => by
      obtain ⟨c, hc, rfl⟩ := scs_get hy
      rw [hc] at hv
      cases hv
      exact .p (.sc _))
    simpa using this
  · exact .p (.sc _)

/-- A map's value leaves it. -/
theorem Inv.outM (hI : Inv w g ow n a st) {id : Nat} {kvs : List (Int × AV)} (h : st.σ[id]? = some (.map kvs)) {j : Nat} {k : Int} {y : AV} (hj : kvs[j]? = some (k, y)) :
    Inv w g (ow.out id j 1 false) n a { st with σ := st.σ.set id (.map (kvs.set j (k, y.dem))) } where
  sz := hI.sz
  df := hI.df
  env := fun i => (hI.env i).mono fun path b hb => Ow.out_slot hb
  N := by simpa using hI.N
  lt := fun b hb => hI.lt b fun h0 => hb (Ow.out_none h0)
  ent := fun i e he => by
    rw [List.getElem?_set] at he
    split at he
    · rename_i hi
      subst hi
      split at he
      · simp only [Option.some.injEq] at he
        subst he
        obtain ⟨b, q, es, clock, h1, h2, h3, h4, h5⟩ := hI.ent id _ h
        refine ⟨b, q, es, clock, h1, Ow.out_box h2, h3, by simpa using h4, fun i k' z e hz he => ?_⟩
        rw [List.getElem?_set] at hz
        split at hz
        · rename_i hij
          subst hij
          split at hz
          · simp only [Option.some.injEq, Prod.mk.injEq] at hz
            obtain ⟨rfl, rfl⟩ := hz
            obtain ⟨hk, hr⟩ := h5 j k y e hj he
            exact ⟨hk, hr.dem⟩
          · cases hz
        · rename_i hij
          obtain ⟨hk, hr⟩ := h5 i k' z e hz he
          exact ⟨hk, hr.mono fun path b' hb => Ow.out_ent hb fun hc => hij (by omega)⟩
      · cases he
    · rename_i hi
      refine (hI.ent i e he).ow (fun b hb => Ow.out_box hb) (fun b path hb => ?_)
      exact Ow.out_other hb (Ne.symm hi)

theorem lookup_ok {t : TypeId} {m k : Operand} {ok : Bool} (hI : Inv w g ow n a st) (ho : o.op = .lookup t m k ok) (h : opF P H o st = some (v, st')) : OpOk P o w g ow n a st' v := by
  simp only [opF, ho, withσ, Option.map_eq_some_iff] at h
  obtain ⟨⟨u, σ'⟩, hs, h⟩ := h
  simp only [Prod.mk.injEq] at h
  obtain ⟨rfl, rfl⟩ := h
  obtain ⟨own, hrm⟩ := rd_ok hI m
  unfold lookA at hs
  split at hs
  · rename_i z id ki hT hm hk
    have hkv := rd_sc hI hk
    rw [hm] at hrm
    obtain ⟨b, q, hid, hβ, he⟩ := hrm.mp_inv
    obtain ⟨kt, et, i, hu, hku, hi, hz⟩ := mpT_eq hT
    split at hs
    · rename_i kvs hent
      obtain ⟨hbox, es, clock, hb, hsz, hes⟩ := ent_map hI hent hβ
      have hrun : ∀ r : Option (Nat × Value), Instr.findNow (.int .i64) (.int .i64 ki) es.toList 0 = some r →
          (execOp a.eval o).run P w = .ok (.value (match r with | some (_, x) => if ok then .tuple #[x, .bool true] else x | none => if ok then .tuple #[z, .bool false] else z)) w := by
        intro r hr
        cases r with
        | none => cases ok <;> simp [execOp, ho, he, hkv, Instr.lookup, run_underlying hu, run_getObj hb, run_checkKey' hku, Instr.findKey, run_underlying hku, hr, zeroValue, typeInfo, hi, hz]
        | some p => obtain ⟨p1, p2⟩ := p; cases ok <;> simp [execOp, ho, he, hkv, Instr.lookup, run_underlying hu, run_getObj hb, run_checkKey' hku, Instr.findKey, run_underlying hku, hr]
      rcases find_ok ki kvs es.toList 0 (by simpa using hsz) (fun j k' y e h1 h2 => (hes j k' y e h1 (by simpa using h2)).1) with ⟨h1, h2, _⟩ | ⟨j, y, e, h1, h2, h3, h4, h5⟩
      · rw [h1] at hs
        simp only [Option.some.injEq, Prod.mk.injEq] at hs
        obtain ⟨rfl, rfl⟩ := hs
        refine OpOk.pure hI (hrun none h2) ?_
        cases ok with
        | false => exact RepA.nz (ofVal_ok z)
        | true =>
          simp only [if_true]
          refine .tu _ [z, .bool false] rfl (fun i y v hy hv => ?_)
          match i with
          | 0 => simp at hy hv; subst hy hv; exact ofVal_ok _
          | 1 => simp at hy hv; subst hy hv; exact .p (.sc _)
          | i + 2 => simp at hy
      · rw [h1] at hs
        obtain ⟨hkey, hry⟩ := hes j ki y e h2 (by simpa using h3)
        have hrun' := hrun _ h4
        simp only at hs hrun'
        split at hs
        · rename_i hok
          subst hok
          simp only [Option.some.injEq, Prod.mk.injEq] at hs
          obtain ⟨rfl, rfl⟩ := hs
          refine OpOk.pure hI hrun' (.tu _ [e.val, .bool true] rfl (fun i y v hy hv => ?_))
          match i with
          | 0 => simp at hy hv; subst hy hv; exact hry.dem
          | 1 => simp at hy hv; subst hy hv; exact .p (.sc _)
          | i + 2 => simp at hy
        · rename_i hok
          have hok' : ok = false := by simpa using hok
          subst hok'
          split at hs
          · simp only [Option.some.injEq, Prod.mk.injEq] at hs
            obtain ⟨rfl, rfl⟩ := hs
            refine ⟨e.val, w, g, ow.out id j 1 false, .inl hrun', Ext.ow (fun b hb => Ow.out_none hb), ?_, RepA.nz (hry.mono fun path b' hb' => ?_)⟩
            · rw [h5]; exact hI.outM hent h2
            · have := Ow.out_this (off := j) (m := 1) (ag := false) hb' ⟨by omega, by omega⟩
              rw [this]
              simp
          · simp only [Option.some.injEq, Prod.mk.injEq] at hs
            obtain ⟨rfl, rfl⟩ := hs
            exact OpOk.pure hI hrun' (RepA.nz hry.dem)
    · cases hs
  · cases hs

/-- What is in flight becomes a map's value. -/
def Ow.into (ow : Ow) (id j : Nat) : Ow := fun b => match ow b with
  | some (.acc path) => some (.ent id (j :: path))
  | o => o
theorem Ow.into_none {ow : Ow} {id j b : Nat} (h : ow b = none) : ow.into id j b = none := by simp [Ow.into, h]
theorem Ow.into_slot {ow : Ow} {id j b i : Nat} {path : List Nat} (h : ow b = some (.slot i path)) : ow.into id j b = some (.slot i path) := by simp [Ow.into, h]
theorem Ow.into_ent {ow : Ow} {id j b i : Nat} {path : List Nat} (h : ow b = some (.ent i path)) : ow.into id j b = some (.ent i path) := by simp [Ow.into, h]
theorem Ow.into_box {ow : Ow} {id j b i : Nat} (h : ow b = some (.box i)) : ow.into id j b = some (.box i) := by simp [Ow.into, h]
theorem Ow.into_acc {ow : Ow} {id j b : Nat} {path : List Nat} (h : ow b = some (.acc path)) : ow.into id j b = some (.ent id (j :: path)) := by simp [Ow.into, h]

theorem oneB_set (w : World) (b : Nat) (ob : Obj) : OneB w { w with heap := w.heap.setIfInBounds b ob } b :=
  ⟨rfl, rfl, rfl, by simp, fun k hk => by simp [Array.getElem?_setIfInBounds, Ne.symm hk]⟩

theorem mapUpdate_ok {t : TypeId} {m k x : Operand} (hI : Inv w g ow n a st) (ho : o.op = .mapUpdate t m k x) (h : opF P H o st = some (v, st')) : OpOk P o w g ow n a st' v := by
  simp only [opF, ho] at h
  cases hg : grab true x st with
  | mk u st1 =>
    rw [hg] at h
    simp only [store', Option.map_eq_some_iff, Prod.mk.injEq] at h
    obtain ⟨σ', hs, rfl, rfl⟩ := h
    obtain ⟨own, hrm⟩ := rd_ok hI m
    obtain ⟨ow1, hI1, hr, hn, hσ⟩ := grab_ok hI hg
    unfold mupA at hs
    split at hs
    · rename_i z id ki hT hm hk
      have hkv := rd_sc hI hk
      rw [hm] at hrm
      obtain ⟨b, q, hid, hβ, he⟩ := hrm.mp_inv
      obtain ⟨kt, et, i, hu, hku, hi, hz⟩ := mpT_eq hT
      split at hs
      · rename_i kvs hent
        simp only [Option.some.injEq] at hs
        subst hs
        obtain ⟨hbox, es, clock, hb, hsz, hes⟩ := ent_map hI1 hent hβ
        -- the new entries
        have key : ∃ (j : Nat) (es' : Array MapEntry) (clock' : Nat), (execOp a.eval o).run P w = .ok .skip { w with heap := w.heap.setIfInBounds b (.map es' clock') } ∧ es'.size = (mset ki u kvs).length ∧
            ∀ (i : Nat) k y e, (mset ki u kvs)[i]? = some (k, y) → es'[i]? = some e → e.key = .int .i64 k ∧ ((i = j ∧ y = u ∧ e.val = a.eval x) ∨ (kvs[i]? = some (k, y) ∧ ∃ e0, es[i]? = some e0 ∧ e0.val = e.val)) := by
          rcases find_ok ki kvs es.toList 0 (by simpa using hsz) (fun j k' y e h1 h2 => (hes j k' y e h1 (by simpa using h2)).1) with ⟨h1, h2, h3⟩ | ⟨j, y, e, h1, h2, h3, h4, h5⟩
          · refine ⟨kvs.length, es.push { key := .int .i64 ki, val := a.eval x, born := clock }, clock + 1, ?_, by simp [h3, hsz], fun i k y e hi he => ?_⟩
            · simp [execOp, ho, he, hkv, Instr.mapUpdate, run_underlying hu, run_getObj hb, run_checkKey' hku, Instr.findKey, run_underlying hku, h2, run_setObj hb]
            · rw [h3] at hi
              by_cases hil : i < kvs.length
              · rw [List.getElem?_append_left hil] at hi
                rw [Array.getElem?_push_lt (by omega)] at he
                have hee : es[i]? = some e := by rw [← he]; simp
                exact ⟨(hes i k y e hi hee).1, .inr ⟨hi, e, hee, rfl⟩⟩
              · have hieq : i = kvs.length := by
                  have := (List.getElem?_eq_some_iff.1 hi).1
                  simp at this; omega
                subst hieq
                simp at hi
                obtain ⟨rfl, rfl⟩ := hi
                rw [← hsz] at he
                simp at he
                subst he
                exact ⟨rfl, .inl ⟨rfl, rfl, rfl⟩⟩
          · have hje : es[j]? = some e := by simpa using h3
            have hke := (hes j ki y e h2 hje).1
            have hsame : ∀ w' : World, (Instr.keyThatStays (.int .i64 ki) (.int .i64 ki)).run P w' = .ok (.int .i64 ki) w' := by
              intro w'; simp [Instr.keyThatStays, Instr.sameBits]
            refine ⟨j, es.modify j fun e => { e with key := .int .i64 ki, val := a.eval x }, clock, ?_, by simp [h5, hsz], fun i k y2 e2 hi he2 => ?_⟩
            · simp only [Nat.zero_add] at h4
              simp [execOp, ho, he, hkv, Instr.mapUpdate, run_underlying hu, run_getObj hb, run_checkKey' hku, Instr.findKey, run_underlying hku, h4, hje, hke, hsame, run_setObj hb]
            · rw [h5] at hi
              rw [List.getElem?_set] at hi
              rw [Array.getElem?_modify] at he2
              by_cases hij : j = i
              · subst hij
                simp only [if_true] at hi he2
                split at hi
                · simp only [Option.some.injEq, Prod.mk.injEq] at hi
                  obtain ⟨rfl, rfl⟩ := hi
                  rw [hje] at he2
                  simp at he2
                  subst he2
                  exact ⟨rfl, .inl ⟨rfl, rfl, rfl⟩⟩
                · cases hi
              · rw [if_neg hij] at hi he2
                exact ⟨(hes i k y2 e2 hi he2).1, .inr ⟨hi, e2, he2, rfl⟩⟩
        obtain ⟨j, es', clock', hrun, hsz', hes'⟩ := key
        let ow2 := ow1.into id j
        have hB := oneB_set w b (.map es' clock')
        have hbl := heap_lt hb
        have hnew : ({ w with heap := w.heap.setIfInBounds b (.map es' clock') } : World).heap[b]? = some (.map es' clock') := by simp [hbl]
        have hX : Ext w g ow1 _ g ow2 := hB.ext (g := g) (ow := ow1) (ow' := ow2) (by simp [hbox]) (fun arr' e' fr h' => by rw [hb] at h'; cases h') g.φ (fun _ _ => rfl) (Nat.le_refl _) (fun q hq => Ow.into_none hq)
        have hne : ∀ q oo, ow1 q = some oo → oo ≠ .box id → q ≠ b := fun q oo hq hoo e => by
          subst e; rw [hbox] at hq; cases hq; exact hoo rfl
        refine ⟨undef, _, g, ow2, .inr ⟨hrun, rfl⟩, (Ext.ow hn).trans hX, ⟨hI1.sz, hI1.df, fun i => ?_, fun i ee hi => ?_, by simpa using hI1.N, fun q hq => ?_⟩, .p (.sc _)⟩
        · exact hB.repA hX (fun _ _ => rfl) (hI1.env i) fun path q hq => ⟨Ow.into_slot hq, hne q _ hq (by simp)⟩
        · rw [List.getElem?_set] at hi
          split at hi
          · rename_i hij
            subst hij
            split at hi
            · simp only [Option.some.injEq] at hi
              subst hi
              refine ⟨b, q, es', clock', hβ, Ow.into_box hbox, hnew, hsz', fun i k y e hy hee => ?_⟩
              obtain ⟨hkey, hor⟩ := hes' i k y e hy hee
              refine ⟨hkey, ?_⟩
              rcases hor with ⟨rfl, rfl, hval⟩ | ⟨hkv, e0, he0, hval⟩
              · rw [hval]
                exact hB.repA hX (fun _ _ => rfl) hr fun path q hq => ⟨Ow.into_acc hq, hne q _ hq (by simp)⟩
              · rw [← hval]
                exact hB.repA hX (fun _ _ => rfl) (hes i k y e0 hkv he0).2 fun path q hq => ⟨Ow.into_ent hq, hne q _ hq (by simp)⟩
            · cases hi
          · rename_i hij
            have hiN : i < g.N := by rw [hI1.N]; exact (List.getElem?_eq_some_iff.1 hi).1
            exact hB.repE hX (fun _ _ => rfl) hiN rfl (hI1.ent i ee hi) (by rw [hbox]; simpa using hij) (fun q _ hq => Ow.into_box hq) (fun q path hq => ⟨Ow.into_ent hq, hne q _ hq (by simp)⟩)
        · have : ow1 q ≠ none := fun h0 => hq (Ow.into_none h0)
          have := hI1.lt q this
          simpa using this
      · cases hs
    · cases hs

end
end Go.Ab
