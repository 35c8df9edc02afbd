/- What the machine does at operations without memory of their own, against the abstract meaning. -/
import Derived.Test.YtipepkfioecbmaaDoorAb3
set_option linter.unusedVariables false
set_option linter.unusedSimpArgs false
namespace Go.Ab

def Ran (P : Program) (o : Oper) (a : Act) (w : World) (x : Value) (w' : World) : Prop :=
  (execOp a.eval o).run P w = .ok (.value x) w' ∨ ((execOp a.eval o).run P w = .ok .skip w' ∧ x = undef)

def OpOk (P : Program) (o : Oper) (w : World) (g : Gm) (ow : Ow) (n : Nat) (a : Act) (st' : St) (v : AV) : Prop :=
  ∃ x w' g' ow', Ran P o a w x w' ∧ Ext w g ow w' g' ow' ∧ Inv w' g' ow' n a st' ∧ RepA w' g' (fun path b => ow' b = some (.acc path)) v x

abbrev Free : List Nat → Nat → Prop := fun _ _ => False

theorem RepA.free {w : World} {g : Gm} {own : List Nat → Nat → Prop} {x : AV} {v : Value} (h : RepA w g Free x v) : RepA w g own x v := h.mono fun _ _ h => h.elim

theorem OpOk.pure {P : Program} {o : Oper} {w : World} {g : Gm} {ow : Ow} {n : Nat} {a : Act} {st : St} {v : AV} {x : Value} (hI : Inv w g ow n a st)
    (hr : (execOp a.eval o).run P w = .ok (.value x) w) (hv : RepA w g Free v x) : OpOk P o w g ow n a st v :=
  ⟨x, w, g, ow, .inl hr, Ext.refl w g ow, hI, hv.free⟩

/-! ### Reading values off -/
theorem RepA.sc {w : World} {g : Gm} {own : List Nat → Nat → Prop} {u v : Value} (h : RepA w g own (.p (.sc u)) v) : v = u := by
  cases h with
  | p h => cases h; rfl

theorem AV.sc?_eq {x : AV} {v : Value} (h : x.sc? = some v) : x = .p (.sc v) := by
  unfold AV.sc? at h
  split at h <;> simp_all

theorem rd_sc {w : World} {g : Gm} {ow : Ow} {n : Nat} {a : Act} {st : St} (hI : Inv w g ow n a st) {x : Operand} {v : Value} (h : rd st.env x = .p (.sc v)) : a.eval x = v := by
  obtain ⟨own, hr⟩ := rd_ok hI x
  rw [h] at hr
  exact hr.sc

theorem RepA.nz {P : Program} {t : TypeId} {w : World} {g : Gm} {own : List Nat → Nat → Prop} {x : AV} {v : Value} (h : RepA w g own x v) : RepA w g own (nz P t x) v := by
  unfold Go.Ab.nz
  split
  · split
    · have := h.sc; subst this; exact .own0 _ _
    · exact h
  · exact h

/-! ### Types -/
theorem slT_eq {P : Program} {t e : TypeId} {s b : Nat} {z : List Value} (h : slT P t = some (e, s, b, z)) :
    P.underlying t = some (.slice e) ∧ ∃ i zv, P.info? e = some i ∧ i.zero = some zv ∧ i.size = s ∧ i.bytes = b ∧ zv.cells.toList = z := by
  unfold slT at h
  split at h
  · rename_i e' he
    split at h
    · rename_i i hi
      split at h
      · rename_i zv hz
        split at h
        · simp only [Option.some.injEq, Prod.mk.injEq] at h
          obtain ⟨rfl, rfl, rfl, rfl⟩ := h
          exact ⟨he, i, zv, hi, hz, rfl, rfl, rfl⟩
        · cases h
      · cases h
    · cases h
  · cases h

theorem slT_len {P : Program} {t e : TypeId} {s b : Nat} {z : List Value} (h : slT P t = some (e, s, b, z)) : z.length = s := by
  unfold slT at h
  split at h
  · split at h
    · split at h
      · split at h
        · rename_i hz
          simp only [Option.some.injEq, Prod.mk.injEq] at h
          obtain ⟨rfl, rfl, rfl, rfl⟩ := h
          simpa using hz
        · cases h
      · cases h
    · cases h
  · cases h

def isAgD : TypeDesc → Bool
  | .struct _ | .array _ _ => true
  | _ => false

theorem agT_eq {P : Program} {t : TypeId} {b : Bool} {n : Nat} (h : agT P t = some (b, n)) : ∃ d i, P.underlying t = some d ∧ P.info? t = some i ∧ i.size = n ∧ isAgD d = b := by
  unfold agT at h
  split at h
  · rename_i hd hi; simp only [Option.some.injEq, Prod.mk.injEq] at h; exact ⟨_, _, hd, hi, h.2, by simpa [isAgD] using h.1⟩
  · rename_i hd hi; simp only [Option.some.injEq, Prod.mk.injEq] at h; exact ⟨_, _, hd, hi, h.2, by simpa [isAgD] using h.1⟩
  · rename_i d i h1 h2 hd hi
    simp only [Option.some.injEq, Prod.mk.injEq] at h
    refine ⟨_, _, hd, hi, h.2, ?_⟩
    rw [← h.1]
    cases d <;> simp [isAgD] <;> first | exact (h1 _ rfl).elim | exact (h2 _ _ rfl).elim | skip
  · cases h

theorem run_isAgg {P : Program} {t : TypeId} {d : TypeDesc} (w : World) (h : P.underlying t = some d) : (isAgg t).run P w = .ok (isAgD d) w := by
  cases d <;> simp [isAgg, run_underlying h, isAgD]

theorem run_sizeOf' {P : Program} {t : TypeId} {i : TypeInfo} (w : World) (h : P.info? t = some i) : (sizeOf t).run P w = .ok i.size w := by
  simp [sizeOf, typeInfo, h]

/-! ### Operations without memory -/
section
variable {P : Program} {H : Hint} {o : Oper} {w : World} {g : Gm} {ow : Ow} {n : Nat} {a : Act} {st st' : St} {v : AV}

theorem mov_ok {tk : Bool} {x : Operand} (hI : Inv w g ow n a st) (ho : (execOp a.eval o).run P w = .ok (.value (a.eval x)) w) {u : AV} (h : grab tk x st = (u, st')) :
    OpOk P o w g ow n a st' (nz P o.type u) := by
  obtain ⟨ow', h1, h2, h3, _⟩ := grab_ok hI h
  exact ⟨_, w, g, ow', .inl ho, Ext.ow h3, h1, h2.nz⟩

theorem pick_ok {c x y : Operand} (hI : Inv w g ow n a st) (ho : o.op = .pick c x y) (h : opF P H o st = some (v, st')) : OpOk P o w g ow n a st' v := by
  simp only [opF, ho] at h
  split at h
  · rename_i b hc
    simp only [Option.some.injEq, Prod.mk.injEq] at h
    obtain ⟨rfl, rfl⟩ := h
    have hcv := rd_sc hI hc
    obtain ⟨own, hr⟩ := rd_ok hI (if b then x else y)
    refine OpOk.pure hI (x := a.eval (if b then x else y)) ?_ hr.dem
    cases b <;> simp [execOp, ho, hcv, asBool]
  · cases h

theorem equalIn_bool {t : TypeId} (h : P.underlying t = some .bool) (d : Nat) (x y : Bool) (w : World) : (Op.equalIn (d + 1) t (.bool x) (.bool y)).run P w = .ok (x == y) w := by
  simp [Op.equalIn, run_underlying h]

theorem equal_bool {t : TypeId} (h : P.underlying t = some .bool) (x y : Bool) (w : World) : (Op.equal t (.bool x) (.bool y)).run P w = .ok (x == y) w :=
  equalIn_bool h 9999 x y w

theorem boolT_eq {t : TypeId} (h : boolT P t = true) : P.underlying t = some .bool := by
  unfold boolT at h
  split at h <;> simp_all

theorem bin_ok {op : BinOp} {t : TypeId} {x y r : Value} (h : bin P op t x y = some r) (X Y : Operand) (w : World) :
    (do eqGuard op t X Y x y; binOp op t x y : Sem Value).run P w = .ok r w := by
  unfold bin at h
  split at h <;> (try split at h) <;> (try split at h) <;> (try (cases h; done)) <;> (simp only [Option.some.injEq] at h; subst h)
  all_goals first
    | (simp_all [eqGuard, binOp, Op.shift, Op.intArith, Op.intDiv, Op.intBits, Op.intCmp]; done)
    | (simp_all [eqGuard, binOp, Op.shift]; omega)
    | skip
  · subst_vars; simp only [eqGuard, binOp, Op.intCmp]; simp; rfl
  · subst_vars; simp only [eqGuard, binOp, Op.intCmp]; simp; rfl
  · rename_i hb; simp only [eqGuard, binOp]; simp [equal_bool (boolT_eq hb)]
  · rename_i hb; simp only [eqGuard, binOp]; simp [equal_bool (boolT_eq hb), bne]

theorem un_op_ok {op : UnOp} {t : TypeId} {x : Operand} (hI : Inv w g ow n a st) (ho : o.op = .unOp op t x) (h : opF P H o st = some (v, st')) : OpOk P o w g ow n a st' v := by
  simp only [opF, ho] at h
  split at h
  · rename_i p hp
    have hx := rd_sc hI (AV.sc?_eq hp)
    simp only [only, Option.map_map, Option.map_eq_some_iff, Function.comp] at h
    obtain ⟨r, hr, h⟩ := h
    simp only [Prod.mk.injEq] at h
    obtain ⟨rfl, rfl⟩ := h
    refine OpOk.pure hI (x := r) ?_ (.p (.sc r))
    unfold una at hr
    split at hr <;> (try (cases hr; done)) <;> (simp only [Option.some.injEq] at hr; subst hr) <;> simp [execOp, ho, hx, Op.unary, Op.intArith]
  · cases h

theorem conv_ok {t d : TypeId} {x : Operand} (hI : Inv w g ow n a st) (ho : o.op = .convert t d x) (h : opF P H o st = some (v, st')) : OpOk P o w g ow n a st' v := by
  simp only [opF, ho] at h
  split at h
  · rename_i k0 k k' q hk0 hk hq
    have hs : (P.underlying t).isSome = true := by
      unfold inT at hk0
      split at hk0 <;> simp_all
    have hx := rd_sc hI hq
    simp only [Option.some.injEq, Prod.mk.injEq] at h
    obtain ⟨rfl, rfl⟩ := h
    have hu : P.underlying d = some (.int k) := by
      unfold inT at hk
      split at hk <;> simp_all
    obtain ⟨td, ht⟩ := Option.isSome_iff_exists.1 hs
    refine OpOk.pure hI (x := .int k (k.wrap q)) ?_ (.p (.sc _))
    simp [execOp, ho, hx, convert, run_underlying hu, run_underlying ht, Conv.intToInt]
  · cases h

theorem RepA.ref_inv {own : List Nat → Nat → Prop} {id ver off : Nat} {x : Value} (h : RepA w g own (.ref id ver off) x) :
    ∃ b k, id < g.N ∧ ver ≤ g.V id ∧ g.β id ver = some (b, k) ∧ x = .pointer (some ⟨b, k + off, none⟩) := by
  cases h with
  | ref _ _ _ b k hi hV hβ => exact ⟨b, k, hi, hV, hβ, rfl⟩

theorem RepA.cptr_ptr {own : List Nat → Nat → Prop} {y : PV} {x : Value} (h : RepA w g own (.cptr y) x) : ∃ b k, x = .pointer (some ⟨b, k, none⟩) := by
  cases h with
  | cptr1 _ b k => exact ⟨b, k, rfl⟩
  | cptrA _ b k => exact ⟨b, k, rfl⟩

theorem RepA.fn_inv {own : List Nat → Nat → Prop} {f : Fn} {xs ys : List AV} {x : Value} (h : RepA w g own (.fn f xs ys) x) :
    ∃ us vs : List Value, x = .func f us.toArray vs.toArray ∧ xs.length = us.length ∧ ys.length = vs.length ∧
      (∀ (i : Nat) y v, xs[i]? = some y → us[i]? = some v → RepA w g Free y v) ∧ (∀ (i : Nat) y v, ys[i]? = some y → vs[i]? = some v → RepA w g Free y v) := by
  cases h with
  | fn _ _ _ us vs hl hk hx hy => exact ⟨us, vs, rfl, hl, hk, hx, hy⟩

theorem nilCheck_ok {x : Operand} (hI : Inv w g ow n a st) (ho : o.op = .nilCheck x) (h : opF P H o st = some (v, st')) : OpOk P o w g ow n a st' v := by
  simp only [opF, ho] at h
  obtain ⟨own, hr⟩ := rd_ok hI x
  split at h
  · rename_i i vr f hx
    simp only [Option.some.injEq, Prod.mk.injEq] at h
    obtain ⟨rfl, rfl⟩ := h
    rw [hx] at hr
    obtain ⟨b, k, _, _, _, he⟩ := hr.ref_inv
    exact OpOk.pure hI (x := a.eval x) (by simp [execOp, ho, he]) (hr.dem (own' := Free))
  · rename_i y hx
    simp only [Option.some.injEq, Prod.mk.injEq] at h
    obtain ⟨rfl, rfl⟩ := h
    rw [hx] at hr
    obtain ⟨b, k, he⟩ := hr.cptr_ptr
    exact OpOk.pure hI (x := a.eval x) (by simp [execOp, ho, he]) (hr.dem (own' := Free))
  · rename_i f b c hx
    simp only [Option.some.injEq, Prod.mk.injEq] at h
    obtain ⟨rfl, rfl⟩ := h
    rw [hx] at hr
    obtain ⟨us, vs, he, _⟩ := hr.fn_inv
    exact OpOk.pure hI (x := a.eval x) (by simp [execOp, ho, he]) (hr.dem (own' := Free))
  · cases h

theorem makeFunc_ok {f : Fn} {xs ys : Array Operand} (hI : Inv w g ow n a st) (ho : o.op = .makeFunc f xs ys) (h : opF P H o st = some (v, st')) : OpOk P o w g ow n a st' v := by
  simp only [opF, ho, Option.some.injEq, Prod.mk.injEq] at h
  obtain ⟨rfl, rfl⟩ := h
  refine OpOk.pure hI (x := .func f (xs.toList.map a.eval).toArray (ys.toList.map a.eval).toArray) ?_ ?_
  · have e1 : xs.map a.eval = (xs.toList.map a.eval).toArray := by rw [← List.map_toArray]
    have e2 : ys.map a.eval = (ys.toList.map a.eval).toArray := by rw [← List.map_toArray]
    simp only [execOp, ho, Instr.makeFunc]
    rw [e1, e2]
    rfl
  · have aux : ∀ (l : List Operand) (i : Nat) y v, (l.map fun x => (rd st.env x).dem)[i]? = some y → (l.map a.eval)[i]? = some v → RepA w g Free y v := by
      intro l i y v h1 h2
      rw [List.getElem?_map, Option.map_eq_some_iff] at h1 h2
      obtain ⟨x, hx, rfl⟩ := h1
      obtain ⟨x', hx', rfl⟩ := h2
      rw [hx] at hx'
      cases hx'
      obtain ⟨own, hr⟩ := rd_ok hI x
      exact hr.dem
    exact .fn f _ _ _ _ (by simp) (by simp) (aux _) (aux _)

theorem add_at (b k j : Nat) : (⟨b, k, none⟩ : Addr).add j = ⟨b, k + j, none⟩ := by unfold Addr.add; split <;> simp_all

theorem flT_eq {t : TypeId} {f k m : Nat} {isA : Bool} (h : flT P t f = some (k, isA, m)) :
    ∃ (fs : Array Field) (fl : Field), P.underlying t = some (.struct fs) ∧ fs[f]? = some fl ∧ fl.offset = k ∧ agT P fl.type = some (isA, m) ∧ m ≠ 0 := by
  unfold flT at h
  split at h
  · rename_i fs hfs
    split at h
    · rename_i fl hfl
      split at h
      · rename_i b' n' hag
        split at h
        · cases h
        · rename_i hn
          simp only [Option.some.injEq, Prod.mk.injEq] at h
          obtain ⟨rfl, rfl, rfl⟩ := h
          exact ⟨fs, fl, hfs, hfl, rfl, hag, hn⟩
      · cases h
    · cases h
  · cases h

theorem run_fieldAt {t : TypeId} {f k m : Nat} {isA : Bool} (h : flT P t f = some (k, isA, m)) (b q : Nat) (w : World) :
    (Instr.fieldAt t (.pointer (some ⟨b, q, none⟩)) f).run P w = .ok (.pointer (some ⟨b, q + k, none⟩)) w := by
  obtain ⟨fs, fl, hu, hf, hk, hag, hm⟩ := flT_eq h
  obtain ⟨d, i, hd, hi, hs, _⟩ := agT_eq hag
  have : i.size ≠ 0 := by rw [hs]; exact hm
  simp [Instr.fieldAt, run_underlying hu, hf, Instr.sureAddr, fieldPlace, run_sizeOf' _ hi, this, add_at, hk]

theorem fldA_ok {t : TypeId} {x : Operand} {f : Nat} (hI : Inv w g ow n a st) (ho : o.op = .fieldAddr t x f) (h : opF P H o st = some (v, st')) : OpOk P o w g ow n a st' v := by
  simp only [opF, ho, only, Option.map_eq_some_iff, Prod.mk.injEq] at h
  obtain ⟨u, hu, rfl, rfl⟩ := h
  obtain ⟨own, hr⟩ := rd_ok hI x
  unfold fldA at hu
  split at hu
  · cases hu
  · rename_i k isA m hfl
    split at hu
    · rename_i id ver off hx
      simp only [Option.some.injEq] at hu
      subst hu
      rw [hx] at hr
      obtain ⟨b, q, h1, h2, h3, he⟩ := hr.ref_inv
      refine OpOk.pure hI (x := .pointer (some ⟨b, q + (off + k), none⟩)) ?_ (.ref _ _ _ _ _ h1 h2 h3)
      simp [execOp, ho, he, run_fieldAt hfl, Nat.add_assoc]
    · rename_i cs hx
      rw [hx] at hr
      cases hr' : a.eval x with
      | pointer ad =>
        rw [hr'] at hr
        cases hr with
        | cptr1 _ b q _ hx' => exact absurd rfl (hx' cs)
        | cptrA _ b q val h0 hφ hv h1 hrr =>
          have hrun : (execOp a.eval o).run P w = .ok (.value (.pointer (some ⟨b, q + k, none⟩))) w := by simp [execOp, ho, hr', run_fieldAt hfl]
          obtain ⟨fs, fl, _, _, _, hag, hm⟩ := flT_eq hfl
          split at hu
          · split at hu
            · rename_i hle
              simp only [Option.some.injEq] at hu
              subst hu
              refine OpOk.pure hI hrun (.cptrA _ b (q + k) (fun j => val (k + j)) ?_ ?_ ?_ ?_ ?_)
              · intro hnil
                have : ((cs.drop k).take m).length = m := by simp; omega
                rw [hnil] at this; simp at this; omega
              · simp; omega
              · intro j y hy
                rw [List.getElem?_take] at hy
                split at hy
                · rw [List.getElem?_drop] at hy
                  have := hv _ _ hy
                  rwa [← Nat.add_assoc] at this
                · cases hy
              · intro j y hy
                rw [List.getElem?_take] at hy
                split at hy
                · rw [List.getElem?_drop] at hy; exact h1 _ _ hy
                · cases hy
              · intro j y hy
                rw [List.getElem?_take] at hy
                split at hy
                · rw [List.getElem?_drop] at hy; exact hrr _ _ hy
                · cases hy
            · cases hu
          · split at hu
            · cases hu
            · rename_i c hnag hc
              simp only [Option.some.injEq] at hu
              subst hu
              have hlt : k < cs.length := (List.getElem?_eq_some_iff.1 hc).1
              exact OpOk.pure hI hrun (.cptr1 c b (q + k) (val k) (fun cs' e => hnag cs' (by rw [e])) (hv _ _ hc) (h1 _ _ hc) (by omega) (hrr _ _ hc))
            · cases hu
      | _ => rw [hr'] at hr; cases hr
    · cases hu

/-- Parts of a value of cells. -/
theorem RepA.ag_inv {own : List Nat → Nat → Prop} {cs : List AV} {x : Value} (h : RepA w g own (.ag cs) x) :
    ∃ vs : List Value, x = .agg vs.toArray ∧ cs.length = vs.length ∧ ∀ (i : Nat) y v, cs[i]? = some y → vs[i]? = some v → RepA w g (fun path b => own (i :: path) b) y v := by
  cases h with
  | ag _ vs hl hr => exact ⟨vs, rfl, hl, hr⟩

theorem RepP.ag_inv {φ : Nat → Nat} {cs : List PV} {x : Value} (h : RepP w φ (.ag cs) x) :
    ∃ vs : List Value, x = .agg vs.toArray ∧ cs.length = vs.length ∧ ∀ (i : Nat) y v, cs[i]? = some y → vs[i]? = some v → RepP w φ y v := by
  cases h with
  | ag _ vs hl hr => exact ⟨vs, rfl, hl, hr⟩

/-- Either form of a value of cells. -/
theorem cells_inv {own : List Nat → Nat → Prop} {u : AV} {cs : List AV} {x : Value} (h : RepA w g own u x) (hu : u = .ag cs ∨ ∃ ds, u = .p (.ag ds) ∧ cs = ds.map .p) :
    ∃ vs : List Value, x = .agg vs.toArray ∧ cs.length = vs.length ∧ ∀ (i : Nat) y v, cs[i]? = some y → vs[i]? = some v → RepA w g (fun path b => own (i :: path) b) y v := by
  rcases hu with rfl | ⟨ds, rfl, rfl⟩
  · exact h.ag_inv
  · cases h with
    | p h =>
      obtain ⟨vs, h1, h2, h3⟩ := h.ag_inv
      refine ⟨vs, h1, by simpa using h2, fun i y v hy hv => ?_⟩
      rw [List.getElem?_map, Option.map_eq_some_iff] at hy
      obtain ⟨z, hz, rfl⟩ := hy
      exact .p (h3 i z v hz hv)

theorem run_part {t : TypeId} {isA : Bool} {m k : Nat} {cs : List AV} {u : AV} {own : List Nat → Nat → Prop} {vs : List Value} (hag : agT P t = some (isA, m)) (hl : cs.length = vs.length)
    (hr : ∀ (i : Nat) y v, cs[i]? = some y → vs[i]? = some v → RepA w g (fun path b => own (i :: path) b) y v) (h : partA isA cs k m = some u) (w' : World) :
    ∃ x, (part t vs.toArray k).run P w' = .ok x w' ∧ RepA w g Free u.dem x := by
  obtain ⟨d, i, hd, hi, hs, hA⟩ := agT_eq hag
  unfold partA at h
  split at h
  · rename_i hT
    split at h
    · rename_i hle
      simp only [Option.some.injEq] at h
      subst h
      refine ⟨.agg ((vs.drop k).take m).toArray, ?_, ?_⟩
      · have e : vs.toArray.extract k (k + m) = ((vs.drop k).take m).toArray := by
          apply Array.ext'
          simp [List.take_drop, Nat.add_comm]
        simp [part, run_isAgg w' hd, hA, hT, run_sizeOf' w' hi, hs, e]
      · simp only [AV.dem, AV.demL_eq]
        refine .ag _ _ (by simp; omega) (fun j y v hy hv => ?_)
        rw [List.getElem?_map, Option.map_eq_some_iff] at hy
        obtain ⟨z, hz, rfl⟩ := hy
        rw [List.getElem?_take] at hz hv
        split at hz
        · rename_i hj
          rw [if_pos hj] at hv
          rw [List.getElem?_drop] at hz hv
          exact (hr _ _ _ hz hv).dem
        · cases hz
    · cases h
  · rename_i hT
    have hk : k < vs.length := by rw [← hl]; exact (List.getElem?_eq_some_iff.1 h).1
    refine ⟨vs[k], ?_, (hr k u vs[k] h (by simp [hk])).dem⟩
    have hT' : isA = false := by simpa using hT
    simp [part, run_isAgg w' hd, hA, hT', hk]

theorem field_ok {t : TypeId} {x : Operand} {f : Nat} (hI : Inv w g ow n a st) (ho : o.op = .field t x f) (h : opF P H o st = some (v, st')) : OpOk P o w g ow n a st' v := by
  simp only [opF, ho, only, Option.map_map, Option.map_eq_some_iff, Function.comp, Prod.mk.injEq] at h
  obtain ⟨u, hu, rfl, rfl⟩ := h
  obtain ⟨own, hr⟩ := rd_ok hI x
  unfold fieldA at hu
  split at hu
  · cases hu
  · rename_i k isA m hfl
    obtain ⟨fs, fl, hut, hf, hk, hag, hm⟩ := flT_eq hfl
    have key : ∀ cs, (rd st.env x = .ag cs ∨ ∃ ds, rd st.env x = .p (.ag ds) ∧ cs = ds.map .p) → partA isA cs k m = some u → OpOk P o w g ow n a st (nz P o.type u.dem) := by
      intro cs hx hp
      obtain ⟨vs, he, hl, hr⟩ := cells_inv hr hx
      obtain ⟨y, hrun, hy⟩ := run_part hag hl hr hp w
      refine OpOk.pure hI (x := y) ?_ hy.nz
      simp [execOp, ho, he, Instr.field, run_underlying hut, hf, asAgg, hk, hrun]
    split at hu
    · rename_i cs hx; exact key cs (.inl hx) hu
    · rename_i cs hx; exact key _ (.inr ⟨cs, hx, rfl⟩) hu
    · cases hu

theorem arT_eq {t : TypeId} {k m : Nat} {isA : Bool} (h : arT P t = some (k, isA, m)) : ∃ e, P.underlying t = some (.array k e) ∧ agT P e = some (isA, m) := by
  unfold arT at h
  split at h
  · rename_i q e he
    split at h
    · rename_i hag
      simp only [Option.some.injEq, Prod.mk.injEq] at h
      obtain ⟨rfl, rfl, rfl⟩ := h
      exact ⟨e, he, hag⟩
    · cases h
  · cases h

theorem index_ok {t : TypeId} {x i : Operand} (hI : Inv w g ow n a st) (ho : o.op = .index t x i) (h : opF P H o st = some (v, st')) : OpOk P o w g ow n a st' v := by
  simp only [opF, ho, only, Option.map_map, Option.map_eq_some_iff, Function.comp, Prod.mk.injEq] at h
  obtain ⟨u, hu, rfl, rfl⟩ := h
  obtain ⟨own, hr⟩ := rd_ok hI x
  unfold indexA at hu
  split at hu
  · rename_i kk q hi
    have hiv := rd_sc hI hi
    split at hu
    · rename_i len isA m har
      obtain ⟨e, hut, hag⟩ := arT_eq har
      obtain ⟨d, inf, hd, hinf, hs, hA⟩ := agT_eq hag
      split at hu
      · rename_i hq
        have key : ∀ cs, (rd st.env x = .ag cs ∨ ∃ ds, rd st.env x = .p (.ag ds) ∧ cs = ds.map .p) → partA isA cs (q.toNat * m) m = some u → OpOk P o w g ow n a st (nz P o.type u.dem) := by
          intro cs hx hp
          obtain ⟨vs, he, hl, hr⟩ := cells_inv hr hx
          obtain ⟨y, hrun, hy⟩ := run_part hag hl hr hp w
          refine OpOk.pure hI (x := y) ?_ hy.nz
          simp [execOp, ho, he, hiv, Instr.index, asIntOf, run_underlying hut, hq.1, hq.2, run_sizeOf' w hinf, hs, hrun]
        split at hu
        · rename_i cs hx; exact key cs (.inl hx) hu
        · rename_i cs hx; exact key _ (.inr ⟨cs, hx, rfl⟩) hu
        · cases hu
      · cases hu
    · cases hu
  · cases hu

/-- The elements of a slice that is read. -/
theorem RepA.elems {own : List Nat → Nat → Prop} {u : AV} {s : Nat} {xs : List PV} {x : Value} (h : RepA w g own u x) (hu : elemsOf u = some (s, xs)) : RepP w g.φ (.sl s xs) x := by
  unfold elemsOf at hu
  split at hu <;> (try cases hu)
  · cases h with
    | p h => exact h
  · cases h with
    | own0 s a => exact .nil s a 0
    | ownX _ _ _ _ _ _ _ _ _ _ _ _ _ hr => exact hr
  · cases h with
    | tgt _ _ _ hr => exact hr

theorem RepP.sl_form {φ : Nat → Nat} {s : Nat} {xs : List PV} {x : Value} (h : RepP w φ (.sl s xs) x) : ∃ ad c, x = .slice ad xs.length c ∧ xs.length ≤ c := by
  cases h with
  | nil s ad c => exact ⟨ad, c, rfl, Nat.zero_le _⟩
  | sl _ _ b k c _ _ _ hc => exact ⟨_, c, rfl, hc⟩

theorem run_indexAt {t e : TypeId} {s bb : Nat} {z : List Value} (hT : slT P t = some (e, s, bb, z)) {ad : Addr} {len c : Nat} {kk : IntKind} {q : Int} (h0 : 0 ≤ q) (h1 : q < len) (w : World) :
    (Instr.indexAt t (.slice (some ad) len c) (.int kk q)).run P w = .ok (.pointer (some (ad.add (q.toNat * s)))) w := by
  obtain ⟨hu, i, zv, hi, _, hs, _⟩ := slT_eq hT
  simp [Instr.indexAt, asIntOf, run_underlying hu, h0, h1, run_sizeOf' w hi, hs]

theorem bin_op_ok {op : BinOp} {t ty : TypeId} {x y : Operand} (hI : Inv w g ow n a st) (ho : o.op = .binOp op t x y ty) (h : opF P H o st = some (v, st')) : OpOk P o w g ow n a st' v := by
  simp only [opF, ho] at h
  split at h
  · rename_i p q hp hq
    have hx := rd_sc hI (AV.sc?_eq hp)
    have hy := rd_sc hI (AV.sc?_eq hq)
    simp only [only, Option.map_map, Option.map_eq_some_iff, Function.comp] at h
    obtain ⟨r, hr, h⟩ := h
    simp only [Prod.mk.injEq] at h
    obtain ⟨rfl, rfl⟩ := h
    refine OpOk.pure hI (x := r) ?_ (.p (.sc r))
    have := bin_ok hr x y w
    simp only [execOp, ho, hx, hy]
    simp only [Sem.run_bind] at this ⊢
    rw [this]
    rfl
  · simp only [only, Option.map_eq_some_iff, Prod.mk.injEq] at h
    obtain ⟨u, hu, rfl, rfl⟩ := h
    unfold nilQ at hu
    split at hu
    · rename_i T hT hy0
      obtain ⟨e, s, b, z⟩ := T
      have hut : ∃ q, P.underlying t = some (.slice q) := by
        unfold slT at hT
        split at hT
        · rename_i q hq; exact ⟨q, hq⟩
        · cases hT
      obtain ⟨q, hq⟩ := hut
      have hy := rd_sc hI hy0
      split at hu
      · rename_i s' x0 xs hx
        obtain ⟨own, hr⟩ := rd_ok hI x
        have hp := hr.elems hx
        obtain ⟨bb, o', c, hv⟩ : ∃ bb o' c, a.eval x = .slice (some ⟨bb, o', none⟩) (x0 :: xs).length c := by
          cases hxe : a.eval x <;> rw [hxe] at hp <;> cases hp
          exact ⟨_, _, _, rfl⟩
        have heq : ∀ d, (Op.equalIn (d + 1) t (.slice (some ⟨bb, o', none⟩) (x0 :: xs).length c) (.slice none 0 0)).run P w = .ok false w := by
          intro d
          simp [Op.equalIn, run_underlying hq]
        have heq : (Op.equal t (.slice (some ⟨bb, o', none⟩) (x0 :: xs).length c) (.slice none 0 0)).run P w = .ok false w := heq 9999
        split at hu
        · simp only [Option.some.injEq] at hu
          subst hu
          refine OpOk.pure hI (x := .bool false) ?_ (.p (.sc _))
          simp only [execOp, ho, hv, hy, eqGuard, binOp]
          simp only [Sem.run_bind, Sem.run_pure, Result.andThen_ok, Bool.not_true, Bool.false_eq_true, if_false, heq] <;> simp [heq]
        · simp only [Option.some.injEq] at hu
          subst hu
          refine OpOk.pure hI (x := .bool true) ?_ (.p (.sc _))
          simp only [execOp, ho, hv, hy, eqGuard, binOp]
          simp only [Sem.run_bind, Sem.run_pure, Result.andThen_ok, Bool.not_true, Bool.false_eq_true, if_false, heq] <;> simp [heq]
        · cases hu
      · cases hu
    · cases hu

theorem idxA_ok {t : TypeId} {x i : Operand} (hI : Inv w g ow n a st) (ho : o.op = .indexAddr t x i) (hx0 : ∀ v, x ≠ .global v) (h : opF P H o st = some (v, st')) : OpOk P o w g ow n a st' v := by
  have h0 : opF P H o st = only st (idxA P t (rd st.env x) (rd st.env i)) := by
    simp only [opF, ho]
  rw [h0] at h
  simp only [only, Option.map_eq_some_iff, Prod.mk.injEq] at h
  obtain ⟨u, hu, rfl, rfl⟩ := h
  obtain ⟨own, hr⟩ := rd_ok hI x
  unfold idxA at hu
  split at hu
  · rename_i kk q hi
    have hiv := rd_sc hI hi
    split at hu
    · -- an array of the call's own
      rename_i s id ver off len hx
      rw [hx] at hr
      split at hu
      · rename_i e s' bb z hT
        split at hu
        · rename_i hq
          simp only [Option.some.injEq] at hu
          subst hu
          obtain ⟨rfl, h0, h1⟩ := hq
          cases hxv : a.eval x with
          | slice ad l c =>
            rw [hxv] at hr
            cases hr with
            | arr _ _ _ _ _ b k _ arr e' hid hV hβ hb hz hc =>
              refine OpOk.pure hI (x := .pointer (some ⟨b, k + (off + q.toNat * s), none⟩)) ?_ (.ref _ _ _ _ _ hid hV hβ)
              simp [execOp, ho, hxv, hiv, run_indexAt hT h0 h1, add_at, Nat.add_assoc]
            | arr0 => omega
          | _ => rw [hxv] at hr; cases hr
        · cases hu
      · cases hu
    · -- a pointer to an array
      rename_i id ver off hx
      rw [hx] at hr
      split at hu
      · rename_i len isA m har
        split at hu
        · rename_i hq
          simp only [Option.some.injEq] at hu
          subst hu
          obtain ⟨e, hut, hag⟩ := arT_eq har
          obtain ⟨d, inf, hd, hinf, hs, hA⟩ := agT_eq hag
          obtain ⟨b, k, h1, h2, h3, he⟩ := hr.ref_inv
          refine OpOk.pure hI (x := .pointer (some ⟨b, k + (off + q.toNat * m), none⟩)) ?_ (.ref _ _ _ _ _ h1 h2 h3)
          simp [execOp, ho, he, hiv, Instr.indexAt, asIntOf, run_underlying hut, Instr.sureAddr, hq.1, hq.2, run_sizeOf' w hinf, hs, add_at, Nat.add_assoc]
        · cases hu
      · cases hu
    · -- what is read
      split at hu
      · rename_i e s' bb z s xs hT hel
        split at hu
        · rename_i hq
          obtain ⟨rfl, h0, h1⟩ := hq
          have hp := hr.elems hel
          rw [Option.map_eq_some_iff] at hu
          obtain ⟨y, hy, rfl⟩ := hu
          cases hxv : a.eval x with
          | slice ad l c =>
            rw [hxv] at hp
            cases hp with
            | nil => simp at hy
            | sl _ _ b k _ val hne hs hc hφ hl hv h1v hrr =>
              have hrun : (execOp a.eval o).run P w = .ok (.value (.pointer (some ⟨b, k + q.toNat * s, none⟩))) w := by
                simp [execOp, ho, hxv, hiv, run_indexAt hT h0 h1, add_at]
              have hle : q.toNat < xs.length := (List.getElem?_eq_some_iff.1 hy).1
              have hmul : (q.toNat + 1) * s ≤ xs.length * s := Nat.mul_le_mul_right s hle
              rw [Nat.succ_mul] at hmul
              have hcl := hl _ _ hy
              by_cases hag : ∃ cs, y = .ag cs
              · obtain ⟨cs, rfl⟩ := hag
                simp only [PV.cells] at hcl
                refine OpOk.pure hI hrun (.cptrA cs b _ (val q.toNat) ?_ (by omega) (fun j z hz => hv _ _ j z hy hz) (fun j z hz => h1v _ _ j z hy hz) (fun j z hz => hrr _ _ j z hy hz))
                intro h0; rw [h0] at hcl; simp at hcl; omega
              · have hone : y.cells = [y] := by cases y <;> first | rfl | exact absurd ⟨_, rfl⟩ hag
                have h0c : y.cells[0]? = some y := by rw [hone]; rfl
                exact OpOk.pure hI hrun (.cptr1 y b _ (val q.toNat 0) (fun cs e => hag ⟨cs, e⟩) (hv _ _ 0 y hy h0c) (h1v _ _ 0 y hy h0c) (by omega) (hrr _ _ 0 y hy h0c))
          | _ => rw [hxv] at hp; cases hp
        · cases hu
      · cases hu
  · cases hu

theorem extract_ok {x : Operand} {i : Nat} (hI : Inv w g ow n a st) (ho : o.op = .extract x i) (h : opF P H o st = some (v, st')) : OpOk P o w g ow n a st' v := by
  simp only [opF, ho] at h
  split at h
  · rename_i t
    split at h
    · rename_i vs ht
      split at h
      · rename_i u hu
        simp only [Option.some.injEq, Prod.mk.injEq] at h
        obtain ⟨rfl, rfl⟩ := h
        have henv := hI.env t
        rw [ht] at henv
        cases hx : a.tmps.getD t undef with
        | tuple xs =>
          rw [hx] at henv
          cases henv with
          | tu _ xs hl hr =>
            have hi : i < xs.length := by rw [← hl]; exact (List.getElem?_eq_some_iff.1 hu).1
            let ow' : Ow := fun b => match ow b with
              | some (.slot j (k :: path)) => if j = t ∧ k = i then some (.acc path) else some (.slot j (k :: path))
              | o => o
            have hk : ∀ b j path, ow b = some (.slot j path) → (j ≠ t ∨ ∀ p, path ≠ i :: p) → ow' b = some (.slot j path) := by
              intro b j path hb hne
              simp only [ow', hb]
              cases path with
              | nil => rfl
              | cons k p =>
                have : ¬ (j = t ∧ k = i) := by
                  rintro ⟨rfl, rfl⟩
                  rcases hne with h | h
                  · exact h rfl
                  · exact h p rfl
                simp [this]
            have hn : ∀ b, ow b = none → ow' b = none := fun b hb => by simp [ow', hb]
            refine ⟨xs[i], w, g, ow', .inl ?_, Ext.ow hn, ⟨hI.sz, hI.df, fun j => ?_, fun id e he => (hI.ent id e he).ow (fun b hb => by simp [ow', hb]) (fun b p hb => by simp [ow', hb]), hI.N, fun b hb => hI.lt b fun h0 => hb (hn b h0)⟩, ?_⟩
            · have he : a.eval (.tmp t) = .tuple xs.toArray := hx
              simp [execOp, ho, he, Instr.extract, hi]
            · simp only [upd]
              by_cases hj : j = t
              · subst hj
                simp only [if_true]
                rw [hx]
                refine .tu _ xs (by simpa using hl) (fun k y v hy hv => ?_)
                rw [List.getElem?_set] at hy
                split at hy
                · rename_i hik
                  split at hy
                  · simp only [Option.some.injEq] at hy
                    subst hy
                    rw [← hik] at hv
                    exact (hr i u v hu hv).dem
                  · cases hy
                · rename_i hik
                  exact (hr k y v hy hv).mono fun path b hb => hk b _ _ hb (.inr fun p e => hik (by injection e with e1 _; exact e1.symm))
              · simp only [hj, if_false]
                exact (hI.env j).mono fun path b hb => hk b _ _ hb (.inl hj)
            · refine RepA.nz (RepA.mono (hr i u xs[i] hu (by simp [hi])) fun path b hb => ?_)
              simp [ow', hb]
        | _ => rw [hx] at henv; cases henv
      · cases h
    · cases h
  · cases h

end
end Go.Ab
