/- The abstract meaning of code is kept by the machine; a function's contract out of its body. -/
import Derived.Test.YtipepkfioecbmaaDoorAb16
set_option linter.unusedVariables false
set_option linter.unusedSimpArgs false
namespace Go.Ab

theorem gd_ok {w : World} {g : Gm} {ow : Ow} {n : Nat} {a : Act} {st : St} {ops : Array Oper} {o : Oper} {b : Bool} (hI : Inv w g ow n a st) (h : gd ops st o = some b) : Region.wanted o (yielded ops a.tmps) = b := by
  unfold gd at h
  unfold Region.wanted
  split at h
  · simp only [Option.some.injEq] at h; simp [*]
  · rename_i j want hg
    simp only [hg]
    split at h
    · rename_i d hd
      have hv := hI.env d
      split at h
      · rename_i c hc
        simp only [Option.some.injEq] at h
        subst h
        rw [hc] at hv
        have := hv.sc
        have ht : a.tmps[d]? = some (.bool c) := by
          cases hq : a.tmps[d]? with
          | none => simp [Array.getD_eq_getD_getElem?, hq, undef] at this
          | some x => simp [Array.getD_eq_getD_getElem?, hq] at this; rw [this]
        simp [yielded, hd, ht]
      · rename_i x hnb hc
        simp only [Option.some.injEq] at h
        subst h
        rw [hc] at hv
        have := hv.sc
        simp only [yielded, hd, Option.bind_some]
        cases hq : a.tmps[d]? with
        | none => rfl
        | some y =>
          simp [Array.getD_eq_getD_getElem?, hq] at this
          subst this
          cases y <;> first | rfl | exact (hnb _ rfl).elim
      · cases h
    · rename_i hd
      simp only [Option.some.injEq] at h
      subst h
      simp [yielded, hd]

section
variable {P : Program} {H : Hint} {n : Nat}

theorem opOk_wp {o : Oper} {w : World} {g : Gm} {ow : Ow} {a : Act} {st' : St} {v : AV} {N : Act → World → Prop} {Q : Exit → Act → World → Prop} (h : OpOk P o w g ow n a st' v)
    (hN : ∀ x w' g' ow', Ext w g ow w' g' ow' → Inv w' g' ow' n a st' → RepA w' g' (fun path b => ow' b = some (.acc path)) v x → N (a.put o.dst x) w') : o.wp P a w N Q := by
  obtain ⟨x, w', g', ow', hr, hX, hI, hv⟩ := h
  unfold Oper.wp
  rcases hr with hr | ⟨hr, rfl⟩
  · rw [hr]; exact hN x w' g' ow' hX hI hv
  · rw [hr]; exact hN undef w' g' ow' hX hI hv

theorem opsC_ok {ops : Array Oper} {K : St → Prop} {Q : Exit → Act → World → Prop} : ∀ (l : List Oper) (st : St) (w : World) (g : Gm) (ow : Ow) (a : Act), opsC P H ops l K st → (∀ o ∈ l, ∀ d, o.dst = some d → d < n) →
    Inv w g ow n a st → Idle ow → Tab P w g ow → (∀ st' w' g' ow' a', K st' → Inv w' g' ow' n a' st' → Idle ow' → Ext w g ow w' g' ow' → Q .normal a' w') → wpList P ops Q l a w := by
  intro l
  induction l with
  | nil => intro st w g ow a h _ hI hid ht hK; exact hK st w g ow a h hI hid (Ext.refl w g ow)
  | cons o rest ih =>
    intro st w g ow a h hd hI hid ht hK
    have hdo := hd o (List.mem_cons_self ..)
    have hdr : ∀ o ∈ rest, ∀ d, o.dst = some d → d < n := fun o ho => hd o (List.mem_cons_of_mem _ ho)
    unfold opsC at h
    unfold wpList
    have next : ∀ {v st'}, OpOk P o w g ow n a st' v → opsC P H ops rest K (st'.put o.dst v) → o.wp P a w (wpList P ops Q rest) Q := by
      intro v st' hO hr
      refine opOk_wp hO fun x w' g' ow' hX hI' hv => ?_
      refine ih _ w' g' (ow'.land o.dst) _ hr hdr (put_ok hI' hv o.dst hdo) (land_idle _ _) (ht.ext (hX.trans (Ext.ow fun b hb => by simp [Ow.land, hb]))) fun st2 w2 g2 ow2 a2 hK2 hI2 hid2 hX2 => hK st2 w2 g2 ow2 a2 hK2 hI2 hid2 ((hX.trans (Ext.ow fun b hb => ?_)).trans hX2)
      simp [Ow.land, hb]
    split at h
    · exact h.elim
    · rename_i hg
      rw [gd_ok hI hg]
      simp only [Bool.false_eq_true, if_false]
      have hI' : Inv w g (ow.land o.dst) n (a.put o.dst undef) (st.put o.dst un) := put_ok hI (.p (.sc undef)) o.dst hdo
      exact ih _ w g _ _ h hdr hI' (land_idle _ _) (ht.ext (Ext.ow fun b hb => by simp [Ow.land, hb])) fun st2 w2 g2 ow2 a2 hK2 hI2 hid2 hX2 => hK st2 w2 g2 ow2 a2 hK2 hI2 hid2 ((Ext.ow fun b hb => by simp [Ow.land, hb]).trans hX2)
    · rename_i hg
      rw [gd_ok hI hg]
      simp only [if_true]
      refine .inl ?_
      split at h
      · rename_i c ho
        split at h
        · rename_i b hc
          split at h
          · rename_i v st' hb
            exact next (bltF_ok hI ho hc hb) h
          · exact h.elim
        · refine callW_ok hI hid ht ho h fun x v st' w' g' ow' hr hX hI' hv => ?_
          refine ih _ w' g' (ow'.land o.dst) _ hr hdr (put_ok hI' hv o.dst hdo) (land_idle _ _) (ht.ext (hX.trans (Ext.ow fun b hb => by simp [Ow.land, hb]))) fun st2 w2 g2 ow2 a2 hK2 hI2 hid2 hX2 => hK st2 w2 g2 ow2 a2 hK2 hI2 hid2 ((hX.trans (Ext.ow fun b hb => ?_)).trans hX2)
          simp [Ow.land, hb]
      · split at h
        · rename_i v st' hb
          exact next (opF_ok hI ht hb) h
        · exact h.elim

/-! ### Code -/
def okE : Exit → Prop
  | .normal | .exit _ | .ret => True
  | _ => False

def PostC (w : World) (g : Gm) (ow : Ow) (n : Nat) (Q : Exit → St → Prop) (e : Exit) (a' : Act) (w' : World) : Prop :=
  okE e ∧ ∃ st' g' ow', Q e st' ∧ Inv w' g' ow' n a' st' ∧ Idle ow' ∧ Ext w g ow w' g' ow'

theorem PostC.trans {w w1 : World} {g g1 : Gm} {ow ow1 : Ow} {Q : Exit → St → Prop} (hX : Ext w g ow w1 g1 ow1) {e : Exit} {a' : Act} {w' : World} (h : PostC w1 g1 ow1 n Q e a' w') : PostC w g ow n Q e a' w' :=
  ⟨h.1, h.2.choose, h.2.choose_spec.choose, h.2.choose_spec.choose_spec.choose, h.2.choose_spec.choose_spec.choose_spec.1, h.2.choose_spec.choose_spec.choose_spec.2.1, h.2.choose_spec.choose_spec.choose_spec.2.2.1, hX.trans h.2.choose_spec.choose_spec.choose_spec.2.2.2⟩

theorem exitTo_len {id : Nat} {k k' : List Item} (h : exitTo id k = some k') : k'.length < k.length := by
  induction k with
  | nil => simp [exitTo] at h
  | cons x k ih =>
    have rest : exitTo id k = some k' → k'.length < (x :: k).length := fun h => Nat.lt_succ_of_lt (ih h)
    cases x with
    | inBlock id' =>
      simp only [exitTo] at h
      split at h
      · simp only [Option.some.injEq] at h; subst h; simp
      · exact rest h
    | _ => exact rest (by simpa [exitTo] using h)

/-- A loop is its body, then the loop. -/
theorem wp_loop_unroll {c : Code} {Q : Exit → Act → World → Prop} {a : Act} {w : World} (hQ : ∀ e a w, Q e a w → okE e) (h : c.wp P (Exit.then (fun a w => (Code.loop c).wp P Q a w) Q) a w) : (Code.loop c).wp P Q a w := by
  intro b k cs
  obtain ⟨e, a₁, w₁, hq, harr⟩ := h b (.inLoop c :: k) cs
  cases e with
  | normal =>
    obtain ⟨e₂, a₂, w₂, hq₂, harr₂⟩ := hq b k cs
    have strip : ∀ m', Steps P (lone (b.at a₁ (.code (.loop c) :: k)) cs w₁) m' → m' ≠ lone (b.at a₁ (.code (.loop c) :: k)) cs w₁ → Steps P (lone (b.at a₁ (.inLoop c :: k)) cs w₁) m' := by
      intro m' ⟨q, hq⟩ hne
      cases q with
      | zero => simp only [runN, Stepped.next.injEq] at hq; exact absurd hq.symm hne
      | succ q =>
        simp only [runN, step_loop] at hq
        exact .head step_inLoop ⟨q, hq⟩
    refine ⟨e₂, a₂, w₂, hq₂, .of_steps (.head step_loop harr) ?_⟩
    have hok := hQ _ _ _ hq₂
    have hlen : ∀ k', k'.length < (Item.code (.loop c) :: k).length → lone (b.at a₂ k') cs w₂ ≠ lone (b.at a₁ (.code (.loop c) :: k)) cs w₁ := by
      intro k' hk' e
      have : k' = .code (.loop c) :: k := by
        have e1 := congrArg (fun m : Machine => (m.gs[0]?).map fun gr => gr.frame.todo) e
        simpa [lone, Frame.at] using e1
      rw [this] at hk'
      exact Nat.lt_irrefl _ hk'
    cases e₂ with
    | normal => exact strip _ harr₂ (hlen k (by simp))
    | exit id => exact fun k' hk => strip _ (harr₂ k' hk) (hlen k' (Nat.lt_succ_of_lt (exitTo_len hk)))
    | ret =>
      obtain ⟨todo, hs⟩ := harr₂
      refine ⟨todo, strip _ hs fun e => ?_⟩
      have e1 := congrArg (fun m : Machine => (m.gs[0]?).map fun gr => gr.frame.mode) e
      simp [lone, Frame.at] at e1
    | _ => exact hok.elim
  | exit id => exact ⟨_, a₁, w₁, hq, .of_steps (.one step_loop) (.pass (x := .inLoop c) rfl (fun _ _ => .inl (by simp)) harr)⟩
  | ret => exact ⟨_, a₁, w₁, hq, .of_steps (.one step_loop) (.pass (x := .inLoop c) rfl (fun _ _ => .inl (by simp)) harr)⟩
  | _ => exact (hQ _ _ _ hq).elim

theorem stp_ok {ops : Array Oper} {o : Oper} {i : Nat} {st st2 : St} {w : World} {g : Gm} {ow : Ow} {a : Act} {N : Act → World → Prop} {Q : Exit → Act → World → Prop} (hi : ops[i]? = some o) (h : Stp P H ops o st st2) (hdo : ∀ d, o.dst = some d → d < n)
    (hI : Inv w g ow n a st) (hid : Idle ow) (ht : Tab P w g ow) (hN : ∀ a' w' g' ow', Ext w g ow w' g' ow' → Inv w' g' ow' n a' st2 → Idle ow' → N a' w') : wpOp P ops Q i N a w := by
  unfold wpOp
  simp only [hi]
  rcases h with ⟨hg, rfl⟩ | ⟨hg, v, st', hO, rfl⟩
  · rw [gd_ok hI hg]
    simp only [Bool.false_eq_true, if_false]
    exact hN _ w g _ (Ext.ow fun b hb => by simp [Ow.land, hb]) (put_ok hI (.p (.sc undef)) o.dst hdo) (land_idle _ _)
  · rw [gd_ok hI hg]
    simp only [if_true]
    refine .inl ?_
    have next : OpOk P o w g ow n a st' v → o.wp P a w N Q := fun hO => opOk_wp hO fun x w' g' ow' hX hI' hv =>
      hN _ w' g' (ow'.land o.dst) (hX.trans (Ext.ow fun b hb => by simp [Ow.land, hb])) (put_ok hI' hv o.dst hdo) (land_idle _ _)
    unfold Out at hO
    split at hO
    · obtain ⟨c, ho, hw⟩ := hO
      refine callW_ok hI hid ht ho hw fun x v' s' w' g' ow' hr hX hI' hv => ?_
      obtain ⟨rfl, rfl⟩ := hr
      exact hN _ w' g' (ow'.land o.dst) (hX.trans (Ext.ow fun b hb => by simp [Ow.land, hb])) (put_ok hI' hv o.dst hdo) (land_idle _ _)
    · unfold stepF at hO
      split at hO
      · rename_i c ho
        split at hO
        · rename_i b hb
          exact next (bltF_ok hI ho hb hO)
        · cases hO
      · exact next (opF_ok hI ht hO)

theorem anyC_ok {ops : Array Oper} {md : Region.Mode} {K : St → Prop} {Q : Exit → Act → World → Prop} (hd : ∀ o ∈ ops.toList, ∀ d, o.dst = some d → d < n) : ∀ (fuel : Nat) (listed : Array Bool) (st : St) (w : World) (g : Gm) (ow : Ow) (a : Act), anyC P H md ops K fuel listed st →
    Inv w g ow n a st → Idle ow → Tab P w g ow → (∀ st' w' g' ow' a', K st' → Inv w' g' ow' n a' st' → Idle ow' → Ext w g ow w' g' ow' → Q .normal a' w') → wpAny P md ops Q fuel listed a w := by
  intro fuel
  induction fuel with
  | zero => intro listed st w g ow a h hI hid ht hK; exact ⟨h.1, hK st w g ow a h.2 hI hid (Ext.refl w g ow)⟩
  | succ fuel ih =>
    intro listed st w g ow a h hI hid ht hK
    refine ⟨fun hr => hK st w g ow a (h.1 hr) hI hid (Ext.refl w g ow), fun i hi => ?_⟩
    obtain ⟨_, o, ho, _⟩ := mem_ready.1 hi
    obtain ⟨st2, hs, hk⟩ := h.2 i hi o ho
    refine stp_ok ho hs (hd o (Array.mem_def.1 (Array.mem_of_getElem? ho))) hI hid ht fun a' w' g' ow' hX hI' hid' => ?_
    exact ih _ st2 w' g' ow' a' hk hI' hid' (ht.ext hX) fun st3 w3 g3 ow3 a3 hK3 hI3 hid3 hX3 => hK st3 w3 g3 ow3 a3 hK3 hI3 hid3 (hX.trans hX3)

theorem drawn_ext (w : World) (g : Gm) (ow : Ow) (d : Nat) : Ext w g ow { w with drawn := d } g ow :=
  ⟨rfl, rfl, rfl, Nat.le_refl _, ⟨fun _ _ => Nat.le_refl _, fun _ _ _ _ h => h⟩, fun b arr e fr h => ⟨arr, h, rfl⟩, fun _ _ h => ⟨rfl, rfl, h⟩, Nat.le_refl _, fun _ _ => Nat.le_refl _, fun _ _ _ _ => rfl⟩

theorem RepA.drawn {w : World} {g : Gm} {own : List Nat → Nat → Prop} {x : AV} {v : Value} (d : Nat) (h : RepA w g own x v) : RepA { w with drawn := d } g own x v :=
  h.ext (ow := fun _ => none) (drawn_ext w g (fun _ => none) d) fun _ _ h => ⟨h, rfl, rfl⟩

theorem Inv.drawn {w : World} {g : Gm} {ow : Ow} {a : Act} {st : St} (d : Nat) (h : Inv w g ow n a st) : Inv { w with drawn := d } g ow n a st := by
  refine ⟨h.sz, h.df, fun i => (h.env i).drawn d, fun id e he => ?_, h.N, h.lt⟩
  have := h.ent id e he
  cases e with
  | cells ver cs =>
    obtain ⟨h1, h2⟩ := this
    refine ⟨h1, ?_⟩
    rcases h2 with ⟨b, o, arr, e, k1, k2, k3, k4, k5, k6⟩ | h2
    · exact .inl ⟨b, o, arr, e, k1, k2, k3, k4, k5, fun j y hy => by obtain ⟨v, l1, l2, l3⟩ := k6 j y hy; exact ⟨v, l1, l2, l3.drawn d⟩⟩
    · exact .inr h2
  | map kvs =>
    obtain ⟨b, o, es, clock, k1, k2, k3, k4, k5⟩ := this
    exact ⟨b, o, es, clock, k1, k2, k3, k4, fun j k y e hj he => ⟨(k5 j k y e hj he).1, (k5 j k y e hj he).2.drawn d⟩⟩
  | dead => trivial

/-- Regions that draw their order, allowed by dr. -/
def DrOk (P : Program) (H : Hint) (n : Nat) (dr : Array Oper → Bool) : Prop :=
  ∀ (ops : Array Oper), dr ops = true → (∀ o ∈ ops.toList, ∀ d, o.dst = some d → d < n) → ∀ (K : St → Prop) (st : St) (w : World) (g : Gm) (ow : Ow) (a : Act), opsC P H ops ops.toList K st →
    Inv w g ow n a st → Idle ow → Tab P w g ow → ∀ (id : Nat) (Q : Exit → Act → World → Prop), (∀ st' w' g' ow' a', K st' → Inv w' g' ow' n a' st' → Idle ow' → Ext w g ow w' g' ow' → Q .normal a' w') → (Code.region id ops true).wp P Q a w

theorem evC_ok {dr : Array Oper → Bool} (hdr : DrOk P H n dr) (c : Code) : ∀ {Q : Exit → St → Prop} (st : St) (w : World) (g : Gm) (ow : Ow) (a : Act), wfC n c = true → evC P H dr c Q st → Inv w g ow n a st → Idle ow → Tab P w g ow →
    c.wp P (PostC w g ow n Q) a w := by
  induction c with
  | skip => exact fun st w g ow a _ h hI hid ht => wp_skip ⟨trivial, st, g, ow, h, hI, hid, Ext.refl w g ow⟩
  | label l => exact fun st w g ow a _ h hI hid ht => wp_label ⟨trivial, st, g, ow, h, hI, hid, Ext.refl w g ow⟩
  | region id ops draw =>
    intro Q st w g ow a hwf h hI hid ht
    have hd : ∀ o ∈ ops.toList, ∀ d, o.dst = some d → d < n := by
      intro o ho d hd
      simp only [wfC] at hwf
      have := List.all_eq_true.1 hwf o ho
      simpa [hd] using this
    have hK : ∀ st' w' g' ow' a', Q .normal st' → Inv w' g' ow' n a' st' → Idle ow' → Ext w g ow w' g' ow' → PostC w g ow n Q .normal a' w' :=
      fun st' w' g' ow' a' hq hI' hid' hX => ⟨trivial, st', g', ow', hq, hI', hid', hX⟩
    cases draw with
    | false => exact wp_region_list (opsC_ok _ st w g ow a h hd hI hid ht hK)
    | true =>
      rcases h with h | ⟨hm, h⟩
      · exact hdr ops h.1 hd _ st w g ow a h.2 hI hid ht id _ hK
      · refine wp_region_any hm ?_
        refine anyC_ok hd _ _ st { w with drawn := w.drawn + 1 } g ow a h (hI.drawn _) hid (ht.ext (drawn_ext w g ow _)) fun st' w' g' ow' a' hk hI' hid' hX => ?_
        exact hK st' w' g' ow' a' hk hI' hid' ((drawn_ext w g ow _).trans hX)
  | seq x y ihx ihy =>
    intro Q st w g ow a hwf h hI hid ht
    simp only [wfC, Bool.and_eq_true] at hwf
    refine wp_seq (wp_mono (ihx st w g ow a hwf.1 h hI hid ht) fun e a' w' hp => ?_)
    obtain ⟨hok, st', g', ow', hq, hI', hid', hX⟩ := hp
    cases e with
    | normal => exact wp_mono (ihy st' w' g' ow' a' hwf.2 hq hI' hid' (ht.ext hX)) fun e2 a2 w2 h2 => h2.trans hX
    | exit id => exact ⟨trivial, st', g', ow', hq, hI', hid', hX⟩
    | ret => exact ⟨trivial, st', g', ow', hq, hI', hid', hX⟩
    | _ => exact hok.elim
  | cond c x y ihx ihy =>
    intro Q st w g ow a hwf h hI hid ht
    simp only [wfC, Bool.and_eq_true] at hwf
    simp only [evC] at h
    split at h
    · rename_i b hb
      have hv := rd_sc hI hb
      refine wp_cond hv ?_
      cases b with
      | true => exact ihx st w g ow a hwf.1 h hI hid ht
      | false => exact ihy st w g ow a hwf.2 h hI hid ht
    · exact h.elim
  | block id b ih =>
    intro Q st w g ow a hwf h hI hid ht
    refine wp_block (wp_mono (ih st w g ow a hwf h hI hid ht) fun e a' w' hp => ?_)
    obtain ⟨hok, st', g', ow', hq, hI', hid', hX⟩ := hp
    cases e with
    | normal => exact ⟨trivial, st', g', ow', hq, hI', hid', hX⟩
    | exit id' =>
      simp only [Exit.inBlock, blockE] at hq ⊢
      split
      · rename_i he; rw [if_pos he] at hq; exact ⟨trivial, st', g', ow', hq, hI', hid', hX⟩
      · rename_i he; rw [if_neg he] at hq; exact ⟨trivial, st', g', ow', hq, hI', hid', hX⟩
    | ret => exact ⟨trivial, st', g', ow', hq, hI', hid', hX⟩
    | _ => exact hok.elim
  | loop b ih =>
    intro Q st w g ow a hwf h hI hid ht
    have key := h (fun s => ∀ w g ow a, Inv w g ow n a s → Idle ow → Tab P w g ow → (Code.loop b).wp P (PostC w g ow n Q) a w) (fun s hs w g ow a hI hid ht => by
      refine wp_loop_unroll (fun e a w h => h.1) (wp_mono (ih s w g ow a hwf hs hI hid ht) fun e a' w' hp => ?_)
      obtain ⟨hok, st', g', ow', hq, hI', hid', hX⟩ := hp
      cases e with
      | normal => exact wp_mono (hq w' g' ow' a' hI' hid' (ht.ext hX)) fun e2 a2 w2 h2 => h2.trans hX
      | exit id => exact ⟨trivial, st', g', ow', hq, hI', hid', hX⟩
      | ret => exact ⟨trivial, st', g', ow', hq, hI', hid', hX⟩
      | _ => exact hok.elim)
    exact key w g ow a hI hid ht
  | exit id => exact fun st w g ow a _ h hI hid ht => wp_exit ⟨trivial, st, g, ow, h, hI, hid, Ext.refl w g ow⟩
  | ret => exact fun st w g ow a _ h hI hid ht => wp_ret ⟨trivial, st, g, ow, h, hI, hid, Ext.refl w g ow⟩
  | _ => exact fun st w g ow a _ h => h.elim

end
end Go.Ab
