/- Regions that draw their order: the lexical walk serves every order. -/
import Derived.Test.YtipepkfioecbmaaDoorAb22
set_option linter.unusedVariables false
set_option linter.unusedSimpArgs false
namespace Go.Ab

section
variable {P : Program} {H : Hint} {ops : Array Oper}

/-! ### What a call does -/
theorem callW_elim {o : Oper} {c : Call} {st : St} {K : AV → St → Prop} (h : callW P H o c st K) : ∃ v st', callW P H o c st (fun v' s' => v' = v ∧ s' = st') ∧ K v st' := by
  unfold callW at *
  cases hc : c.callee with
  | value f =>
    simp only [hc] at h ⊢
    cases hf : rd st.env f with
    | fn fn first captured =>
      cases fn with
      | func q =>
        simp only [hf] at h ⊢
        split
        · rename_i hp
          rw [if_pos hp] at h
          obtain ⟨res, σ', h1, h2, h3, v, st', h4, h5⟩ := h
          exact ⟨v, st', ⟨res, σ', h1, h2, h3, v, st', h4, rfl, rfl⟩, h5⟩
        · rename_i hp
          rw [if_neg hp] at h
          obtain ⟨h1, h2, res, σ', h3, h4⟩ := h
          exact ⟨_, _, ⟨h1, h2, res, σ', h3, rfl, rfl⟩, h4⟩
      | _ => simp only [hf] at h
    | _ => simp only [hf] at h
  | _ => simp only [hc] at h

theorem impA_env {ar : Bool} {res : AV} {st st' : St} {v : AV} (h : impA ar res st = some (v, st')) : st'.env = st.env ∧ ∀ env', impA ar res ⟨env', st.σ⟩ = some (v, ⟨env', st'.σ⟩) := by
  unfold impA at h ⊢
  split at h
  · rename_i hc
    split at h
    · split at h
      · simp only [Option.some.injEq, Prod.mk.injEq] at h
        obtain ⟨rfl, rfl⟩ := h
        refine ⟨rfl, fun env' => ?_⟩
        simp only [hc, if_true]
        rw [if_pos ‹_›]
      · cases h
    · cases h
  · rename_i hc
    simp only [Option.some.injEq, Prod.mk.injEq] at h
    obtain ⟨rfl, rfl⟩ := h
    exact ⟨rfl, fun env' => by rw [if_neg hc]⟩

theorem callW_frame {o : Oper} {c : Call} {st st' : St} {v : AV} {env' : Nat → AV} (h : callW P H o c st (fun v' s' => v' = v ∧ s' = st')) (ha : ∀ x ∈ c.operands, rd env' x = rd st.env x) :
    st'.env = st.env ∧ callW P H o c ⟨env', st.σ⟩ (fun v' s' => v' = v ∧ s' = ⟨env', st'.σ⟩) := by
  unfold callW at *
  have hargs : (c.args.toList.map fun x => argA (hd H.vw o.dst) st.σ (rd env' x)) = (c.args.toList.map fun x => argA (hd H.vw o.dst) st.σ (rd st.env x)) :=
    List.map_congr_left fun x hx => by rw [ha x (by simp [Call.operands]; exact .inr (by simpa using hx))]
  cases hc : c.callee with
  | value f =>
    have hf' := ha f (by simp [Call.operands, hc])
    simp only [hc] at h ⊢
    rw [hf']
    cases hf : rd st.env f with
    | fn fn first captured =>
      cases fn with
      | func q =>
        simp only [hf] at h ⊢
        rw [hargs]
        split
        · rename_i hp
          rw [if_pos hp] at h
          obtain ⟨res, σ', h1, h2, h3, v', st'', h4, rfl, rfl⟩ := h
          have hi := impA_env h4
          exact ⟨hi.1, res, σ', h1, h2, h3, v', _, hi.2 env', rfl, rfl⟩
        · rename_i hp
          rw [if_neg hp] at h
          obtain ⟨h1, h2, res, σ', h3, rfl, rfl⟩ := h
          exact ⟨rfl, h1, h2, res, σ', h3, rfl, rfl⟩
      | _ => simp only [hf] at h
    | _ => simp only [hf] at h
  | _ => simp only [hc] at h

theorem opsC_cons {o : Oper} {rest : List Oper} {K : St → Prop} {st : St} : opsC P H ops (o :: rest) K st ↔ ∃ st2, Stp P H ops o st st2 ∧ opsC P H ops rest K st2 := by
  unfold Stp
  rw [opsC]
  cases hg : gd ops st o with
  | none => simp
  | some b =>
    cases b with
    | false => simp
    | true =>
      simp only [reduceCtorEq, Option.some.injEq, Bool.true_eq_false, false_and, true_and, false_or]
      unfold Out
      obtain ⟨dst, op, type, pos, after, guard⟩ := o
      have fn : ∀ (r : Option (AV × St)), (match r with | some (v, st') => opsC P H ops rest K (st'.put dst v) | none => False) ↔ ∃ st2, (∃ v st', r = some (v, st') ∧ st2 = st'.put dst v) ∧ opsC P H ops rest K st2 := by
        intro r
        constructor
        · intro h
          cases r with
          | none => cases h
          | some q => exact ⟨_, ⟨q.1, q.2, rfl, rfl⟩, h⟩
        · rintro ⟨st2, ⟨v, st', rfl, rfl⟩, h⟩
          exact h
      cases op with
      | call c =>
        have cl : (callW P H ⟨dst, .call c, type, pos, after, guard⟩ c st fun v st' => opsC P H ops rest K (st'.put dst v)) ↔
            ∃ st2, (∃ v st', (∃ c', Op.call c = .call c' ∧ callW P H ⟨dst, .call c, type, pos, after, guard⟩ c' st (fun v' s' => v' = v ∧ s' = st')) ∧ st2 = st'.put dst v) ∧ opsC P H ops rest K st2 := by
          constructor
          · intro h
            obtain ⟨v, st', h1, h2⟩ := callW_elim h
            exact ⟨_, ⟨v, st', ⟨c, rfl, h1⟩, rfl⟩, h2⟩
          · rintro ⟨st2, ⟨v, st', ⟨c', hc', h1⟩, rfl⟩, h2⟩
            cases hc'
            exact callW_mono (fun v' s' hs => by rw [hs.1, hs.2]; exact h2) h1
        cases hcal : c.callee with
        | builtin b => simp only [isC, hcal, stepF, Bool.false_eq_true, if_false]; exact fn (bltF P H b ⟨dst, .call c, type, pos, after, guard⟩ c st)
        | _ => simp only [isC, hcal, if_true]; exact cl
      | _ => simp only [isC, stepF, Bool.false_eq_true, if_false]; generalize opF P H ⟨dst, _, type, pos, after, guard⟩ st = r; exact fn r

/-! ### Footprints -/
def wrs (H : Hint) (o : Oper) : List Nat := o.dst.toList ++ (tkS H o).toList

/-- What a step shows. -/
structure Foot (P : Program) (H : Hint) (ops : Array Oper) (o : Oper) (st st1 : St) (F : (Nat → AV) → Nat → AV) : Prop where
  here : F st.env = st1.env
  out : ∀ e n, n ∉ wrs H o → F e n = e n
  loc : ∀ e e', (∀ t ∈ wrs H o, e t = e' t) → ∀ n ∈ wrs H o, F e n = F e' n
  run : ∀ env', (∀ t ∈ o.looksAt ops, env' t = st.env t) → Stp P H ops o ⟨env', st.σ⟩ ⟨F env', st1.σ⟩
  e0 : eff H o = 0 → st1.σ = st.σ ∧ ∀ env', (∀ t ∈ o.looksAt ops, env' t = st.env t) → ∀ σ2, Stp P H ops o ⟨env', σ2⟩ ⟨F env', σ2⟩
  e1 : eff H o ≤ 1 → st1.σ = st.σ ∧ ∀ env', (∀ t ∈ o.looksAt ops, env' t = st.env t) → ∀ σ2, Dm st.σ σ2 → Stp P H ops o ⟨env', σ2⟩ ⟨F env', σ2⟩
  e2 : eff H o ≤ 2 → Dm st.σ st1.σ

theorem gd_frame {o : Oper} {st : St} {env' : Nat → AV} {σ2 : List Ent} (h : ∀ t ∈ o.looksAt ops, env' t = st.env t) : gd ops ⟨env', σ2⟩ o = gd ops st o := by
  unfold gd
  cases hg : o.guard with
  | none => rfl
  | some jw =>
    obtain ⟨j, want⟩ := jw
    simp only
    cases hd : (ops[j]?).bind (·.dst) with
    | none => rfl
    | some d =>
      have : d ∈ o.looksAt ops := by
        unfold Oper.looksAt
        rw [hg]
        simp only [List.mem_append]
        exact .inr (by simp only [hd]; simp)
      simp only [h d this]

theorem rd_frame {o : Oper} {env env' : Nat → AV} (h : ∀ t ∈ o.looksAt ops, env' t = env t) : ∀ x ∈ o.op.operands, rd env' x = rd env x := by
  intro x hx
  cases x with
  | tmp t =>
    refine h t ?_
    unfold Oper.looksAt
    exact List.mem_append_left _ (List.mem_filterMap.2 ⟨.tmp t, by simpa using hx, rfl⟩)
  | _ => rfl

theorem put_env (st : St) (d : Option Tmp) (v : AV) : (st.put d v).env = (match d with | some d => upd st.env d v | none => st.env) ∧ (st.put d v).σ = st.σ := by
  cases d <;> exact ⟨rfl, rfl⟩

def putE (d : Option Tmp) (v : AV) (env : Nat → AV) : Nat → AV := match d with | some d => upd env d v | none => env
theorem put_eq (st : St) (d : Option Tmp) (v : AV) : st.put d v = ⟨putE d v st.env, st.σ⟩ := by cases d <;> rfl

theorem putE_out {d : Option Tmp} {v : AV} {e : Nat → AV} {n : Nat} (h : n ∉ d.toList) : putE d v e n = e n := by
  cases d with
  | none => rfl
  | some d =>
    have : n ≠ d := by simpa using h
    simp [putE, upd, this]
theorem tkE_out {s : Option Nat} {e : Nat → AV} {n : Nat} (h : n ∉ s.toList) : tkE s e n = e n := by
  cases s with
  | none => rfl
  | some d =>
    have : n ≠ d := by simpa using h
    simp [tkE, upd, this]
theorem tkE_loc {s : Option Nat} {e e' : Nat → AV} {n : Nat} (h : e n = e' n) : tkE s e n = tkE s e' n := by
  cases s with
  | none => exact h
  | some d =>
    by_cases hn : n = d
    · subst hn; simp [tkE, upd, h]
    · simp [tkE, upd, hn, h]

theorem foot {o : Oper} {st st1 : St} (hok : okD H o = true) (h : Stp P H ops o st st1) : ∃ F, Foot P H ops o st st1 F := by
  rcases h with ⟨hg, rfl⟩ | ⟨hg, v, st', hO, rfl⟩
  · refine ⟨putE o.dst un, ?_, fun e n hn => putE_out fun h => hn (List.mem_append_left _ h), fun e e' he n hn => ?_, fun env' ha => .inl ⟨by rw [gd_frame ha]; exact hg, by rw [put_eq, put_eq]⟩,
      fun _ => ⟨by rw [put_eq], fun env' ha σ2 => .inl ⟨by rw [gd_frame ha]; exact hg, by rw [put_eq]⟩⟩, fun _ => ⟨by rw [put_eq], fun env' ha σ2 _ => .inl ⟨by rw [gd_frame ha]; exact hg, by rw [put_eq]⟩⟩, fun _ => by rw [put_eq]; rfl⟩
    · rw [put_eq]
    · have := he n hn
      cases o.dst with
      | none => exact this
      | some d => by_cases hd : n = d <;> simp [putE, upd, hd, this]
  · have key : ∀ (F : (Nat → AV) → Nat → AV) (v' : AV), (∀ env, F env = putE o.dst v' (tkE (tkS H o) env)) → (∀ e n, n ∉ wrs H o → F e n = e n) ∧ (∀ e e', (∀ t ∈ wrs H o, e t = e' t) → ∀ n ∈ wrs H o, F e n = F e' n) := by
      intro F v' hF
      refine ⟨fun e n hn => ?_, fun e e' he n hn => ?_⟩
      · rw [hF, putE_out fun h => hn (List.mem_append_left _ h), tkE_out fun h => hn (List.mem_append_right _ h)]
      · rw [hF, hF]
        have := tkE_loc (s := tkS H o) (he n hn)
        cases o.dst with
        | none => exact this
        | some d => by_cases hd : n = d <;> simp [putE, upd, hd, this]
    unfold Out at hO
    split at hO
    · -- a call
      rename_i hc
      obtain ⟨c, ho, hw⟩ := hO
      have htk : tkS H o = none := by
        unfold tkS
        unfold isC at hc
        rw [ho] at hc ⊢
        simp only at hc ⊢
        cases hcal : c.callee <;> simp only [hcal] at hc ⊢
        cases hc
      have he : eff H o = 3 := by
        unfold eff
        unfold isC at hc
        rw [ho] at hc ⊢
        simp only at hc ⊢
        cases hcal : c.callee <;> simp only [hcal] at hc ⊢
        cases hc
      have hfr := fun (env' : Nat → AV) (ha : ∀ t ∈ o.looksAt ops, env' t = st.env t) => callW_frame (env' := env') hw (fun x hx => rd_frame (env' := env') ha x (by rw [ho]; exact hx))
      have henv : st'.env = st.env := (hfr st.env fun _ _ => rfl).1
      have k1 : putE o.dst v (tkE (tkS H o) st.env) = (st'.put o.dst v).env := by rw [put_eq, htk, henv]; rfl
      obtain ⟨k2, k3⟩ := key (fun env => putE o.dst v (tkE (tkS H o) env)) v (fun _ => rfl)
      refine ⟨fun env => putE o.dst v (tkE (tkS H o) env), k1, k2, k3, fun env' ha => .inr ⟨by rw [gd_frame ha]; exact hg, v, ⟨env', st'.σ⟩, ?_, ?_⟩, fun h => by omega, fun h => by omega, fun h => by omega⟩
      · unfold Out; rw [if_pos hc]; exact ⟨c, ho, (hfr env' ha).2⟩
      · rw [put_eq, put_eq, htk]; rfl
    · rename_i hc
      have hc : isC o = false := by simpa using hc
      have heq := fun s => stepF_eq (P := P) (st := s) hok hc
      rw [heq] at hO
      simp only [Option.map_eq_some_iff, Prod.mk.injEq] at hO
      obtain ⟨⟨v', σ'⟩, hV, rfl, rfl⟩ := hO
      simp only at key ⊢
      have k1 : putE o.dst v' (tkE (tkS H o) st.env) = (St.put ⟨tkE (tkS H o) st.env, σ'⟩ o.dst v').env := by rw [put_eq]
      obtain ⟨k2, k3⟩ := key (fun env => putE o.dst v' (tkE (tkS H o) env)) v' (fun _ => rfl)
      have go : ∀ (env' : Nat → AV) (ha : ∀ t ∈ o.looksAt ops, env' t = st.env t) (σ2 σ3 : List Ent), opV P H o (rd st.env) σ2 = some (v', σ3) → Stp P H ops o ⟨env', σ2⟩ ⟨putE o.dst v' (tkE (tkS H o) env'), σ3⟩ := by
        intro env' ha σ2 σ3 h2
        refine .inr ⟨by rw [gd_frame ha]; exact hg, v', ⟨tkE (tkS H o) env', σ3⟩, ?_, by rw [put_eq]⟩
        unfold Out
        rw [if_neg (by simp [hc]), heq, opV_congr (rd_frame ha), h2]
        rfl
      refine ⟨fun env => putE o.dst v' (tkE (tkS H o) env), k1, k2, k3, fun env' ha => by rw [put_eq]; exact go env' ha _ _ hV, fun h => ?_, fun h => ?_, fun h => by rw [put_eq]; exact eff2 h hV⟩
      · have := eff0 h hV
        exact ⟨by rw [put_eq]; exact this.1, fun env' ha σ2 => go env' ha _ _ (this.2 σ2)⟩
      · have := eff1 h hV
        exact ⟨by rw [put_eq]; exact this.1, fun env' ha σ2 hd => go env' ha _ _ (this.2 σ2 hd)⟩

/-- They may change places. -/
def apart (H : Hint) (ops : Array Oper) (x y : Oper) : Bool :=
  okD H x && okD H y && (wrs H x).all (fun d => !(y.looksAt ops).contains d && !(wrs H y).contains d) && (wrs H y).all (fun d => !(x.looksAt ops).contains d) &&
  (eff H x == 0 || eff H y == 0 || (decide (eff H x ≤ 1) && decide (eff H y ≤ 2)) || (decide (eff H x ≤ 2) && decide (eff H y ≤ 1)))

theorem swap {x y : Oper} {st st1 st2 : St} (ha : apart H ops x y = true) (h1 : Stp P H ops x st st1) (h2 : Stp P H ops y st1 st2) : ∃ st', Stp P H ops y st st' ∧ Stp P H ops x st' st2 := by
  simp only [apart, Bool.and_eq_true, List.all_eq_true, Bool.not_eq_true', Bool.or_eq_true, beq_iff_eq, decide_eq_true_eq] at ha
  obtain ⟨⟨⟨⟨okx, oky⟩, hxy⟩, hyx⟩, heff⟩ := ha
  obtain ⟨Fx, fx⟩ := foot okx h1
  obtain ⟨Fy, fy⟩ := foot oky h2
  obtain ⟨e, σ⟩ := st
  obtain ⟨e1, σ1⟩ := st1
  obtain ⟨e2, σ2⟩ := st2
  have hx : Fx e = e1 := fx.here
  have hy : Fy e1 = e2 := fy.here
  subst hx
  subst hy
  have agy : ∀ t ∈ y.looksAt ops, e t = Fx e t := fun t ht => (fx.out e t fun hw => by have := (hxy t hw).1; simp [ht] at this).symm
  have agx : ∀ t ∈ x.looksAt ops, Fy e t = e t := fun t ht => fy.out e t fun hw => by have := hyx t hw; simp [ht] at this
  have dis : ∀ t, t ∈ wrs H x → t ∈ wrs H y → False := fun t h1 h2 => by have := (hxy t h1).2; simp [h2] at this
  have hee : Fx (Fy e) = Fy (Fx e) := by
    funext n
    by_cases hnx : n ∈ wrs H x
    · rw [fy.out (Fx e) n fun h => dis n hnx h]
      exact fx.loc _ _ (fun t ht => fy.out e t fun h => dis t ht h) n hnx
    · rw [fx.out (Fy e) n hnx]
      by_cases hny : n ∈ wrs H y
      · exact (fy.loc _ _ (fun t ht => fx.out e t fun h => dis t h ht) n hny).symm
      · rw [fy.out e n hny, fy.out (Fx e) n hny, fx.out e n hnx]
  rcases heff with ((h0 | h0) | h0) | h0
  · -- x does not see the heap
    obtain ⟨hs, hr⟩ := fx.e0 h0
    simp only at hs hr
    subst hs
    refine ⟨⟨Fy e, σ2⟩, fy.run e agy, ?_⟩
    have := hr (Fy e) agx σ2
    rwa [hee] at this
  · obtain ⟨hs, hr⟩ := fy.e0 h0
    simp only at hs hr
    subst hs
    refine ⟨⟨Fy e, σ⟩, hr e agy σ, ?_⟩
    have := fx.run (Fy e) agx
    rwa [hee] at this
  · obtain ⟨hs, hr⟩ := fx.e1 h0.1
    simp only at hs hr
    subst hs
    refine ⟨⟨Fy e, σ2⟩, fy.run e agy, ?_⟩
    have := hr (Fy e) agx σ2 (fy.e2 h0.2)
    rwa [hee] at this
  · obtain ⟨hs, hr⟩ := fy.e1 h0.2
    simp only at hs hr
    subst hs
    refine ⟨⟨Fy e, σ⟩, hr e agy σ (fx.e2 h0.1).symm, ?_⟩
    have := fx.run (Fy e) agx
    rwa [hee] at this

/-! ### Any order -/
variable {md : Region.Mode} {K : St → Prop}

theorem anyC_first {i : Nat} {oi : Oper} {D : List Nat} (hi : ops[i]? = some oi) (hD : ∀ j oj, ops[j]? = some oj → j ∈ D → ∃ e ∈ oj.after, Region.binds md e = true ∧ (e.on = i ∨ e.on ∈ D)) :
    ∀ (fuel : Nat) (listed : Array Bool) (st : St), (∀ j ∈ D, listed.getD j true = false) →
      (∀ j oj, ops[j]? = some oj → j ≠ i → listed.getD j true = false → j ∉ D → apart H ops oi oj = true) → i ∈ Region.ready md ops listed →
      (∃ st2, Stp P H ops oi st st2 ∧ anyC P H md ops K fuel (listed.setIfInBounds i true) st2) → anyC P H md ops K (fuel + 1) listed st := by
  intro fuel
  induction fuel with
  | zero =>
    intro listed st hun hfree hr ⟨st2, hs, hk⟩
    refine ⟨fun h => by (rw [h] at hr; cases hr), fun j hj oj hoj => ?_⟩
    by_cases hji : j = i
    · subst hji
      rw [hi] at hoj
      cases hoj
      exact ⟨st2, hs, hk⟩
    · have := ready_mono hj hji
      rw [hk.1] at this
      cases this
  | succ fuel ih =>
    intro listed st hun hfree hr ⟨st2, hs, hk⟩
    refine ⟨fun h => by (rw [h] at hr; cases hr), fun j hj oj hoj => ?_⟩
    by_cases hji : j = i
    · subst hji
      rw [hi] at hoj
      cases hoj
      exact ⟨st2, hs, hk⟩
    · obtain ⟨hjun, oj', hoj', hall⟩ := mem_ready.1 hj
      rw [hoj] at hoj'
      cases hoj'
      have off : ∀ k, listed.getD k false = true → listed.getD k true = false → False := fun k h1 h0 => by
        rcases Nat.lt_or_ge k listed.size with h' | h'
        · simp [h'] at h0 h1; rw [h0] at h1; cases h1
        · simp [Array.getElem?_eq_none h'] at h1
      have hjD : j ∉ D := fun hjD => by
        obtain ⟨e, he, hb, hon⟩ := hD j oj hoj hjD
        have h1 := hall e he hb
        rcases hon with hon | hon
        · rw [hon] at h1; exact off i h1 (mem_ready.1 hr).1
        · exact off _ h1 (hun _ hon)
      obtain ⟨st3, hs3, hk3⟩ := hk.2 j (ready_mono hj hji) oj hoj
      obtain ⟨st', h1, h2⟩ := swap (hfree j oj hoj hji hjun hjD) hs hs3
      refine ⟨st', h1, ih (listed.setIfInBounds j true) st' (fun k hk' => ?_) (fun k ok hk' hki hun' hkD => ?_) (ready_mono hr (Ne.symm hji)) ⟨st3, h2, ?_⟩⟩
      · have : j ≠ k := fun e => hjD (e ▸ hk')
        rw [getD_set_ne true this]
        exact hun k hk'
      · refine hfree k ok hk' hki ?_ hkD
        by_cases hjk : j = k
        · subst hjk; exact hjun
        · rw [getD_set_ne true hjk] at hun'; exact hun'
      · rw [Array.setIfInBounds_comm _ _ hji]
        exact hk3

/-- Those that wait for i. -/
def descs (md : Region.Mode) (ops : Array Oper) (i : Nat) : List Nat :=
  (List.range ops.size).foldl (fun D j => match ops[j]? with
    | some o => if o.after.any (fun e => Region.binds md e && (e.on == i || D.contains e.on)) then j :: D else D
    | none => D) []

def freeA (H : Hint) (md : Region.Mode) (ops : Array Oper) (listed : Array Bool) (i : Nat) (oi : Oper) : Bool :=
  let D := descs md ops i
  D.all (fun j => listed.getD j true == false) &&
  (List.range ops.size).all fun j => match ops[j]? with
    | some oj => (!D.contains j || oj.after.any (fun e => Region.binds md e && (e.on == i || D.contains e.on))) && (j == i || listed.getD j true || D.contains j || apart H ops oi oj)
    | none => true

def lexA (H : Hint) (md : Region.Mode) (ops : Array Oper) : List Oper → Nat → Array Bool → Bool
  | [], _, listed => (Region.ready md ops listed).isEmpty
  | o :: l, k, listed => (Region.ready md ops listed).contains k && freeA H md ops listed k o && lexA H md ops l (k + 1) (listed.setIfInBounds k true)

theorem anyC_lex : ∀ (l : List Oper) (k : Nat) (listed : Array Bool) (st : St), (∀ j, l[j]? = ops[k + j]?) → lexA H md ops l k listed = true → opsC P H ops l K st → anyC P H md ops K l.length listed st
  | [], _, _, _, _, hB, h => ⟨by simpa [lexA] using hB, h⟩
  | o :: l, k, listed, st, hl, hB, h => by
    have h0 : ops[k]? = some o := by simpa using (hl 0).symm
    simp only [lexA, Bool.and_eq_true] at hB
    obtain ⟨⟨hr, hf⟩, hB'⟩ := hB
    simp only [freeA, Bool.and_eq_true, List.all_eq_true, beq_iff_eq] at hf
    obtain ⟨hun, hall⟩ := hf
    obtain ⟨st2, hs, hk⟩ := opsC_cons.1 h
    have inr : ∀ j oj, ops[j]? = some oj → j ∈ List.range ops.size := fun j oj hj => by
      have := (Array.getElem?_eq_some_iff.1 hj).1
      simpa using this
    refine anyC_first (D := descs md ops k) h0 (fun j oj hj hjD => ?_) l.length listed st hun (fun j oj hj hjk hju hjD => ?_) (by simpa using hr)
      ⟨st2, hs, anyC_lex l (k + 1) _ _ (fun j => by have := hl (j + 1); simpa [Nat.add_assoc, Nat.add_comm 1 j] using this) hB' hk⟩
    · have := hall j (inr j oj hj)
      simp only [hj, Bool.and_eq_true, Bool.or_eq_true, Bool.not_eq_true', List.contains_eq_mem, decide_eq_false_iff_not, decide_eq_true_eq, Array.any_eq_true', beq_iff_eq] at this
      rcases this.1 with h1 | h1
      · exact absurd hjD h1
      · obtain ⟨e, he, h2, h3⟩ := h1
        exact ⟨e, he, h2, h3⟩
    · have := hall j (inr j oj hj)
      simp only [hj, Bool.and_eq_true, Bool.or_eq_true, Bool.not_eq_true', List.contains_eq_mem, decide_eq_false_iff_not, decide_eq_true_eq, Array.any_eq_true', beq_iff_eq] at this
      rcases this.2 with ((h1 | h1) | h1) | h1
      · exact absurd h1 hjk
      · rw [h1] at hju; cases hju
      · exact absurd h1 hjD
      · exact h1

def commB (H : Hint) (ops : Array Oper) : Bool := lexA H .any ops ops.toList 0 (Array.replicate ops.size false)

end
end Go.Ab
