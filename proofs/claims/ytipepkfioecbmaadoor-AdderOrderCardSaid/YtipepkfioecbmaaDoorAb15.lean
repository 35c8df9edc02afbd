/- The abstract meaning of code: what must hold now for Q to hold behind it. -/
import Derived.Test.YtipepkfioecbmaaDoorAb14
set_option linter.unusedVariables false
set_option linter.unusedSimpArgs false
namespace Go.Ab

/-- The tables lie where nobody writes. -/
def Tab (P : Program) (w : World) (g : Gm) (ow : Ow) : Prop :=
  ∀ (v : Nat) vs, tabOf P v = some vs → ow v = none ∧ v < w.heap.size ∧ vs.length ≤ g.φ v ∧ ∀ (j : Nat) x, vs[j]? = some x → w.cell? ⟨v, j, none⟩ = some (.int .u8 x)

theorem Tab.ext {P : Program} {w w' : World} {g g' : Gm} {ow ow' : Ow} (h : Tab P w g ow) (hX : Ext w g ow w' g' ow') : Tab P w' g' ow' := by
  intro v vs hv
  obtain ⟨h1, h2, h3, h4⟩ := h v vs hv
  obtain ⟨k1, k2, k3⟩ := hX.same v h2 h1
  refine ⟨k3, Nat.lt_of_lt_of_le h2 hX.size, by rw [k2]; exact h3, fun j x hx => hX.stab.cell _ _ _ ?_ (h4 j x hx)⟩
  have : j < vs.length := (List.getElem?_eq_some_iff.1 hx).1
  omega

theorem tab_ok {P : Program} {H : Hint} {o : Oper} {w : World} {g : Gm} {ow : Ow} {n : Nat} {a : Act} {st st' : St} {v : AV} {t : TypeId} {q : Nat} {i : Operand} (hI : Inv w g ow n a st) (ht : Tab P w g ow) (ho : o.op = .indexAddr t (.global q) i)
    (h : opF P H o st = some (v, st')) : OpOk P o w g ow n a st' v := by
  simp only [opF, ho, only, Option.map_eq_some_iff, Prod.mk.injEq] at h
  obtain ⟨u, hu, rfl, rfl⟩ := h
  unfold tabA at hu
  split at hu
  · rename_i n' vs kk i' har htb hi
    have hiv := rd_sc hI hi
    split at hu
    · rename_i hq
      obtain ⟨hn, h0, h1⟩ := hq
      subst hn
      obtain ⟨h2, h3, h4, h5⟩ := ht q vs htb
      cases hx : vs[i'.toNat]? with
      | none => rw [hx] at hu; cases hu
      | some x =>
        rw [hx] at hu
        simp only [Option.map_some, Option.some.injEq] at hu
        subst hu
        obtain ⟨e, hut, hag⟩ := arT_eq har
        obtain ⟨d, inf, hd, hinf, hs, hA⟩ := agT_eq hag
        have hlt : i'.toNat < vs.length := (List.getElem?_eq_some_iff.1 hx).1
        have hgl : a.eval (.global q) = .pointer (some ⟨q, 0, none⟩) := rfl
        refine OpOk.pure hI (x := .pointer (some ⟨q, 0 + i'.toNat * 1, none⟩)) ?_ (.cptr1 _ _ _ _ ?_ (by simpa using h5 _ x hx) rfl (by omega) (.sc _))
        · simp [execOp, ho, hgl, hiv, Instr.indexAt, asIntOf, run_underlying hut, Instr.sureAddr, h0, h1, run_sizeOf' w hinf, hs, add_at]
        · intro cs hc; cases hc
    · cases hu
  · cases hu

/-- One operation, no call of a function. -/
theorem opF_ok {P : Program} {H : Hint} {o : Oper} {w : World} {g : Gm} {ow : Ow} {n : Nat} {a : Act} {st st' : St} {v : AV} (hI : Inv w g ow n a st) (ht : Tab P w g ow) (h : opF P H o st = some (v, st')) : OpOk P o w g ow n a st' v := by
  cases ho : o.op with
  | move x => exact movA_ok (x := x) hI (by simp [execOp, ho]) (by simpa only [opF, ho] using h)
  | assign x => exact movA_ok (x := x) hI (by simp [execOp, ho]) (by simpa only [opF, ho] using h)
  | pick c x y => exact pick_ok hI ho h
  | alloc e => exact alloc_ok hI ho h
  | box e x => exact box_ok hI ho h
  | build t ps => exact build_ok hI ho h
  | buildSlice t m ps => exact buildSlice_ok hI ho h
  | load t p => exact load_ok hI ho h
  | store t p x => exact store_ok hI ho h
  | nilCheck x => exact nilCheck_ok hI ho h
  | binOp op t x y ty => exact bin_op_ok hI ho h
  | unOp op t x => exact un_op_ok hI ho h
  | convert t d x => exact conv_ok hI ho h
  | makeFunc f x y => exact makeFunc_ok hI ho h
  | makeMap t r => exact makeMap_ok hI ho h
  | makeSlice t l c => exact makeSlice_ok hI ho h
  | slice t x lo hi mx => exact slice_ok hI ho h
  | fieldAddr t x f => exact fldA_ok hI ho h
  | field t x f => exact field_ok hI ho h
  | indexAddr t x i =>
    by_cases hx : ∃ q, x = .global q
    · obtain ⟨q, rfl⟩ := hx
      exact tab_ok hI ht ho h
    · exact idxA_ok hI ho (fun q hq => hx ⟨q, hq⟩) h
  | index t x i => exact index_ok hI ho h
  | lookup t m k ok => exact lookup_ok hI ho h
  | mapUpdate t m k x => exact mapUpdate_ok hI ho h
  | extract x i => exact extract_ok hI ho h
  | _ => simp [opF, ho] at h

theorem bltF_ok {P : Program} {H : Hint} {b : Builtin} {c : Call} {o : Oper} {w : World} {g : Gm} {ow : Ow} {n : Nat} {a : Act} {st st' : St} {v : AV} (hI : Inv w g ow n a st) (ho : o.op = .call c) (hc : c.callee = .builtin b)
    (h : bltF P H b o c st = some (v, st')) : OpOk P o w g ow n a st' v := by
  cases b with
  | len => exact len_ok hI ho hc h
  | append => exact append_ok hI ho hc h
  | min => exact mm_ok (mx := false) hI ho hc h
  | max => exact mm_ok (mx := true) hI ho hc h
  | _ => simp [bltF] at h

/-! ### Calls -/
mutual
def AV.scal : AV → Bool
  | .p (.sc _) => true
  | .tu vs => AV.scalL vs
  | _ => false
def AV.scalL : List AV → Bool
  | [] => true
  | x :: xs => x.scal && AV.scalL xs
end

/-- The machine can enter it. -/
def plainF (P : Program) (f : FuncId) : Bool := match P.funcs[f]? with
  | some fn => fn.body.isSome && !(fn.name == "runtime.NumGoroutine")
  | none => false

def CPost (w : World) (g : Gm) (ow : Ow) (res : AV) (σ' : List Ent) (v : Value) (w' : World) : Prop :=
  ∃ g' ow', Ext w g ow w' g' ow' ∧ RepA w' g' (fun path b => ow' b = some (.acc path)) res v ∧
    (∀ (id : Nat) e, σ'[id]? = some e → RepE w' g' ow' id e) ∧ g'.N = σ'.length ∧ ∀ b, ow' b ≠ none → b < w'.heap.size

def Calls' (P : Program) (f : FuncId) (w : World) (g : Gm) (ow : Ow) (vals : Array Value) (res : AV) (σ' : List Ent) : Prop :=
  Calls P f vals w fun e w' => ∃ v, e = .returned v ∧ CPost w g ow res σ' v w'

/-- Called with these values over this heap, f returns this and leaves that heap. -/
def Ret (P : Program) (f : FuncId) (args : List AV) (σ : List Ent) (res : AV) (σ' : List Ent) : Prop :=
  plainF P f = true ∧ ∀ (w : World) (g : Gm) (ow : Ow) (vals : List Value), vals.length = args.length →
    (∀ (i : Nat) x v, args[i]? = some x → vals[i]? = some v → RepA w g (fun path b => ow b = some (.slot i path)) x v) →
    (∀ (id : Nat) e, σ[id]? = some e → RepE w g ow id e) → g.N = σ.length → (∀ b, ow b ≠ none → b < w.heap.size) → Tab P w g ow → Calls' P f w g ow vals.toArray res σ'

def gcσ (n : Nat) (res : AV) (σ : List Ent) : List Ent :=
  if σ.length = n then σ else if res.lt n && (σ.take n).all (Ent.below n) then σ.take n else σ

/-- An argument as it is handed on. -/
def argA (vw : Bool) (σ : List Ent) (x : AV) : AV :=
  if vw then (match x with
    | .arr s _ _ _ _ => match seen x σ with
      | some (_, xs) => .p (.sl s xs)
      | none => x
    | x => x.dem)
  else x.dem

def nzL (P : Program) : List TypeId → List AV → List AV
  | t :: ts, x :: xs => nz P t x :: nzL P ts xs
  | _, xs => xs

/-- What a call hands back becomes an array. -/
def impA (ar : Bool) (res : AV) (st : St) : Option (AV × St) :=
  if ar then (match res with
    | .own 1 xs => if xs.all (fun x => match x with | .sc v => v.oneCell' | _ => false) then
        some (.arr 1 st.σ.length 0 0 xs.length, { st with σ := st.σ ++ [.cells 0 (xs.map .p)] }) else none
    | _ => none)
  else some (res, st)

def callW (P : Program) (H : Hint) (o : Oper) (c : Call) (st : St) (K : AV → St → Prop) : Prop :=
  match c.callee with
  | .value f => match rd st.env f with
    | .fn (.func q) first captured =>
      let vw := hd H.vw o.dst
      let args := first ++ nzL P c.argTypes.toList (c.args.toList.map fun x => argA vw st.σ (rd st.env x)) ++ captured
      if AV.ltL 0 args then ∃ res σ', Ret P q args [] res σ' ∧ res.lt 0 = true ∧ (vw = true → res.scal = true) ∧
          ∃ v st', impA (hd H.ar o.dst) res st = some (v, st') ∧ K v st'
      else vw = false ∧ hd H.ar o.dst = false ∧ ∃ res σ', Ret P q args st.σ res σ' ∧ K res { st with σ := gcσ st.σ.length res σ' }
    | _ => False
  | _ => False

/-! ### Operations in a row -/
/-- Is it carried out? -/
def gd (ops : Array Oper) (st : St) (o : Oper) : Option Bool :=
  match o.guard with
  | none => some true
  | some (j, want) => match (ops[j]?).bind (·.dst) with
    | some d => match st.env d with
      | .p (.sc (.bool c)) => some (c == want)
      | .p (.sc _) => some false
      | _ => none
    | none => some false

def opsC (P : Program) (H : Hint) (ops : Array Oper) : List Oper → (St → Prop) → St → Prop
  | [], K, st => K st
  | o :: rest, K, st => match gd ops st o with
    | none => False
    | some false => opsC P H ops rest K (st.put o.dst un)
    | some true => match o.op with
      | .call c => match c.callee with
        | .builtin b => match bltF P H b o c st with
          | some (v, st') => opsC P H ops rest K (st'.put o.dst v)
          | none => False
        | _ => callW P H o c st fun v st' => opsC P H ops rest K (st'.put o.dst v)
      | _ => match opF P H o st with
        | some (v, st') => opsC P H ops rest K (st'.put o.dst v)
        | none => False

/-! ### Any order -/
def isC (o : Oper) : Bool := match o.op with
  | .call c => match c.callee with
    | .builtin _ => false
    | _ => true
  | _ => false

def stepF (P : Program) (H : Hint) (o : Oper) (st : St) : Option (AV × St) := match o.op with
  | .call c => match c.callee with
    | .builtin b => bltF P H b o c st
    | _ => none
  | _ => opF P H o st

def Out (P : Program) (H : Hint) (o : Oper) (st : St) (v : AV) (st' : St) : Prop :=
  if isC o then ∃ c, o.op = .call c ∧ callW P H o c st (fun v' s' => v' = v ∧ s' = st') else stepF P H o st = some (v, st')

def Stp (P : Program) (H : Hint) (ops : Array Oper) (o : Oper) (st st2 : St) : Prop :=
  (gd ops st o = some false ∧ st2 = st.put o.dst un) ∨ (gd ops st o = some true ∧ ∃ v st', Out P H o st v st' ∧ st2 = st'.put o.dst v)

def anyC (P : Program) (H : Hint) (md : Region.Mode) (ops : Array Oper) (K : St → Prop) : Nat → Array Bool → St → Prop
  | 0, listed, st => Region.ready md ops listed = [] ∧ K st
  | fuel + 1, listed, st => (Region.ready md ops listed = [] → K st) ∧
    ∀ i ∈ Region.ready md ops listed, ∀ o, ops[i]? = some o → ∃ st2, Stp P H ops o st st2 ∧ anyC P H md ops K fuel (listed.setIfInBounds i true) st2

theorem anyC_mono {P : Program} {H : Hint} {md : Region.Mode} {ops : Array Oper} {K K' : St → Prop} (hk : ∀ s, K s → K' s) : ∀ (fuel : Nat) (listed : Array Bool) (st : St), anyC P H md ops K fuel listed st → anyC P H md ops K' fuel listed st := by
  intro fuel
  induction fuel with
  | zero => exact fun listed st h => ⟨h.1, hk _ h.2⟩
  | succ fuel ih =>
    intro listed st h
    exact ⟨fun hr => hk _ (h.1 hr), fun i hi o ho => by obtain ⟨st2, h1, h2⟩ := h.2 i hi o ho; exact ⟨st2, h1, ih _ _ h2⟩⟩

/-! ### Code -/
def thenE (R : St → Prop) (Q : Exit → St → Prop) : Exit → St → Prop
  | .normal, s => R s
  | e, s => Q e s
def blockE (id : Nat) (Q : Exit → St → Prop) : Exit → St → Prop
  | .exit id', s => if id' = id then Q .normal s else Q (.exit id') s
  | e, s => Q e s

def LoopP (B : (Exit → St → Prop) → St → Prop) (Q : Exit → St → Prop) (st : St) : Prop :=
  ∀ R : St → Prop, (∀ s, B (thenE R Q) s → R s) → R st

def evC (P : Program) (H : Hint) (dr : Array Oper → Bool) : Code → (Exit → St → Prop) → St → Prop
  | .skip, Q, st => Q .normal st
  | .label _, Q, st => Q .normal st
  | .region _ ops draw, Q, st => if draw then (dr ops = true ∧ opsC P H ops ops.toList (Q .normal) st) ∨ (P.follows .mixedOrders = true ∧ anyC P H .any ops (Q .normal) ops.size (Array.replicate ops.size false) st)
    else opsC P H ops ops.toList (Q .normal) st
  | .seq x y, Q, st => evC P H dr x (thenE (evC P H dr y Q) Q) st
  | .cond c x y, Q, st => match rd st.env c with
    | .p (.sc (.bool b)) => if b then evC P H dr x Q st else evC P H dr y Q st
    | _ => False
  | .block id b, Q, st => evC P H dr b (blockE id Q) st
  | .loop b, Q, st => LoopP (evC P H dr b) Q st
  | .exit id, Q, st => Q (.exit id) st
  | .ret, Q, st => Q .ret st
  | _, _, _ => False

/-- Every slot that is written is one of the frame's. -/
def wfC (n : Nat) : Code → Bool
  | .region _ ops _ => ops.toList.all fun o => o.dst.all fun d => decide (d < n)
  | .seq x y => wfC n x && wfC n y
  | .cond _ x y => wfC n x && wfC n y
  | .block _ b => wfC n b
  | .loop b => wfC n b
  | _ => true

/-! ### More is less -/
theorem callW_mono {P : Program} {H : Hint} {o : Oper} {c : Call} {st : St} {K K' : AV → St → Prop} (hk : ∀ v s, K v s → K' v s) (h : callW P H o c st K) : callW P H o c st K' := by
  unfold callW at *
  cases hc : c.callee with
  | value f =>
    simp only [hc] at h ⊢
    cases hf : rd st.env f with
    | fn fn first captured =>
      cases fn with
      | func q =>
        simp only [hf] at h ⊢
        split
        · rename_i hp
          rw [if_pos hp] at h
          obtain ⟨res, σ', h1, h2, h3, v, st', h4, h5⟩ := h
          exact ⟨res, σ', h1, h2, h3, v, st', h4, hk _ _ h5⟩
        · rename_i hp
          rw [if_neg hp] at h
          obtain ⟨h1, h2, res, σ', h3, h4⟩ := h
          exact ⟨h1, h2, res, σ', h3, hk _ _ h4⟩
      | _ => simp only [hf] at h
    | _ => simp only [hf] at h
  | _ => simp only [hc] at h

theorem opsC_mono {P : Program} {H : Hint} {ops : Array Oper} {K K' : St → Prop} (hk : ∀ s, K s → K' s) : ∀ (l : List Oper) (st : St), opsC P H ops l K st → opsC P H ops l K' st := by
  intro l
  induction l with
  | nil => exact fun st h => hk st h
  | cons o rest ih =>
    intro st h
    unfold opsC at h ⊢
    split <;> simp only [*] at h
    · exact ih _ h
    · split <;> simp only [*] at h
      · split <;> simp only [*] at h
        · split <;> simp only [*] at h
          · exact ih _ h
        · exact callW_mono (fun v s => ih _) h
      · split <;> simp only [*] at h
        · exact ih _ h

theorem evC_mono {P : Program} {H : Hint} {dr : Array Oper → Bool} (c : Code) : ∀ {Q Q' : Exit → St → Prop} (st : St), (∀ e s, Q e s → Q' e s) → evC P H dr c Q st → evC P H dr c Q' st := by
  induction c with
  | skip => exact fun st hq h => hq _ _ h
  | label => exact fun st hq h => hq _ _ h
  | region id ops draw =>
    intro Q Q' st hq h
    cases draw with
    | false => exact opsC_mono (hq .normal) _ _ h
    | true =>
      rcases h with h | h
      · exact .inl ⟨h.1, opsC_mono (hq .normal) _ _ h.2⟩
      · exact .inr ⟨h.1, anyC_mono (hq .normal) _ _ _ h.2⟩
  | seq x y ihx ihy =>
    intro Q Q' st hq h
    refine ihx st (fun e s hs => ?_) h
    cases e <;> first | exact ihy s hq hs | exact hq _ _ hs
  | cond c x y ihx ihy =>
    intro Q Q' st hq h
    simp only [evC] at h ⊢
    split
    · rename_i b hb
      simp only [hb] at h
      cases b with
      | true => exact ihx st hq h
      | false => exact ihy st hq h
    · rename_i hb
      split at h
      · rename_i b hb'
        exact absurd hb' (hb b)
      · exact h
  | block id b ih =>
    intro Q Q' st hq h
    refine ih st (fun e s hs => ?_) h
    cases e with
    | exit id' => simp only [blockE] at hs ⊢; split <;> (rename_i hh; simp only [hh] at hs) <;> exact hq _ _ (by simpa using hs)
    | _ => exact hq _ _ hs
  | loop b ih =>
    intro Q Q' st hq h R hR
    refine h R fun s hs => hR s (ih s (fun e s' hs' => ?_) hs)
    cases e <;> first | exact hs' | exact hq _ _ hs'
  | exit => exact fun st hq h => hq _ _ h
  | ret => exact fun st hq h => hq _ _ h
  | _ => exact fun st hq h => h.elim

/-- A loop's round. -/
theorem loop_round {P : Program} {H : Hint} {dr : Array Oper → Bool} {b : Code} {Q : Exit → St → Prop} {st : St} (h : evC P H dr b (thenE (LoopP (evC P H dr b) Q) Q) st) : LoopP (evC P H dr b) Q st := by
  intro R hR
  refine hR st (evC_mono b st (fun e s hs => ?_) h)
  cases e <;> first | exact hs R hR | exact hs

end Go.Ab
