/- Regions that draw their order: what one operation reads and writes. -/
import Derived.Test.YtipepkfioecbmaaDoorAb17
set_option linter.unusedVariables false
set_option linter.unusedSimpArgs false
namespace Go.Ab

def tks (tk : Bool) : Operand → Option Nat
  | .tmp t => if tk then some t else none
  | _ => none
def tkE (s : Option Nat) (env : Nat → AV) : Nat → AV := match s with
  | some t => upd env t (env t).dem
  | none => env
def takeV (tk : Bool) (v : AV) : AV := if tk then v else v.dem

theorem grab_spec (tk : Bool) (x : Operand) (st : St) : grab tk x st = (takeV tk (rd st.env x), ⟨tkE (tks tk x) st.env, st.σ⟩) := by
  cases tk <;> cases x <;> simp [grab, takeV, tks, tkE, rd, AV.dem]

/-- An operation's value and heap, out of its operands' values. -/
def opV (P : Program) (H : Hint) (o : Oper) (ρ : Operand → AV) (σ : List Ent) : Option (AV × List Ent) :=
  match o.op with
  | .move x => some (nz P o.type (takeV (hd H.tk o.dst) (ρ x)), σ)
  | .assign x => some (nz P o.type (ρ x), σ)
  | .pick c a b => match ρ c with
    | .p (.sc (.bool c)) => some ((ρ (if c then a else b)).dem, σ)
    | _ => none
  | .build t ps => match zrT P t, agT P t with
    | some z, some (true, m) => if z.length = m ∧ stT P t = true then
        (buildA P t (z.map fun v => .p (.sc v)) (ps.toList.map fun x => (x.1, (ρ x.2).dem))).map fun cs => (.ag cs, σ) else none
    | _, _ => none
  | .buildSlice t n ps => match slT P t with
    | some (e, s, _, z) => match zeroE P e z with
      | some z => if n ≤ 4096 ∧ s ≤ 16 ∧ 0 < s then (fillA s (List.replicate n z) (ps.toList.map fun x => (x.1, ρ x.2))).map fun xs => (if hd H.tg o.dst then .tgt s xs else .own s xs, σ)
        else none
      | none => none
    | none => none
  | .load t a => loadA P t (hd H.tk o.dst) (ρ a) σ
  | .store t a x => (storeA P t (ρ a) (ρ x) σ).map fun σ => (un, σ)
  | .nilCheck x => match ρ x with
    | .ref i v f => some (.ref i v f, σ)
    | .cptr x => some (.cptr x, σ)
    | .fn (.func f) a b => some (.fn (.func f) a b, σ)
    | _ => none
  | .binOp op t x y _ => match (ρ x).sc?, (ρ y).sc? with
    | some a, some b => (bin P op t a b).map fun v => (.p (.sc v), σ)
    | _, _ => (nilQ P t op (ρ x) (ρ y)).map fun v => (v, σ)
  | .unOp op _ x => match (ρ x).sc? with
    | some a => (una op a).map fun v => (.p (.sc v), σ)
    | none => none
  | .convert src dst x => match inT P src, inT P dst, ρ x with
    | some _, some k, .p (.sc (.int _ n)) => some (.p (.sc (.int k (k.wrap n))), σ)
    | _, _, _ => none
  | .makeFunc f a b => some (.fn f (a.toList.map fun x => (ρ x).dem) (b.toList.map fun x => (ρ x).dem), σ)
  | .slice t x lo hi mx => (sliceA P t (ρ x) (lo.map ρ) (hi.map ρ) (mx.map ρ)).map fun v => (v, σ)
  | .fieldAddr t x f => (fldA P t (ρ x) f).map fun v => (v, σ)
  | .field t x f => (fieldA P t (ρ x) f).map fun v => (nz P o.type v.dem, σ)
  | .indexAddr t x i => match x with
    | .global v => (tabA (arT P t) (tabOf P v) (ρ i)).map fun v => (v, σ)
    | x => (idxA P t (ρ x) (ρ i)).map fun v => (v, σ)
  | .index t x i => (indexA P t (ρ x) (ρ i)).map fun v => (nz P o.type v.dem, σ)
  | .lookup t m k ok => lookA P t o.type (hd H.tk o.dst) ok (ρ m) (ρ k) σ
  | .mapUpdate t m k x => (mupA P t (ρ m) (ρ k) (ρ x) σ).map fun σ => (un, σ)
  | .call c => match c.callee with
    | .builtin .len => match c.args[0]?, c.argTypes[0]? with
      | some x, some t => match ρ x with
        | .mp id => match mpT P t, σ[id]? with
          | some _, some (.map kvs) => some (iv kvs.length, σ)
          | _, _ => none
        | v => match slT P t, lenA v with
          | some _, some n => some (iv n, σ)
          | _, _ => none
      | _, _ => none
    | .builtin .append => match c.args[0]?, c.args[1]?, c.argTypes[0]?, c.argTypes[1]? with
      | some x, some y, some t, some t' => match slT P t' with
        | none => none
        | some _ => if fzok (hd H.fz o.dst || hd H.ar o.dst) (nz P t (ρ x)) = true then appA P t (hd H.ar o.dst) (nz P t (ρ x)) (nz P t' (ρ y)) σ else none
      | _, _, _, _ => none
    | .builtin .min => match c.args.toList.mapM fun x => (ρ x).sc? with
      | some vs => (mm false vs).map fun v => (.p (.sc v), σ)
      | none => none
    | .builtin .max => match c.args.toList.mapM fun x => (ρ x).sc? with
      | some vs => (mm true vs).map fun v => (.p (.sc v), σ)
      | none => none
    | _ => none
  | _ => none

/-- The slot that it takes from. -/
def tkS (H : Hint) (o : Oper) : Option Nat := match o.op with
  | .move x => tks (hd H.tk o.dst) x
  | .assign x => tks true x
  | .store _ _ x => tks true x
  | .slice _ x _ _ _ => tks true x
  | .mapUpdate _ _ _ x => tks true x
  | .call c => match c.callee with
    | .builtin .append => match c.args[0]? with
      | some x => tks true x
      | none => none
    | _ => none
  | _ => none

/-- Is it one of those that are known here? -/
def okD (H : Hint) (o : Oper) : Bool := match o.op with
  | .move _ => !hd H.fz o.dst && !hd H.ar o.dst
  | .assign _ => !hd H.fz o.dst && !hd H.ar o.dst
  | .buildSlice .. => !hd H.ar o.dst
  | .pick .. => true
  | .build .. => true
  | .load .. => true
  | .store .. => true
  | .nilCheck .. => true
  | .binOp .. => true
  | .unOp .. => true
  | .convert .. => true
  | .makeFunc .. => true
  | .slice .. => true
  | .fieldAddr .. => true
  | .field .. => true
  | .indexAddr .. => true
  | .index .. => true
  | .lookup .. => true
  | .mapUpdate .. => true
  | .call c => match c.callee with
    | .builtin .len => true
    | .builtin .append => true
    | .builtin .min => true
    | .builtin .max => true
    | .value _ => true
    | _ => false
  | _ => false

theorem stepF_eq {P : Program} {H : Hint} {o : Oper} {st : St} (hok : okD H o = true) (hc : isC o = false) :
    stepF P H o st = (opV P H o (rd st.env) st.σ).map fun r => (r.1, ⟨tkE (tkS H o) st.env, r.2⟩) := by
  obtain ⟨dst, op, type, pos, after, guard⟩ := o
  obtain ⟨env, σ⟩ := st
  cases op with
  | move x =>
    simp only [okD, Bool.and_eq_true, Bool.not_eq_true'] at hok
    simp only [stepF, opF, opV, tkS, movA, grab_spec, hok.1, hok.2, Option.map_some]
    rfl
  | assign x =>
    simp only [okD, Bool.and_eq_true, Bool.not_eq_true'] at hok
    simp only [stepF, opF, opV, tkS, movA, grab_spec, hok.1, hok.2, Option.map_some]
    rfl
  | pick c x y =>
    simp only [stepF, opF, opV, tkS, tkE]
    split <;> simp_all
  | build t ps =>
    simp only [stepF, opF, opV, tkS, tkE]
    split
    · split <;> simp [Function.comp_def, *]
    · simp
  | buildSlice t m ps =>
    simp only [okD, Bool.not_eq_true'] at hok
    simp only [stepF, opF, opV, tkS, tkE, hok, Bool.false_and]
    cases slT P t with
    | none => rfl
    | some T =>
      obtain ⟨e, s, b, z⟩ := T
      simp only
      cases zeroE P e z with
      | none => rfl
      | some z => simp only; split <;> simp [Function.comp_def]
  | load t a => simp only [stepF, opF, opV, tkS, tkE, withσ]
  | store t a x =>
    simp only [stepF, opF, opV, tkS, grab_spec, store', takeV, Option.map_map, Function.comp_def]
    rfl
  | nilCheck x =>
    simp only [stepF, opF, opV, tkS, tkE]
    split <;> simp_all
  | binOp op t x y ty =>
    simp only [stepF, opF, opV, tkS, tkE, only]
    split <;> simp_all [Function.comp_def]
  | unOp op t x =>
    simp only [stepF, opF, opV, tkS, tkE, only]
    split <;> simp_all [Function.comp_def]
  | convert s d x =>
    simp only [stepF, opF, opV, tkS, tkE]
    split <;> simp_all
  | makeFunc f a b => simp only [stepF, opF, opV, tkS, tkE, Option.map_some]
  | slice t x lo hi mx =>
    simp only [stepF, opF, opV, tkS, grab_spec, takeV, only, Option.map_map, Function.comp_def]
    rfl
  | fieldAddr t x f => simp only [stepF, opF, opV, tkS, tkE, only, Option.map_map, Function.comp_def]
  | field t x f => simp only [stepF, opF, opV, tkS, tkE, only, Option.map_map, Function.comp_def]
  | indexAddr t x i => cases x <;> simp only [stepF, opF, opV, tkS, tkE, only, Option.map_map, Function.comp_def]
  | index t x i => simp only [stepF, opF, opV, tkS, tkE, only, Option.map_map, Function.comp_def]
  | lookup t m k ok => simp only [stepF, opF, opV, tkS, tkE, withσ]
  | mapUpdate t m k x =>
    simp only [stepF, opF, opV, tkS, grab_spec, takeV, store', Option.map_map, Function.comp_def]
    rfl
  | call c =>
    obtain ⟨callee, args, ts⟩ := c
    cases callee with
    | builtin b =>
      cases b with
      | len =>
        simp only [stepF, opV, tkS, tkE, bltF]
        cases args[0]? with
        | none => rfl
        | some x =>
          cases ts[0]? with
          | none => rfl
          | some t =>
            simp only
            cases rd env x with
            | mp id => simp only; split <;> simp_all
            | _ => simp only; split <;> simp_all
      | append =>
        simp only [stepF, opV, tkS, bltF]
        cases args[0]? with
        | none => rfl
        | some x =>
          cases args[1]? with
          | none => rfl
          | some y =>
            cases ts[0]? with
            | none => rfl
            | some t =>
              cases ts[1]? with
              | none => rfl
              | some t' =>
                simp only [grab_spec, takeV, if_true, withσ]
                cases slT P t' with
                | none => rfl
                | some T => simp only; split <;> rfl
      | min =>
        simp only [stepF, opV, tkS, tkE, bltF, only]
        cases (args.toList.mapM fun x => (rd env x).sc?) with
        | none => rfl
        | some vs => simp [Function.comp_def]
      | max =>
        simp only [stepF, opV, tkS, tkE, bltF, only]
        cases (args.toList.mapM fun x => (rd env x).sc?) with
        | none => rfl
        | some vs => simp [Function.comp_def]
      | _ => simp [okD] at hok
    | value f => simp [isC] at hc
    | _ => simp [okD] at hok
  | _ => simp [okD] at hok

theorem mapM_same {α β : Type} {f g : α → Option β} : ∀ {l : List α}, (∀ x ∈ l, f x = g x) → l.mapM f = l.mapM g := by
  intro l
  induction l with
  | nil => intro _; rfl
  | cons x l ih => intro h; simp only [List.mapM_cons, h x (List.mem_cons_self ..), ih fun y hy => h y (List.mem_cons_of_mem _ hy)]

theorem opV_congr {P : Program} {H : Hint} {o : Oper} {ρ ρ' : Operand → AV} {σ : List Ent} (h : ∀ x ∈ o.op.operands, ρ x = ρ' x) : opV P H o ρ σ = opV P H o ρ' σ := by
  obtain ⟨dst, op, type, pos, after, guard⟩ := o
  cases op with
  | build t ps =>
    simp only [Op.operands] at h
    have : (ps.toList.map fun x => (x.1, (ρ x.2).dem)) = (ps.toList.map fun x => (x.1, (ρ' x.2).dem)) := List.map_congr_left fun p hp => by rw [h p.2 (by simp; exact ⟨p.1, by simpa using hp⟩)]
    simp only [opV, this]
  | buildSlice t n ps =>
    simp only [Op.operands] at h
    have : (ps.toList.map fun x => (x.1, ρ x.2)) = (ps.toList.map fun x => (x.1, ρ' x.2)) := List.map_congr_left fun p hp => by rw [h p.2 (by simp; exact ⟨p.1, by simpa using hp⟩)]
    simp only [opV, this]
  | makeFunc f a b =>
    simp only [Op.operands] at h
    have h1 : (a.toList.map fun x => (ρ x).dem) = (a.toList.map fun x => (ρ' x).dem) := List.map_congr_left fun p hp => by rw [h p (by simp; exact .inl (by simpa using hp))]
    have h2 : (b.toList.map fun x => (ρ x).dem) = (b.toList.map fun x => (ρ' x).dem) := List.map_congr_left fun p hp => by rw [h p (by simp; exact .inr (by simpa using hp))]
    simp only [opV, h1, h2]
  | call c =>
    obtain ⟨callee, args, ts⟩ := c
    have ha : ∀ x ∈ args, ρ x = ρ' x := fun x hx => h x (by simp [Op.operands, Call.operands, hx])
    have h0 : ∀ (i : Nat) x, args[i]? = some x → ρ x = ρ' x := fun i x hx => ha x (Array.mem_of_getElem? hx)
    cases callee with
    | builtin b =>
      cases b with
      | len =>
        simp only [opV]
        cases hx : args[0]? with
        | none => rfl
        | some x => cases ts[0]? with
          | none => rfl
          | some t => simp only [h0 0 x hx]
      | append =>
        simp only [opV]
        cases hx : args[0]? with
        | none => rfl
        | some x =>
          cases hy : args[1]? with
          | none => rfl
          | some y => cases ts[0]? with
            | none => rfl
            | some t => cases ts[1]? with
              | none => rfl
              | some t' => simp only [h0 0 x hx, h0 1 y hy]
      | min =>
        have : (args.toList.mapM fun x => (ρ x).sc?) = (args.toList.mapM fun x => (ρ' x).sc?) := mapM_same (fun x hx => by rw [ha x (by simpa using hx)])
        simp only [opV, this]
      | max =>
        have : (args.toList.mapM fun x => (ρ x).sc?) = (args.toList.mapM fun x => (ρ' x).sc?) := mapM_same (fun x hx => by rw [ha x (by simpa using hx)])
        simp only [opV, this]
      | _ => rfl
    | _ => rfl
  | pick c x y =>
    simp only [Op.operands] at h
    have h1 := h c (by simp)
    have h2 := h x (by simp)
    have h3 := h y (by simp)
    simp only [opV, h1]
    split
    · rename_i b _; cases b <;> simp [h2, h3]
    · rfl
  | slice t x lo hi mx =>
    simp only [Op.operands] at h
    have h1 := h x (by simp)
    have h2 : lo.map ρ = lo.map ρ' := by cases lo <;> simp_all
    have h3 : hi.map ρ = hi.map ρ' := by cases hi <;> simp_all
    have h4 : mx.map ρ = mx.map ρ' := by cases mx <;> simp_all
    simp only [opV, h1, h2, h3, h4]
  | indexAddr t x i => cases x <;> (simp only [Op.operands] at h; simp_all [opV]; done)
  | _ => first | rfl | (simp only [Op.operands] at h; simp_all [opV]; done)

end Go.Ab
