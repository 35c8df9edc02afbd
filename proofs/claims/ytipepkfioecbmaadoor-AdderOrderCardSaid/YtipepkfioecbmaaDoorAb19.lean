/- The walk: the same meaning with what comes next as data, so that simp goes along one road. -/
import Derived.Test.YtipepkfioecbmaaDoorAb18
set_option linter.unusedVariables false
set_option linter.unusedSimpArgs false
namespace Go.Ab

inductive Kont where
  | done (Q : Exit → St → Prop)
  | seq (b : Code) (k : Kont)
  | blk (id : Nat) (k : Kont)
  | loop (b : Code) (k : Kont)
  | jump (R : St → Prop) (k : Kont)

section
variable (P : Program) (H : Hint) (dr : Array Oper → Bool)

def runK : Kont → Exit → St → Prop
  | .done Q => Q
  | .seq b k => thenE (evC P H dr b (runK k)) (runK k)
  | .blk id k => blockE id (runK k)
  | .loop b k => thenE (LoopP (evC P H dr b) (runK k)) (runK k)
  | .jump R k => thenE R (runK k)

def evK (c : Code) (k : Kont) (st : St) : Prop := evC P H dr c (runK P H dr k) st
def opsK (ops : Array Oper) (l : List Oper) (k : Kont) (st : St) : Prop := opsC P H ops l (runK P H dr k .normal) st
/-- A region that draws its order: as the text has it, or in any order. -/
def drawK (ops : Array Oper) (k : Kont) (st : St) (X : Prop) : Prop := (dr ops = true ∧ X) ∨ (P.follows .mixedOrders = true ∧ anyC P H .any ops (runK P H dr k .normal) ops.size (Array.replicate ops.size false) st)
def brK (b : Bool) (x y : Code) (k : Kont) (st : St) : Prop := if b then evK P H dr x k st else evK P H dr y k st
def condK (v : AV) (x y : Code) (k : Kont) (st : St) : Prop := match v with | .p (.sc (.bool b)) => brK P H dr b x y k st | _ => False
def loopK (b : Code) (k : Kont) (st : St) : Prop := LoopP (evC P H dr b) (runK P H dr k) st
def callK (o : Oper) (c : Call) (ops : Array Oper) (rest : List Oper) (k : Kont) (st : St) : Prop := callW P H o c st fun v st' => opsK P H dr ops rest k (st'.put o.dst v)
def resK (r : Option (AV × St)) (d : Option Tmp) (ops : Array Oper) (rest : List Oper) (k : Kont) : Prop := match r with | some (v, st) => opsK P H dr ops rest k (st.put d v) | none => False
/-- An operation behind a guard. -/
def gdK (b : Option Bool) (o : Oper) (ops : Array Oper) (rest : List Oper) (k : Kont) (st : St) : Prop := match b with
  | none => False
  | some false => opsK P H dr ops rest k (st.put o.dst un)
  | some true => opsK P H dr ops ({ o with guard := none } :: rest) k st

end

section
variable {P : Program} {H : Hint} {dr : Array Oper → Bool} {k : Kont} {st : St}

@[go_sem] theorem evK_skip : evK P H dr .skip k st = runK P H dr k .normal st := rfl
@[go_sem] theorem evK_seq {x y : Code} : evK P H dr (.seq x y) k st = evK P H dr x (.seq y k) st := rfl
@[go_sem] theorem evK_region {id : Nat} {ops : Array Oper} : evK P H dr (.region id ops false) k st = opsK P H dr ops ops.toList k st := by simp [evK, evC, opsK]
@[go_sem] theorem evK_draw {id : Nat} {ops : Array Oper} : evK P H dr (.region id ops true) k st = drawK P H dr ops k st (opsK P H dr ops ops.toList k st) := by simp [evK, evC, opsK, drawK]
@[go_sem] theorem evK_cond {c : Operand} {x y : Code} : evK P H dr (.cond c x y) k st = condK P H dr (rd st.env c) x y k st := rfl
@[go_sem] theorem evK_block {id : Nat} {b : Code} : evK P H dr (.block id b) k st = evK P H dr b (.blk id k) st := rfl
@[go_sem] theorem evK_loop {b : Code} : evK P H dr (.loop b) k st = loopK P H dr b k st := rfl
@[go_sem] theorem evK_exit {id : Nat} : evK P H dr (.exit id) k st = runK P H dr k (.exit id) st := rfl
@[go_sem] theorem evK_ret : evK P H dr .ret k st = runK P H dr k .ret st := rfl

theorem drawK_lex {ops : Array Oper} {X : Prop} (h : dr ops = true) (h2 : X) : drawK P H dr ops k st X := .inl ⟨h, h2⟩

/-- All orders of a region, as a tree. -/
inductive Tr where
  | nd (l : List (Nat × Tr))

mutual
def trK (P : Program) (H : Hint) (dr : Array Oper → Bool) (ops : Array Oper) (K : St → Prop) : Tr → St → Prop
  | .nd [], st => K st
  | .nd (x :: l), st => trL P H dr ops K (x :: l) st
def trL (P : Program) (H : Hint) (dr : Array Oper → Bool) (ops : Array Oper) (K : St → Prop) : List (Nat × Tr) → St → Prop
  | [], _ => True
  | (i, t) :: l, st => (match ops[i]? with | some o => opsK P H dr ops [o] (.jump (trK P H dr ops K t) (.done fun _ _ => False)) st | none => False) ∧ trL P H dr ops K l st
end

def treeL (f : Nat → Option Tr) : List Nat → Option (List (Nat × Tr))
  | [] => some []
  | i :: l => match f i, treeL f l with
    | some t, some r => some ((i, t) :: r)
    | _, _ => none
def tree (md : Region.Mode) (ops : Array Oper) : Nat → Array Bool → Option Tr
  | 0, listed => if Region.ready md ops listed = [] then some (.nd []) else none
  | fuel + 1, listed => (treeL (fun i => tree md ops fuel (listed.setIfInBounds i true)) (Region.ready md ops listed)).map .nd

@[go_sem] theorem condK_bool {b : Bool} {x y : Code} : condK P H dr (.p (.sc (.bool b))) x y k st = brK P H dr b x y k st := rfl
@[go_sem] theorem brK_true {x y : Code} : brK P H dr true x y k st = evK P H dr x k st := rfl
@[go_sem] theorem brK_false {x y : Code} : brK P H dr false x y k st = evK P H dr y k st := rfl

@[go_sem] theorem runK_done {Q : Exit → St → Prop} {e : Exit} : runK P H dr (.done Q) e st = Q e st := rfl
@[go_sem] theorem runK_seq {b : Code} : runK P H dr (.seq b k) .normal st = evK P H dr b k st := rfl
@[go_sem] theorem runK_seq_exit {b : Code} {id : Nat} : runK P H dr (.seq b k) (.exit id) st = runK P H dr k (.exit id) st := rfl
@[go_sem] theorem runK_seq_ret {b : Code} : runK P H dr (.seq b k) .ret st = runK P H dr k .ret st := rfl
@[go_sem] theorem runK_blk {id : Nat} : runK P H dr (.blk id k) .normal st = runK P H dr k .normal st := rfl
@[go_sem] theorem runK_blk_exit {id id' : Nat} : runK P H dr (.blk id k) (.exit id') st = if id' = id then runK P H dr k .normal st else runK P H dr k (.exit id') st := rfl
@[go_sem] theorem runK_blk_ret {id : Nat} : runK P H dr (.blk id k) .ret st = runK P H dr k .ret st := rfl
@[go_sem] theorem runK_loop {b : Code} : runK P H dr (.loop b k) .normal st = loopK P H dr b k st := rfl
@[go_sem] theorem runK_loop_exit {b : Code} {id : Nat} : runK P H dr (.loop b k) (.exit id) st = runK P H dr k (.exit id) st := rfl
@[go_sem] theorem runK_loop_ret {b : Code} : runK P H dr (.loop b k) .ret st = runK P H dr k .ret st := rfl

@[go_sem] theorem runK_jump {R : St → Prop} : runK P H dr (.jump R k) .normal st = R st := rfl
@[go_sem] theorem runK_jump_exit {R : St → Prop} {id : Nat} : runK P H dr (.jump R k) (.exit id) st = runK P H dr k (.exit id) st := rfl
@[go_sem] theorem runK_jump_ret {R : St → Prop} : runK P H dr (.jump R k) .ret st = runK P H dr k .ret st := rfl

/-- A loop with an invariant and a measure. -/
theorem loopK_inv {b : Code} (I : Nat → St → Prop) (n : Nat) (h : ∀ (R : St → Prop) (n : Nat) (st : St), (∀ m st', m < n → I m st' → R st') → I n st → evK P H dr b (.jump R k) st) (hI : I n st) : loopK P H dr b k st := by
  intro R hR
  have key : ∀ n, ∀ m, m < n → ∀ st, I m st → R st := by
    intro n
    induction n with
    | zero => intro m hm; omega
    | succ n ih =>
      intro m hm st hI
      exact hR st (h R m st (fun m' st' hm' hI' => ih m' (by omega) st' hI') hI)
  exact key (n + 1) n (by omega) st hI

/-- One round of a loop. -/
theorem loopK_round {b : Code} (h : evK P H dr b (.loop b k) st) : loopK P H dr b k st := loop_round h

@[go_sem] theorem opsK_nil {ops : Array Oper} : opsK P H dr ops [] k st = runK P H dr k .normal st := rfl
/-- A guarded operation. -/
@[go_sem] theorem opsK_guard {ops : Array Oper} {d : Option Tmp} {op : Op} {t : TypeId} {p : String} {af : Array Edge} {g : Nat × Bool} {rest : List Oper} :
    opsK P H dr ops (⟨d, op, t, p, af, some g⟩ :: rest) k st = gdK P H dr (gd ops st ⟨d, op, t, p, af, some g⟩) ⟨d, op, t, p, af, some g⟩ ops rest k st := by
  unfold gdK
  cases hg : gd ops st ⟨d, op, t, p, af, some g⟩ with
  | none => simp [opsK, opsC, hg]
  | some b =>
    cases b with
    | false => simp [opsK, opsC, hg]
    | true =>
      simp only [opsK]
      rw [opsC]
      simp only [hg]
      cases op with
      | call c => obtain ⟨callee, xs, ts⟩ := c; cases callee <;> rfl
      | _ => rfl

def nc : Op → Bool
  | .call _ => false
  | _ => true

theorem opsK_op {ops : Array Oper} {d : Option Tmp} {op : Op} {t : TypeId} {p : String} {af : Array Edge} {rest : List Oper} (h : nc op = true) :
    opsK P H dr ops (⟨d, op, t, p, af, none⟩ :: rest) k st = resK P H dr (opF P H ⟨d, op, t, p, af, none⟩ st) d ops rest k := by
  cases op <;> first | rfl | simp [nc] at h

@[go_sem] theorem opsK_move {ops : Array Oper} {d : Option Tmp} {x : Operand} {t : TypeId} {p : String} {af : Array Edge} {rest : List Oper} :
    opsK P H dr ops (⟨d, .move x, t, p, af, none⟩ :: rest) k st = resK P H dr (opF P H ⟨d, .move x, t, p, af, none⟩ st) d ops rest k := opsK_op rfl
@[go_sem] theorem opsK_assign {ops : Array Oper} {d : Option Tmp} {x : Operand} {t : TypeId} {p : String} {af : Array Edge} {rest : List Oper} :
    opsK P H dr ops (⟨d, .assign x, t, p, af, none⟩ :: rest) k st = resK P H dr (opF P H ⟨d, .assign x, t, p, af, none⟩ st) d ops rest k := opsK_op rfl
@[go_sem] theorem opsK_pick {ops : Array Oper} {d : Option Tmp} {c x y : Operand} {t : TypeId} {p : String} {af : Array Edge} {rest : List Oper} :
    opsK P H dr ops (⟨d, .pick c x y, t, p, af, none⟩ :: rest) k st = resK P H dr (opF P H ⟨d, .pick c x y, t, p, af, none⟩ st) d ops rest k := opsK_op rfl
@[go_sem] theorem opsK_alloc {ops : Array Oper} {d : Option Tmp} {e : TypeId} {t : TypeId} {p : String} {af : Array Edge} {rest : List Oper} :
    opsK P H dr ops (⟨d, .alloc e, t, p, af, none⟩ :: rest) k st = resK P H dr (opF P H ⟨d, .alloc e, t, p, af, none⟩ st) d ops rest k := opsK_op rfl
@[go_sem] theorem opsK_box {ops : Array Oper} {d : Option Tmp} {e : TypeId} {x : Operand} {t : TypeId} {p : String} {af : Array Edge} {rest : List Oper} :
    opsK P H dr ops (⟨d, .box e x, t, p, af, none⟩ :: rest) k st = resK P H dr (opF P H ⟨d, .box e x, t, p, af, none⟩ st) d ops rest k := opsK_op rfl
@[go_sem] theorem opsK_build {ops : Array Oper} {d : Option Tmp} {t' : TypeId} {ps : Array (Nat × Operand)} {t : TypeId} {p : String} {af : Array Edge} {rest : List Oper} :
    opsK P H dr ops (⟨d, .build t' ps, t, p, af, none⟩ :: rest) k st = resK P H dr (opF P H ⟨d, .build t' ps, t, p, af, none⟩ st) d ops rest k := opsK_op rfl
@[go_sem] theorem opsK_buildSlice {ops : Array Oper} {d : Option Tmp} {t' : TypeId} {n : Nat} {ps : Array (Nat × Operand)} {t : TypeId} {p : String} {af : Array Edge} {rest : List Oper} :
    opsK P H dr ops (⟨d, .buildSlice t' n ps, t, p, af, none⟩ :: rest) k st = resK P H dr (opF P H ⟨d, .buildSlice t' n ps, t, p, af, none⟩ st) d ops rest k := opsK_op rfl
@[go_sem] theorem opsK_load {ops : Array Oper} {d : Option Tmp} {t' : TypeId} {x : Operand} {t : TypeId} {p : String} {af : Array Edge} {rest : List Oper} :
    opsK P H dr ops (⟨d, .load t' x, t, p, af, none⟩ :: rest) k st = resK P H dr (opF P H ⟨d, .load t' x, t, p, af, none⟩ st) d ops rest k := opsK_op rfl
@[go_sem] theorem opsK_store {ops : Array Oper} {d : Option Tmp} {t' : TypeId} {x y : Operand} {t : TypeId} {p : String} {af : Array Edge} {rest : List Oper} :
    opsK P H dr ops (⟨d, .store t' x y, t, p, af, none⟩ :: rest) k st = resK P H dr (opF P H ⟨d, .store t' x y, t, p, af, none⟩ st) d ops rest k := opsK_op rfl
@[go_sem] theorem opsK_nilCheck {ops : Array Oper} {d : Option Tmp} {x : Operand} {t : TypeId} {p : String} {af : Array Edge} {rest : List Oper} :
    opsK P H dr ops (⟨d, .nilCheck x, t, p, af, none⟩ :: rest) k st = resK P H dr (opF P H ⟨d, .nilCheck x, t, p, af, none⟩ st) d ops rest k := opsK_op rfl
@[go_sem] theorem opsK_bin {ops : Array Oper} {d : Option Tmp} {b : BinOp} {t' t2 : TypeId} {x y : Operand} {t : TypeId} {p : String} {af : Array Edge} {rest : List Oper} :
    opsK P H dr ops (⟨d, .binOp b t' x y t2, t, p, af, none⟩ :: rest) k st = resK P H dr (opF P H ⟨d, .binOp b t' x y t2, t, p, af, none⟩ st) d ops rest k := opsK_op rfl
@[go_sem] theorem opsK_una {ops : Array Oper} {d : Option Tmp} {b : UnOp} {t' : TypeId} {x : Operand} {t : TypeId} {p : String} {af : Array Edge} {rest : List Oper} :
    opsK P H dr ops (⟨d, .unOp b t' x, t, p, af, none⟩ :: rest) k st = resK P H dr (opF P H ⟨d, .unOp b t' x, t, p, af, none⟩ st) d ops rest k := opsK_op rfl
@[go_sem] theorem opsK_conv {ops : Array Oper} {d : Option Tmp} {t' t2 : TypeId} {x : Operand} {t : TypeId} {p : String} {af : Array Edge} {rest : List Oper} :
    opsK P H dr ops (⟨d, .convert t' t2 x, t, p, af, none⟩ :: rest) k st = resK P H dr (opF P H ⟨d, .convert t' t2 x, t, p, af, none⟩ st) d ops rest k := opsK_op rfl
@[go_sem] theorem opsK_makeFunc {ops : Array Oper} {d : Option Tmp} {f : Fn} {x y : Array Operand} {t : TypeId} {p : String} {af : Array Edge} {rest : List Oper} :
    opsK P H dr ops (⟨d, .makeFunc f x y, t, p, af, none⟩ :: rest) k st = resK P H dr (opF P H ⟨d, .makeFunc f x y, t, p, af, none⟩ st) d ops rest k := opsK_op rfl
@[go_sem] theorem opsK_makeMap {ops : Array Oper} {d : Option Tmp} {t' : TypeId} {x : Option Operand} {t : TypeId} {p : String} {af : Array Edge} {rest : List Oper} :
    opsK P H dr ops (⟨d, .makeMap t' x, t, p, af, none⟩ :: rest) k st = resK P H dr (opF P H ⟨d, .makeMap t' x, t, p, af, none⟩ st) d ops rest k := opsK_op rfl
@[go_sem] theorem opsK_makeSlice {ops : Array Oper} {d : Option Tmp} {t' : TypeId} {x y : Operand} {t : TypeId} {p : String} {af : Array Edge} {rest : List Oper} :
    opsK P H dr ops (⟨d, .makeSlice t' x y, t, p, af, none⟩ :: rest) k st = resK P H dr (opF P H ⟨d, .makeSlice t' x y, t, p, af, none⟩ st) d ops rest k := opsK_op rfl
@[go_sem] theorem opsK_slice {ops : Array Oper} {d : Option Tmp} {t' : TypeId} {x : Operand} {lo hi mx : Option Operand} {t : TypeId} {p : String} {af : Array Edge} {rest : List Oper} :
    opsK P H dr ops (⟨d, .slice t' x lo hi mx, t, p, af, none⟩ :: rest) k st = resK P H dr (opF P H ⟨d, .slice t' x lo hi mx, t, p, af, none⟩ st) d ops rest k := opsK_op rfl
@[go_sem] theorem opsK_fieldAddr {ops : Array Oper} {d : Option Tmp} {t' : TypeId} {x : Operand} {f : Nat} {t : TypeId} {p : String} {af : Array Edge} {rest : List Oper} :
    opsK P H dr ops (⟨d, .fieldAddr t' x f, t, p, af, none⟩ :: rest) k st = resK P H dr (opF P H ⟨d, .fieldAddr t' x f, t, p, af, none⟩ st) d ops rest k := opsK_op rfl
@[go_sem] theorem opsK_field {ops : Array Oper} {d : Option Tmp} {t' : TypeId} {x : Operand} {f : Nat} {t : TypeId} {p : String} {af : Array Edge} {rest : List Oper} :
    opsK P H dr ops (⟨d, .field t' x f, t, p, af, none⟩ :: rest) k st = resK P H dr (opF P H ⟨d, .field t' x f, t, p, af, none⟩ st) d ops rest k := opsK_op rfl
@[go_sem] theorem opsK_indexAddr {ops : Array Oper} {d : Option Tmp} {t' : TypeId} {x y : Operand} {t : TypeId} {p : String} {af : Array Edge} {rest : List Oper} :
    opsK P H dr ops (⟨d, .indexAddr t' x y, t, p, af, none⟩ :: rest) k st = resK P H dr (opF P H ⟨d, .indexAddr t' x y, t, p, af, none⟩ st) d ops rest k := opsK_op rfl
@[go_sem] theorem opsK_index {ops : Array Oper} {d : Option Tmp} {t' : TypeId} {x y : Operand} {t : TypeId} {p : String} {af : Array Edge} {rest : List Oper} :
    opsK P H dr ops (⟨d, .index t' x y, t, p, af, none⟩ :: rest) k st = resK P H dr (opF P H ⟨d, .index t' x y, t, p, af, none⟩ st) d ops rest k := opsK_op rfl
@[go_sem] theorem opsK_lookup {ops : Array Oper} {d : Option Tmp} {t' : TypeId} {x y : Operand} {b : Bool} {t : TypeId} {p : String} {af : Array Edge} {rest : List Oper} :
    opsK P H dr ops (⟨d, .lookup t' x y b, t, p, af, none⟩ :: rest) k st = resK P H dr (opF P H ⟨d, .lookup t' x y b, t, p, af, none⟩ st) d ops rest k := opsK_op rfl
@[go_sem] theorem opsK_mapUpdate {ops : Array Oper} {d : Option Tmp} {t' : TypeId} {x y z : Operand} {t : TypeId} {p : String} {af : Array Edge} {rest : List Oper} :
    opsK P H dr ops (⟨d, .mapUpdate t' x y z, t, p, af, none⟩ :: rest) k st = resK P H dr (opF P H ⟨d, .mapUpdate t' x y z, t, p, af, none⟩ st) d ops rest k := opsK_op rfl
@[go_sem] theorem opsK_extract {ops : Array Oper} {d : Option Tmp} {x : Operand} {i : Nat} {t : TypeId} {p : String} {af : Array Edge} {rest : List Oper} :
    opsK P H dr ops (⟨d, .extract x i, t, p, af, none⟩ :: rest) k st = resK P H dr (opF P H ⟨d, .extract x i, t, p, af, none⟩ st) d ops rest k := opsK_op rfl

@[go_sem] theorem opsK_blt {ops : Array Oper} {d : Option Tmp} {b : Builtin} {xs : Array Operand} {ts : Array TypeId} {t : TypeId} {p : String} {af : Array Edge} {rest : List Oper} :
    opsK P H dr ops (⟨d, .call ⟨.builtin b, xs, ts⟩, t, p, af, none⟩ :: rest) k st = resK P H dr (bltF P H b ⟨d, .call ⟨.builtin b, xs, ts⟩, t, p, af, none⟩ ⟨.builtin b, xs, ts⟩ st) d ops rest k := rfl

@[go_sem] theorem opsK_call {ops : Array Oper} {d : Option Tmp} {f : Operand} {xs : Array Operand} {ts : Array TypeId} {t : TypeId} {p : String} {af : Array Edge} {rest : List Oper} :
    opsK P H dr ops (⟨d, .call ⟨.value f, xs, ts⟩, t, p, af, none⟩ :: rest) k st = callK P H dr ⟨d, .call ⟨.value f, xs, ts⟩, t, p, af, none⟩ ⟨.value f, xs, ts⟩ ops rest k st := rfl

@[go_sem] theorem resK_some {ops : Array Oper} {v : AV} {d : Option Tmp} {rest : List Oper} : resK P H dr (some (v, st)) d ops rest k = opsK P H dr ops rest k (st.put d v) := rfl
@[go_sem] theorem gdK_true {ops : Array Oper} {o : Oper} {rest : List Oper} : gdK P H dr (some true) o ops rest k st = opsK P H dr ops ({ o with guard := none } :: rest) k st := rfl
@[go_sem] theorem gdK_false {ops : Array Oper} {o : Oper} {rest : List Oper} : gdK P H dr (some false) o ops rest k st = opsK P H dr ops rest k (st.put o.dst un) := rfl

/-! ### Slots -/
@[go_sem] theorem put_some {d : Nat} {v : AV} : st.put (some d) v = ⟨upd st.env d v, st.σ⟩ := rfl
@[go_sem] theorem put_none {v : AV} : st.put none v = st := rfl
@[go_sem] theorem upd_at {e : Nat → AV} {d n : Nat} {v : AV} : upd e d v n = if n = d then v else e n := rfl
@[go_sem] theorem rd_tmp {e : Nat → AV} {t : Nat} : rd e (.tmp t) = e t := rfl
@[go_sem] theorem rd_const {e : Nat → AV} {v : Value} : rd e (.const v) = .p (.sc v) := rfl
@[go_sem] theorem rd_func {e : Nat → AV} {f : FuncId} : rd e (.func f) = .fn (.func f) [] [] := rfl
@[go_sem] theorem env0_at {args : List AV} {i : Nat} : env0 args i = (args[i]?).getD un := rfl
@[go_sem] theorem grab_copy {x : Operand} : grab false x st = ((rd st.env x).dem, st) := by cases x <;> rfl
@[go_sem] theorem grab_take {t : Nat} : grab true (.tmp t) st = (st.env t, ⟨upd st.env t (st.env t).dem, st.σ⟩) := rfl
@[go_sem] theorem grab_const {v : Value} : grab true (.const v) st = (.p (.sc v), st) := rfl
@[go_sem] theorem hd_some {l : List Nat} {d : Nat} : hd l (some d) = l.elem d := rfl
@[go_sem] theorem hd_none {l : List Nat} : hd l none = false := rfl

/-! ### Values -/
@[go_sem] theorem dem_p {x : PV} : (AV.p x).dem = .p x := by simp [AV.dem]
@[go_sem] theorem dem_own {s : Nat} {xs : List PV} : (AV.own s xs).dem = .p (.sl s xs) := by simp [AV.dem]
@[go_sem] theorem dem_tgt {s : Nat} {xs : List PV} : (AV.tgt s xs).dem = .tgt s xs := by simp [AV.dem]
@[go_sem] theorem dem_cptr {x : PV} : (AV.cptr x).dem = .cptr x := by simp [AV.dem]
@[go_sem] theorem dem_ref {i v o : Nat} : (AV.ref i v o).dem = .ref i v o := by simp [AV.dem]
@[go_sem] theorem dem_arr {s i v o l : Nat} : (AV.arr s i v o l).dem = .arr s i v o l := by simp [AV.dem]
@[go_sem] theorem dem_mp {i : Nat} : (AV.mp i).dem = .mp i := by simp [AV.dem]
@[go_sem] theorem dem_fn {f : Fn} {x y : List AV} : (AV.fn f x y).dem = .fn f x y := by simp [AV.dem]
@[go_sem] theorem dem_ag {cs : List AV} : (AV.ag cs).dem = .ag (AV.demL cs) := by simp [AV.dem]
@[go_sem] theorem dem_tu {cs : List AV} : (AV.tu cs).dem = .tu (AV.demL cs) := by simp [AV.dem]
@[go_sem] theorem demL_nil : AV.demL [] = [] := by simp [AV.demL]
@[go_sem] theorem demL_cons {x : AV} {xs : List AV} : AV.demL (x :: xs) = x.dem :: AV.demL xs := by simp [AV.demL]

@[go_sem] theorem pv_p {x : PV} : (AV.p x).pv = some x := by simp [AV.pv]
@[go_sem] theorem pv_own {s : Nat} {xs : List PV} : (AV.own s xs).pv = some (.sl s xs) := by simp [AV.pv]
@[go_sem] theorem pv_tgt {s : Nat} {xs : List PV} : (AV.tgt s xs).pv = some (.sl s xs) := by simp [AV.pv]
@[go_sem] theorem pv_ag {cs : List AV} : (AV.ag cs).pv = (AV.pvL cs).map .ag := by simp [AV.pv]
@[go_sem] theorem pvL_nil : AV.pvL [] = some [] := by simp [AV.pvL]
@[go_sem] theorem pvL_cons {x : AV} {xs : List AV} {y : PV} {ys : List PV} (h1 : x.pv = some y) (h2 : AV.pvL xs = some ys) : AV.pvL (x :: xs) = some (y :: ys) := by simp [AV.pvL, h1, h2]

theorem pvL_map (ys : List PV) : AV.pvL (ys.map .p) = some ys := by
  induction ys with
  | nil => rfl
  | cons y ys ih => simp [AV.pvL, AV.pv, ih]

@[go_sem] theorem nz_int {t : TypeId} {kk : IntKind} {n : Int} : nz P t (.p (.sc (.int kk n))) = .p (.sc (.int kk n)) := rfl
@[go_sem] theorem nz_bool {t : TypeId} {b : Bool} : nz P t (.p (.sc (.bool b))) = .p (.sc (.bool b)) := rfl
@[go_sem] theorem nz_tuple {t : TypeId} {b : Array Value} : nz P t (.p (.sc (.tuple b))) = .p (.sc (.tuple b)) := rfl
@[go_sem] theorem nz_func {t : TypeId} {f : Fn} {x y : Array Value} : nz P t (.p (.sc (.func f x y))) = .p (.sc (.func f x y)) := rfl
@[go_sem] theorem nz_pointer {t : TypeId} {ad : Option Addr} : nz P t (.p (.sc (.pointer ad))) = .p (.sc (.pointer ad)) := rfl
@[go_sem] theorem nz_sl {t : TypeId} {s : Nat} {xs : List PV} : nz P t (.p (.sl s xs)) = .p (.sl s xs) := rfl
@[go_sem] theorem nz_agp {t : TypeId} {xs : List PV} : nz P t (.p (.ag xs)) = .p (.ag xs) := rfl
@[go_sem] theorem nz_own {t : TypeId} {s : Nat} {xs : List PV} : nz P t (.own s xs) = .own s xs := rfl
@[go_sem] theorem nz_tgt {t : TypeId} {s : Nat} {xs : List PV} : nz P t (.tgt s xs) = .tgt s xs := rfl
@[go_sem] theorem nz_cptr {t : TypeId} {x : PV} : nz P t (.cptr x) = .cptr x := rfl
@[go_sem] theorem nz_ref {t : TypeId} {i v o : Nat} : nz P t (.ref i v o) = .ref i v o := rfl
@[go_sem] theorem nz_arr {t : TypeId} {s i v o l : Nat} : nz P t (.arr s i v o l) = .arr s i v o l := rfl
@[go_sem] theorem nz_mp {t : TypeId} {i : Nat} : nz P t (.mp i) = .mp i := rfl
@[go_sem] theorem nz_fn {t : TypeId} {f : Fn} {x y : List AV} : nz P t (.fn f x y) = .fn f x y := rfl
@[go_sem] theorem nz_ag {t : TypeId} {cs : List AV} : nz P t (.ag cs) = .ag cs := rfl
@[go_sem] theorem nz_tu {t : TypeId} {cs : List AV} : nz P t (.tu cs) = .tu cs := rfl
def nilJ (T : Option (TypeId × Nat × Nat × List Value)) : AV := match T with
  | some (_, s, _, _) => .own s []
  | none => .p (.sc (.slice none 0 0))
@[go_sem] theorem nilJ_some {e : TypeId} {s b : Nat} {z : List Value} : nilJ (some (e, s, b, z)) = .own s [] := rfl
@[go_sem] theorem nz_nil {t : TypeId} : nz P t (.p (.sc (.slice none 0 0))) = nilJ (slT P t) := by
  simp only [nz, nilJ]
  cases slT P t <;> rfl

/-! ### Operations -/
def movK (P : Program) (t : TypeId) (fz ar : Bool) (r : AV × St) : Option (AV × St) :=
  let (v, st) := r
  let v := nz P t v
  if fz then (freezeA v st.σ).map fun (v, σ) => (v, { st with σ }) else
  if ar then (match v with
    | .own s [] => let (v, σ) := newArr s [] 0 st.σ; some (v, { st with σ })
    | _ => some (v, st))
  else some (v, st)
@[go_sem] theorem movK_plain {t : TypeId} {v : AV} : movK P t false false (v, st) = some (nz P t v, st) := rfl
@[go_sem] theorem movK_arr {t : TypeId} {v : AV} : movK P t false true (v, st) = (match nz P t v with
    | .own s [] => let (v, σ) := newArr s [] 0 st.σ; some (v, { st with σ })
    | _ => some (nz P t v, st)) := rfl
@[go_sem] theorem movK_fz {t : TypeId} {v : AV} {ar : Bool} : movK P t true ar (v, st) = withσ st (freezeA (nz P t v) st.σ) := rfl
@[go_sem] theorem withσ_some {v : AV} {σ : List Ent} : withσ st (some (v, σ)) = some (v, ⟨st.env, σ⟩) := rfl
@[go_sem] theorem only_some {v : AV} : only st (some v) = some (v, st) := rfl
@[go_sem] theorem store'_some {σ : List Ent} : store' st (some σ) = some (un, ⟨st.env, σ⟩) := rfl

variable {d : Option Tmp} {t : TypeId} {p : String} {af : Array Edge} {gu : Option (Nat × Bool)}
@[go_sem] theorem opF_move {x : Operand} : opF P H ⟨d, .move x, t, p, af, gu⟩ st = movK P t (hd H.fz d) (hd H.ar d) (grab (hd H.tk d) x st) := rfl
@[go_sem] theorem opF_assign {x : Operand} : opF P H ⟨d, .assign x, t, p, af, gu⟩ st = movK P t (hd H.fz d) (hd H.ar d) (grab true x st) := rfl
def pickK (c a b : AV) (st : St) : Option (AV × St) := match c with
  | .p (.sc (.bool c)) => some ((if c then a else b).dem, st)
  | _ => none
@[go_sem] theorem opF_pick {c x y : Operand} : opF P H ⟨d, .pick c x y, t, p, af, gu⟩ st = pickK (rd st.env c) (rd st.env x) (rd st.env y) st := by
  simp only [opF, pickK]
  cases rd st.env c with
  | p v =>
    cases v with
    | sc v => cases v with
      | bool b => cases b <;> rfl
      | _ => rfl
    | _ => rfl
  | _ => rfl
@[go_sem] theorem pickK_true {x y : AV} : pickK (.p (.sc (.bool true))) x y st = some (x.dem, st) := rfl
@[go_sem] theorem pickK_false {x y : AV} : pickK (.p (.sc (.bool false))) x y st = some (y.dem, st) := rfl
def allocK (z : Option (List Value)) (st : St) : Option (AV × St) := match z with
  | some z => if z.all Value.oneCell' = true then some (.ref st.σ.length 0 0, ⟨st.env, st.σ ++ [.cells 0 (z.map fun v => .p (.sc v))]⟩) else none
  | none => none
@[go_sem] theorem opF_alloc {e : TypeId} : opF P H ⟨d, .alloc e, t, p, af, gu⟩ st = allocK (zrT P e) st := rfl
theorem allocK_some {z : List Value} (h : z.all Value.oneCell' = true) : allocK (some z) st = some (.ref st.σ.length 0 0, ⟨st.env, st.σ ++ [.cells 0 (z.map fun v => .p (.sc v))]⟩) := by simp [allocK, h]
def boxK (nl : Bool) (r : AV × St) : Option (AV × St) := if r.1.cells.all AV.one = true then some (.ref r.2.σ.length 0 0, ⟨r.2.env, r.2.σ ++ [.cells 0 (nlL nl r.1.cells)]⟩) else none
@[go_sem] theorem opF_box {e : TypeId} {x : Operand} : opF P H ⟨d, .box e x, t, p, af, gu⟩ st = boxK (hd H.nl d) (grab true x st) := by
  simp only [opF, boxK]
@[go_sem] theorem opF_load {a : Operand} : opF P H ⟨d, .load t a, t, p, af, gu⟩ st = withσ st (loadA P t (hd H.tk d) (rd st.env a) st.σ) := rfl
@[go_sem] theorem opF_load' {t' : TypeId} {a : Operand} : opF P H ⟨d, .load t' a, t, p, af, gu⟩ st = withσ st (loadA P t' (hd H.tk d) (rd st.env a) st.σ) := rfl
def storeK (P : Program) (t : TypeId) (a : AV) (r : AV × St) : Option (AV × St) := store' r.2 (storeA P t a r.1 r.2.σ)
@[go_sem] theorem opF_store {t' : TypeId} {a x : Operand} : opF P H ⟨d, .store t' a x, t, p, af, gu⟩ st = storeK P t' (rd st.env a) (grab true x st) := by
  simp only [opF, storeK]
@[go_sem] theorem storeK_eq {t' : TypeId} {a v : AV} : storeK P t' a (v, st) = store' st (storeA P t' a v st.σ) := rfl
def nilK (v : AV) (st : St) : Option (AV × St) := match v with
    | .ref i v f => some (.ref i v f, st)
    | .cptr x => some (.cptr x, st)
    | .fn (.func f) a b => some (.fn (.func f) a b, st)
    | _ => none
@[go_sem] theorem opF_nilCheck {x : Operand} : opF P H ⟨d, .nilCheck x, t, p, af, gu⟩ st = nilK (rd st.env x) st := rfl
@[go_sem] theorem nilK_ref {i v f : Nat} : nilK (.ref i v f) st = some (.ref i v f, st) := rfl
@[go_sem] theorem nilK_cptr {x : PV} : nilK (.cptr x) st = some (.cptr x, st) := rfl
@[go_sem] theorem nilK_fn {f : FuncId} {a b : List AV} : nilK (.fn (.func f) a b) st = some (.fn (.func f) a b, st) := rfl
def binK (P : Program) (op : BinOp) (t : TypeId) (x y : AV) : Option AV := match x.sc?, y.sc? with
    | some a, some b => (bin P op t a b).map fun v => .p (.sc v)
    | _, _ => nilQ P t op x y
@[go_sem] theorem opF_bin {op : BinOp} {t' ty : TypeId} {x y : Operand} : opF P H ⟨d, .binOp op t' x y ty, t, p, af, gu⟩ st = only st (binK P op t' (rd st.env x) (rd st.env y)) := by
  simp only [opF, binK]
  split <;> simp_all [only]
def unaK (op : UnOp) (x : AV) : Option AV := match x.sc? with
    | some a => (una op a).map fun v => .p (.sc v)
    | _ => none
@[go_sem] theorem opF_una {op : UnOp} {t' : TypeId} {x : Operand} : opF P H ⟨d, .unOp op t' x, t, p, af, gu⟩ st = only st (unaK op (rd st.env x)) := by
  simp only [opF, unaK]
  split <;> simp_all [only]
def convK (s d : Option IntKind) (x : AV) : Option AV := match s, d, x with
    | some _, some k, .p (.sc (.int _ n)) => some (.p (.sc (.int k (k.wrap n))))
    | _, _, _ => none
@[go_sem] theorem opF_conv {s t' : TypeId} {x : Operand} : opF P H ⟨d, .convert s t' x, t, p, af, gu⟩ st = only st (convK (inT P s) (inT P t') (rd st.env x)) := by
  simp only [opF, convK]
  split <;> simp_all [only]
@[go_sem] theorem convK_some {k0 k kk : IntKind} {n : Int} : convK (some k0) (some k) (.p (.sc (.int kk n))) = some (.p (.sc (.int k (k.wrap n)))) := rfl
@[go_sem] theorem opF_makeFunc {f : Fn} {x y : Array Operand} : opF P H ⟨d, .makeFunc f x y, t, p, af, gu⟩ st = some (.fn f (x.toList.map fun x => (rd st.env x).dem) (y.toList.map fun x => (rd st.env x).dem), st) := rfl
@[go_sem] theorem opF_makeMap {t' : TypeId} : opF P H ⟨d, .makeMap t' none, t, p, af, gu⟩ st = some (.mp st.σ.length, ⟨st.env, st.σ ++ [.map []]⟩) := rfl
def sliceK (P : Program) (t : TypeId) (lo hi mx : Option AV) (r : AV × St) : Option (AV × St) := only r.2 (sliceA P t r.1 lo hi mx)
@[go_sem] theorem opF_slice {t' : TypeId} {x : Operand} {lo hi mx : Option Operand} : opF P H ⟨d, .slice t' x lo hi mx, t, p, af, gu⟩ st = sliceK P t' (lo.map (rd st.env)) (hi.map (rd st.env)) (mx.map (rd st.env)) (grab true x st) := by
  simp only [opF, sliceK]
@[go_sem] theorem sliceK_eq {t' : TypeId} {v : AV} {lo hi mx : Option AV} : sliceK P t' lo hi mx (v, st) = only st (sliceA P t' v lo hi mx) := rfl
@[go_sem] theorem opF_fieldAddr {t' : TypeId} {x : Operand} {f : Nat} : opF P H ⟨d, .fieldAddr t' x f, t, p, af, gu⟩ st = only st (fldA P t' (rd st.env x) f) := rfl
@[go_sem] theorem opF_field {t' : TypeId} {x : Operand} {f : Nat} : opF P H ⟨d, .field t' x f, t, p, af, gu⟩ st = only st ((fieldA P t' (rd st.env x) f).map fun v => nz P t v.dem) := rfl
@[go_sem] theorem opF_indexAddr {t' : TypeId} {x : Nat} {i : Operand} : opF P H ⟨d, .indexAddr t' (.tmp x) i, t, p, af, gu⟩ st = only st (idxA P t' (st.env x) (rd st.env i)) := rfl
@[go_sem] theorem opF_indexTab {t' : TypeId} {v : Nat} {i : Operand} : opF P H ⟨d, .indexAddr t' (.global v) i, t, p, af, gu⟩ st = only st (tabA (arT P t') (tabOf P v) (rd st.env i)) := rfl
@[go_sem] theorem tabA_some {vs : List Nat} {kk : IntKind} {i : Int} (h : 0 ≤ i) (h2 : i < vs.length) : tabA (some (vs.length, false, 1)) (some vs) (.p (.sc (.int kk i))) = (vs[i.toNat]?).map fun (v : Nat) => AV.cptr (.sc (.int .u8 (v : Int))) := by simp [tabA, h, h2]
@[go_sem] theorem opF_index {t' : TypeId} {x i : Operand} : opF P H ⟨d, .index t' x i, t, p, af, gu⟩ st = only st ((indexA P t' (rd st.env x) (rd st.env i)).map fun v => nz P t v.dem) := rfl
@[go_sem] theorem opF_lookup {t' : TypeId} {m x : Operand} {ok : Bool} : opF P H ⟨d, .lookup t' m x ok, t, p, af, gu⟩ st = withσ st (lookA P t' t (hd H.tk d) ok (rd st.env m) (rd st.env x) st.σ) := rfl
def mupK (P : Program) (t : TypeId) (m k : AV) (r : AV × St) : Option (AV × St) := store' r.2 (mupA P t m k r.1 r.2.σ)
@[go_sem] theorem opF_mapUpdate {t' : TypeId} {m x y : Operand} : opF P H ⟨d, .mapUpdate t' m x y, t, p, af, gu⟩ st = mupK P t' (rd st.env m) (rd st.env x) (grab true y st) := by
  simp only [opF, mupK]
@[go_sem] theorem mupK_eq {t' : TypeId} {m x v : AV} : mupK P t' m x (v, st) = store' st (mupA P t' m x v st.σ) := rfl
def extK (P : Program) (t : TypeId) (s i : Nat) (v : AV) (st : St) : Option (AV × St) := match v with
  | .tu vs => match vs[i]? with
    | some v => some (nz P t v, ⟨upd st.env s (.tu (vs.set i v.dem)), st.σ⟩)
    | none => none
  | _ => none
@[go_sem] theorem opF_extract {s i : Nat} : opF P H ⟨d, .extract (.tmp s) i, t, p, af, gu⟩ st = extK P t s i (st.env s) st := rfl
@[go_sem] theorem extK_tu {s i : Nat} {vs : List AV} : extK P t s i (.tu vs) st = (match vs[i]? with
    | some v => some (nz P t v, ⟨upd st.env s (.tu (vs.set i v.dem)), st.σ⟩)
    | none => none) := rfl
def bsK (P : Program) (t : TypeId) (n : Nat) (ps : List (Nat × AV)) (ar tg : Bool) (st : St) : Option (AV × St) := match slT P t with
    | some (e, s, _, z) => match zeroE P e z with
      | some z => if n ≤ 4096 ∧ s ≤ 16 ∧ 0 < s then (fillA s (List.replicate n z) ps).map fun xs =>
          if ar && s == 1 && xs.all PV.one then let (v, σ) := newArr s (xs.map .p) n st.σ; (v, { st with σ }) else (if tg then .tgt s xs else .own s xs, st)
        else none
      | none => none
    | none => none
@[go_sem] theorem opF_buildSlice {t' : TypeId} {n : Nat} {ps : Array (Nat × Operand)} : opF P H ⟨d, .buildSlice t' n ps, t, p, af, gu⟩ st = bsK P t' n (ps.toList.map fun x => (x.1, rd st.env x.2)) (hd H.ar d) (hd H.tg d) st := rfl
theorem bsK_own {t' e : TypeId} {n s b : Nat} {z : List Value} {z' : PV} {ps : List (Nat × AV)} {tg : Bool} (h1 : slT P t' = some (e, s, b, z)) (h2 : zeroE P e z = some z') (h3 : n ≤ 4096 ∧ s ≤ 16 ∧ 0 < s) :
    bsK P t' n ps false tg st = (fillA s (List.replicate n z') ps).map fun xs => (if tg then AV.tgt s xs else .own s xs, st) := by
  simp [bsK, h1, h2, h3]
def buildK (P : Program) (t : TypeId) (ps : List (Nat × AV)) : Option AV := match zrT P t, agT P t with
    | some z, some (true, m) => if z.length = m ∧ stT P t = true then (buildA P t (z.map fun v => .p (.sc v)) ps).map .ag else none
    | _, _ => none
@[go_sem] theorem opF_build {t' : TypeId} {ps : Array (Nat × Operand)} : opF P H ⟨d, .build t' ps, t, p, af, gu⟩ st = only st (buildK P t' (ps.toList.map fun x => (x.1, (rd st.env x.2).dem))) := by
  simp only [opF, buildK]
  split <;> simp_all [only]
  split <;> simp_all [Function.comp_def]

end
end Go.Ab
