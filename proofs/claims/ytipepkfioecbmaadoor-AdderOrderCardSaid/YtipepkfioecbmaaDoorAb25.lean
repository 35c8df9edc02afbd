/- The walk, more: any order by its tree; contracts weakened. -/
import Derived.Test.YtipepkfioecbmaaDoorAb20
import Derived.Test.YtipepkfioecbmaaDoorAb24
set_option linter.unusedVariables false
set_option linter.unusedSimpArgs false
namespace Go.Ab

section
variable {P : Program} {H : Hint} {ops : Array Oper} {n : Nat}

theorem treeL_mem {f : Nat → Option Tr} : ∀ {r : List Nat} {l : List (Nat × Tr)}, treeL f r = some l → ∀ i ∈ r, ∃ t, f i = some t ∧ (i, t) ∈ l := by
  intro r
  induction r with
  | nil => intro l _ i hi; cases hi
  | cons j r ih =>
    intro l h i hi
    simp only [treeL] at h
    split at h
    · rename_i t r' h1 h2
      simp only [Option.some.injEq] at h
      subst h
      rcases List.mem_cons.1 hi with rfl | hi
      · exact ⟨t, h1, List.mem_cons_self ..⟩
      · obtain ⟨t', k1, k2⟩ := ih h2 i hi
        exact ⟨t', k1, List.mem_cons_of_mem _ k2⟩
    · cases h
theorem trL_mem {dr : Array Oper → Bool} {K : St → Prop} {st : St} : ∀ {l : List (Nat × Tr)}, trL P H dr ops K l st → ∀ x ∈ l, (match ops[x.1]? with | some o => opsK P H dr ops [o] (.jump (trK P H dr ops K x.2) (.done fun _ _ => False)) st | none => False) := by
  intro l
  induction l with
  | nil => intro _ x hx; cases hx
  | cons y l ih =>
    intro h x hx
    obtain ⟨i, t⟩ := y
    simp only [trL] at h
    rcases List.mem_cons.1 hx with rfl | hx
    · exact h.1
    · exact ih h.2 x hx
theorem tree_any {dr : Array Oper → Bool} {md : Region.Mode} {K : St → Prop} : ∀ {fuel : Nat} {listed : Array Bool} {t : Tr} {st : St}, tree md ops fuel listed = some t → trK P H dr ops K t st → anyC P H md ops K fuel listed st := by
  intro fuel
  induction fuel with
  | zero =>
    intro listed t st h hk
    simp only [tree] at h
    split at h
    · rename_i hr
      simp only [Option.some.injEq] at h
      subst h
      exact ⟨hr, by simpa [trK] using hk⟩
    · cases h
  | succ fuel ih =>
    intro listed t st h hk
    simp only [tree, Option.map_eq_some_iff] at h
    obtain ⟨l, hl, rfl⟩ := h
    refine ⟨fun hr => ?_, fun i hi o ho => ?_⟩
    · rw [hr] at hl
      simp only [treeL, Option.some.injEq] at hl
      subst hl
      simpa [trK] using hk
    · obtain ⟨t, h1, h2⟩ := treeL_mem hl i hi
      have hk' : trL P H dr ops K l st := by
        cases l with
        | nil => cases h2
        | cons x l => simpa only [trK] using hk
      have := trL_mem hk' _ h2
      simp only [ho] at this
      obtain ⟨st2, hs, hk2⟩ := opsC_cons.1 this
      exact ⟨st2, hs, ih h1 hk2⟩

/-- Any order, by its tree; K cuts. -/
theorem drawK_tree {dr : Array Oper → Bool} {k : Kont} {st : St} {X : Prop} (t : Tr) (K : St → Prop) (hm : P.follows .mixedOrders = true) (ht : tree .any ops ops.size (Array.replicate ops.size false) = some t)
    (h : trK P H dr ops K t st) (hk : ∀ s, K s → runK P H dr k .normal s) : drawK P H dr ops k st X :=
  .inr ⟨hm, anyC_mono hk _ _ _ (tree_any ht h)⟩


section
variable {dr : Array Oper → Bool} {K : St → Prop} {st : St}
@[go_sem] theorem trK_leaf : trK P H dr ops K (.nd []) st = K st := by simp [trK]
def trO (P : Program) (H : Hint) (dr : Array Oper → Bool) (ops : Array Oper) (K : St → Prop) (o : Option Oper) (t : Tr) (st : St) : Prop := match o with | some o => opsK P H dr ops [o] (.jump (trK P H dr ops K t) (.done fun _ _ => False)) st | none => False
@[go_sem] theorem trK_one {i : Nat} {t : Tr} : trK P H dr ops K (.nd [(i, t)]) st = trO P H dr ops K ops[i]? t st := by
  simp only [trK, trL, trO]
  cases ops[i]? <;> simp
@[go_sem] theorem trK_two {i j : Nat} {t u : Tr} : trK P H dr ops K (.nd [(i, t), (j, u)]) st = (trO P H dr ops K ops[i]? t st ∧ trO P H dr ops K ops[j]? u st) := by
  simp only [trK, trL, trO]
  cases ops[i]? <;> cases ops[j]? <;> simp
@[go_sem] theorem trK_three {i j k : Nat} {t u v : Tr} : trK P H dr ops K (.nd [(i, t), (j, u), (k, v)]) st = (trO P H dr ops K ops[i]? t st ∧ trO P H dr ops K ops[j]? u st ∧ trO P H dr ops K ops[k]? v st) := by
  simp only [trK, trL, trO]
  cases ops[i]? <;> cases ops[j]? <;> cases ops[k]? <;> simp
@[go_sem] theorem trO_some {o : Oper} {t : Tr} : trO P H dr ops K (some o) t st = opsK P H dr ops [o] (.jump (trK P H dr ops K t) (.done fun _ _ => False)) st := rfl
end

/-- A contract whose result owns nothing. -/
theorem Ret.dem {f : FuncId} {args : List AV} {σ σ' : List Ent} {res : AV} (h : Ret P f args σ res σ') : Ret P f args σ res.dem σ' := by
  refine ⟨h.1, fun w g ow vals hl ha hE hN hlt ht => (h.2 w g ow vals hl ha hE hN hlt ht).mono fun e w' ⟨v, he, g', ow', hX, hr, hE', hN', hlt'⟩ => ?_⟩
  exact ⟨v, he, g', ow', hX, hr.dem, hE', hN', hlt'⟩


/-! ### Literals of slices -/
section
variable {st : St} {σ : List Ent}
/-- The zero element of a slice type. -/
def zeT (P : Program) (t : TypeId) : Option PV := match slT P t with
  | some (e, _, _, z) => zeroE P e z
  | none => none
def okP (s : Nat) (o : Option PV) : Option PV := match o with | some x => if x.cells.length = s ∧ x.cells.all PV.one = true then some x else none | none => none
def seqO : List (Option PV) → Option (List PV)
  | [] => some []
  | o :: r => match o, seqO r with
    | some x, some xs => some (x :: xs)
    | _, _ => none
def litJ (s : Nat) (ar tg : Bool) (l : Option (List PV)) (st : St) : Option (AV × St) := match l with
  | some xs => if ar && s == 1 && xs.all PV.one then some (.arr s st.σ.length 0 0 xs.length, ⟨st.env, st.σ ++ [.cells 0 (xs.map .p)]⟩) else some (if tg then .tgt s xs else .own s xs, st)
  | none => none
def bsJ (T : Option (TypeId × Nat × Nat × List Value)) (Z : Option PV) (n : Nat) (ps : List (Nat × AV)) (ar tg : Bool) (st : St) : Option (AV × St) := match T, Z with
    | some (_, s, _, _), some z => if n ≤ 4096 ∧ s ≤ 16 ∧ 0 < s then (fillA s (List.replicate n z) ps).map fun xs =>
          if ar && s == 1 && xs.all PV.one then let (v, σ) := newArr s (xs.map .p) n st.σ; (v, { st with σ }) else (if tg then .tgt s xs else .own s xs, st)
        else none
    | _, _ => none
@[go_sem] theorem bsK_eq {t : TypeId} {n : Nat} {ps : List (Nat × AV)} {ar tg : Bool} : bsK P t n ps ar tg st = bsJ (slT P t) (zeT P t) n ps ar tg st := by
  unfold bsK bsJ zeT
  cases h : slT P t with
  | none => rfl
  | some T =>
    obtain ⟨e, s, b, z⟩ := T
    simp only
    cases zeroE P e z <;> rfl
variable {e s b : Nat} {z : List Value} {z' : PV} {ar tg : Bool} {v v2 v3 v4 : AV}
@[go_sem] theorem seqO_nil : seqO [] = some [] := rfl
@[go_sem] theorem seqO_cons {x : PV} {l : List (Option PV)} : seqO (some x :: l) = (seqO l).map (x :: ·) := by cases h : seqO l <;> simp [seqO, h]
theorem fillA_cons {xs : List PV} {i : Nat} {r : List (Nat × AV)} (h : i < xs.length) : fillA s xs ((i, v) :: r) = match okP s v.pv with | some x => fillA s (xs.set i x) r | none => none := by
  simp only [fillA, okP]
  cases v.pv with
  | none => rfl
  | some x =>
    by_cases h2 : x.cells.length = s ∧ x.cells.all PV.one = true
    · simp only; rw [if_pos ⟨h, h2⟩, if_pos h2]
    · simp only; rw [if_neg h2, if_neg fun h3 => h2 h3.2]
theorem bsJ_gen {n : Nat} {ps : List (Nat × AV)} {os : List (Option PV)} (h : s ≤ 16 ∧ 0 < s) (hn : n ≤ 4096) (hf : fillA s (List.replicate n z') ps = seqO os) (hl : os.length = n) : bsJ (some (e, s, b, z)) (some z') n ps ar tg st = litJ s ar tg (seqO os) st := by
  have hlen : ∀ (os : List (Option PV)) xs, seqO os = some xs → xs.length = os.length := by
    intro os
    induction os with
    | nil => intro xs h; simp [seqO] at h; subst h; rfl
    | cons o os ih =>
      intro xs h
      cases o with
      | none => simp [seqO] at h
      | some x =>
        rw [seqO_cons] at h
        cases h2 : seqO os with
        | none => rw [h2] at h; cases h
        | some ys => rw [h2] at h; simp at h; subst h; simp [ih ys h2]
  simp only [bsJ, litJ]
  rw [if_pos ⟨hn, h.1, h.2⟩, hf]
  cases h2 : seqO os with
  | none => rfl
  | some xs =>
    have := hlen os xs h2
    simp only [Option.map_some, newArr]
    split <;> simp_all
@[go_sem] theorem bsJ_0 (h : s ≤ 16 ∧ 0 < s) : bsJ (some (e, s, b, z)) (some z') 0 [] ar tg st = litJ s ar tg (seqO []) st := bsJ_gen h (by omega) rfl rfl
@[go_sem] theorem bsJ_1 (h : s ≤ 16 ∧ 0 < s) : bsJ (some (e, s, b, z)) (some z') 1 [(0, v)] ar tg st = litJ s ar tg (seqO [okP s v.pv]) st := by
  refine bsJ_gen h (by omega) ?_ rfl
  rw [fillA_cons (by simp)]
  cases okP s v.pv <;> rfl
@[go_sem] theorem bsJ_2 (h : s ≤ 16 ∧ 0 < s) : bsJ (some (e, s, b, z)) (some z') 2 [(0, v), (1, v2)] ar tg st = litJ s ar tg (seqO [okP s v.pv, okP s v2.pv]) st := by
  refine bsJ_gen h (by omega) ?_ rfl
  rw [fillA_cons (by simp)]
  cases okP s v.pv with
  | none => rfl
  | some x =>
    simp only
    rw [fillA_cons (by simp)]
    cases okP s v2.pv <;> rfl
@[go_sem] theorem bsJ_3 (h : s ≤ 16 ∧ 0 < s) : bsJ (some (e, s, b, z)) (some z') 3 [(0, v), (1, v2), (2, v3)] ar tg st = litJ s ar tg (seqO [okP s v.pv, okP s v2.pv, okP s v3.pv]) st := by
  refine bsJ_gen h (by omega) ?_ rfl
  rw [fillA_cons (by simp)]
  cases okP s v.pv with
  | none => rfl
  | some x =>
    simp only
    rw [fillA_cons (by simp)]
    cases okP s v2.pv with
    | none => rfl
    | some y =>
      simp only
      rw [fillA_cons (by simp)]
      cases okP s v3.pv <;> rfl
@[go_sem] theorem okP_int {k : IntKind} {n : Int} : okP 1 (some (.sc (.int k n))) = some (.sc (.int k n)) := rfl
@[go_sem] theorem okP_bool {n : Bool} : okP 1 (some (.sc (.bool n))) = some (.sc (.bool n)) := rfl
@[go_sem] theorem okP_nil : okP 1 (some (.sc (.slice none 0 0))) = some (.sc (.slice none 0 0)) := rfl
@[go_sem] theorem okP_sl {s : Nat} {xs : List PV} : okP 1 (some (.sl s xs)) = some (.sl s xs) := rfl
@[go_sem] theorem litJ_own {xs : List PV} : litJ s false false (some xs) st = some (.own s xs, st) := rfl
@[go_sem] theorem litJ_tgt {xs : List PV} : litJ s false true (some xs) st = some (.tgt s xs, st) := rfl
@[go_sem] theorem litJ_arr {xs : List PV} (h : xs.all PV.one = true) : litJ 1 true tg (some xs) st = some (.arr 1 st.σ.length 0 0 xs.length, ⟨st.env, st.σ ++ [.cells 0 (xs.map .p)]⟩) := by
  simp [litJ, h]

/-! ### Lists of numbers -/
@[go_sem] theorem ints_cons {n : Int} {l : List Int} : PV.sc (.int .i64 n) :: ints l = ints (n :: l) := rfl
@[go_sem] theorem rows_cons {r : List Int} {l : List (List Int)} : PV.sl 1 (ints r) :: rows l = rows (r :: l) := rfl
theorem ints_all {l : List Int} : (ints l).all PV.one = true := by simp [ints, PV.one, Value.oneCell']
/-- The cells of an array of numbers. -/
def icells (l : List Int) : List AV := (ints l).map .p
@[go_sem] theorem icells_eq {l : List Int} : List.map AV.p (ints l) = icells l := rfl
@[go_sem] theorem icells_len {l : List Int} : (icells l).length = l.length := by simp [icells, ints_len]
@[go_sem] theorem icells_at {l : List Int} {i : Nat} : (icells l)[i]? = (l[i]?).map iv := by simp [icells, ints, iv]; rfl
@[go_sem] theorem icells_set {l : List Int} {i : Nat} {n : Int} : (icells l).set i (.p (.sc (.int .i64 n))) = icells (l.set i n) := by simp [icells, ints]
theorem icells_pv {l : List Int} : AV.pvL (icells l) = some (ints l) := pvL_map _
theorem icells_app {l l' : List Int} : icells l ++ icells l' = icells (l ++ l') := by simp [icells, ints]
end

/-! ### Arrays: frozen, appended to, handed out -/
section
variable {st : St} {σ : List Ent}
def frzK (E : Option Ent) (s id ver off len : Nat) (σ : List Ent) : Option (AV × List Ent) := match E with
      | some (.cells ver' cs) => if ver' ≠ ver ∨ s ≠ 1 ∨ off ≠ 0 ∨ cs.length ≠ len then none else
      (match AV.pvL cs with
       | some xs => some (.own s xs, σ.set id .dead)
       | none => none)
      | _ => none
theorem freezeA_arr {s id ver off len : Nat} : freezeA (.arr s id ver off len) σ = frzK σ[id]? s id ver off len σ := by
  unfold freezeA frzK
  simp only
  cases σ[id]? with
  | none => rfl
  | some E =>
    cases E with
    | cells v cs => simp only; split <;> rfl
    | _ => rfl
theorem frzK_ints {id ver len : Nat} {l : List Int} (h : l.length = len) : frzK (some (.cells ver (icells l))) 1 id ver 0 len σ = some (.own 1 (ints l), σ.set id .dead) := by
  simp [frzK, icells_pv, icells_len, h]
theorem appJ_frz {e s bb : Nat} {z : List Value} {id ver len : Nat} {l : List Int} {ys : List PV} (hσ : σ[id]? = some (.cells ver (icells l))) (hl : l.length = len) (hb : bb ≤ 128) (h : l.length + ys.length ≤ limit) :
    appJ (some (e, 1, bb, z)) false (.arr 1 id ver 0 len) (some (1, ys)) σ = some (.own 1 (ints l ++ ys), σ.set id .dead) := by
  have : ¬ limit < l.length + ys.length := by omega
  have : ¬ 128 < bb := by omega
  subst hl; simp [appJ, freezeA_arr, hσ, frzK_ints rfl, appO, ints_len, *]
def appZ (T : Option (TypeId × Nat × Nat × List Value)) (E : Option Ent) (s id ver off len : Nat) (y : Option (Nat × List PV)) (σ : List Ent) : Option (AV × List Ent) := match T, y with
  | some (_, s', b, _), some (s2, ys) =>
    if s2 ≠ s' ∨ s' = 0 ∨ 128 < b then none else match frzK E s id ver off len σ with
      | some (x, σ) => appO s' ys x σ
      | none => none
  | _, _ => none
@[go_sem] theorem appJ_arr {T : Option (TypeId × Nat × Nat × List Value)} {s id ver off len : Nat} {y : Option (Nat × List PV)} : appJ T false (.arr s id ver off len) y σ = appZ T σ[id]? s id ver off len y σ := by
  unfold appJ appZ
  cases T with
  | none => rfl
  | some T =>
    obtain ⟨e, s', b, z⟩ := T
    cases y with
    | none => rfl
    | some y =>
      obtain ⟨s2, ys⟩ := y
      simp only [Bool.false_eq_true, if_false, freezeA_arr]
      by_cases hc : s2 ≠ s' ∨ s' = 0 ∨ 128 < b
      · rw [if_pos hc, if_pos hc]
      · rw [if_neg hc, if_neg hc]
        cases frzK σ[id]? s id ver off len σ <;> rfl
@[go_sem] theorem appZ_ints {e bb : Nat} {z : List Value} {id ver len : Nat} {l : List Int} {ys : List PV} (hb : bb ≤ 128) (hl : l.length = len) (h : l.length + ys.length ≤ limit) :
    appZ (some (e, 1, bb, z)) (some (.cells ver (icells l))) 1 id ver 0 len (some (1, ys)) σ = some (.own 1 (ints l ++ ys), σ.set id .dead) := by
  have : ¬ limit < len + ys.length := by omega
  have : ¬ 128 < bb := by omega
  subst hl
  simp [appZ, frzK_ints rfl, appO, ints_len, *]
def appQ (T : Option (TypeId × Nat × Nat × List Value)) (E : Option Ent) (s id ver off len : Nat) (y : Option (Nat × List PV)) (σ : List Ent) : Option (AV × List Ent) := match T, y with
  | some (_, s', b, _), some (s2, ys) =>
    if s2 ≠ s' ∨ s' = 0 ∨ 128 < b then none else if s ≠ s' ∨ s ≠ 1 ∨ off ≠ 0 ∨ limit < len + ys.length ∨ ys.all PV.one = false then none else
      match E with
      | some (.cells ver' cs) => if ver' ≠ ver ∨ cs.length ≠ len then none else
        some (.arr s id (ver + 1) 0 (len + ys.length), σ.set id (.cells (ver + 1) (cs ++ ys.map .p)))
      | _ => none
  | _, _ => none
@[go_sem] theorem appJ_ararr {T : Option (TypeId × Nat × Nat × List Value)} {s id ver off len : Nat} {y : Option (Nat × List PV)} : appJ T true (.arr s id ver off len) y σ = appQ T σ[id]? s id ver off len y σ := by
  unfold appJ appQ
  cases T with
  | none => rfl
  | some T =>
    obtain ⟨e, s', b, z⟩ := T
    cases y with
    | none => rfl
    | some y =>
      obtain ⟨s2, ys⟩ := y
      simp only [if_true, appR]
      by_cases hc : s2 ≠ s' ∨ s' = 0 ∨ 128 < b
      · rw [if_pos hc, if_pos hc]
      · rw [if_neg hc, if_neg hc]
        split
        · rfl
        · cases σ[id]? with
          | none => rfl
          | some E => cases E <;> rfl
@[go_sem] theorem appQ_ok {e bb : Nat} {z : List Value} {id ver len : Nat} {cs : List AV} {ys : List PV} (hb : bb ≤ 128) (hl : cs.length = len) (h : len + ys.length ≤ limit) :
    appQ (some (e, 1, bb, z)) (some (.cells ver cs)) 1 id ver 0 len (some (1, ys)) σ = if ys.all PV.one then some (.arr 1 id (ver + 1) 0 (len + ys.length), σ.set id (.cells (ver + 1) (cs ++ ys.map .p))) else none := by
  have : ¬ limit < len + ys.length := by omega
  have : ¬ 128 < bb := by omega
  subst hl
  cases hy : ys.all PV.one <;> simp [appQ, hy, *]
@[go_sem] theorem appJ_arnew {e bb : Nat} {z : List Value} {ys : List PV} (hb : bb ≤ 128) (h : ys.length ≤ limit) :
    appJ (some (e, 1, bb, z)) true (.own 1 []) (some (1, ys)) σ = if ys.all PV.one then some (.arr 1 σ.length 1 0 ys.length, σ ++ [.cells 1 (ys.map .p)]) else none := by
  have : ¬ limit < ys.length := by omega
  have : ¬ 128 < bb := by omega
  cases hy : ys.all PV.one <;> simp [appJ, newArr, appR, hy, *]
@[go_sem] theorem po_sc {v : Value} : (PV.sc v).one = v.oneCell' := rfl
@[go_sem] theorem po_sl {s : Nat} {xs : List PV} : (PV.sl s xs).one = true := rfl
theorem impA_ints {l : List Int} : impA true (.own 1 (ints l)) st = some (.arr 1 st.σ.length 0 0 l.length, ⟨st.env, st.σ ++ [.cells 0 (icells l)]⟩) := by
  unfold impA
  simp only [if_true]
  rw [if_pos (by simp [ints, Value.oneCell'])]
  simp [icells, ints_len]
theorem callG_ints {dr : Array Oper → Bool} {k : Kont} {q : FuncId} {args : List AV} {d : Option Tmp} {rest : List Oper} {l : List Int} {σ' : List Ent} (h : Ret P q args [] (.own 1 (ints l)) σ') (h1 : AV.ltL 0 args = true)
    (hk : opsK P H dr ops rest k (St.put ⟨st.env, st.σ ++ [.cells 0 (icells l)]⟩ d (.arr 1 st.σ.length 0 0 l.length))) : callG P H dr q args false true d ops rest k st := by
  unfold callG
  rw [if_pos h1]
  exact ⟨_, σ', h, rfl, by simp, _, _, impA_ints, hk⟩
end

/-! ### New cells -/
section
variable {st : St}
def allocJ (h : Bool) (z : List Value) (st : St) : Option (AV × St) := if h then some (.ref st.σ.length 0 0, ⟨st.env, st.σ ++ [.cells 0 (z.map fun v => .p (.sc v))]⟩) else none
@[go_sem] theorem allocK_eq {z : List Value} : allocK (some z) st = allocJ (z.all Value.oneCell') z st := rfl
@[go_sem] theorem allocJ_true {z : List Value} : allocJ true z st = some (.ref st.σ.length 0 0, ⟨st.env, st.σ ++ [.cells 0 (z.map fun v => .p (.sc v))]⟩) := rfl
def boxJ (nl h : Bool) (v : AV) (st : St) : Option (AV × St) := if h then some (.ref st.σ.length 0 0, ⟨st.env, st.σ ++ [.cells 0 (nlL nl v.cells)]⟩) else none
@[go_sem] theorem boxK_eq {nl : Bool} {v : AV} : boxK nl (v, st) = boxJ nl (v.cells.all AV.one) v st := rfl
@[go_sem] theorem boxJ_true {nl : Bool} {v : AV} : boxJ nl true v st = some (.ref st.σ.length 0 0, ⟨st.env, st.σ ++ [.cells 0 (nlL nl v.cells)]⟩) := rfl
@[go_sem] theorem nlL_f {cs : List AV} : nlL false cs = cs := rfl
@[go_sem] theorem nlL_t {cs : List AV} : nlL true cs = cs.map nlw := rfl
@[go_sem] theorem nlw_nil : nlw (.p (.sc (.slice none 0 0))) = .own 1 [] := rfl
@[go_sem] theorem nlw_int {k : IntKind} {n : Int} : nlw (.p (.sc (.int k n))) = .p (.sc (.int k n)) := rfl
@[go_sem] theorem nlw_bool {n : Bool} : nlw (.p (.sc (.bool n))) = .p (.sc (.bool n)) := rfl
@[go_sem] theorem nlw_mp {i : Nat} : nlw (.mp i) = .mp i := rfl
@[go_sem] theorem nlw_ref {i v o : Nat} : nlw (.ref i v o) = .ref i v o := rfl
@[go_sem] theorem nlw_sl {s : Nat} {xs : List PV} : nlw (.p (.sl s xs)) = .p (.sl s xs) := rfl
@[go_sem] theorem nlw_own {s : Nat} {xs : List PV} : nlw (.own s xs) = .own s xs := rfl
@[go_sem] theorem all_nil' {α : Type} {p : α → Bool} : [].all p = true := rfl
@[go_sem] theorem all_cons' {α : Type} {p : α → Bool} {x : α} {l : List α} : (x :: l).all p = (p x && l.all p) := rfl
@[go_sem] theorem and_t (b : Bool) : (true && b) = b := by cases b <;> rfl
@[go_sem] theorem and_f (b : Bool) : (false && b) = false := rfl
@[go_sem] theorem or_t (b : Bool) : (true || b) = true := rfl
@[go_sem] theorem or_f (b : Bool) : (false || b) = b := by cases b <;> rfl
@[go_sem] theorem grab_func {f : FuncId} : grab true (.func f) st = (.fn (.func f) [] [], st) := by simp [grab, rd, AV.dem, AV.demL]
@[go_sem] theorem oc_int {k : IntKind} {n : Int} : (Value.int k n).oneCell' = true := rfl
@[go_sem] theorem oc_bool {b : Bool} : (Value.bool b).oneCell' = true := rfl
@[go_sem] theorem oc_slice {x : Option Addr} {b c : Nat} : (Value.slice x b c).oneCell' = true := rfl
@[go_sem] theorem oc_pointer {x : Option Addr} : (Value.pointer x).oneCell' = true := rfl
@[go_sem] theorem oc_map {x : Option Nat} : (Value.map x).oneCell' = true := rfl
@[go_sem] theorem oc_func {f : Fn} {x y : Array Value} : (Value.func f x y).oneCell' = true := rfl
@[go_sem] theorem oc_nilFunc : Value.nilFunc.oneCell' = true := rfl
@[go_sem] theorem on_sc {v : Value} : (AV.p (.sc v)).one = v.oneCell' := rfl
@[go_sem] theorem on_sl {s : Nat} {xs : List PV} : (AV.p (.sl s xs)).one = true := rfl
@[go_sem] theorem on_own {s : Nat} {xs : List PV} : (AV.own s xs).one = true := rfl
@[go_sem] theorem on_tgt {s : Nat} {xs : List PV} : (AV.tgt s xs).one = true := rfl
@[go_sem] theorem on_ref {i v o : Nat} : (AV.ref i v o).one = true := rfl
@[go_sem] theorem on_arr {s i v o l : Nat} : (AV.arr s i v o l).one = true := rfl
@[go_sem] theorem on_mp {i : Nat} : (AV.mp i).one = true := rfl
@[go_sem] theorem on_fn {f : Fn} {x y : List AV} : (AV.fn f x y).one = true := rfl
@[go_sem] theorem on_cptr {x : PV} : (AV.cptr x).one = true := rfl
end

/-! ### Stores of one cell -/
section
variable {σ : List Ent} {id ver off : Nat} {cs : List AV}
def putJ (o : Option AV) (cs : List AV) (id ver off : Nat) (v : AV) (σ : List Ent) : Option (List Ent) := match o with
  | some _ => some (σ.set id (.cells ver (cs.set off v)))
  | none => none
@[go_sem] theorem putJ_some {u v : AV} : putJ (some u) cs id ver off v σ = some (σ.set id (.cells ver (cs.set off v))) := rfl
theorem putK_g {v : AV} (hc : v.cells = [v]) (h1 : v.one = true) : putK (some (false, 1)) (some (.cells ver cs)) id ver off v σ = putJ cs[off]? cs id ver off v σ := by
  unfold putK putJ
  simp only [ne_eq, not_true_eq_false, if_false, hc, List.length_singleton, List.all_cons, h1, List.all_nil, Bool.and_true, false_or, Bool.true_eq_false, or_false, Nat.add_one_le_iff]
  by_cases h : off < cs.length
  · simp [h, putL_cons, putL_nil]
  · simp [h]
@[go_sem] theorem putK_int {k : IntKind} {n : Int} : putK (some (false, 1)) (some (.cells ver cs)) id ver off (.p (.sc (.int k n))) σ = putJ cs[off]? cs id ver off (.p (.sc (.int k n))) σ := putK_g rfl rfl
@[go_sem] theorem putK_bool {n : Bool} : putK (some (false, 1)) (some (.cells ver cs)) id ver off (.p (.sc (.bool n))) σ = putJ cs[off]? cs id ver off (.p (.sc (.bool n))) σ := putK_g rfl rfl
@[go_sem] theorem putK_nil : putK (some (false, 1)) (some (.cells ver cs)) id ver off (.p (.sc (.slice none 0 0))) σ = putJ cs[off]? cs id ver off (.p (.sc (.slice none 0 0))) σ := putK_g rfl rfl
@[go_sem] theorem putK_sl {s : Nat} {xs : List PV} : putK (some (false, 1)) (some (.cells ver cs)) id ver off (.p (.sl s xs)) σ = putJ cs[off]? cs id ver off (.p (.sl s xs)) σ := putK_g rfl rfl
@[go_sem] theorem putK_own {s : Nat} {xs : List PV} : putK (some (false, 1)) (some (.cells ver cs)) id ver off (.own s xs) σ = putJ cs[off]? cs id ver off (.own s xs) σ := putK_g rfl rfl
@[go_sem] theorem putK_tgt {s : Nat} {xs : List PV} : putK (some (false, 1)) (some (.cells ver cs)) id ver off (.tgt s xs) σ = putJ cs[off]? cs id ver off (.tgt s xs) σ := putK_g rfl rfl
@[go_sem] theorem putK_ref {i v o : Nat} : putK (some (false, 1)) (some (.cells ver cs)) id ver off (.ref i v o) σ = putJ cs[off]? cs id ver off (.ref i v o) σ := putK_g rfl rfl
@[go_sem] theorem putK_arr {s i v o l : Nat} : putK (some (false, 1)) (some (.cells ver cs)) id ver off (.arr s i v o l) σ = putJ cs[off]? cs id ver off (.arr s i v o l) σ := putK_g rfl rfl
@[go_sem] theorem putK_mp {i : Nat} : putK (some (false, 1)) (some (.cells ver cs)) id ver off (.mp i) σ = putJ cs[off]? cs id ver off (.mp i) σ := putK_g rfl rfl
@[go_sem] theorem putK_fn {f : Fn} {x y : List AV} : putK (some (false, 1)) (some (.cells ver cs)) id ver off (.fn f x y) σ = putJ cs[off]? cs id ver off (.fn f x y) σ := putK_g rfl rfl
end

/-- A callee that changes entries and lays none that stays. -/
theorem callG_upd {dr : Array Oper → Bool} {k : Kont} {st : St} {q : FuncId} {args : List AV} {d : Option Tmp} {rest : List Oper} {res : AV} {σ' : List Ent} (h : Ret P q args st.σ res σ') (h1 : AV.ltL 0 args = false) (hl : σ'.length = st.σ.length)
    (hk : opsK P H dr ops rest k (St.put ⟨st.env, σ'⟩ d res)) : callG P H dr q args false false d ops rest k st := by
  refine callG_shared h h1 ?_
  have : gcσ st.σ.length res σ' = σ' := by simp [gcσ, hl]
  rw [this]
  exact hk

/-- The end of a function of two results, the second in a box. -/
theorem end_tc {fn : Func} {st : St} {e : Exit} {σ' : List Ent} {t a ty k id ver off : Nat} {cs : List AV} {v y : AV} (he : e = .ret ∨ e = .normal) (h : fn.results.toList = [.tmp t, .cell a ty]) (hA : agT P ty = some (false, k)) (ha : st.env a = .ref id ver off)
    (hc : st.σ[id]? = some (.cells ver cs)) (hy : cs[off]? = some y) (hn : nz P ty y = y) (hv : st.env t = v) (hσ : st.σ.set id .dead = σ') : endE P fn (.tu [v, y]) σ' e st := by
  refine ⟨by rcases he with rfl | rfl <;> trivial, ?_⟩
  simp [resA, h, tmpsR, resL, ha, hA, hc, hy, hn, hv, hσ, oneOf]

theorem ret_of_walkG {f : FuncId} {fn : Func} {body : Code} {dr : Array Oper → Bool} {args : List AV} {σ : List Ent} {res : AV} {σ' : List Ent} (hf : P.funcs[f]? = some fn) (hb : fn.body = some body) (hp : plainF P f = true)
    (hn : args.length ≤ fn.ntmps) (hwf : wfC fn.ntmps body = true) (hdr : DrOk P H fn.ntmps dr) (hle : σ.length ≤ σ'.length) (h : evK P H dr body (.done (endG P fn res σ')) ⟨env0 args, σ⟩) : Ret P f args σ res σ' :=
  ret_of_bodyG hf hb hp hn hwf hdr hle h
theorem endG_of {fn : Func} {res0 res : AV} {σ' : List Ent} {e : Exit} {st : St} {σ0 : List Ent} (h : endE P fn res0 σ0 e st) (hr : res = res0 ∨ res = res0.dem) (hs : σ' = σ0 ∨ (σ' = σ0.take σ'.length ∧ res.lt σ'.length = true ∧ σ'.all (Ent.below σ'.length) = true)) : endG P fn res σ' e st :=
  ⟨h.1, res0, σ0, h.2, hr, hs⟩
/-- The end of a function that keeps nothing. -/
theorem end_n0 {fn : Func} {vs : List AV} {st : St} {res : AV} (ts : List Nat) {e : Exit} (he : e = .ret ∨ e = .normal) (h : fn.results.toList = ts.map .tmp) (hn : ts.Nodup) (h1 : ts.length ≠ 1) (hv : ts.map st.env = vs) (hr : res = .tu vs ∨ res = (AV.tu vs).dem) (hl : res.lt 0 = true) : endG P fn res [] e st :=
  endG_of (end_n ts he h hn h1 hv rfl) hr (.inr ⟨by simp, hl, rfl⟩)
theorem end_one0 {fn : Func} {st : St} {res0 res : AV} {t : Nat} {e : Exit} (he : e = .ret ∨ e = .normal) (h : fn.results.toList = [.tmp t]) (hv : st.env t = res0) (hr : res = res0 ∨ res = res0.dem) (hl : res.lt 0 = true) : endG P fn res [] e st :=
  endG_of (end_one he h hv rfl) hr (.inr ⟨by simp, hl, rfl⟩)

def Sm (x : Int) : Prop := -1000000000000 ≤ x ∧ x ≤ 1000000000000
theorem wrap_neg {x : Int} (h : Sm x) : IntKind.i64.wrap (0 - x) = -x := by
  unfold Sm at h
  rw [wrap_i64 (by omega)]; omega


/-- A callee that changes entries and leaves others behind that nobody names. -/
theorem callG_gc {dr : Array Oper → Bool} {k : Kont} {st : St} {q : FuncId} {args : List AV} {d : Option Tmp} {rest : List Oper} {res : AV} {σ1 tl : List Ent} (h : Ret P q args st.σ res (σ1 ++ tl)) (h1 : AV.ltL 0 args = false) (hl : σ1.length = st.σ.length)
    (hr : res.lt st.σ.length = true) (hb : σ1.all (Ent.below st.σ.length) = true) (hk : opsK P H dr ops rest k (St.put ⟨st.env, σ1⟩ d res)) : callG P H dr q args false false d ops rest k st := by
  refine callG_shared h h1 ?_
  have : gcσ st.σ.length res (σ1 ++ tl) = σ1 := by
    unfold gcσ
    split
    · rename_i h2
      have : tl = [] := by
        rw [List.length_append] at h2
        exact List.eq_nil_of_length_eq_zero (by omega)
      rw [this, List.append_nil]
    · rw [← hl, List.take_left']
      · rw [hl, hr, hb]; rfl
      · rfl
  rw [this]
  exact hk

/-- A contract whose arguments say more. -/
theorem Ret.arg {f : FuncId} {args args' : List AV} {σ σ' : List Ent} {res : AV} (h : Ret P f args σ res σ') (hl : args'.length = args.length)
    (ha : ∀ (i : Nat) x, args'[i]? = some x → ∃ y, args[i]? = some y ∧ ∀ (w : World) (g : Gm) (own : List Nat → Nat → Prop) v, RepA w g own x v → RepA w g own y v) : Ret P f args' σ res σ' := by
  refine ⟨h.1, fun w g ow vals hl' hargs hE hN hlt ht => h.2 w g ow vals (by rw [hl', hl]) (fun i y v hy hv => ?_) hE hN hlt ht⟩
  have hi : i < args'.length := by rw [hl]; exact (List.getElem?_eq_some_iff.1 hy).1
  obtain ⟨y', h1, h2⟩ := ha i _ (List.getElem?_eq_getElem hi)
  rw [hy] at h1
  cases h1
  exact h2 _ _ _ _ (hargs i _ v (List.getElem?_eq_getElem hi) hv)
theorem Ret.tgt2 {f : FuncId} {x : AV} {s : Nat} {xs : List PV} {σ σ' : List Ent} {res : AV} (h : Ret P f [x, .p (.sl s xs)] σ res σ') : Ret P f [x, .tgt s xs] σ res σ' := by
  refine h.arg rfl fun i y hy => ?_
  match i, hy with
  | 0, hy => simp at hy; subst hy; exact ⟨_, rfl, fun _ _ _ _ h => h⟩
  | 1, hy => simp at hy; subst hy; exact ⟨_, rfl, fun _ _ _ _ h => by cases h with | tgt s xs a hr => exact .p hr⟩
  | i + 2, hy => simp at hy

/-! ### Struct literals -/
section
variable {st : St} {t : TypeId} {cs : List AV} {v : AV} {r : List (Nat × AV)} {o n m f : Nat}
def buildJ (P : Program) (t : TypeId) (Z : Option (List Value)) (A : Option (Bool × Nat)) (S : Bool) (ps : List (Nat × AV)) : Option AV := match Z, A with
    | some z, some (true, m) => if z.length = m ∧ S = true then (buildA P t (z.map fun v => .p (.sc v)) ps).map .ag else none
    | _, _ => none
@[go_sem] theorem buildK_eq {ps : List (Nat × AV)} : buildK P t ps = buildJ P t (zrT P t) (agT P t) (stT P t) ps := rfl
@[go_sem] theorem buildJ_some {z : List Value} {ps : List (Nat × AV)} (h : z.length = m) : buildJ P t (some z) (some (true, m)) true ps = (buildA P t (z.map fun v => .p (.sc v)) ps).map .ag := by simp [buildJ, h]
@[go_sem] theorem buildA_nil : buildA P t cs [] = some cs := rfl
def buildG (P : Program) (t : TypeId) (a b c : Bool) (cs : List AV) (r : List (Nat × AV)) : Option (List AV) := if a && b && c then buildA P t cs r else none
def buildF (P : Program) (t : TypeId) (F : Option (Nat × Bool × Nat)) (cs : List AV) (v : AV) (r : List (Nat × AV)) : Option (List AV) := match F with
  | some (o, _, n) => buildG P t (decide (v.cells.length = n)) (decide (o + n ≤ cs.length)) (v.cells.all AV.one) (putL cs o v.cells) r
  | none => none
@[go_sem] theorem buildA_cons : buildA P t cs ((f, v) :: r) = buildF P t (flT P t f) cs v r := by
  simp only [buildA, buildF]
  cases flT P t f with
  | none => rfl
  | some x =>
    obtain ⟨o, b, n⟩ := x
    simp only [buildG]
    by_cases h1 : v.cells.length = n <;> by_cases h2 : o + n ≤ cs.length <;> cases h3 : v.cells.all AV.one <;> simp [h1, h2]
@[go_sem] theorem buildF_some {b : Bool} : buildF P t (some (o, b, n)) cs v r = buildG P t (decide (v.cells.length = n)) (decide (o + n ≤ cs.length)) (v.cells.all AV.one) (putL cs o v.cells) r := rfl
@[go_sem] theorem buildG_true : buildG P t true true true cs r = buildA P t cs r := rfl
end

theorem Ret.args_dem {f : FuncId} {args : List AV} {σ σ' : List Ent} {res : AV} (h : Ret P f (args.map AV.dem) σ res σ') : Ret P f args σ res σ' := by
  refine h.arg (by simp) fun i x hx => ⟨x.dem, by simp [hx], fun _ _ _ _ hr => hr.dem⟩

/-! ### Maps -/
section
variable {st : St} {σ : List Ent}
def lookM (P : Program) (z : Value) (e : TypeId) (tk ok : Bool) (r : Option AV) (kvs : List (Int × AV)) (id : Nat) (k : Int) (σ : List Ent) : Option (AV × List Ent) := match r with
      | some v => if ok then some (.tu [v.dem, bv true], σ) else if tk then some (nz P e v, σ.set id (.map (mset k v.dem kvs))) else some (nz P e v.dem, σ)
      | none => some (if ok then .tu [ofVal z, bv false] else nz P e (ofVal z), σ)
def lookJ (P : Program) (Z : Option Value) (e : TypeId) (tk ok : Bool) (E : Option Ent) (id : Nat) (k : Int) (σ : List Ent) : Option (AV × List Ent) := match Z, E with
  | some z, some (.map kvs) => lookM P z e tk ok (mget k kvs) kvs id k σ
  | _, _ => none
@[go_sem] theorem lookA_mp {t e : TypeId} {tk ok : Bool} {id : Nat} {k : Int} : lookA P t e tk ok (.mp id) (.p (.sc (.int .i64 k))) σ = lookJ P (mpT P t) e tk ok σ[id]? id k σ := by
  unfold lookA lookJ
  cases mpT P t with
  | none => rfl
  | some z =>
    simp only
    cases σ[id]? with
    | none => rfl
    | some E =>
      cases E with
      | map kvs => simp only [lookM]; cases mget k kvs <;> rfl
      | _ => rfl
@[go_sem] theorem lookJ_some {z : Value} {e : TypeId} {tk ok : Bool} {kvs : List (Int × AV)} {id : Nat} {k : Int} : lookJ P (some z) e tk ok (some (.map kvs)) id k σ = lookM P z e tk ok (mget k kvs) kvs id k σ := rfl
@[go_sem] theorem lookM_none {z : Value} {e : TypeId} {tk : Bool} {kvs : List (Int × AV)} {id : Nat} {k : Int} : lookM P z e tk false none kvs id k σ = some (nz P e (ofVal z), σ) := rfl
@[go_sem] theorem lookM_copy {z : Value} {e : TypeId} {v : AV} {kvs : List (Int × AV)} {id : Nat} {k : Int} : lookM P z e false false (some v) kvs id k σ = some (nz P e v.dem, σ) := rfl
@[go_sem] theorem lookM_take {z : Value} {e : TypeId} {v : AV} {kvs : List (Int × AV)} {id : Nat} {k : Int} : lookM P z e true false (some v) kvs id k σ = some (nz P e v, σ.set id (.map (mset k v.dem kvs))) := rfl
def mupJ (Z : Option Value) (E : Option Ent) (id : Nat) (k : Int) (v : AV) (σ : List Ent) : Option (List Ent) := match Z, E with
  | some _, some (.map kvs) => some (σ.set id (.map (mset k v kvs)))
  | _, _ => none
@[go_sem] theorem mupA_mp {t : TypeId} {id : Nat} {k : Int} {v : AV} : mupA P t (.mp id) (.p (.sc (.int .i64 k))) v σ = mupJ (mpT P t) σ[id]? id k v σ := by
  unfold mupA mupJ
  cases mpT P t with
  | none => rfl
  | some z =>
    simp only
    cases σ[id]? with
    | none => rfl
    | some E => cases E <;> rfl
@[go_sem] theorem mupJ_some {z : Value} {id : Nat} {k : Int} {v : AV} {kvs : List (Int × AV)} : mupJ (some z) (some (.map kvs)) id k v σ = some (σ.set id (.map (mset k v kvs))) := rfl
@[go_sem] theorem ofVal_slice : ofVal (.slice none 0 0) = .p (.sc (.slice none 0 0)) := rfl
theorem mget_mset (j k : Int) (v : AV) (kvs : List (Int × AV)) : mget j (mset k v kvs) = if k = j then some v else mget j kvs := by
  induction kvs with
  | nil => simp [mset, mget]
  | cons x r ih =>
    obtain ⟨i, u⟩ := x
    simp only [mset]
    by_cases h : i = k
    · subst h
      by_cases h2 : i = j <;> simp [mget, h2]
    · by_cases h2 : i = j
      · subst h2
        have : ¬ k = i := fun e => h e.symm
        simp [mget, h, this]
      · simp [mget, h, h2, ih]
end

end

attribute [go_sem] beq_self_eq_true List.getElem?_toArray Nat.zero_add List.set_cons_succ List.set_cons_zero List.getElem?_cons_zero List.getElem?_cons_succ List.getElem?_nil Option.getD_some Option.getD_none Option.map_some Option.map_none Int.toNat_natCast List.map_cons List.map_nil List.cons_append List.nil_append List.append_nil Bool.not_true Bool.not_false Bool.false_eq_true Bool.true_eq_false Bool.false_beq Bool.true_beq if_true if_false decide_true decide_false dec_t dec_f Nat.mul_one Nat.add_zero wrap_i64 List.length_cons List.length_nil Int.cast_ofNat_Int Int.toNat_zero Int.toNat_one
end Go.Ab
