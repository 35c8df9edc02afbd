/- Operations that make memory. -/
import Derived.Test.YtipepkfioecbmaaDoorAb4
set_option linter.unusedVariables false
set_option linter.unusedSimpArgs false
namespace Go.Ab
section
variable {P : Program} {H : Hint} {o : Oper} {w : World} {g : Gm} {ow : Ow} {n : Nat} {a : Act} {st st' : St} {v : AV}

theorem OpOk.gro {x : Value} {w' : World} {g' : Gm} {ow' : Ow} (hr : Ran P o a w x w') (hG : Gro w g ow w' g' ow') (hI : Inv w' g' ow' n a st') (hv : RepA w' g' (fun path b => ow' b = some (.acc path)) v x) : OpOk P o w g ow n a st' v :=
  ⟨x, w', g', ow', hr, hG.ext, hI, hv⟩

/-- A new block that becomes a new entry. -/
theorem new_entry (hI : Inv w g ow n a st) (ob : Obj) (k : Nat) {e : Ent}
    (he : RepE (w.alloc ob) ((g.fresh w.heap.size k).entry (some (w.heap.size, 0))) (ow.new w.heap.size (.box g.N)) g.N e) :
    Gro w g ow (w.alloc ob) ((g.fresh w.heap.size k).entry (some (w.heap.size, 0))) (ow.new w.heap.size (.box g.N)) ∧
    Inv (w.alloc ob) ((g.fresh w.heap.size k).entry (some (w.heap.size, 0))) (ow.new w.heap.size (.box g.N)) n a { st with σ := st.σ ++ [e] } := by
  have hG := (gro_alloc w g ow ob k (.box g.N)).trans (gro_entry (w.alloc ob) (g.fresh w.heap.size k) _ (some (w.heap.size, 0)))
  exact ⟨hG, hG.inv_snoc hI rfl (new_lt hI.lt ob _) he⟩

theorem entry_ref {ver : Nat} (hv : ver = 0) (off : Nat) (β : Option (Nat × Nat)) {B k : Nat} (hβ : β = some (B, k)) {own : List Nat → Nat → Prop} : RepA w (g.entry β) own (.ref g.N ver off) (.pointer (some ⟨B, k + off, none⟩)) := by
  subst hv
  exact .ref _ _ _ _ _ (Nat.lt_succ_self _) (Nat.zero_le _) (by simp [Gm.entry, hβ])

theorem zrT_eq {t : TypeId} {z : List Value} (h : zrT P t = some z) : ∃ i zv, P.info? t = some i ∧ i.zero = some zv ∧ zv.cells.toList = z := by
  unfold zrT at h
  split at h
  · rename_i i hi
    rw [Option.map_eq_some_iff] at h
    obtain ⟨zv, hz, h⟩ := h
    exact ⟨i, zv, hi, hz, h⟩
  · cases h

theorem scs_get {z : List Value} {j : Nat} {y : AV} (h : (z.map fun v => AV.p (.sc v))[j]? = some y) : ∃ c, z[j]? = some c ∧ y = .p (.sc c) := by
  rw [List.getElem?_map, Option.map_eq_some_iff] at h
  obtain ⟨c, hc, rfl⟩ := h
  exact ⟨c, hc, rfl⟩

theorem alloc_ok {e : TypeId} (hI : Inv w g ow n a st) (ho : o.op = .alloc e) (h : opF P H o st = some (v, st')) : OpOk P o w g ow n a st' v := by
  simp only [opF, ho] at h
  split at h
  · rename_i z hz
    split at h
    · rename_i h1
      simp only [Option.some.injEq, Prod.mk.injEq] at h
      obtain ⟨rfl, rfl⟩ := h
      obtain ⟨i, zv, hi, hzv, rfl⟩ := zrT_eq hz
      have hrun : (execOp a.eval o).run P w = .ok (.value (.pointer (some ⟨w.heap.size, 0, none⟩))) (w.alloc (.cells zv.cells e)) := by
        simp [execOp, ho, Instr.alloc, zeroValue, typeInfo, hi, hzv, newVar, newRow]
      obtain ⟨hG, hI'⟩ := new_entry (e := .cells 0 (zv.cells.toList.map fun v => .p (.sc v))) hI (.cells zv.cells e) 0 (by
        refine ⟨by simp [Gm.entry, Gm.fresh], .inl ⟨w.heap.size, 0, zv.cells, e, by simp [Gm.entry, Gm.fresh], by simp [Ow.new], by simp [Gm.entry, Gm.fresh], heap_alloc_new w _, by simp, fun j y hy => ?_⟩⟩
        obtain ⟨c, hc, rfl⟩ := scs_get hy
        refine ⟨c, by simpa using hc, ?_, .p (.sc c)⟩
        exact List.all_eq_true.1 h1 c (List.mem_of_getElem? hc))
      refine OpOk.gro (.inl hrun) hG hI' ?_
      rw [← hI.N]
      exact entry_ref rfl 0 _ rfl
    · cases h
  · cases h

/-- The cells of a value, each its own. -/
def ownAt (v : AV) (j : Nat) (own : List Nat → Nat → Prop) (path : List Nat) (b : Nat) : Prop := match v with | .ag _ => own (j :: path) b | _ => j = 0 ∧ own path b

theorem RepA.cellsOf {own : List Nat → Nat → Prop} {u : AV} {x : Value} (h : RepA w g own u x) (hone : u.cells.all AV.one = true) :
    u.cells.length = x.cells.size ∧ ∀ (j : Nat) y, u.cells[j]? = some y → ∃ c, x.cells[j]? = some c ∧ c.oneCell' = true ∧ RepA w g (ownAt u j own) y c := by
  have one : ∀ {own' : List Nat → Nat → Prop} {y : AV} {c : Value}, RepA w g own' y c → y.one = true → c.oneCell' = true := by
    intro own' y c h h1
    cases h with
    | p h => cases h <;> simp_all [AV.one, PV.one, Value.oneCell']
    | ag => simp [AV.one] at h1
    | tu => simp [AV.one] at h1
    | _ => rfl
  have single : u.cells = [u] → x.cells = #[x] → (∀ path b, own path b → ownAt u 0 own path b) → u.cells.length = x.cells.size ∧ ∀ (j : Nat) y, u.cells[j]? = some y → ∃ c, x.cells[j]? = some c ∧ c.oneCell' = true ∧ RepA w g (ownAt u j own) y c := by
    intro h1 h2 h3
    refine ⟨by simp [h1, h2], fun j y hy => ?_⟩
    rw [h1] at hy hone
    cases j with
    | zero =>
      simp at hy
      subst hy
      refine ⟨x, by simp [h2], one h (by simpa using hone), ?_⟩
      exact h.mono h3
    | succ j => simp at hy
  have many : ∀ cs, (u = .ag cs ∨ ∃ ds, u = .p (.ag ds) ∧ cs = ds.map .p) → u.cells = cs → u.cells.length = x.cells.size ∧ ∀ (j : Nat) y, u.cells[j]? = some y → ∃ c, x.cells[j]? = some c ∧ c.oneCell' = true ∧ RepA w g (ownAt u j own) y c := by
    intro cs hu hcs
    obtain ⟨vs, he, hl, hr⟩ := cells_inv h hu
    subst he
    refine ⟨by simp [hcs, hl, Value.cells], fun j y hy => ?_⟩
    rw [hcs] at hy hone
    have hj : j < vs.length := by rw [← hl]; exact (List.getElem?_eq_some_iff.1 hy).1
    have h1 := List.all_eq_true.1 hone y (List.mem_of_getElem? hy)
    have hr' := hr j y vs[j] hy (by simp [hj])
    refine ⟨vs[j], by simp [Value.cells, hj], one hr' h1, ?_⟩
    rcases hu with rfl | ⟨ds, rfl, rfl⟩
    · exact hr'
    · rw [List.getElem?_map, Option.map_eq_some_iff] at hy
      obtain ⟨z, _, rfl⟩ := hy
      exact RepA.mono (own := Free) (by cases hr' with | p h => exact .p h) fun _ _ h => h.elim
  cases u with
  | p y =>
    cases y with
    | ag ds => exact many _ (.inr ⟨ds, rfl, rfl⟩) rfl
    | sc c =>
      have := h.sc
      subst this
      have : x.oneCell' = true := by simpa [AV.cells, AV.one, PV.one] using hone
      refine single rfl ?_ (fun _ _ h => ⟨rfl, h⟩)
      cases x <;> first | rfl | simp [Value.oneCell'] at this
    | sl s xs => refine single rfl ?_ (fun _ _ h => ⟨rfl, h⟩); cases h with | p h => cases h <;> rfl
  | ag cs => exact many _ (.inl rfl) rfl
  | tu cs => simp [AV.cells, AV.one] at hone
  | own s xs => refine single rfl ?_ (fun _ _ h => ⟨rfl, h⟩); cases h <;> rfl
  | tgt s xs => refine single rfl ?_ (fun _ _ h => ⟨rfl, h⟩); cases h; rfl
  | cptr x => refine single rfl ?_ (fun _ _ h => ⟨rfl, h⟩); cases h <;> rfl
  | ref i v o => refine single rfl ?_ (fun _ _ h => ⟨rfl, h⟩); cases h; rfl
  | arr s i v o l => refine single rfl ?_ (fun _ _ h => ⟨rfl, h⟩); cases h <;> rfl
  | mp i => refine single rfl ?_ (fun _ _ h => ⟨rfl, h⟩); cases h; rfl
  | fn f a b => refine single rfl ?_ (fun _ _ h => ⟨rfl, h⟩); cases h; rfl
  | ifc t x => refine single rfl ?_ (fun _ _ h => ⟨rfl, h⟩); cases h; rfl

/-- What is in flight goes into entry id, from cell k on. -/
def Ow.store (ow : Ow) (u : AV) (id k : Nat) : Ow := fun b => match ow b with
  | some (.acc path) => match u with
    | .ag _ => match path with
      | j :: p => some (.ent id ((k + j) :: p))
      | [] => none
    | _ => some (.ent id (k :: path))
  | o => o

theorem Ow.store_at {ow : Ow} {u : AV} {id k j b : Nat} {path : List Nat} (h : ownAt u j (fun path b => ow b = some (.acc path)) path b) : ow.store u id k b = some (.ent id ((k + j) :: path)) := by
  unfold Ow.store
  cases u <;> simp only [ownAt] at h <;> first
    | (rw [h])
    | (obtain ⟨rfl, h⟩ := h; rw [h]; rfl)
theorem Ow.store_none {ow : Ow} {u : AV} {id k b : Nat} (h : ow b = none) : ow.store u id k b = none := by simp [Ow.store, h]
theorem Ow.store_slot {ow : Ow} {u : AV} {id k b i : Nat} {path : List Nat} (h : ow b = some (.slot i path)) : ow.store u id k b = some (.slot i path) := by simp [Ow.store, h]
theorem Ow.store_ent {ow : Ow} {u : AV} {id k b i : Nat} {path : List Nat} (h : ow b = some (.ent i path)) : ow.store u id k b = some (.ent i path) := by simp [Ow.store, h]
theorem Ow.store_box {ow : Ow} {u : AV} {id k b i : Nat} (h : ow b = some (.box i)) : ow.store u id k b = some (.box i) := by simp [Ow.store, h]

/-- Owners of what was in flight move into an entry. -/
theorem Inv.store {u : AV} {id k : Nat} (hI : Inv w g ow n a st) (hent : ∀ (i : Nat) e, st.σ[i]? = some e → RepE w g (ow.store u id k) i e) : Inv w g (ow.store u id k) n a st :=
  ⟨hI.sz, hI.df, fun i => (hI.env i).mono fun path b hb => Ow.store_slot hb, hent, hI.N, fun b hb => hI.lt b fun h0 => hb (Ow.store_none h0)⟩

theorem nlL_len (b : Bool) (cs : List AV) : (nlL b cs).length = cs.length := by cases b <;> simp [nlL]
theorem nlL_at {b : Bool} {cs : List AV} {j : Nat} {y : AV} (h : (nlL b cs)[j]? = some y) : ∃ y0, cs[j]? = some y0 ∧ (y = y0 ∨ y = nlw y0) := by
  cases b with
  | false => exact ⟨y, h, .inl rfl⟩
  | true =>
    simp only [nlL, if_true, List.getElem?_map, Option.map_eq_some_iff] at h
    obtain ⟨y0, h1, h2⟩ := h
    exact ⟨y0, h1, .inr h2.symm⟩
theorem RepA.nlq {w : World} {g : Gm} {own : List Nat → Nat → Prop} {x y : AV} {v : Value} (hy : y = x ∨ y = nlw x) (h : RepA w g own x v) : RepA w g own y v := by
  rcases hy with rfl | rfl
  · exact h
  · unfold nlw
    split
    · cases h with
      | p h => cases h; exact .own0 1 none
    · exact h

theorem box_ok {e : TypeId} {x : Operand} (hI : Inv w g ow n a st) (ho : o.op = .box e x) (h : opF P H o st = some (v, st')) : OpOk P o w g ow n a st' v := by
  simp only [opF, ho] at h
  cases hg : grab true x st with
  | mk u st1 =>
    rw [hg] at h
    simp only at h
    split at h
    · rename_i hone
      simp only [Option.some.injEq, Prod.mk.injEq] at h
      obtain ⟨rfl, rfl⟩ := h
      obtain ⟨ow1, hI1, hr, hn, hσ⟩ := grab_ok hI hg
      obtain ⟨hlen, hcells⟩ := hr.cellsOf hone
      have hI2 : Inv w g (ow1.store u g.N 0) n a st1 := hI1.store fun i e he =>
        (hI1.ent i e he).ow (fun b => Ow.store_box) (fun b p => Ow.store_ent)
      have hrun : (execOp a.eval o).run P w = .ok (.value (.pointer (some ⟨w.heap.size, 0, none⟩))) (w.alloc (.cells (a.eval x).cells e)) := by
        simp [execOp, ho, Instr.box, newVar, newRow]
      obtain ⟨hG, hI'⟩ := new_entry (e := .cells 0 (nlL (hd H.nl o.dst) u.cells)) hI2 (.cells (a.eval x).cells e) 0 (by
        refine ⟨by simp [Gm.entry, Gm.fresh], .inl ⟨w.heap.size, 0, (a.eval x).cells, e, by simp [Gm.entry, Gm.fresh], by simp [Ow.new], by simp [Gm.entry, Gm.fresh], heap_alloc_new w _, by rw [nlL_len]; omega, fun j y hy => ?_⟩⟩
        obtain ⟨y0, hy0, hyy⟩ := nlL_at hy
        obtain ⟨c, hc, h1, hrc⟩ := hcells j y0 hy0
        refine ⟨c, by simpa using hc, h1, ?_⟩
        have hG' := (gro_alloc w g (ow1.store u g.N 0) (.cells (a.eval x).cells e) 0 (.box g.N)).trans (gro_entry (w.alloc (.cells (a.eval x).cells e)) (g.fresh w.heap.size 0) _ (some (w.heap.size, 0)))
        refine RepA.nlq hyy (RepA.ext hG'.ext hrc fun path b hb => ?_)
        have hs : ow1.store u g.N 0 b = some (.ent g.N ((0 + j) :: path)) := Ow.store_at hb
        have hl := hI2.lt b (by simp [hs])
        exact ⟨by rw [hG'.ow b hl, hs]; simp, hG'.heap b hl, hG'.φ b hl⟩)
      refine ⟨_, _, _, _, .inl hrun, (Ext.ow (fun b hb => Ow.store_none (hn b hb))).trans hG.ext, hI', ?_⟩
      rw [← hI1.N]
      exact entry_ref rfl 0 _ rfl
    · cases h

/-! ### Arrays that are made -/
/-- A row of the call's own, in flight: pure data, one block, nobody else's. -/
theorem new_own (hI : Inv w g ow n a st) (cells : Array Value) (e : TypeId) (xs : List PV) (s c : Nat) (hs : 0 < s) (hx : ∀ (i : Nat) x, xs[i]? = some x → x.cells.length = s)
    (hsz : c * s ≤ cells.size) (hc : xs.length ≤ c)
    (hcell : ∀ (i : Nat) x (j : Nat) y, xs[i]? = some x → x.cells[j]? = some y → ∃ u, cells[i * s + j]? = some u ∧ u.oneCell' = true ∧ RepP w g.φ y u) :
    Gro w g ow (w.alloc (.cells cells e)) (g.fresh w.heap.size (xs.length * s)) (ow.new w.heap.size (.acc [])) ∧
    Inv (w.alloc (.cells cells e)) (g.fresh w.heap.size (xs.length * s)) (ow.new w.heap.size (.acc [])) n a st ∧
    RepA (w.alloc (.cells cells e)) (g.fresh w.heap.size (xs.length * s)) (fun path b => ow.new w.heap.size (.acc []) b = some (.acc path)) (.own s xs) (.slice (some ⟨w.heap.size, 0, none⟩) xs.length c) := by
  have hG := gro_alloc w g ow (.cells cells e) (xs.length * s) (.acc [])
  refine ⟨hG, hG.inv hI rfl (new_lt hI.lt _ _), ?_⟩
  refine .ownX s xs w.heap.size 0 c cells e (by simp [Ow.new]) hs (by simp [Gm.fresh]) (heap_alloc_new w _) (by simpa using hsz) hc ?_
  by_cases h0 : xs = []
  · subst h0; exact .nil _ _ _
  · have hv : ∀ (i : Nat) x (j : Nat) y, xs[i]? = some x → x.cells[j]? = some y → (w.alloc (.cells cells e)).cell? ⟨w.heap.size, 0 + i * s + j, none⟩ = some (cells.getD (i * s + j) undef) ∧ (cells.getD (i * s + j) undef).oneCell' = true ∧ RepP (w.alloc (.cells cells e)) (g.fresh w.heap.size (xs.length * s)).φ y (cells.getD (i * s + j) undef) := by
      intro i x j y h1 h2
      obtain ⟨u, hu, h1u, hr⟩ := hcell i x j y h1 h2
      have : cells.getD (i * s + j) undef = u := by simp [Array.getD_eq_getD_getElem?, hu]
      rw [this]
      refine ⟨?_, h1u, hr.keep hG.stab⟩
      rw [cell_of_block (heap_alloc_new w _)]
      simpa using hu
    exact .sl s xs _ 0 c (fun i j => cells.getD (i * s + j) undef) h0 hs hc (by simp [Gm.fresh]) hx (fun i x j y h1 h2 => (hv i x j y h1 h2).1) (fun i x j y h1 h2 => (hv i x j y h1 h2).2.1) (fun i x j y h1 h2 => (hv i x j y h1 h2).2.2)

/-- An array of the call's own, as an entry. -/
theorem new_arr (hI : Inv w g ow n a st) (cells : Array Value) (e : TypeId) (cs : List AV) (len c : Nat) (hsz : c ≤ cells.size) (hc : len ≤ c) (hl : cs.length ≤ cells.size)
    (hcell : ∀ (j : Nat) y, cs[j]? = some y → ∃ u, cells[j]? = some u ∧ u.oneCell' = true ∧ RepA w g Free y u) :
    ∃ g' ow', Gro w g ow (w.alloc (.cells cells e)) g' ow' ∧ Inv (w.alloc (.cells cells e)) g' ow' n a { st with σ := st.σ ++ [.cells 0 cs] } ∧
      RepA (w.alloc (.cells cells e)) g' Free (.arr 1 st.σ.length 0 0 len) (.slice (some ⟨w.heap.size, 0, none⟩) len c) := by
  obtain ⟨hG, hI'⟩ := new_entry (e := .cells 0 cs) hI (.cells cells e) 0 (by
    refine ⟨by simp [Gm.entry, Gm.fresh], .inl ⟨w.heap.size, 0, cells, e, by simp [Gm.entry, Gm.fresh], by simp [Ow.new], by simp [Gm.entry, Gm.fresh], heap_alloc_new w _, by omega, fun j y hy => ?_⟩⟩
    obtain ⟨u, hu, h1, hr⟩ := hcell j y hy
    have hG' := (gro_alloc w g ow (.cells cells e) 0 (.box g.N)).trans (gro_entry (w.alloc (.cells cells e)) (g.fresh w.heap.size 0) _ (some (w.heap.size, 0)))
    exact ⟨u, by simpa using hu, h1, RepA.ext hG'.ext hr fun _ _ h => h.elim⟩)
  refine ⟨_, _, hG, hI', ?_⟩
  rw [← hI.N]
  exact .arr 1 g.N 0 0 len w.heap.size 0 c cells e (Nat.lt_succ_self _) (Nat.zero_le _) (by simp [Gm.entry, Gm.fresh]) (heap_alloc_new w _) (by omega) hc

/-! ### Literals -/
theorem RepA.pv {own : List Nat → Nat → Prop} {u : AV} {x : Value} {y : PV} (h : RepA w g own u x) (hu : u.pv = some y) : RepP w g.φ y x := by
  have aux : ∀ {own : List Nat → Nat → Prop} {u : AV} {x : Value}, RepA w g own u x → ∀ y, u.pv = some y → RepP w g.φ y x := by
    intro own u x h
    induction h with
    | p h => intro y hy; simp only [AV.pv, Option.some.injEq] at hy; subst hy; exact h
    | own0 s ad => intro y hy; simp only [AV.pv, Option.some.injEq] at hy; subst hy; exact .nil s ad 0
    | ownX s xs b k c arr e h1 hs hφ hb hz hc hr => intro y hy; simp only [AV.pv, Option.some.injEq] at hy; subst hy; exact hr
    | tgt s xs ad hr => intro y hy; simp only [AV.pv, Option.some.injEq] at hy; subst hy; exact hr
    | ag cs vs hl hr ih =>
      intro y hy
      simp only [AV.pv, Option.map_eq_some_iff] at hy
      obtain ⟨ds, hds, rfl⟩ := hy
      have lists : ∀ (cs : List AV) (ds : List PV), AV.pvL cs = some ds → cs.length = ds.length ∧ ∀ (i : Nat) d, ds[i]? = some d → ∃ c, cs[i]? = some c ∧ c.pv = some d := by
        intro cs
        induction cs with
        | nil => intro ds h; simp only [AV.pvL, Option.some.injEq] at h; subst h; simp
        | cons c cs ih =>
          intro ds h
          simp only [AV.pvL] at h
          split at h
          · rename_i d ds' hc hcs
            simp only [Option.some.injEq] at h
            subst h
            obtain ⟨h1, h2⟩ := ih ds' hcs
            refine ⟨by simp [h1], fun i d' hd => ?_⟩
            cases i with
            | zero => simp at hd; subst hd; exact ⟨c, rfl, hc⟩
            | succ i => simpa using h2 i d' (by simpa using hd)
          · cases h
      obtain ⟨h1, h2⟩ := lists cs ds hds
      refine .ag ds vs (by omega) (fun i d v hd hv => ?_)
      obtain ⟨c, hc, hcp⟩ := h2 i d hd
      exact ih i c v hc hv d hcp
    | _ => intro y hy; simp [AV.pv] at hy
  exact aux h y hu

theorem pvL_some {cs : List AV} {ds : List PV} (h : AV.pvL cs = some ds) : cs.length = ds.length ∧ ∀ (i : Nat) d, ds[i]? = some d → ∃ c, cs[i]? = some c ∧ c.pv = some d := by
  induction cs generalizing ds with
  | nil => simp only [AV.pvL, Option.some.injEq] at h; subst h; simp
  | cons c cs ih =>
    simp only [AV.pvL] at h
    split at h
    · rename_i d ds' hc hcs
      simp only [Option.some.injEq] at h
      subst h
      obtain ⟨h1, h2⟩ := ih hcs
      refine ⟨by simp [h1], fun i d' hd => ?_⟩
      cases i with
      | zero => simp at hd; subst hd; exact ⟨c, rfl, hc⟩
      | succ i => simpa using h2 i d' (by simpa using hd)
    · cases h

theorem RepP.cells {φ : Nat → Nat} {y : PV} {x : Value} (h : RepP w φ y x) (hone : y.cells.all PV.one = true) :
    y.cells.length = x.cells.size ∧ ∀ (j : Nat) z, y.cells[j]? = some z → ∃ c, x.cells[j]? = some c ∧ c.oneCell' = true ∧ RepP w φ z c := by
  cases h with
  | sc v =>
    have h1 : x.oneCell' = true := by simpa [PV.cells, PV.one] using hone
    have hx : x.cells = #[x] := by cases x <;> first | rfl | simp [Value.oneCell'] at h1
    refine ⟨by simp [PV.cells, hx], fun j z hz => ?_⟩
    cases j with
    | zero => simp [PV.cells] at hz; subst hz; exact ⟨x, by simp [hx], h1, .sc x⟩
    | succ j => simp [PV.cells] at hz
  | nil s ad c =>
    refine ⟨by simp [PV.cells, Value.cells], fun j z hz => ?_⟩
    cases j with
    | zero => simp [PV.cells] at hz; subst hz; exact ⟨_, by simp [Value.cells], rfl, .nil s ad c⟩
    | succ j => simp [PV.cells] at hz
  | sl s xs b k c val h0 hs hc hφ hl hv h1 hr =>
    refine ⟨by simp [PV.cells, Value.cells], fun j z hz => ?_⟩
    cases j with
    | zero => simp [PV.cells] at hz; subst hz; exact ⟨_, by simp [Value.cells], rfl, .sl s xs b k c val h0 hs hc hφ hl hv h1 hr⟩
    | succ j => simp [PV.cells] at hz
  | ag cs vs hl hr =>
    refine ⟨by simpa [PV.cells, Value.cells] using hl, fun j z hz => ?_⟩
    simp only [PV.cells] at hz hone
    have hj : j < vs.length := by rw [← hl]; exact (List.getElem?_eq_some_iff.1 hz).1
    refine ⟨vs[j], by simp [Value.cells, hj], ?_, hr j z vs[j] hz (by simp [hj])⟩
    have h1 := List.all_eq_true.1 hone z (List.mem_of_getElem? hz)
    have hrr := hr j z vs[j] hz (by simp [hj])
    generalize vs[j] = q at hrr
    cases hrr <;> first | rfl | (simp [PV.one] at h1; done) | simpa [PV.one] using h1

/-- Cells that stand for elements. -/
def Rows (w : World) (φ : Nat → Nat) (s : Nat) (xs : List PV) (cells : Array Value) : Prop :=
  cells.size = xs.length * s ∧ (∀ (i : Nat) x, xs[i]? = some x → x.cells.length = s) ∧
  ∀ (i : Nat) x (j : Nat) y, xs[i]? = some x → x.cells[j]? = some y → ∃ u, cells[i * s + j]? = some u ∧ u.oneCell' = true ∧ RepP w φ y u

/-- Cells o .. of an array are overwritten. -/
def putA (cells : Array Value) (o : Nat) (us : Array Value) : Array Value := us.zipIdx.foldl (fun cs (c, j) => cs.setIfInBounds (o + j) c) cells

theorem putA_list (us : List Value) : ∀ (cells : Array Value) (o k : Nat),
    ((us.zipIdx k).foldl (fun (cs : Array Value) (p : Value × Nat) => cs.setIfInBounds (o + p.2) p.1) cells).size = cells.size ∧
    ∀ i, o + k + us.length ≤ cells.size → ((us.zipIdx k).foldl (fun (cs : Array Value) (p : Value × Nat) => cs.setIfInBounds (o + p.2) p.1) cells)[i]? = if o + k ≤ i ∧ i < o + k + us.length then us[i - (o + k)]? else cells[i]? := by
  induction us with
  | nil => intro cells o k; simp; omega
  | cons u us ih =>
    intro cells o k
    simp only [List.zipIdx_cons, List.foldl_cons]
    obtain ⟨h1, h2⟩ := ih (cells.setIfInBounds (o + k) u) o (k + 1)
    refine ⟨by rw [h1]; simp, fun i hle => ?_⟩
    simp only [List.length_cons] at hle ⊢
    rw [h2 i (by simp; omega)]
    by_cases hi : i = o + k
    · subst hi
      rw [if_neg (by omega), if_pos (by omega)]
      have : o + k < cells.size := by omega
      simp [this]
    · by_cases hin : o + k ≤ i ∧ i < o + k + (us.length + 1)
      · rw [if_pos (by omega), if_pos hin]
        rw [show i - (o + k) = (i - (o + (k + 1))) + 1 by omega]
        simp
      · rw [if_neg (by omega), if_neg hin]
        simp [Array.getElem?_setIfInBounds, Ne.symm hi]

theorem putA_size (cells : Array Value) (o : Nat) (us : Array Value) : (putA cells o us).size = cells.size := by
  have := (putA_list us.toList cells o 0).1
  unfold putA
  rw [← Array.foldl_toList]
  simpa using this

theorem putA_get (cells : Array Value) (o : Nat) (us : Array Value) (h : o + us.size ≤ cells.size) (i : Nat) : (putA cells o us)[i]? = if o ≤ i ∧ i < o + us.size then us[i - o]? else cells[i]? := by
  have := (putA_list us.toList cells o 0).2 i (by simpa using h)
  unfold putA
  rw [← Array.foldl_toList]
  simpa using this

theorem fill_cons (place : Nat → Option (Nat × Nat)) (cells : Array Value) (i : Nat) (v : Value) (rest : List (Nat × Value)) (o s : Nat) (hp : place i = some (o, s)) (hs : v.cells.size = s) (hle : o + s ≤ cells.size) :
    Instr.fill place cells ((i, v) :: rest) = Instr.fill place (putA cells o v.cells) rest := by
  subst hs
  have h1 : ¬ (o + v.cells.size > cells.size) := by omega
  simp [Instr.fill, hp, h1, putA]

theorem fillA_ok {s : Nat} (hs : 0 < s) : ∀ (ps : List (Nat × AV)) (us : List (Nat × Value)) (xs zs : List PV) (cells : Array Value),
    fillA s zs ps = some xs → ps.length = us.length → (∀ (k : Nat) i x j u, ps[k]? = some (i, x) → us[k]? = some (j, u) → i = j ∧ ∃ own, RepA w g own x u) → Rows w g.φ s zs cells →
    ∃ cells', Instr.fill (fun i => some (i * s, s)) cells us = some cells' ∧ Rows w g.φ s xs cells' ∧ xs.length = zs.length := by
  intro ps
  induction ps with
  | nil =>
    intro us xs zs cells h hl hr hR
    simp only [fillA, Option.some.injEq] at h
    subst h
    cases us with
    | nil => exact ⟨cells, rfl, hR, rfl⟩
    | cons => simp at hl
  | cons p ps ih =>
    intro us xs zs cells h hl hr hR
    obtain ⟨i, x⟩ := p
    cases us with
    | nil => simp at hl
    | cons u us =>
      obtain ⟨j, u⟩ := u
      obtain ⟨rfl, own, hxu⟩ := hr 0 i x j u rfl rfl
      simp only [fillA] at h
      split at h
      · rename_i y hy
        split at h
        · rename_i hc
          obtain ⟨hi, hlen, hone⟩ := hc
          obtain ⟨hcl, hcc⟩ := (hxu.pv hy).cells hone
          have hmul : (i + 1) * s ≤ zs.length * s := Nat.mul_le_mul_right s hi
          rw [Nat.succ_mul] at hmul
          have hle : i * s + s ≤ cells.size := by rw [hR.1]; exact hmul
          have hus : u.cells.size = s := by omega
          have hR' : Rows w g.φ s (zs.set i y) (putA cells (i * s) u.cells) := by
            refine ⟨by rw [putA_size]; simpa using hR.1, fun k z hz => ?_, fun k z m t hz ht => ?_⟩
            · rw [List.getElem?_set] at hz
              split at hz
              · simp only [hi, if_true, Option.some.injEq] at hz
                subst hz; exact hlen
              · exact hR.2.1 k z hz
            · rw [putA_get _ _ _ (by omega)]
              rw [List.getElem?_set] at hz
              split at hz
              · rename_i hik
                simp only [hi, if_true, Option.some.injEq] at hz
                subst hz hik
                have hm : m < y.cells.length := (List.getElem?_eq_some_iff.1 ht).1
                obtain ⟨c, hc, h1, hrc⟩ := hcc m t ht
                rw [if_pos (by omega)]
                exact ⟨c, by rw [show i * s + m - i * s = m by omega]; exact hc, h1, hrc⟩
              · rename_i hik
                have hm : m < z.cells.length := (List.getElem?_eq_some_iff.1 ht).1
                rw [hR.2.1 k z hz] at hm
                rw [if_neg]
                · exact hR.2.2 k z m t hz ht
                · rintro ⟨h1, h2⟩
                  rw [hus] at h2
                  rcases Nat.lt_or_ge k i with hlt | hge
                  · have : (k + 1) * s ≤ i * s := Nat.mul_le_mul_right s hlt
                    rw [Nat.succ_mul] at this
                    omega
                  · have hgt : i < k := by omega
                    have : (i + 1) * s ≤ k * s := Nat.mul_le_mul_right s hgt
                    rw [Nat.succ_mul] at this
                    omega
          obtain ⟨cells', h1, h2, h3⟩ := ih us xs (zs.set i y) _ h (by simpa using hl) (fun k i' x' j' u' h1 h2 => hr (k + 1) i' x' j' u' (by simpa using h1) (by simpa using h2)) hR'
          refine ⟨cells', ?_, h2, by simpa using h3⟩
          rw [fill_cons _ _ _ _ _ (i * s) s rfl hus hle]
          exact h1
        · cases h
      · cases h

end
end Go.Ab
