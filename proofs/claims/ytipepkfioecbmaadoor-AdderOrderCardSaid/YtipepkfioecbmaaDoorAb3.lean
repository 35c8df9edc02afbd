/- Steps of memory: what is kept when blocks are added, when owners move. -/
import Derived.Test.YtipepkfioecbmaaDoorAb2
set_option linter.unusedVariables false
namespace Go.Ab

/-- New blocks alone. -/
structure Gro (w : World) (g : Gm) (ow : Ow) (w' : World) (g' : Gm) (ow' : Ow) : Prop where
  os : w'.os = w.os
  tape : w'.tape = w.tape
  output : w'.output = w.output
  size : w.heap.size ≤ w'.heap.size
  heap : ∀ b, b < w.heap.size → w'.heap[b]? = w.heap[b]?
  φ : ∀ b, b < w.heap.size → g'.φ b = g.φ b
  ow : ∀ b, b < w.heap.size → ow' b = ow b
  N : g.N ≤ g'.N
  V : ∀ id, id < g.N → g'.V id = g.V id
  β : ∀ id ver, id < g.N → g'.β id ver = g.β id ver

theorem cell_block {w w' : World} {b j : Nat} (h : w'.heap[b]? = w.heap[b]?) : w'.cell? ⟨b, j, none⟩ = w.cell? ⟨b, j, none⟩ := by simp [World.cell?, h]

theorem heap_lt {w : World} {b : Nat} {o : Obj} (h : w.heap[b]? = some o) : b < w.heap.size := (Array.getElem?_eq_some_iff.1 h).1

theorem Gro.stab {w w' : World} {g g' : Gm} {ow ow' : Ow} (h : Gro w g ow w' g' ow') : Stab w g.φ w' g'.φ :=
  ⟨fun b hb => Nat.le_of_eq (h.φ b hb).symm, fun b j v _ hc => (cell_block (h.heap b (cell_lt hc))).trans hc⟩
theorem Gro.shape {w w' : World} {g g' : Gm} {ow ow' : Ow} (h : Gro w g ow w' g' ow') : Shape w w' :=
  fun b arr e fr hb => ⟨arr, (h.heap b (heap_lt hb)).trans hb, rfl⟩
theorem Gro.ext {w w' : World} {g g' : Gm} {ow ow' : Ow} (h : Gro w g ow w' g' ow') : Ext w g ow w' g' ow' :=
  ⟨h.os, h.tape, h.output, h.size, h.stab, h.shape, fun b hb ho => ⟨h.heap b hb, h.φ b hb, (h.ow b hb).trans ho⟩, h.N, fun id hi => Nat.le_of_eq (h.V id hi).symm, fun id ver hi _ => h.β id ver hi⟩

theorem Gro.repA {w w' : World} {g g' : Gm} {ow ow' : Ow} (h : Gro w g ow w' g' ow') (hlt : ∀ b, ow b ≠ none → b < w.heap.size) {o : List Nat → Own} {x : AV} {v : Value}
    (hr : RepA w g (fun path b => ow b = some (o path)) x v) : RepA w' g' (fun path b => ow' b = some (o path)) x v :=
  hr.ext h.ext fun path b hb => by
    have hl := hlt b (by simp [hb])
    exact ⟨(h.ow b hl).trans hb, h.heap b hl, h.φ b hl⟩

theorem Gro.repE {w w' : World} {g g' : Gm} {ow ow' : Ow} (h : Gro w g ow w' g' ow') (hlt : ∀ b, ow b ≠ none → b < w.heap.size) {id : Nat} {e : Ent} (hid : id < g.N)
    (hr : RepE w g ow id e) : RepE w' g' ow' id e := by
  cases e with
  | cells ver cs =>
    obtain ⟨hV, hr⟩ := hr
    refine ⟨(h.V id hid).trans hV, ?_⟩
    rcases hr with ⟨b, o, arr, e, h1, h2, h3, h4, h5, h6⟩ | ⟨h1, h2⟩
    · have hl := heap_lt h4
      refine .inl ⟨b, o, arr, e, (h.β _ _ hid).trans h1, (h.ow b hl).trans h2, (h.φ b hl).trans h3, (h.heap b hl).trans h4, h5, fun j y hy => ?_⟩
      obtain ⟨v, hv, h1v, hr⟩ := h6 j y hy
      exact ⟨v, hv, h1v, h.repA hlt hr⟩
    · exact .inr ⟨(h.β _ _ hid).trans h1, h2⟩
  | map kvs =>
    obtain ⟨b, o, es, clock, h1, h2, h3, h4, h5⟩ := hr
    have hl := heap_lt h3
    refine ⟨b, o, es, clock, (h.β _ _ hid).trans h1, (h.ow b hl).trans h2, (h.heap b hl).trans h3, h4, fun j k y e hk he => ?_⟩
    obtain ⟨hkey, hr⟩ := h5 j k y e hk he
    exact ⟨hkey, h.repA hlt hr⟩
  | dead => trivial

theorem Gro.inv {w w' : World} {g g' : Gm} {ow ow' : Ow} (h : Gro w g ow w' g' ow') {n : Nat} {a : Act} {st : St} (hI : Inv w g ow n a st) (hN : g'.N = g.N)
    (hlt : ∀ b, ow' b ≠ none → b < w'.heap.size) : Inv w' g' ow' n a st :=
  ⟨hI.sz, hI.df, fun i => h.repA hI.lt (o := fun path => .slot i path) (hI.env i),
    fun id e he => h.repE hI.lt (by rw [hI.N]; exact (List.getElem?_eq_some_iff.1 he).1) (hI.ent id e he), hN.trans hI.N, hlt⟩

/-- One entry more. -/
theorem Gro.inv_snoc {w w' : World} {g g' : Gm} {ow ow' : Ow} (h : Gro w g ow w' g' ow') {n : Nat} {a : Act} {st : St} (hI : Inv w g ow n a st) (hN : g'.N = g.N + 1)
    (hlt : ∀ b, ow' b ≠ none → b < w'.heap.size) {e : Ent} (he : RepE w' g' ow' g.N e) : Inv w' g' ow' n a { st with σ := st.σ ++ [e] } :=
  ⟨hI.sz, hI.df, fun i => h.repA hI.lt (o := fun path => .slot i path) (hI.env i),
    fun id e' he' => by
      by_cases hid : id < st.σ.length
      · exact h.repE hI.lt (by rw [hI.N]; exact hid) (hI.ent id e' (by simpa [List.getElem?_append_left hid] using he'))
      · have : id = st.σ.length := by
          have := (List.getElem?_eq_some_iff.1 he').1
          simp at this; omega
        subst this
        simp at he'
        subst he'
        rw [← hI.N]; exact he,
    by simp [hN, hI.N], hlt⟩

theorem Gro.trans {w w1 w2 : World} {g g1 g2 : Gm} {ow ow1 ow2 : Ow} (h : Gro w g ow w1 g1 ow1) (k : Gro w1 g1 ow1 w2 g2 ow2) : Gro w g ow w2 g2 ow2 :=
  ⟨k.os.trans h.os, k.tape.trans h.tape, k.output.trans h.output, Nat.le_trans h.size k.size,
    fun b hb => (k.heap b (Nat.lt_of_lt_of_le hb h.size)).trans (h.heap b hb), fun b hb => (k.φ b (Nat.lt_of_lt_of_le hb h.size)).trans (h.φ b hb),
    fun b hb => (k.ow b (Nat.lt_of_lt_of_le hb h.size)).trans (h.ow b hb), Nat.le_trans h.N k.N,
    fun id hi => (k.V id (Nat.lt_of_lt_of_le hi h.N)).trans (h.V id hi), fun id ver hi => (k.β id ver (Nat.lt_of_lt_of_le hi h.N)).trans (h.β id ver hi)⟩

theorem Gro.refl (w : World) (g : Gm) (ow : Ow) : Gro w g ow w g ow := ⟨rfl, rfl, rfl, Nat.le_refl _, fun _ _ => rfl, fun _ _ => rfl, fun _ _ => rfl, Nat.le_refl _, fun _ _ => rfl, fun _ _ _ => rfl⟩

theorem Gro.drew {w w' : World} {g g' : Gm} {ow ow' : Ow} (h : Gro w g ow w' g' ow') : Gro w g ow w'.drew g' ow' := ⟨h.os, h.tape, h.output, h.size, h.heap, h.φ, h.ow, h.N, h.V, h.β⟩

/-- A new block, its owner, how far it stands still. -/
def Gm.fresh (g : Gm) (B k : Nat) : Gm := { g with φ := fun b => if b = B then k else g.φ b }
def Gm.entry (g : Gm) (β : Option (Nat × Nat)) : Gm :=
  { g with N := g.N + 1, V := fun id => if id = g.N then 0 else g.V id, β := fun id ver => if id = g.N then β else g.β id ver }
def Ow.new (ow : Ow) (B : Nat) (o : Own) : Ow := fun b => if b = B then some o else ow b

theorem gro_alloc (w : World) (g : Gm) (ow : Ow) (o : Obj) (k : Nat) (x : Own) : Gro w g ow (w.alloc o) (g.fresh w.heap.size k) (ow.new w.heap.size x) where
  os := rfl
  tape := rfl
  output := rfl
  size := by simp
  heap := fun b hb => RowKit.Below.heap_alloc w o b hb
  φ := fun b hb => by simp [Gm.fresh]; omega
  ow := fun b hb => by simp [Ow.new]; omega
  N := Nat.le_refl _
  V := fun _ _ => rfl
  β := fun _ _ _ => rfl

theorem gro_entry (w : World) (g : Gm) (ow : Ow) (β : Option (Nat × Nat)) : Gro w g ow w (g.entry β) ow where
  os := rfl
  tape := rfl
  output := rfl
  size := Nat.le_refl _
  heap := fun _ _ => rfl
  φ := fun _ _ => rfl
  ow := fun _ _ => rfl
  N := Nat.le_succ _
  V := fun id hi => by simp [Gm.entry]; omega
  β := fun id ver hi => by simp [Gm.entry]; omega

theorem new_lt {w : World} {ow : Ow} (hlt : ∀ b, ow b ≠ none → b < w.heap.size) (o : Obj) (x : Own) : ∀ b, ow.new w.heap.size x b ≠ none → b < (w.alloc o).heap.size := by
  intro b hb
  simp only [Ow.new] at hb
  simp only [World.size_alloc]
  split at hb
  · omega
  · have := hlt b hb; omega

theorem heap_new (w : World) (o : Obj) : (w.alloc o).heap[w.heap.size]? = some o := heap_alloc_new w o

/-! ### Owners move -/
/-- Nothing is in flight. -/
def Idle (ow : Ow) : Prop := ∀ b path, ow b ≠ some (.acc path)

def Ow.take (ow : Ow) (t : Nat) : Ow := fun b => match ow b with
  | some (.slot i path) => if i = t then some (.acc path) else some (.slot i path)
  | o => o

theorem Ow.take_none {ow : Ow} {t b : Nat} (h : ow b = none) : ow.take t b = none := by simp [Ow.take, h]
theorem Ow.take_ent {ow : Ow} {t b i : Nat} {path : List Nat} (h : ow b = some (.ent i path)) : ow.take t b = some (.ent i path) := by simp [Ow.take, h]
theorem Ow.take_box {ow : Ow} {t b i : Nat} (h : ow b = some (.box i)) : ow.take t b = some (.box i) := by simp [Ow.take, h]
theorem Ow.take_slot {ow : Ow} {t b i : Nat} {path : List Nat} (h : ow b = some (.slot i path)) (hi : i ≠ t) : ow.take t b = some (.slot i path) := by simp [Ow.take, h, hi]
theorem Ow.take_this {ow : Ow} {t b : Nat} {path : List Nat} (h : ow b = some (.slot t path)) : ow.take t b = some (.acc path) := by simp [Ow.take, h]

/-- The entries see only their own owners. -/
theorem RepE.ow {w : World} {g : Gm} {ow ow' : Ow} {id : Nat} {e : Ent} (h : RepE w g ow id e) (hb : ∀ b, ow b = some (.box id) → ow' b = some (.box id))
    (he : ∀ b path, ow b = some (.ent id path) → ow' b = some (.ent id path)) : RepE w g ow' id e := by
  cases e with
  | cells ver cs =>
    obtain ⟨hV, h⟩ := h
    refine ⟨hV, ?_⟩
    rcases h with ⟨b, o, arr, e, h1, h2, h3, h4, h5, h6⟩ | h
    · refine .inl ⟨b, o, arr, e, h1, hb b h2, h3, h4, h5, fun j y hy => ?_⟩
      obtain ⟨v, hv, h1v, hr⟩ := h6 j y hy
      exact ⟨v, hv, h1v, hr.mono fun path b hb => he b _ hb⟩
    · exact .inr h
  | map kvs =>
    obtain ⟨b, o, es, clock, h1, h2, h3, h4, h5⟩ := h
    refine ⟨b, o, es, clock, h1, hb b h2, h3, h4, fun j k y e hk he' => ?_⟩
    obtain ⟨hkey, hr⟩ := h5 j k y e hk he'
    exact ⟨hkey, hr.mono fun path b hb => he b _ hb⟩
  | dead => trivial

theorem Act.getD_eval (a : Act) (t : Nat) : a.eval (.tmp t) = a.tmps.getD t undef := rfl

theorem rd_ok {w : World} {g : Gm} {ow : Ow} {n : Nat} {a : Act} {st : St} (hI : Inv w g ow n a st) (x : Operand) : ∃ own, RepA w g own (rd st.env x) (a.eval x) := by
  cases x with
  | tmp t => exact ⟨_, hI.env t⟩
  | const v => exact ⟨fun _ _ => False, .p (.sc v)⟩
  | global gl => exact ⟨fun _ _ => False, .p (.sc _)⟩
  | func f => exact ⟨fun _ _ => False, .fn (.func f) [] [] [] [] rfl rfl (by simp) (by simp)⟩

theorem grab_ok {w : World} {g : Gm} {ow : Ow} {n : Nat} {a : Act} {st st' : St} {tk : Bool} {x : Operand} {v : AV} (hI : Inv w g ow n a st) (h : grab tk x st = (v, st')) :
    ∃ ow', Inv w g ow' n a st' ∧ RepA w g (fun path b => ow' b = some (.acc path)) v (a.eval x) ∧ (∀ b, ow b = none → ow' b = none) ∧ st'.σ = st.σ := by
  have copy : grab false x st = (v, st') → ∃ ow', Inv w g ow' n a st' ∧ RepA w g (fun path b => ow' b = some (.acc path)) v (a.eval x) ∧ (∀ b, ow b = none → ow' b = none) ∧ st'.σ = st.σ := by
    intro h
    simp only [grab] at h
    obtain ⟨rfl, rfl⟩ := Prod.mk.inj h
    obtain ⟨own, hr⟩ := rd_ok hI x
    exact ⟨ow, hI, hr.dem, fun _ h => h, rfl⟩
  cases tk with
  | false => exact copy h
  | true =>
    cases x with
    | tmp t =>
      simp only [grab] at h
      obtain ⟨rfl, rfl⟩ := Prod.mk.inj h
      refine ⟨ow.take t, ⟨hI.sz, hI.df, fun i => ?_, fun id e he => (hI.ent id e he).ow (fun b => Ow.take_box) (fun b p => Ow.take_ent), hI.N, fun b hb => hI.lt b ?_⟩, ?_, fun b => Ow.take_none, rfl⟩
      · simp only [upd]
        by_cases hi : i = t
        · subst hi; simp only [if_true]; exact (hI.env i).dem
        · simp only [hi, if_false]; exact (hI.env i).mono fun path b hb => Ow.take_slot hb hi
      · intro h0; exact hb (Ow.take_none h0)
      · exact (hI.env t).mono fun path b hb => Ow.take_this hb
    | const c => exact copy (by simpa [grab] using h)
    | global c => exact copy (by simpa [grab] using h)
    | func c => exact copy (by simpa [grab] using h)

/-! ### The value lands in its slot -/
def St.put (st : St) (d : Option Tmp) (v : AV) : St :=
  match d with
  | some d => { st with env := upd st.env d v }
  | none => st

def Ow.land (ow : Ow) (d : Option Tmp) : Ow := fun b => match ow b, d with
  | some (.acc path), some d => some (.slot d path)
  | some (.acc _), none => none
  | some (.slot i path), some d => if i = d then none else some (.slot i path)
  | o, _ => o

theorem land_idle (ow : Ow) (d : Option Tmp) : Idle (ow.land d) := by
  intro b path h
  cases d <;> cases ho : ow b with
  | none => simp [Ow.land, ho] at h
  | some o => cases o <;> simp only [Ow.land, ho] at h <;> (try split at h) <;> simp at h

theorem put_ok {w : World} {g : Gm} {ow : Ow} {n : Nat} {a : Act} {st : St} {v : AV} {x : Value} (hI : Inv w g ow n a st) (hr : RepA w g (fun path b => ow b = some (.acc path)) v x) (d : Option Tmp)
    (hd : ∀ k, d = some k → k < n) : Inv w g (ow.land d) n (a.put d x) (st.put d v) := by
  have hent : ∀ id e, st.σ[id]? = some e → RepE w g (ow.land d) id e := fun id e he =>
    (hI.ent id e he).ow (fun b hb => by simp [Ow.land, hb]) (fun b p hb => by simp [Ow.land, hb])
  have hlt : ∀ b, ow.land d b ≠ none → b < w.heap.size := fun b hb => hI.lt b (fun h0 => hb (by simp [Ow.land, h0]))
  cases d with
  | none =>
    refine ⟨hI.sz, hI.df, fun i => (hI.env i).mono fun path b hb => by simp [Ow.land, hb], hent, hI.N, hlt⟩
  | some d =>
    have hdn := hd d rfl
    refine ⟨by simp [Act.put, hI.sz], hI.df, fun i => ?_, hent, hI.N, hlt⟩
    simp only [St.put, upd, Act.put]
    by_cases hi : i = d
    · subst hi
      have hsz : i < a.tmps.size := by rw [hI.sz]; exact hdn
      simp only [if_true]
      have : (a.tmps.setIfInBounds i x).getD i undef = x := by simp [Array.getD_eq_getD_getElem?, hsz]
      rw [this]
      exact hr.mono fun path b hb => by simp [Ow.land, hb]
    · simp only [hi, if_false]
      have : (a.tmps.setIfInBounds d x).getD i undef = a.tmps.getD i undef := by
        simp [Array.getD_eq_getD_getElem?, Ne.symm hi]
      rw [this]
      exact (hI.env i).mono fun path b hb => by simp [Ow.land, hb, hi]

end Go.Ab
