/- The relation between abstract values and the machine's memory, and how it is kept. -/
import Derived.Test.YtipepkfioecbmaaDoorAb1
set_option linter.unusedVariables false
namespace Go.Ab

inductive Own where
  | slot (i : Nat) (path : List Nat)
  | ent (i : Nat) (path : List Nat)
  | box (i : Nat)
  | acc (path : List Nat)

/-- What is known of memory beside the machine: of each block how far it stands still; where each entry lies; how many entries there are; each entry's version. -/
structure Gm where
  φ : Nat → Nat
  β : Nat → Nat → Option (Nat × Nat)
  N : Nat
  V : Nat → Nat

abbrev Ow := Nat → Option Own

inductive RepP (w : World) (φ : Nat → Nat) : PV → Value → Prop
  | sc (v : Value) : RepP w φ (.sc v) v
  | nil (s : Nat) (a : Option Addr) (c : Nat) : RepP w φ (.sl s []) (.slice a 0 c)
  | sl (s : Nat) (xs : List PV) (b o c : Nat) (val : Nat → Nat → Value) (h0 : xs ≠ []) (hs : 0 < s) (hc : xs.length ≤ c) (hφ : o + xs.length * s ≤ φ b)
      (hl : ∀ (i : Nat) (x : PV), xs[i]? = some x → x.cells.length = s)
      (hv : ∀ (i : Nat) (x : PV) (j : Nat) (y : PV), xs[i]? = some x → x.cells[j]? = some y → w.cell? ⟨b, o + i * s + j, none⟩ = some (val i j))
      (h1 : ∀ (i : Nat) (x : PV) (j : Nat) (y : PV), xs[i]? = some x → x.cells[j]? = some y → (val i j).oneCell' = true)
      (hr : ∀ (i : Nat) (x : PV) (j : Nat) (y : PV), xs[i]? = some x → x.cells[j]? = some y → RepP w φ y (val i j)) :
      RepP w φ (.sl s xs) (.slice (some ⟨b, o, none⟩) xs.length c)
  | ag (cs : List PV) (vs : List Value) (hl : cs.length = vs.length) (hr : ∀ (i : Nat) y v, cs[i]? = some y → vs[i]? = some v → RepP w φ y v) : RepP w φ (.ag cs) (.agg vs.toArray)

inductive RepA (w : World) (g : Gm) : (List Nat → Nat → Prop) → AV → Value → Prop
  | p {own x v} (h : RepP w g.φ x v) : RepA w g own (.p x) v
  | own0 {own} (s : Nat) (a : Option Addr) : RepA w g own (.own s []) (.slice a 0 0)
  | ownX {own} (s : Nat) (xs : List PV) (b o c : Nat) (arr : Array Value) (e : TypeId) (ho : own [] b) (hs : 0 < s) (hφ : g.φ b = o + xs.length * s)
      (hb : w.heap[b]? = some (.cells arr e (0, 0))) (hz : o + c * s ≤ arr.size) (hc : xs.length ≤ c)
      (hr : RepP w g.φ (.sl s xs) (.slice (some ⟨b, o, none⟩) xs.length c)) : RepA w g own (.own s xs) (.slice (some ⟨b, o, none⟩) xs.length c)
  | tgt {own} (s : Nat) (xs : List PV) (a : Option Addr) (hr : RepP w g.φ (.sl s xs) (.slice a xs.length xs.length)) : RepA w g own (.tgt s xs) (.slice a xs.length xs.length)
  | cptr1 {own} (x : PV) (b o : Nat) (v : Value) (hx : ∀ cs, x ≠ .ag cs) (hc : w.cell? ⟨b, o, none⟩ = some v) (h1 : v.oneCell' = true) (hφ : o < g.φ b) (hr : RepP w g.φ x v) : RepA w g own (.cptr x) (.pointer (some ⟨b, o, none⟩))
  | cptrA {own} (cs : List PV) (b o : Nat) (val : Nat → Value) (h0 : cs ≠ []) (hφ : o + cs.length ≤ g.φ b)
      (hv : ∀ (j : Nat) y, cs[j]? = some y → w.cell? ⟨b, o + j, none⟩ = some (val j))
      (h1 : ∀ (j : Nat) y, cs[j]? = some y → (val j).oneCell' = true)
      (hr : ∀ (j : Nat) y, cs[j]? = some y → RepP w g.φ y (val j)) : RepA w g own (.cptr (.ag cs)) (.pointer (some ⟨b, o, none⟩))
  | ref {own} (id ver off b o : Nat) (hi : id < g.N) (hV : ver ≤ g.V id) (hβ : g.β id ver = some (b, o)) : RepA w g own (.ref id ver off) (.pointer (some ⟨b, o + off, none⟩))
  | arr {own} (s id ver off len b o c : Nat) (arr : Array Value) (e : TypeId) (hi : id < g.N) (hV : ver ≤ g.V id) (hβ : g.β id ver = some (b, o))
      (hb : w.heap[b]? = some (.cells arr e (0, 0))) (hz : o + off + c * s ≤ arr.size) (hc : len ≤ c) : RepA w g own (.arr s id ver off len) (.slice (some ⟨b, o + off, none⟩) len c)
  | arr0 {own} (s id ver : Nat) (a : Option Addr) (hi : id < g.N) (hV : ver ≤ g.V id) (hβ : g.β id ver = none) : RepA w g own (.arr s id ver 0 0) (.slice a 0 0)
  | mp {own} (id b o : Nat) (hi : id < g.N) (hβ : g.β id 0 = some (b, o)) : RepA w g own (.mp id) (.map (some b))
  | fn {own} (f : Fn) (xs ys : List AV) (us vs : List Value) (hl : xs.length = us.length) (hk : ys.length = vs.length)
      (hx : ∀ (i : Nat) y v, xs[i]? = some y → us[i]? = some v → RepA w g (fun _ _ => False) y v)
      (hy : ∀ (i : Nat) y v, ys[i]? = some y → vs[i]? = some v → RepA w g (fun _ _ => False) y v) : RepA w g own (.fn f xs ys) (.func f us.toArray vs.toArray)
  | ag {own} (cs : List AV) (vs : List Value) (hl : cs.length = vs.length)
      (hr : ∀ (i : Nat) y v, cs[i]? = some y → vs[i]? = some v → RepA w g (fun path b => own (i :: path) b) y v) : RepA w g own (.ag cs) (.agg vs.toArray)
  | tu {own} (cs : List AV) (vs : List Value) (hl : cs.length = vs.length)
      (hr : ∀ (i : Nat) y v, cs[i]? = some y → vs[i]? = some v → RepA w g (fun path b => own (i :: path) b) y v) : RepA w g own (.tu cs) (.tuple vs.toArray)
  | ifc {own} (t : TypeId) (x : PV) (v : Value) (h : RepP w g.φ x v) : RepA w g own (.ifc t x) (.iface t v)

/-! ### Keeping -/
structure Stab (w : World) (φ : Nat → Nat) (w' : World) (φ' : Nat → Nat) : Prop where
  mono : ∀ b, b < w.heap.size → φ b ≤ φ' b
  cell : ∀ b j v, j < φ b → w.cell? ⟨b, j, none⟩ = some v → w'.cell? ⟨b, j, none⟩ = some v

def Shape (w w' : World) : Prop := ∀ (b : Nat) arr e fr, w.heap[b]? = some (.cells arr e fr) → ∃ arr', w'.heap[b]? = some (.cells arr' e fr) ∧ arr'.size = arr.size

theorem Stab.refl (w : World) (φ : Nat → Nat) : Stab w φ w φ := ⟨fun _ _ => Nat.le_refl _, fun _ _ _ _ h => h⟩
theorem Shape.refl (w : World) : Shape w w := fun _ arr _ _ h => ⟨arr, h, rfl⟩

theorem cell_lt {w : World} {b j : Nat} {v : Value} (h : w.cell? ⟨b, j, none⟩ = some v) : b < w.heap.size := World.block_lt_of_cell? w _ h

theorem cell_of_block {w : World} {b : Nat} {arr : Array Value} {e : TypeId} {fr : Nat × Nat} (h : w.heap[b]? = some (.cells arr e fr)) (j : Nat) : w.cell? ⟨b, j, none⟩ = arr[j]? := by
  simp [World.cell?, h]

theorem PV.cells_pos {x : PV} {s : Nat} (h : x.cells.length = s) (hs : 0 < s) : ∃ y, x.cells[0]? = some y := by
  cases hx : x.cells with
  | nil => rw [hx] at h; simp at h; omega
  | cons y ys => exact ⟨y, rfl⟩

theorem RepP.lt {w : World} {s b o : Nat} {xs : List PV} {val : Nat → Nat → Value} (h0 : xs ≠ []) (hs : 0 < s)
    (hl : ∀ (i : Nat) (x : PV), xs[i]? = some x → x.cells.length = s)
    (hv : ∀ (i : Nat) (x : PV) (j : Nat) (y : PV), xs[i]? = some x → x.cells[j]? = some y → w.cell? ⟨b, o + i * s + j, none⟩ = some (val i j)) : b < w.heap.size := by
  cases xs with
  | nil => exact absurd rfl h0
  | cons x xs =>
    obtain ⟨y, hy⟩ := PV.cells_pos (hl 0 x rfl) hs
    exact cell_lt (hv 0 x 0 y rfl hy)

theorem PV.cell_idx {xs : List PV} {s i j : Nat} {x y : PV} (hl : ∀ (i : Nat) (x : PV), xs[i]? = some x → x.cells.length = s) (hx : xs[i]? = some x) (hy : x.cells[j]? = some y) : i * s + j < xs.length * s := by
  have h1 : i < xs.length := (List.getElem?_eq_some_iff.1 hx).1
  have h2 : j < x.cells.length := (List.getElem?_eq_some_iff.1 hy).1
  rw [hl i x hx] at h2
  have h3 : (i + 1) * s ≤ xs.length * s := Nat.mul_le_mul_right s h1
  have h4 : (i + 1) * s = i * s + s := Nat.succ_mul i s
  omega

theorem RepP.keep {w w' : World} {φ φ' : Nat → Nat} (hs : Stab w φ w' φ') {x : PV} {v : Value} (h : RepP w φ x v) : RepP w' φ' x v := by
  induction h with
  | sc v => exact .sc v
  | nil s a c => exact .nil s a c
  | sl s xs b o c val h0 hsz hc hφ hl hv h1 hr ih =>
    have hb := RepP.lt h0 hsz hl hv
    refine .sl s xs b o c val h0 hsz hc (Nat.le_trans hφ (hs.mono b hb)) hl (fun i x j y hx hy => ?_) h1 ih
    have := PV.cell_idx hl hx hy
    exact hs.cell _ _ _ (by omega) (hv i x j y hx hy)
  | ag cs vs hl hr ih => exact .ag cs vs hl ih

theorem RepA.keep {w w' : World} {g g' : Gm} (hs : Stab w g.φ w' g'.φ) (hsh : Shape w w') (hN : g.N ≤ g'.N) (hV : ∀ id, id < g.N → g.V id ≤ g'.V id)
    (hβ : ∀ id ver, id < g.N → ver ≤ g.V id → g'.β id ver = g.β id ver) {own : List Nat → Nat → Prop} {x : AV} {v : Value} (h : RepA w g own x v) :
    ∀ own' : List Nat → Nat → Prop, (∀ path b, own path b → own' path b ∧ w'.heap[b]? = w.heap[b]? ∧ g'.φ b = g.φ b) → RepA w' g' own' x v := by
  induction h with
  | p h => exact fun _ _ => .p (h.keep hs)
  | own0 s a => exact fun _ _ => .own0 s a
  | ownX s xs b o c arr e ho hsz hφ hb hz hc hr =>
    intro own' ho'
    obtain ⟨h1, h2, h3⟩ := ho' _ _ ho
    exact .ownX s xs b o c arr e h1 hsz (by rw [h3]; exact hφ) (by rw [h2]; exact hb) hz hc (hr.keep hs)
  | tgt s xs a hr => exact fun _ _ => .tgt s xs a (hr.keep hs)
  | cptr1 x b o v hx hc h1 hφ hr => exact fun _ _ => .cptr1 x b o v hx (hs.cell _ _ _ hφ hc) h1 (Nat.lt_of_lt_of_le hφ (hs.mono b (cell_lt hc))) (hr.keep hs)
  | cptrA cs b o val h0 hφ hv h1 hr =>
    intro _ _
    have hb : b < w.heap.size := by
      cases cs with
      | nil => exact absurd rfl h0
      | cons y ys => exact cell_lt (hv 0 y rfl)
    refine .cptrA cs b o val h0 (Nat.le_trans hφ (hs.mono b hb)) (fun j y hy => ?_) h1 (fun j y hy => (hr j y hy).keep hs)
    have : j < cs.length := (List.getElem?_eq_some_iff.1 hy).1
    exact hs.cell _ _ _ (by omega) (hv j y hy)
  | ref id ver off b o hi hv h => exact fun _ _ => .ref id ver off b o (Nat.lt_of_lt_of_le hi hN) (Nat.le_trans hv (hV id hi)) (by rw [hβ id ver hi hv]; exact h)
  | arr s id ver off len b o c arr e hi hv h hb hz hc =>
    intro _ _
    obtain ⟨arr', hb', hsz⟩ := hsh _ _ _ _ hb
    exact .arr s id ver off len b o c arr' e (Nat.lt_of_lt_of_le hi hN) (Nat.le_trans hv (hV id hi)) (by rw [hβ id ver hi hv]; exact h) hb' (by rw [hsz]; exact hz) hc
  | arr0 s id ver a hi hv h => exact fun _ _ => .arr0 s id ver a (Nat.lt_of_lt_of_le hi hN) (Nat.le_trans hv (hV id hi)) (by rw [hβ id ver hi hv]; exact h)
  | mp id b o hi h => exact fun _ _ => .mp id b o (Nat.lt_of_lt_of_le hi hN) (by rw [hβ id 0 hi (Nat.zero_le _)]; exact h)
  | fn f xs ys us vs hl hk hx hy ihx ihy => exact fun _ _ => .fn f xs ys us vs hl hk (fun i y v h1 h2 => ihx i y v h1 h2 _ (fun _ _ h => h.elim)) (fun i y v h1 h2 => ihy i y v h1 h2 _ (fun _ _ h => h.elim))
  | ag cs vs hl hr ih => exact fun own' ho' => .ag cs vs hl (fun i y v h1 h2 => ih i y v h1 h2 _ (fun path b h => ho' _ _ h))
  | tu cs vs hl hr ih => exact fun own' ho' => .tu cs vs hl (fun i y v h1 h2 => ih i y v h1 h2 _ (fun path b h => ho' _ _ h))
  | ifc t x v h => exact fun _ _ => .ifc t x v (h.keep hs)

/-- Only the owner's name turns. -/
theorem RepA.mono {w : World} {g : Gm} {own own' : List Nat → Nat → Prop} {x : AV} {v : Value} (h : RepA w g own x v) (ho : ∀ path b, own path b → own' path b) : RepA w g own' x v :=
  h.keep (Stab.refl _ _) (Shape.refl _) (Nat.le_refl _) (fun _ _ => Nat.le_refl _) (fun _ _ _ _ => rfl) own' (fun path b h => ⟨ho path b h, rfl, rfl⟩)

/-- A value that owns nothing. -/
theorem AV.demL_eq (l : List AV) : AV.demL l = l.map AV.dem := by
  induction l with
  | nil => rfl
  | cons x xs ih => simp [AV.demL, ih]

theorem RepA.dem {w : World} {g : Gm} {own own' : List Nat → Nat → Prop} {x : AV} {v : Value} (h : RepA w g own x v) : RepA w g own' x.dem v := by
  induction h generalizing own' with
  | p h => exact .p h
  | own0 s a => exact .p (.nil s a 0)
  | ownX s xs b o c arr e ho hsz hφ hb hz hc hr => exact .p hr
  | tgt s xs a hr => exact .tgt s xs a hr
  | cptr1 x b o v hx hc h1 hφ hr => exact .cptr1 x b o v hx hc h1 hφ hr
  | cptrA cs b o val h0 hφ hv h1 hr => exact .cptrA cs b o val h0 hφ hv h1 hr
  | ref id ver off b o hi hv h => exact .ref id ver off b o hi hv h
  | arr s id ver off len b o c arr e hi hv h hb hz hc => exact .arr s id ver off len b o c arr e hi hv h hb hz hc
  | arr0 s id ver a hi hv h => exact .arr0 s id ver a hi hv h
  | mp id b o hi h => exact .mp id b o hi h
  | fn f xs ys us vs hl hk hx hy ihx ihy => exact .fn f xs ys us vs hl hk hx hy
  | ag cs vs hl hr ih =>
    simp only [AV.dem, AV.demL_eq]
    refine .ag _ vs (by simpa using hl) (fun i y v h1 h2 => ?_)
    rw [List.getElem?_map] at h1
    cases hc : cs[i]? with
    | none => simp [hc] at h1
    | some z => simp [hc] at h1; subst h1; exact ih i z v hc h2
  | tu cs vs hl hr ih =>
    simp only [AV.dem, AV.demL_eq]
    refine .tu _ vs (by simpa using hl) (fun i y v h1 h2 => ?_)
    rw [List.getElem?_map] at h1
    cases hc : cs[i]? with
    | none => simp [hc] at h1
    | some z => simp [hc] at h1; subst h1; exact ih i z v hc h2
  | ifc t x v h => exact .ifc t x v h

/-! ### Entries, states -/
def RepE (w : World) (g : Gm) (ow : Ow) (id : Nat) : Ent → Prop
  | .cells ver cs => g.V id = ver ∧
      ((∃ b o arr e, g.β id ver = some (b, o) ∧ ow b = some (.box id) ∧ g.φ b = o ∧ w.heap[b]? = some (.cells arr e (0, 0)) ∧ o + cs.length ≤ arr.size ∧
          ∀ (j : Nat) y, cs[j]? = some y → ∃ v, arr[o + j]? = some v ∧ v.oneCell' = true ∧ RepA w g (fun path b' => ow b' = some (.ent id (j :: path))) y v) ∨
       (g.β id ver = none ∧ cs = []))
  | .map kvs => ∃ b o es clock, g.β id 0 = some (b, o) ∧ ow b = some (.box id) ∧ w.heap[b]? = some (.map es clock) ∧ es.size = kvs.length ∧
      ∀ (j : Nat) k y e, kvs[j]? = some (k, y) → es[j]? = some e → e.key = .int .i64 k ∧ RepA w g (fun path b' => ow b' = some (.ent id (j :: path))) y e.val
  | .dead => True

structure Inv (w : World) (g : Gm) (ow : Ow) (n : Nat) (a : Act) (st : St) : Prop where
  sz : a.tmps.size = n
  df : a.defers = []
  env : ∀ i, RepA w g (fun path b => ow b = some (.slot i path)) (st.env i) (a.tmps.getD i undef)
  ent : ∀ (id : Nat) e, st.σ[id]? = some e → RepE w g ow id e
  N : g.N = st.σ.length
  lt : ∀ b, ow b ≠ none → b < w.heap.size

structure Ext (w : World) (g : Gm) (ow : Ow) (w' : World) (g' : Gm) (ow' : Ow) : Prop where
  os : w'.os = w.os
  tape : w'.tape = w.tape
  output : w'.output = w.output
  size : w.heap.size ≤ w'.heap.size
  stab : Stab w g.φ w' g'.φ
  shape : Shape w w'
  same : ∀ b, b < w.heap.size → ow b = none → w'.heap[b]? = w.heap[b]? ∧ g'.φ b = g.φ b ∧ ow' b = none
  N : g.N ≤ g'.N
  V : ∀ id, id < g.N → g.V id ≤ g'.V id
  β : ∀ id ver, id < g.N → ver ≤ g.V id → g'.β id ver = g.β id ver

theorem Ext.refl (w : World) (g : Gm) (ow : Ow) : Ext w g ow w g ow :=
  ⟨rfl, rfl, rfl, Nat.le_refl _, Stab.refl _ _, Shape.refl _, fun _ _ h => ⟨rfl, rfl, h⟩, Nat.le_refl _, fun _ _ => Nat.le_refl _, fun _ _ _ _ => rfl⟩

theorem Ext.trans {w w1 w2 : World} {g g1 g2 : Gm} {ow ow1 ow2 : Ow} (h : Ext w g ow w1 g1 ow1) (k : Ext w1 g1 ow1 w2 g2 ow2) : Ext w g ow w2 g2 ow2 where
  os := k.os.trans h.os
  tape := k.tape.trans h.tape
  output := k.output.trans h.output
  size := Nat.le_trans h.size k.size
  stab := ⟨fun b hb => Nat.le_trans (h.stab.mono b hb) (k.stab.mono b (Nat.lt_of_lt_of_le hb h.size)),
    fun b j v hj hc => k.stab.cell b j v (Nat.lt_of_lt_of_le hj (h.stab.mono b (cell_lt hc))) (h.stab.cell b j v hj hc)⟩
  shape := fun b arr e fr hb => by
    obtain ⟨a1, h1, h2⟩ := h.shape b arr e fr hb
    obtain ⟨a2, h3, h4⟩ := k.shape b a1 e fr h1
    exact ⟨a2, h3, h4.trans h2⟩
  same := fun b hb ho => by
    obtain ⟨h1, h2, h3⟩ := h.same b hb ho
    obtain ⟨k1, k2, k3⟩ := k.same b (Nat.lt_of_lt_of_le hb h.size) h3
    exact ⟨k1.trans h1, k2.trans h2, k3⟩
  N := Nat.le_trans h.N k.N
  V := fun id hi => Nat.le_trans (h.V id hi) (k.V id (Nat.lt_of_lt_of_le hi h.N))
  β := fun id ver hi hv => (k.β id ver (Nat.lt_of_lt_of_le hi h.N) (Nat.le_trans hv (h.V id hi))).trans (h.β id ver hi hv)

/-- Only owners turn, and nothing that was free gets one. -/
theorem Ext.ow {w : World} {g : Gm} {ow ow' : Ow} (h : ∀ b, ow b = none → ow' b = none) : Ext w g ow w g ow' :=
  ⟨rfl, rfl, rfl, Nat.le_refl _, Stab.refl _ _, Shape.refl _, fun b _ ho => ⟨rfl, rfl, h b ho⟩, Nat.le_refl _, fun _ _ => Nat.le_refl _, fun _ _ _ _ => rfl⟩

theorem RepA.ext {w w' : World} {g g' : Gm} {ow ow' : Ow} (hx : Ext w g ow w' g' ow') {own own' : List Nat → Nat → Prop} {x : AV} {v : Value} (h : RepA w g own x v)
    (ho : ∀ path b, own path b → own' path b ∧ w'.heap[b]? = w.heap[b]? ∧ g'.φ b = g.φ b) : RepA w' g' own' x v :=
  h.keep hx.stab hx.shape hx.N hx.V hx.β own' ho

end Go.Ab
