/- Literals, make, moves with hints, slices of slices. -/
import Derived.Test.YtipepkfioecbmaaDoorAb5
import Derived.IntWalk
set_option linter.unusedVariables false
set_option linter.unusedSimpArgs false
namespace Go.Ab
section
variable {P : Program} {H : Hint} {o : Oper} {w : World} {g : Gm} {ow : Ow} {n : Nat} {a : Act} {st st' : St} {v : AV}

theorem zeroE_ok {e : TypeId} {z : List Value} {y : PV} {s : Nat} {i : TypeInfo} (hi : P.info? e = some i) (hs : i.size = s) (h : zeroE P e z = some y) :
    z.length = s ∧ y.cells.length = s ∧ ∀ (j : Nat) x, y.cells[j]? = some x → ∃ c, z[j]? = some c ∧ c.oneCell' = true ∧ x = .sc c := by
  unfold zeroE at h
  split at h
  · rename_i m hag
    obtain ⟨d, i', _, hi', hs', _⟩ := agT_eq hag
    rw [hi] at hi'; cases hi'
    split at h
    · rename_i hc
      simp only [Option.some.injEq] at h
      subst h
      refine ⟨by omega, by simp [PV.cells]; omega, fun j x hx => ?_⟩
      simp only [PV.cells] at hx
      rw [List.getElem?_map, Option.map_eq_some_iff] at hx
      obtain ⟨c, hc', rfl⟩ := hx
      exact ⟨c, hc', List.all_eq_true.1 hc.2 c (List.mem_of_getElem? hc'), rfl⟩
    · cases h
  · rename_i m hag
    obtain ⟨d, i', _, hi', hs', _⟩ := agT_eq hag
    rw [hi] at hi'; cases hi'
    split at h
    · rename_i c
      split at h
      · rename_i hc
        simp only [Option.some.injEq] at h
        subst h
        refine ⟨by simp; omega, by simp [PV.cells]; omega, fun j x hx => ?_⟩
        cases j with
        | zero => simp [PV.cells] at hx; subst hx; exact ⟨c, rfl, hc.2, rfl⟩
        | succ j => simp [PV.cells] at hx
      · cases h
    · cases h
  · cases h

theorem zero_rows {e : TypeId} {z : List Value} {y : PV} {s : Nat} {i : TypeInfo} (hi : P.info? e = some i) (hs : i.size = s) (h : zeroE P e z = some y) (h0 : 0 < s) (m : Nat) (w : World) (φ : Nat → Nat) :
    Rows w φ s (List.replicate m y) ((Array.range (m * s)).map fun q => z.toArray[q % z.toArray.size]!) := by
  obtain ⟨h1, h2, h3⟩ := zeroE_ok hi hs h
  refine ⟨by simp, fun k x hx => ?_, fun k x j x' hx hx' => ?_⟩
  · rw [List.getElem?_replicate] at hx
    split at hx
    · simp only [Option.some.injEq] at hx; subst hx; exact h2
    · cases hx
  · rw [List.getElem?_replicate] at hx
    split at hx
    · rename_i hk
      simp only [Option.some.injEq] at hx
      subst hx
      have hj : j < s := by rw [← h2]; exact (List.getElem?_eq_some_iff.1 hx').1
      obtain ⟨c, hc, hc1, rfl⟩ := h3 j x' hx'
      refine ⟨c, ?_, hc1, .sc c⟩
      have hlt : k * s + j < m * s := by
        have : (k + 1) * s ≤ m * s := Nat.mul_le_mul_right s hk
        rw [Nat.succ_mul] at this
        omega
      have hmod : (k * s + j) % z.length = j := by rw [h1, Nat.mul_comm, Nat.mul_add_mod, Nat.mod_eq_of_lt hj]
      have hz : z[j]! = c := by rw [List.getElem!_eq_getElem?_getD, hc]; rfl
      rw [Array.getElem?_map, Array.getElem?_range]
      simp only [hlt, if_true, Option.map_some, List.size_toArray, hmod]
      congr 1
      simpa using hz
    · cases hx

theorem map_parts (ps : List (Nat × Operand)) (hI : Inv w g ow n a st) (k i : Nat) (x : AV) (j : Nat) (u : Value)
    (h1 : (ps.map fun x => (x.1, rd st.env x.2))[k]? = some (i, x)) (h2 : (ps.map fun x => (x.1, a.eval x.2))[k]? = some (j, u)) : i = j ∧ ∃ own, RepA w g own x u := by
  rw [List.getElem?_map, Option.map_eq_some_iff] at h1 h2
  obtain ⟨⟨p, y⟩, hp, he⟩ := h1
  obtain ⟨⟨p', y'⟩, hp', he'⟩ := h2
  rw [hp] at hp'
  cases hp'
  simp only [Prod.mk.injEq] at he he'
  obtain ⟨rfl, rfl⟩ := he
  obtain ⟨rfl, rfl⟩ := he'
  exact ⟨rfl, rd_ok hI y⟩

/-- Rows become a slice of the call's own, or an entry. -/
theorem rows_own (hI : Inv w g ow n a st) {cells : Array Value} {e : TypeId} {xs : List PV} {s : Nat} (hs : 0 < s) (hR : Rows w g.φ s xs cells) (tg : Bool)
    (hr : (execOp a.eval o).run P w = .ok (.value (.slice (some ⟨w.heap.size, 0, none⟩) xs.length xs.length)) (w.alloc (.cells cells e))) :
    OpOk P o w g ow n a st (if tg then .tgt s xs else .own s xs) := by
  obtain ⟨hG, hI', hv⟩ := new_own hI cells e xs s xs.length hs hR.2.1 (by rw [hR.1]; exact Nat.le_refl _) (Nat.le_refl _) hR.2.2
  refine OpOk.gro (.inl hr) hG hI' ?_
  cases tg with
  | false => exact hv
  | true =>
    have := hv.elems (xs := xs) (s := s) rfl
    exact .tgt s xs _ this

theorem rows_arr (hI : Inv w g ow n a st) {cells : Array Value} {e : TypeId} {xs : List PV} (hR : Rows w g.φ 1 xs cells) {m : Nat} (hm : m = xs.length)
    (hr : (execOp a.eval o).run P w = .ok (.value (.slice (some ⟨w.heap.size, 0, none⟩) xs.length xs.length)) (w.alloc (.cells cells e))) (hx : ∀ (i : Nat) x, xs[i]? = some x → x.cells = [x]) :
    OpOk P o w g ow n a { st with σ := st.σ ++ [.cells 0 (xs.map .p)] } (.arr 1 st.σ.length 0 0 m) := by
  subst hm
  obtain ⟨g', ow', hG, hI', hv⟩ := new_arr hI cells e (xs.map .p) xs.length xs.length (by rw [hR.1]; omega) (Nat.le_refl _) (by rw [hR.1]; simp) (fun j y hy => by
    rw [List.getElem?_map, Option.map_eq_some_iff] at hy
    obtain ⟨x, hx', rfl⟩ := hy
    obtain ⟨u, hu, h1, hr⟩ := hR.2.2 j x 0 x hx' (by rw [hx j x hx']; rfl)
    exact ⟨u, by simpa using hu, h1, .p hr⟩)
  exact OpOk.gro (.inl hr) hG hI' hv.free

theorem one_cells {x : PV} (h : x.one = true) : x.cells = [x] := by cases x <;> first | rfl | simp [PV.one] at h

theorem map_arr {α β : Type} (ps : Array α) (f : α → β) : (ps.map f).toList = ps.toList.map f := by simp

theorem buildSlice_ok {t : TypeId} {m : Nat} {ps : Array (Nat × Operand)} (hI : Inv w g ow n a st) (ho : o.op = .buildSlice t m ps) (h : opF P H o st = some (v, st')) : OpOk P o w g ow n a st' v := by
  simp only [opF, ho] at h
  split at h
  · rename_i e s bb z hT
    obtain ⟨hu, i, zv, hi, hz, hs, hb, rfl⟩ := slT_eq hT
    split at h
    · rename_i y hy
      split at h
      · rename_i hm
        rw [Option.map_eq_some_iff] at h
        obtain ⟨xs, hf, h⟩ := h
        have hs1 : 0 < s := hm.2.2
        have hR := zero_rows hi hs hy hs1 m w g.φ
        obtain ⟨cells, hfill, hR', hlen⟩ := fillA_ok (w := w) (g := g) hs1 _ (ps.toList.map fun x => (x.1, a.eval x.2)) xs _ _ hf (by simp) (map_parts ps.toList hI) hR
        have hlen' : xs.length = m := by rw [hlen]; simp
        have hrun : (execOp a.eval o).run P w = .ok (.value (.slice (some ⟨w.heap.size, 0, none⟩) xs.length xs.length)) (w.alloc (.cells cells e)) := by
          have h1 : ¬ (m * i.size > 2 ^ 24) := by
            have : m * s ≤ 4096 * 16 := Nat.mul_le_mul hm.1 hm.2.1
            rw [hs]; omega
          have hfill' : Instr.fill (fun k => some (k * i.size, i.size)) ((Array.range (m * i.size)).map fun q => zv.cells[q % zv.cells.size]!) (ps.toList.map fun x => (x.1, a.eval x.2)) = some cells := by
            rw [hs]; simpa using hfill
          by_cases hm0 : m = 0
          · subst hm0
            have hz0 : ∀ f : Nat → Value, (Array.range (0 * i.size)).map f = #[] := fun f => by simp
            rw [hz0] at hfill'
            simp [execOp, ho, Instr.buildSlice, run_underlying hu, run_sizeOf' w hi, newRow, hlen', show Array.range 0 = #[] from rfl, hfill']
          · have h2 : ¬ (m = 0 ∨ i.size = 0) := by omega
            simp only [execOp, ho, Instr.buildSlice, Sem.run_bind, run_underlying hu, Result.andThen_ok, run_sizeOf' w hi, Sem.run_ite, h1, if_false, Nat.mul_eq_zero, h2, zeroValue, typeInfo, run_program, hi, Sem.run_pure, hz, map_arr, hfill', newRow, run_newObj, World.alloc_eq, hlen']
        by_cases har : (hd H.ar o.dst && s == 1 && xs.all PV.one) = true
        · simp only [har, if_true, newArr, Prod.mk.injEq] at h
          obtain ⟨rfl, rfl⟩ := h
          simp only [Bool.and_eq_true, beq_iff_eq] at har
          obtain ⟨⟨_, rfl⟩, hone⟩ := har
          exact rows_arr hI hR' hlen'.symm hrun (fun i x hx => one_cells (List.all_eq_true.1 hone x (List.mem_of_getElem? hx)))
        · simp only [har, Bool.false_eq_true, if_false, Prod.mk.injEq] at h
          obtain ⟨rfl, rfl⟩ := h
          exact rows_own hI hs1 hR' _ hrun
      · cases h
    · cases h
  · cases h

/-! ### make -/
theorem makeSlice_ok {t : TypeId} {l c : Operand} (hI : Inv w g ow n a st) (ho : o.op = .makeSlice t l c) (h : opF P H o st = some (v, st')) : OpOk P o w g ow n a st' v := by
  simp only [opF, ho] at h
  split at h
  · rename_i e s bb z q m hT hl hc
    obtain ⟨hu, i, zv, hi, hz, hs, hb, rfl⟩ := slT_eq hT
    have hlv := rd_sc hI hl
    have hcv := rd_sc hI hc
    split at h
    · rename_i y hy
      split at h
      · rename_i hm
        obtain ⟨rfl, h0, hlim, hb128, hs0⟩ := hm
        have hs1 : 0 < s := by omega
        obtain ⟨k, rfl⟩ := Int.eq_ofNat_of_zero_le h0
        have hR := zero_rows hi hs hy hs1 k w g.φ
        have hlen : (List.replicate k y).length = k := by simp
        have hk : k ≤ 1099511627776 := by unfold limit at hlim; omega
        have hrun : (execOp a.eval o).run P w = .ok (.value (.slice (some ⟨w.heap.size, 0, none⟩) (List.replicate k y).length (List.replicate k y).length))
            (w.alloc (.cells ((Array.range (k * s)).map fun q => zv.cells.toList.toArray[q % zv.cells.toList.toArray.size]!) e)) := by
          have hw : IntKind.i64.wrap (k : Int) = k := IntWalk.i64_in _ (by omega)
          have hbig : i.bytes * k ≤ 128 * 1099511627776 := Nat.mul_le_mul (by omega) hk
          have hbig' : ¬ (281474976710656 < (i.bytes : Int) * (k : Int)) := by
            rw [← Int.natCast_mul]
            generalize i.bytes * k = q at hbig
            omega
          have hneg : ¬ ((k : Int) < 0) := by omega
          rw [hlen]
          by_cases hk0 : k = 0
          · subst hk0
            simp [execOp, ho, hlv, hcv, Instr.makeSlice, run_underlying hu, asInt, asIntOf, typeInfo, hi, hw, run_sizeOf' w hi, newRow, show Array.range 0 = #[] from rfl, show IntKind.i64.wrap 0 = 0 from by simpa using hw]
          · have hks : ¬ (k * s = 0) := fun h0 => by rcases Nat.mul_eq_zero.1 h0 with h | h <;> omega
            simp [execOp, ho, hlv, hcv, Instr.makeSlice, run_underlying hu, asInt, asIntOf, typeInfo, hi, hw, run_sizeOf' w hi, newRow, hbig', hneg, hs, hks, zeroValue, hz]
        simp only [Int.toNat_natCast] at h
        split at h
        · rename_i har
          simp only [newArr, Option.some.injEq, Prod.mk.injEq] at h
          obtain ⟨rfl, rfl⟩ := h
          simp only [Bool.and_eq_true, beq_iff_eq] at har
          obtain ⟨⟨_, rfl⟩, hone⟩ := har
          have := rows_arr hI hR hlen.symm hrun (fun i x hx => by
            rw [List.getElem?_replicate] at hx
            split at hx
            · simp only [Option.some.injEq] at hx; subst hx; exact one_cells hone
            · cases hx)
          simpa using this
        · simp only [Option.some.injEq, Prod.mk.injEq] at h
          obtain ⟨rfl, rfl⟩ := h
          exact rows_own hI hs1 hR false hrun
      · cases h
    · cases h
  · cases h

theorem makeMap_ok {t : TypeId} {r : Option Operand} (hI : Inv w g ow n a st) (ho : o.op = .makeMap t r) (h : opF P H o st = some (v, st')) : OpOk P o w g ow n a st' v := by
  cases r with
  | some r => simp [opF, ho] at h
  | none =>
    simp only [opF, ho, Option.some.injEq, Prod.mk.injEq] at h
    obtain ⟨rfl, rfl⟩ := h
    have hrun : (execOp a.eval o).run P w = .ok (.value (.map (some w.heap.size))) (w.alloc (.map #[] 0)) := by
      simp [execOp, ho, Instr.makeMap]
    obtain ⟨hG, hI'⟩ := new_entry (e := .map []) hI (.map #[] 0) 0 (by
      refine ⟨w.heap.size, 0, #[], 0, by simp [Gm.entry, Gm.fresh], by simp [Ow.new], heap_alloc_new w _, rfl, ?_⟩
      intro j k y e hk
      simp at hk)
    refine OpOk.gro (.inl hrun) hG hI' ?_
    rw [← hI.N]
    exact .mp _ w.heap.size 0 (Nat.lt_succ_self _) (by simp [Gm.entry, Gm.fresh])

/-! ### Struct literals -/
theorem putL_len (vs : List AV) : ∀ (cs : List AV) (o : Nat), (putL cs o vs).length = cs.length := by
  induction vs with
  | nil => intro cs o; rfl
  | cons v vs ih => intro cs o; simp [putL, ih]

theorem putL_get (vs : List AV) : ∀ (cs : List AV) (o : Nat), o + vs.length ≤ cs.length → ∀ i, (putL cs o vs)[i]? = if o ≤ i ∧ i < o + vs.length then vs[i - o]? else cs[i]? := by
  induction vs with
  | nil => intro cs o h i; simp [putL]; omega
  | cons v vs ih =>
    intro cs o h i
    simp only [List.length_cons] at h
    rw [putL, ih _ _ (by simp; omega)]
    simp only [List.length_cons]
    by_cases hi : i = o
    · subst hi
      rw [if_neg (by omega), if_pos (by omega)]
      have : i < cs.length := by omega
      simp [this]
    · by_cases hin : o ≤ i ∧ i < o + (vs.length + 1)
      · rw [if_pos (by omega), if_pos hin, show i - o = (i - (o + 1)) + 1 by omega]
        simp
      · rw [if_neg (by omega), if_neg hin]
        simp [List.getElem?_set, Ne.symm hi]

def CellsR (w : World) (g : Gm) (cs : List AV) (cells : Array Value) : Prop :=
  cs.length = cells.size ∧ ∀ (j : Nat) y, cs[j]? = some y → ∃ c, cells[j]? = some c ∧ RepA w g Free y c

theorem buildA_ok {t : TypeId} (place : Nat → Option (Nat × Nat)) (hplace : ∀ f o isA m, flT P t f = some (o, isA, m) → place f = some (o, m)) :
    ∀ (ps : List (Nat × AV)) (us : List (Nat × Value)) (cs zs : List AV) (cells : Array Value),
    buildA P t zs ps = some cs → ps.length = us.length → (∀ (k : Nat) i x j u, ps[k]? = some (i, x) → us[k]? = some (j, u) → i = j ∧ RepA w g Free x u) → CellsR w g zs cells →
    ∃ cells', Instr.fill place cells us = some cells' ∧ CellsR w g cs cells' := by
  intro ps
  induction ps with
  | nil =>
    intro us cs zs cells h hl hr hR
    simp only [buildA, Option.some.injEq] at h
    subst h
    cases us with
    | nil => exact ⟨cells, rfl, hR⟩
    | cons => simp at hl
  | cons p ps ih =>
    intro us cs zs cells h hl hr hR
    obtain ⟨i, x⟩ := p
    cases us with
    | nil => simp at hl
    | cons u us =>
      obtain ⟨j, u⟩ := u
      obtain ⟨rfl, hxu⟩ := hr 0 i x j u rfl rfl
      simp only [buildA] at h
      split at h
      · rename_i k isA m hf
        split at h
        · rename_i hc
          obtain ⟨hlen, hle, hone⟩ := hc
          obtain ⟨hcl, hcc⟩ := hxu.cellsOf hone
          have hus : u.cells.size = m := by omega
          have hle' : k + m ≤ cells.size := by rw [← hR.1]; exact hle
          have hR' : CellsR w g (putL zs k x.cells) (putA cells k u.cells) := by
            refine ⟨by rw [putL_len, putA_size]; exact hR.1, fun q y hy => ?_⟩
            rw [putA_get _ _ _ (by omega)]
            rw [putL_get _ _ _ (by omega)] at hy
            by_cases hin : k ≤ q ∧ q < k + m
            · rw [if_pos (by omega)] at hy ⊢
              obtain ⟨c, hc, _, hrc⟩ := hcc _ y hy
              exact ⟨c, hc, hrc.mono fun path b hb => by
                unfold ownAt at hb
                split at hb
                · exact hb
                · exact hb.2⟩
            · rw [if_neg (by omega)] at hy ⊢
              exact hR.2 q y hy
          obtain ⟨cells', h1, h2⟩ := ih us cs _ _ h (by simpa using hl) (fun k i' x' j' u' h1 h2 => hr (k + 1) i' x' j' u' (by simpa using h1) (by simpa using h2)) hR'
          refine ⟨cells', ?_, h2⟩
          rw [fill_cons _ _ _ _ _ k m (hplace _ _ _ _ hf) hus hle']
          exact h1
        · cases h
      · cases h

theorem build_ok {t : TypeId} {ps : Array (Nat × Operand)} (hI : Inv w g ow n a st) (ho : o.op = .build t ps) (h : opF P H o st = some (v, st')) : OpOk P o w g ow n a st' v := by
  simp only [opF, ho] at h
  split at h
  · rename_i z m hz hag
    split at h
    · rename_i hzm
      rw [Option.map_eq_some_iff] at h
      obtain ⟨cs, hb, h⟩ := h
      simp only [Prod.mk.injEq] at h
      obtain ⟨rfl, rfl⟩ := h
      obtain ⟨i, zv, hi, hzv, rfl⟩ := zrT_eq hz
      obtain ⟨d, i', hd, hi', hs, hA⟩ := agT_eq hag
      rw [hi] at hi'; cases hi'
      cases d with
      | struct fs =>
        have hall : fs.toList.all (fun f => (P.info? f.type).isSome) = true := by
          have := hzm.2
          unfold stT at this
          simpa only [hd] using this
        let places := fs.map fun f => (f.offset, ((P.info? f.type).map (·.size)).getD 0)
        have hplaces : ∀ w : World, (fs.mapM fun f => do pure (f.offset, ← sizeOf f.type) : Sem (Array (Nat × Nat))).run P w = .ok places w := by
          intro w
          rw [Array.mapM_eq_mapM_toList]
          have aux : ∀ l : List Field, l.all (fun f => (P.info? f.type).isSome) = true →
              (l.mapM fun f => do pure (f.offset, ← sizeOf f.type) : Sem (List (Nat × Nat))).run P w = .ok (l.map fun f => (f.offset, ((P.info? f.type).map (·.size)).getD 0)) w := by
            intro l
            induction l with
            | nil => intro _; rfl
            | cons f l ih =>
              intro hl
              simp only [List.all_cons, Bool.and_eq_true] at hl
              obtain ⟨i2, hi2⟩ := Option.isSome_iff_exists.1 hl.1
              have := ih hl.2
              simp only [List.mapM_cons, Sem.run_bind, run_sizeOf' w hi2, Result.andThen_ok, Sem.run_pure, this, List.map_cons, hi2, Option.map_some, Option.getD_some]
          simp only [Sem.run_map, aux _ hall, Result.andThen_ok]
          congr 1
          apply Array.ext'
          simp [places]
        have hplace : ∀ f o isA m, flT P t f = some (o, isA, m) → places[f]? = some (o, m) := by
          intro f k isA m hf
          obtain ⟨fs', fl, hu, hfl, rfl, hag', _⟩ := flT_eq hf
          rw [hd] at hu; cases hu
          obtain ⟨_, i2, _, hi2, hs2, _⟩ := agT_eq hag'
          simp [places, hfl, hi2, hs2]
        obtain ⟨cells, hfill, hR⟩ := buildA_ok (w := w) (g := g) (fun f => places[f]?) hplace _ (ps.toList.map fun x => (x.1, a.eval x.2)) cs _ zv.cells hb (by simp) (fun k i x j u h1 h2 => by
            rw [List.getElem?_map, Option.map_eq_some_iff] at h1 h2
            obtain ⟨⟨p, y⟩, hp, he⟩ := h1
            obtain ⟨⟨p', y'⟩, hp', he'⟩ := h2
            rw [hp] at hp'
            cases hp'
            simp only [Prod.mk.injEq] at he he'
            obtain ⟨rfl, rfl⟩ := he
            obtain ⟨rfl, rfl⟩ := he'
            obtain ⟨own, hr⟩ := rd_ok hI y
            exact ⟨rfl, hr.dem⟩) ⟨by simp, fun j y hy => by
            obtain ⟨c, hc, rfl⟩ := scs_get hy
            exact ⟨c, by simpa using hc, .p (.sc c)⟩⟩
        refine OpOk.pure hI (x := .agg cells) ?_ ?_
        · have := hplaces w
          simp only [execOp, ho, Instr.build, Sem.run_bind, zeroValue, typeInfo, run_program, hi, Sem.run_pure, hzv, Result.andThen_ok, run_underlying hd, this, map_arr, hfill]
        · have : RepA w g Free (.ag cs) (.agg cells.toList.toArray) := .ag cs cells.toList (by simpa using hR.1) (fun j y v hy hv => by
            obtain ⟨c, hc, hr⟩ := hR.2 j y hy
            have : c = v := by
              have := hc.symm.trans (by simpa using hv)
              exact Option.some.inj this
            subst this
            exact hr.mono fun _ _ h => h.elim)
          simpa using this
      | _ => simp [stT, hd] at hzm
    · cases h
  · cases h

end
end Go.Ab
