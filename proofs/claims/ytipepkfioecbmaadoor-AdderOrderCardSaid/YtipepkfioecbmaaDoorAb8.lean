/- Loads; moves with hints; slices of slices; builtins that read. -/
import Derived.Test.YtipepkfioecbmaaDoorAb7
set_option linter.unusedVariables false
set_option linter.unusedSimpArgs false
namespace Go.Ab
section
variable {P : Program} {H : Hint} {o : Oper} {w w' : World} {g : Gm} {ow ow' : Ow} {n : Nat} {a : Act} {st st' : St} {v : AV}

theorem run_loadAt1 {t : TypeId} {d : TypeDesc} (hd : P.underlying t = some d) (hA : isAgD d = false) {b k : Nat} {x : Value} (hc : w.cell? ⟨b, k, none⟩ = some x) :
    (Instr.loadAt t (.pointer (some ⟨b, k, none⟩))).run P w = .ok x w := by
  simp [Instr.loadAt, Instr.sureAddr, loadVar, run_isAgg w hd, hA, hc]

theorem run_loadAtA {t : TypeId} {d : TypeDesc} {i : TypeInfo} (hd : P.underlying t = some d) (hi : P.info? t = some i) (hA : isAgD d = true) {b k : Nat} {xs : List Value} (hl : xs.length = i.size)
    (hc : ∀ (j : Nat) x, xs[j]? = some x → w.cell? ⟨b, k + j, none⟩ = some x) :
    (Instr.loadAt t (.pointer (some ⟨b, k, none⟩))).run P w = .ok (.agg xs.toArray) w := by
  have := run_loadCells_list (P := P) w ⟨b, k, none⟩ xs (fun j x hx => by rw [add_at]; exact hc j x hx)
  rw [hl] at this
  simp [Instr.loadAt, Instr.sureAddr, loadVar, run_isAgg w hd, hA, run_sizeOf' w hi, this]

/-- Part of an entry's cells leaves it. -/
def Ow.out (ow : Ow) (id off m : Nat) (ag : Bool) : Ow := fun b => match ow b with
  | some (.ent i (j :: path)) => if i = id ∧ off ≤ j ∧ j < off + m then some (.acc (if ag then (j - off) :: path else path)) else some (.ent i (j :: path))
  | o => o
theorem Ow.out_none {id off m : Nat} {ag : Bool} {b : Nat} (h : ow b = none) : ow.out id off m ag b = none := by simp [Ow.out, h]
theorem Ow.out_slot {id off m : Nat} {ag : Bool} {b i : Nat} {path : List Nat} (h : ow b = some (.slot i path)) : ow.out id off m ag b = some (.slot i path) := by simp [Ow.out, h]
theorem Ow.out_box {id off m : Nat} {ag : Bool} {b i : Nat} (h : ow b = some (.box i)) : ow.out id off m ag b = some (.box i) := by simp [Ow.out, h]
theorem Ow.out_ent {id off m : Nat} {ag : Bool} {b i j : Nat} {path : List Nat} (h : ow b = some (.ent i (j :: path))) (hn : ¬ (i = id ∧ off ≤ j ∧ j < off + m)) : ow.out id off m ag b = some (.ent i (j :: path)) := by
  simp [Ow.out, h, hn]
theorem Ow.out_this {id off m : Nat} {ag : Bool} {b j : Nat} {path : List Nat} (h : ow b = some (.ent id (j :: path))) (hj : off ≤ j ∧ j < off + m) : ow.out id off m ag b = some (.acc (if ag then (j - off) :: path else path)) := by
  simp [Ow.out, h, hj]
theorem Ow.out_other {id off m : Nat} {ag : Bool} {b i : Nat} {path : List Nat} (h : ow b = some (.ent i path)) (hn : i ≠ id) : ow.out id off m ag b = some (.ent i path) := by
  cases path <;> simp [Ow.out, h, hn]

/-- Taking cells off .. off+m out of an entry: what stays is demoted there. -/
theorem Inv.out (hI : Inv w g ow n a st) {id ver : Nat} {cs cs' : List AV} (h : st.σ[id]? = some (.cells ver cs)) (off m : Nat) (ag : Bool) (hl : cs'.length = cs.length)
    (hin : ∀ j, off ≤ j → j < off + m → cs'[j]? = (cs[j]?).map AV.dem) (hout : ∀ j, ¬ (off ≤ j ∧ j < off + m) → cs'[j]? = cs[j]?) :
    Inv w g (ow.out id off m ag) n a { st with σ := st.σ.set id (.cells ver cs') } where
  sz := hI.sz
  df := hI.df
  env := fun i => (hI.env i).mono fun path b hb => Ow.out_slot hb
  N := by simpa using hI.N
  lt := fun b hb => hI.lt b fun h0 => hb (Ow.out_none h0)
  ent := fun i e he => by
    rw [List.getElem?_set] at he
    split at he
    · rename_i hi
      subst hi
      split at he
      · simp only [Option.some.injEq] at he
        subst he
        obtain ⟨hV, hr⟩ := hI.ent id _ h
        refine ⟨hV, ?_⟩
        rcases hr with ⟨b, k, arr, e, h1, h2, h3, h4, h5, h6⟩ | ⟨h1, h2⟩
        · refine .inl ⟨b, k, arr, e, h1, Ow.out_box h2, h3, h4, by rw [hl]; exact h5, fun j y hy => ?_⟩
          by_cases hj : off ≤ j ∧ j < off + m
          · rw [hin j hj.1 hj.2, Option.map_eq_some_iff] at hy
            obtain ⟨z, hz, rfl⟩ := hy
            obtain ⟨u, hu, h1u, hru⟩ := h6 j z hz
            exact ⟨u, hu, h1u, hru.dem⟩
          · rw [hout j hj] at hy
            obtain ⟨u, hu, h1u, hru⟩ := h6 j y hy
            exact ⟨u, hu, h1u, hru.mono fun path b' hb => Ow.out_ent hb fun hc => hj hc.2⟩
        · subst h2
          exact .inr ⟨h1, by simpa using hl⟩
      · cases he
    · rename_i hi
      refine (hI.ent i e he).ow (fun b hb => Ow.out_box hb) (fun b path hb => ?_)
      exact Ow.out_other hb (Ne.symm hi)

theorem load_ok {t : TypeId} {p : Operand} (hI : Inv w g ow n a st) (ho : o.op = .load t p) (h : opF P H o st = some (v, st')) : OpOk P o w g ow n a st' v := by
  simp only [opF, ho, withσ, Option.map_eq_some_iff] at h
  obtain ⟨⟨u, σ'⟩, hs, h⟩ := h
  simp only [Prod.mk.injEq] at h
  obtain ⟨rfl, rfl⟩ := h
  obtain ⟨own, hrp⟩ := rd_ok hI p
  unfold loadA at hs
  split at hs
  · cases hs
  · rename_i isA m hag
    obtain ⟨d, i, hd, hi, hm, hA⟩ := agT_eq hag
    split at hs
    · -- what stands still
      rename_i y hp
      rw [hp] at hrp
      split at hs
      · rename_i cs
        split at hs
        · rename_i hlen
          simp only [Option.some.injEq, Prod.mk.injEq] at hs
          obtain ⟨rfl, rfl⟩ := hs
          cases hx : a.eval p with
          | pointer ad =>
            rw [hx] at hrp
            cases hrp with
            | cptr1 _ b q _ hx' => exact absurd rfl (hx' cs)
            | cptrA _ b q val h0 hφ hv h1 hrr =>
              refine OpOk.pure hI (x := .agg ((List.range cs.length).map val).toArray) ?_ (.p (.ag _ _ (by simp) fun j y v hy hv' => ?_))
              · have := run_loadAtA (P := P) (w := w) hd hi hA (b := b) (k := q) (xs := (List.range cs.length).map val) (by simp; omega) (fun j x hx => by
                  rw [List.getElem?_map, Option.map_eq_some_iff] at hx
                  obtain ⟨j', hj', rfl⟩ := hx
                  obtain ⟨hlt, rfl⟩ := List.getElem?_eq_some_iff.1 hj'
                  simp only [List.length_range] at hlt
                  simp only [List.getElem_range]
                  exact hv j cs[j] (by simp [hlt]))
                simp [execOp, ho, hx, this]
              · rw [List.getElem?_map, Option.map_eq_some_iff] at hv'
                obtain ⟨j', hj', rfl⟩ := hv'
                obtain ⟨hlt, rfl⟩ := List.getElem?_eq_some_iff.1 hj'
                simp only [List.getElem_range]
                exact hrr j y hy
          | _ => rw [hx] at hrp; cases hrp
        · cases hs
      · cases hs
      · simp only [Option.some.injEq, Prod.mk.injEq] at hs
        obtain ⟨rfl, rfl⟩ := hs
        cases hx : a.eval p with
        | pointer ad =>
          rw [hx] at hrp
          cases hrp with
          | cptr1 _ b q x hx' hc h1 hφ hr =>
            refine OpOk.pure hI (x := x) ?_ (RepA.nz (.p hr))
            simp [execOp, ho, hx, run_loadAt1 hd hA hc]
          | cptrA cs b q val => rename_i hna; exact absurd rfl (hna cs)
        | _ => rw [hx] at hrp; cases hrp
      · cases hs
    · -- an entry
      rename_i id ver off hp
      rw [hp] at hrp
      obtain ⟨b, k, hid, hV, hβ, he⟩ := hrp.ref_inv
      split at hs
      · rename_i ver' cs hent
        split at hs
        · cases hs
        · rename_i hver
          have hver' : ver' = ver := by omega
          subst hver'
          obtain ⟨_, hVid, hbox, hφ, arr, e, hb, hsz, hcells⟩ := ent_cells hI hent hβ
          split at hs
          · rename_i hT
            rw [hT] at hA
            split at hs
            · rename_i hle
              -- the cells
              have hrun : ∃ xs : List Value, xs.length = m ∧ (execOp a.eval o).run P w = .ok (.value (.agg xs.toArray)) w ∧
                  ∀ (j : Nat) y x, ((cs.drop off).take m)[j]? = some y → xs[j]? = some x → j < m ∧ RepA w g (fun path b' => ow b' = some (.ent id ((off + j) :: path))) y x := by
                refine ⟨(arr.toList.drop (k + off)).take m, by simp; omega, ?_, fun j y x hy hx => ?_⟩
                · have := run_loadAtA (P := P) (w := w) hd hi hA (b := b) (k := k + off) (xs := (arr.toList.drop (k + off)).take m) (by simp; omega) (fun j x hx => by
                    rw [cell_of_block hb]
                    rw [List.getElem?_take] at hx
                    split at hx
                    · rw [List.getElem?_drop] at hx; simpa using hx
                    · cases hx)
                  simp [execOp, ho, he, this]
                · rw [List.getElem?_take] at hy hx
                  split at hy
                  · rename_i hj
                    rw [if_pos hj] at hx
                    rw [List.getElem?_drop] at hy hx
                    obtain ⟨u, hu, _, hru⟩ := hcells _ y hy
                    have : u = x := by
                      have h2 : arr[k + (off + j)]? = some x := by rw [← Nat.add_assoc]; simpa using hx
                      rw [hu] at h2
                      exact Option.some.inj h2
                    subst this
                    exact ⟨hj, hru⟩
                  · cases hy
              obtain ⟨xs, hxl, hrun, hcs⟩ := hrun
              split at hs
              · simp only [Option.some.injEq, Prod.mk.injEq] at hs
                obtain ⟨rfl, rfl⟩ := hs
                have hlen' : (cs.take off ++ AV.demL ((cs.drop off).take m) ++ cs.drop (off + m)).length = cs.length := by simp [AV.demL_eq]; omega
                have hget : ∀ j, (cs.take off ++ AV.demL ((cs.drop off).take m) ++ cs.drop (off + m))[j]? = if off ≤ j ∧ j < off + m then (cs[j]?).map AV.dem else cs[j]? := by
                  intro j
                  rw [AV.demL_eq, List.append_assoc]
                  by_cases h1 : j < off
                  · rw [List.getElem?_append_left (by simp; omega), if_neg (by omega), List.getElem?_take, if_pos h1]
                  · have hk : (cs.take off).length = off := by simp; omega
                    rw [List.getElem?_append_right (by omega), hk]
                    by_cases h2 : j < off + m
                    · rw [List.getElem?_append_left (by simp; omega), if_pos (by omega), List.getElem?_map, List.getElem?_take, if_pos (by omega), List.getElem?_drop]
                      rw [show off + (j - off) = j by omega]
                    · rw [List.getElem?_append_right (by simp; omega), if_neg (by omega), List.getElem?_drop]
                      congr 1
                      simp
                      omega
                refine ⟨_, w, g, ow.out id off m true, .inl hrun, Ext.ow (fun b hb => Ow.out_none hb), hI.out hent off m true hlen' (fun j h1 h2 => by rw [hget, if_pos ⟨h1, h2⟩]) (fun j hj => by rw [hget, if_neg hj]), ?_⟩
                refine .ag _ xs (by simp; omega) (fun j y x hy hx => ?_)
                obtain ⟨hj, hr⟩ := hcs j y x hy hx
                exact hr.mono fun path b' hb' => by
                  have := Ow.out_this (off := off) (m := m) (ag := true) hb' ⟨by omega, by omega⟩
                  rw [this]
                  simp
              · simp only [Option.some.injEq, Prod.mk.injEq] at hs
                obtain ⟨rfl, rfl⟩ := hs
                refine OpOk.pure hI hrun ?_
                rw [AV.demL_eq]
                refine .ag _ xs (by simp; omega) (fun j y x hy hx => ?_)
                rw [List.getElem?_map, Option.map_eq_some_iff] at hy
                obtain ⟨z, hz, rfl⟩ := hy
                exact (hcs j z x hz hx).2.dem
            · cases hs
          · rename_i hT
            have hT' : isA = false := by simpa using hT
            rw [hT'] at hA
            split at hs
            · rename_i y hy
              obtain ⟨u, hu, _, hru⟩ := hcells off y hy
              have hrun : (execOp a.eval o).run P w = .ok (.value u) w := by
                have hc : w.cell? ⟨b, k + off, none⟩ = some u := by rw [cell_of_block hb]; exact hu
                simp [execOp, ho, he, run_loadAt1 hd hA hc]
              split at hs
              · simp only [Option.some.injEq, Prod.mk.injEq] at hs
                obtain ⟨rfl, rfl⟩ := hs
                refine ⟨u, w, g, ow.out id off 1 false, .inl hrun, Ext.ow (fun b hb => Ow.out_none hb), hI.out hent off 1 false (by simp) (fun j h1 h2 => ?_) (fun j hj => ?_), RepA.nz (hru.mono fun path b' hb' => ?_)⟩
                · have : j = off := by omega
                  subst this
                  rw [hy]
                  have hlt := (List.getElem?_eq_some_iff.1 hy).1
                  simp [hlt]
                · rw [List.getElem?_set, if_neg (by omega)]
                · have := Ow.out_this (off := off) (m := 1) (ag := false) hb' ⟨by omega, by omega⟩
                  rw [this]
                  simp
              · simp only [Option.some.injEq, Prod.mk.injEq] at hs
                obtain ⟨rfl, rfl⟩ := hs
                exact OpOk.pure hI hrun (RepA.nz hru.dem)
            · cases hs
      · cases hs
    · cases hs

end
end Go.Ab
