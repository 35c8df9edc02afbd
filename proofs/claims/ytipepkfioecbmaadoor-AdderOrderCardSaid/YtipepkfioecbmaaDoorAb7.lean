/- Stores and loads; moves with hints; slices of slices. -/
import Derived.Test.YtipepkfioecbmaaDoorAb6
import Derived.Laws.CopyRow
set_option linter.unusedVariables false
set_option linter.unusedSimpArgs false
namespace Go.Ab
section
variable {P : Program} {H : Hint} {o : Oper} {w w' : World} {g : Gm} {ow ow' : Ow} {n : Nat} {a : Act} {st st' : St} {v : AV}

/-- One block is written. -/
structure OneB (w w' : World) (b : Nat) : Prop where
  os : w'.os = w.os
  tape : w'.tape = w.tape
  output : w'.output = w.output
  size : w'.heap.size = w.heap.size
  other : ∀ k, k ≠ b → w'.heap[k]? = w.heap[k]?

theorem oneB_setRow (w : World) (b : Nat) (cells : Array Value) : OneB w (w.setRow b cells) b :=
  ⟨rfl, rfl, rfl, by simp, fun k hk => setRow_other w b k cells hk⟩

theorem OneB.ext {b : Nat} (h : OneB w w' b) (hb : ow b ≠ none)
    (hs : ∀ arr e fr, w.heap[b]? = some (.cells arr e fr) → ∃ arr', w'.heap[b]? = some (.cells arr' e fr) ∧ arr'.size = arr.size ∧ ∀ j, j < g.φ b → arr'[j]? = arr[j]?)
    (φ' : Nat → Nat) (hφ : ∀ k, k ≠ b → φ' k = g.φ k) (hφb : g.φ b ≤ φ' b) (how : ∀ k, ow k = none → ow' k = none) : Ext w g ow w' { g with φ := φ' } ow' where
  os := h.os
  tape := h.tape
  output := h.output
  size := Nat.le_of_eq h.size.symm
  stab := ⟨fun k _ => by
      by_cases hk : k = b
      · subst hk; exact hφb
      · show g.φ k ≤ φ' k; rw [hφ k hk]; exact Nat.le_refl _,
    fun k j v hj hc => by
      by_cases hk : k = b
      · subst hk
        unfold World.cell? at hc
        split at hc
        · rename_i arr e fr hh
          obtain ⟨arr', h1, h2, h3⟩ := hs arr e fr hh
          rw [cell_of_block h1, h3 j hj]
          simpa using hc
        · cases hc
      · rw [cell_block (h.other k hk)]; exact hc⟩
  shape := fun k arr e fr hk => by
    by_cases hkb : k = b
    · subst hkb
      obtain ⟨arr', h1, h2, _⟩ := hs arr e fr hk
      exact ⟨arr', h1, h2⟩
    · exact ⟨arr, (h.other k hkb).trans hk, rfl⟩
  same := fun k _ ho => by
    have hk : k ≠ b := fun e => hb (e ▸ ho)
    exact ⟨h.other k hk, hφ k hk, how k ho⟩
  N := Nat.le_refl _
  V := fun _ _ => Nat.le_refl _
  β := fun _ _ _ _ => rfl

theorem OneB.repA {b : Nat} (h : OneB w w' b) {g' : Gm} (hx : Ext w g ow w' g' ow') (hφ : ∀ k, k ≠ b → g'.φ k = g.φ k) {own own' : List Nat → Nat → Prop} {x : AV} {u : Value} (hr : RepA w g own x u)
    (ho : ∀ path k, own path k → own' path k ∧ k ≠ b) : RepA w' g' own' x u :=
  hr.ext hx fun path k hk => ⟨(ho path k hk).1, h.other k (ho path k hk).2, hφ k (ho path k hk).2⟩

/-- Entries other than the one whose block is written. -/
theorem OneB.repE {b : Nat} (h : OneB w w' b) {g' : Gm} (hx : Ext w g ow w' g' ow') (hφ : ∀ k, k ≠ b → g'.φ k = g.φ k) {i : Nat} (hi : i < g.N) (hV : g'.V i = g.V i) {e : Ent} (hr : RepE w g ow i e)
    (hbox : ow b ≠ some (.box i)) (how1 : ∀ k, k ≠ b → ow k = some (.box i) → ow' k = some (.box i)) (how2 : ∀ k path, ow k = some (.ent i path) → ow' k = some (.ent i path) ∧ k ≠ b) : RepE w' g' ow' i e := by
  cases e with
  | cells ver cs =>
    obtain ⟨hv, hr⟩ := hr
    refine ⟨hV.trans hv, ?_⟩
    rcases hr with ⟨c, k, arr, e, h1, h2, h3, h4, h5, h6⟩ | ⟨h1, h2⟩
    · have hcb : c ≠ b := fun e => hbox (e ▸ h2)
      refine .inl ⟨c, k, arr, e, by rw [hx.β i ver hi (by omega)]; exact h1, how1 c hcb h2, by rw [hφ c hcb]; exact h3, by rw [h.other c hcb]; exact h4, h5, fun j y hy => ?_⟩
      obtain ⟨u, hu, h1u, hru⟩ := h6 j y hy
      exact ⟨u, hu, h1u, h.repA hx hφ hru fun path k hk => how2 k _ hk⟩
    · exact .inr ⟨by rw [hx.β i ver hi (by omega)]; exact h1, h2⟩
  | map kvs =>
    obtain ⟨c, k, es, clock, h1, h2, h3, h4, h5⟩ := hr
    have hcb : c ≠ b := fun e => hbox (e ▸ h2)
    refine ⟨c, k, es, clock, by rw [hx.β i 0 hi (Nat.zero_le _)]; exact h1, how1 c hcb h2, by rw [h.other c hcb]; exact h3, h4, fun j kk y e hk he => ?_⟩
    obtain ⟨hkey, hru⟩ := h5 j kk y e hk he
    exact ⟨hkey, h.repA hx hφ hru fun path k hk => how2 k _ hk⟩
  | dead => trivial

/-- An entry of cells is live: its block. -/
theorem ent_cells (hI : Inv w g ow n a st) {id ver : Nat} {cs : List AV} (h : st.σ[id]? = some (.cells ver cs)) {b k : Nat} (hβ : g.β id ver = some (b, k)) :
    id < g.N ∧ g.V id = ver ∧ ow b = some (.box id) ∧ g.φ b = k ∧ ∃ arr e, w.heap[b]? = some (.cells arr e (0, 0)) ∧ k + cs.length ≤ arr.size ∧
      ∀ (j : Nat) y, cs[j]? = some y → ∃ v, arr[k + j]? = some v ∧ v.oneCell' = true ∧ RepA w g (fun path b' => ow b' = some (.ent id (j :: path))) y v := by
  have hid : id < g.N := by rw [hI.N]; exact (List.getElem?_eq_some_iff.1 h).1
  obtain ⟨hV, hr⟩ := hI.ent id _ h
  rcases hr with ⟨b', k', arr, e, h1, h2, h3, h4, h5, h6⟩ | ⟨h1, _⟩
  · rw [hβ] at h1
    simp only [Option.some.injEq, Prod.mk.injEq] at h1
    obtain ⟨rfl, rfl⟩ := h1
    exact ⟨hid, hV, h2, h3, arr, e, h4, h5, h6⟩
  · rw [hβ] at h1; cases h1

theorem AV.cells_one_le (u : AV) (hu : ∀ cs, u ≠ .ag cs) (hu' : ∀ cs, u ≠ .p (.ag cs)) : u.cells = [u] := by
  cases u with
  | p y => cases y <;> first | rfl | exact absurd rfl (hu' _)
  | ag cs => exact absurd rfl (hu cs)
  | _ => rfl

/-- A store into an entry: the machine's side. -/
theorem run_storeAt {t : TypeId} {i : TypeInfo} {m : Nat} (hi : P.info? t = some i) (hm : i.size = m) {b k : Nat} {arr : Array Value} {e : TypeId} (hb : w.heap[b]? = some (.cells arr e (0, 0)))
    {x : Value} (hx : x.cells.size = m) (hle : k + m ≤ arr.size) (h1 : ∀ u ∈ x.cells.toList, u.oneCell' = true) :
    (Instr.storeAt t (.pointer (some ⟨b, k, none⟩)) x).run P w = .ok () (w.setRow b (arr.toList.take k ++ x.cells.toList ++ arr.toList.drop (k + m)).toArray) := by
  have h := run_storeCells_at P b k e x.cells.toList 0 arr w hb (by simp; omega) h1
  simp only [Nat.add_zero, Array.length_toList, hx] at h
  simp [Instr.storeAt, Instr.sureAddr, storeVar, run_sizeOf' w hi, hm, hx, h]

theorem seg_get (arr : Array Value) (k m : Nat) (xs : List Value) (hx : xs.length = m) (hle : k + m ≤ arr.size) (j : Nat) :
    (arr.toList.take k ++ xs ++ arr.toList.drop (k + m)).toArray[j]? = if k ≤ j ∧ j < k + m then xs[j - k]? else arr[j]? := by
  subst hx
  simp only [List.getElem?_toArray, List.append_assoc]
  have hk : (arr.toList.take k).length = k := by simp; omega
  by_cases h1 : j < k
  · rw [List.getElem?_append_left (by omega), if_neg (by omega)]
    rw [List.getElem?_take, if_pos h1]
    simp
  · rw [List.getElem?_append_right (by omega), hk]
    by_cases h2 : j < k + xs.length
    · rw [List.getElem?_append_left (by omega), if_pos (by omega)]
    · rw [List.getElem?_append_right (by omega), if_neg (by omega), List.getElem?_drop]
      rw [show k + xs.length + (j - k - xs.length) = j by omega]
      simp

theorem seg_size (arr : Array Value) (k m : Nat) (xs : List Value) (hx : xs.length = m) (hle : k + m ≤ arr.size) : (arr.toList.take k ++ xs ++ arr.toList.drop (k + m)).toArray.size = arr.size := by
  simp; omega

theorem store_ok {t : TypeId} {p x : Operand} (hI : Inv w g ow n a st) (ho : o.op = .store t p x) (h : opF P H o st = some (v, st')) : OpOk P o w g ow n a st' v := by
  simp only [opF, ho] at h
  cases hg : grab true x st with
  | mk u st1 =>
    rw [hg] at h
    simp only [store', Option.map_eq_some_iff, Prod.mk.injEq] at h
    obtain ⟨σ', hs, rfl, rfl⟩ := h
    obtain ⟨own, hrp⟩ := rd_ok hI p
    obtain ⟨ow1, hI1, hr, hn, hσ⟩ := grab_ok hI hg
    unfold storeA at hs
    split at hs
    · cases hs
    · rename_i isA m hag
      obtain ⟨d, i, hd, hi, hm, _⟩ := agT_eq hag
      split at hs
      · rename_i id ver off hp
        rw [hp] at hrp
        obtain ⟨b, k, hid, hV, hβ, he⟩ := hrp.ref_inv
        split at hs
        · rename_i ver' cs hent
          split at hs
          · cases hs
          · rename_i hver
            have hver' : ver' = ver := by omega
            subst hver'
            split at hs
            · cases hs
            · rename_i hc
              have hlen : u.cells.length = m := by omega
              have hone : u.cells.all AV.one = true := by
                cases hh : u.cells.all AV.one with
                | true => rfl
                | false => exact absurd (.inr hh) hc
              split at hs
              · rename_i hle
                simp only [Option.some.injEq] at hs
                subst hs
                obtain ⟨_, hVid, hbox, hφ, arr, e, hb, hsz, hcells⟩ := ent_cells hI1 hent hβ
                obtain ⟨hcl, hcc⟩ := hr.cellsOf hone
                have hxs : (a.eval x).cells.size = m := by omega
                have h1 : ∀ q ∈ (a.eval x).cells.toList, q.oneCell' = true := by
                  intro q hq
                  obtain ⟨j, hj, rfl⟩ := List.getElem_of_mem hq
                  have hj' : j < u.cells.length := by simp at hj; omega
                  obtain ⟨c, hc', h1c, _⟩ := hcc j u.cells[j] (by simp [hj'])
                  have : (a.eval x).cells.toList[j]? = some c := by simpa using hc'
                  rw [List.getElem?_eq_getElem hj] at this
                  cases this
                  exact h1c
                have hrun := run_storeAt (P := P) hi hm hb hxs (k := k + off) (by omega) h1
                let ow2 := ow1.store u id off
                have hB := oneB_setRow w b (arr.toList.take (k + off) ++ (a.eval x).cells.toList ++ arr.toList.drop (k + off + m)).toArray
                have hnew := setRow_heap w b arr (arr.toList.take (k + off) ++ (a.eval x).cells.toList ++ arr.toList.drop (k + off + m)).toArray e (0, 0) hb
                have hss := seg_size arr (k + off) m (a.eval x).cells.toList (by simpa using hxs) (by omega)
                have hgg := seg_get arr (k + off) m (a.eval x).cells.toList (by simpa using hxs) (by omega)
                have hX : Ext w g ow1 _ g ow2 := hB.ext (g := g) (ow := ow1) (ow' := ow2) (by simp [hbox]) (fun arr' e' fr h' => by
                    rw [hb] at h'
                    cases h'
                    refine ⟨_, hnew, hss, fun j hj => ?_⟩
                    rw [hgg, if_neg (by omega)]) g.φ (fun _ _ => rfl) (Nat.le_refl _) (fun q hq => Ow.store_none hq)
                have hne : ∀ q oo, ow1 q = some oo → oo ≠ .box id → q ≠ b := fun q oo hq hoo e => by
                  subst e; rw [hbox] at hq; cases hq; exact hoo rfl
                refine ⟨undef, _, g, ow2, .inr ⟨?_, rfl⟩, (Ext.ow hn).trans hX, ⟨hI1.sz, hI1.df, fun j => ?_, fun j ee hj => ?_, by simpa using hI1.N, fun q hq => ?_⟩, .p (.sc _)⟩
                · simp [execOp, ho, he, hrun]
                · exact hB.repA hX (fun _ _ => rfl) (hI1.env j) fun path q hq => ⟨Ow.store_slot hq, hne q _ hq (by simp)⟩
                · rw [List.getElem?_set] at hj
                  split at hj
                  · rename_i hij
                    subst hij
                    split at hj
                    · simp only [Option.some.injEq] at hj
                      subst hj
                      refine ⟨hVid, .inl ⟨b, k, _, e, hβ, Ow.store_box hbox, hφ, hnew, by rw [hss, putL_len]; exact hsz, fun j y hy => ?_⟩⟩
                      rw [putL_get _ _ _ (by omega)] at hy
                      rw [hgg]
                      by_cases hin : off ≤ j ∧ j < off + m
                      · rw [if_pos (by omega)] at hy
                        rw [if_pos (by omega)]
                        obtain ⟨c, hc', h1c, hrc⟩ := hcc (j - off) y hy
                        refine ⟨c, ?_, h1c, ?_⟩
                        · rw [show k + j - (k + off) = j - off by omega]; simpa using hc'
                        · refine hB.repA hX (fun _ _ => rfl) hrc fun path q hq => ⟨?_, ?_⟩
                          · have := Ow.store_at (id := id) (k := off) hq
                            rwa [show off + (j - off) = j by omega] at this
                          · unfold ownAt at hq
                            split at hq
                            · exact hne q _ hq (by simp)
                            · exact hne q _ hq.2 (by simp)
                      · rw [if_neg (by omega)] at hy
                        rw [if_neg (by omega)]
                        obtain ⟨c, hc', h1c, hrc⟩ := hcells j y hy
                        exact ⟨c, hc', h1c, hB.repA hX (fun _ _ => rfl) hrc fun path q hq => ⟨Ow.store_ent hq, hne q _ hq (by simp)⟩⟩
                    · cases hj
                  · rename_i hij
                    have hjN : j < g.N := by rw [hI1.N]; exact (List.getElem?_eq_some_iff.1 hj).1
                    exact hB.repE hX (fun _ _ => rfl) hjN rfl (hI1.ent j ee hj) (by rw [hbox]; simpa using hij) (fun q _ hq => Ow.store_box hq) (fun q path hq => ⟨Ow.store_ent hq, hne q _ hq (by simp)⟩)
                · have : ow1 q ≠ none := fun h0 => hq (Ow.store_none h0)
                  have := hI1.lt q this
                  simpa using this
              · cases hs
        · cases hs
      · cases hs

end
end Go.Ab
