/- append. -/
import Derived.Test.YtipepkfioecbmaaDoorAb12
set_option linter.unusedVariables false
set_option linter.unusedSimpArgs false
namespace Go.Ab
section
variable {P : Program} {H : Hint} {o : Oper} {w w' : World} {g : Gm} {ow ow' : Ow} {n : Nat} {a : Act} {st st' : St} {v : AV}

/-- The rows of an append that grew. -/
theorem rows_append {φ : Nat → Nat} {s : Nat} {xs ys : List PV} {olds news rest : Array Value} (h1 : Rows w φ s xs olds) (h2 : Rows w φ s ys news) :
    (∀ (i : Nat) x, (xs ++ ys)[i]? = some x → x.cells.length = s) ∧
    ∀ (i : Nat) x (j : Nat) y, (xs ++ ys)[i]? = some x → x.cells[j]? = some y → ∃ u, (olds ++ news ++ rest)[i * s + j]? = some u ∧ u.oneCell' = true ∧ RepP w φ y u := by
  have hl : ∀ (i : Nat) x, (xs ++ ys)[i]? = some x → x.cells.length = s := by
    intro i x hx
    rw [List.getElem?_append] at hx
    split at hx
    · exact h1.2.1 i x hx
    · exact h2.2.1 _ x hx
  refine ⟨hl, fun i x j y hx hy => ?_⟩
  have hj : j < s := by rw [← hl i x hx]; exact (List.getElem?_eq_some_iff.1 hy).1
  rw [List.getElem?_append] at hx
  have ho := h1.1
  have hn := h2.1
  split at hx
  · rename_i hi
    obtain ⟨u, hu, h1u, hr⟩ := h1.2.2 i x j y hx hy
    refine ⟨u, ?_, h1u, hr⟩
    have hlt := (Array.getElem?_eq_some_iff.1 hu).1
    rw [Array.getElem?_append_left (by simp; omega), Array.getElem?_append_left hlt, hu]
  · rename_i hi
    obtain ⟨u, hu, h1u, hr⟩ := h2.2.2 _ x j y hx hy
    refine ⟨u, ?_, h1u, hr⟩
    have hlt := (Array.getElem?_eq_some_iff.1 hu).1
    have hmul : (i - xs.length) * s + xs.length * s = i * s := by rw [← Nat.add_mul]; congr 1; omega
    rw [Array.getElem?_append_left (by simp; omega), Array.getElem?_append_right (by omega), show i * s + j - olds.size = (i - xs.length) * s + j by omega, hu]

theorem inv_drew (hI : Inv w g ow n a st) : Inv w.drew g ow n a st := (Gro.refl w g ow).drew.inv hI rfl hI.lt

/-- It grew: a row of the call's own. -/
theorem grow_own {t : TypeId} {e : TypeId} {s bb : Nat} {z : List Value} (hT : slT P t = some (e, s, bb, z)) (hs : 0 < s) (hI : Inv w g ow n a st) {xs ys : List PV} {x y : Value} {olds news : List Value}
    (h1 : Src P w g.φ s xs x olds) (h2 : Src P w g.φ s ys y news) (c : Nat) :
    ∃ g' ow', Gro w g ow (w.drew.alloc (.cells (olds.toArray ++ news.toArray ++ Builtin.zeroCells z.toArray (grownCap w (xs.length + ys.length) c e - (xs.length + ys.length))) e)) g' ow' ∧
      Inv (w.drew.alloc (.cells (olds.toArray ++ news.toArray ++ Builtin.zeroCells z.toArray (grownCap w (xs.length + ys.length) c e - (xs.length + ys.length))) e)) g' ow' n a st ∧
      RepA (w.drew.alloc (.cells (olds.toArray ++ news.toArray ++ Builtin.zeroCells z.toArray (grownCap w (xs.length + ys.length) c e - (xs.length + ys.length))) e)) g' (fun path b => ow' b = some (.acc path)) (.own s (xs ++ ys))
        (.slice (some ⟨w.heap.size, 0, none⟩) (xs.length + ys.length) (grownCap w (xs.length + ys.length) c e)) := by
  have hge := grownCap_ge w (xs.length + ys.length) c e
  have hz := slT_len hT
  have hR1 := h1.2.1
  have hR2 := h2.2.1
  obtain ⟨hl, hcell⟩ := rows_append (rest := Builtin.zeroCells z.toArray (grownCap w (xs.length + ys.length) c e - (xs.length + ys.length))) hR1 hR2
  have hsize : grownCap w (xs.length + ys.length) c e * s ≤ (olds.toArray ++ news.toArray ++ Builtin.zeroCells z.toArray (grownCap w (xs.length + ys.length) c e - (xs.length + ys.length))).size := by
    have e1 := hR1.1
    have e2 := hR2.1
    rw [Array.size_append, Array.size_append, size_zeroCells, e1, e2, List.size_toArray, hz, ← Nat.add_mul, ← Nat.add_mul]
    exact Nat.mul_le_mul_right s (by omega)
  obtain ⟨hG, hI', hr⟩ := new_own (inv_drew hI) (olds.toArray ++ news.toArray ++ Builtin.zeroCells z.toArray (grownCap w (xs.length + ys.length) c e - (xs.length + ys.length))) e (xs ++ ys) s (grownCap w (xs.length + ys.length) c e) hs hl hsize (by simpa using hge)
    (fun i x j y hx hy => by
      obtain ⟨u, hu, h1u, hr⟩ := hcell i x j y hx hy
      exact ⟨u, hu, h1u, hr.keep ((Gro.refl w g ow).drew).stab⟩)
  refine ⟨_, _, ((Gro.refl w g ow).drew).trans hG, hI', ?_⟩
  simpa using hr

theorem rep_nil {s : Nat} (hs : 0 < s) (ad : Option Addr) : Src P w g.φ s [] (.slice ad 0 0) [] := by
  refine ⟨⟨ad, 0, rfl⟩, ⟨by simp, by simp, by simp⟩, fun w1 _ => ?_, by simp⟩
  cases ad <;> simp [Builtin.firstCells, loadCells, loadCellsFrom]

/-- A row with room: its block grows still by what is appended. -/
theorem room_own {s : Nat} (hs : 0 < s) (hI : Inv w g ow n a st) {xs ys : List PV} {b k c : Nat} {arr : Array Value} {e : TypeId} (hob : ow b = some (.acc [])) (hφ : g.φ b = k + xs.length * s)
    (hb : w.heap[b]? = some (.cells arr e (0, 0))) (hz : k + c * s ≤ arr.size) (hr : RepP w g.φ (.sl s xs) (.slice (some ⟨b, k, none⟩) xs.length c)) {y : Value} {news : List Value} (h2 : Src P w g.φ s ys y news)
    (hroom : xs.length + ys.length ≤ c) :
    ∃ g' ow', Ext w g ow (w.setRow b (arr.toList.take (k + xs.length * s) ++ news ++ arr.toList.drop (k + xs.length * s + ys.length * s)).toArray) g' ow' ∧
      Inv (w.setRow b (arr.toList.take (k + xs.length * s) ++ news ++ arr.toList.drop (k + xs.length * s + ys.length * s)).toArray) g' ow' n a st ∧
      RepA (w.setRow b (arr.toList.take (k + xs.length * s) ++ news ++ arr.toList.drop (k + xs.length * s + ys.length * s)).toArray) g' (fun path b => ow' b = some (.acc path)) (.own s (xs ++ ys)) (.slice (some ⟨b, k, none⟩) (xs.length + ys.length) c) := by
  have hR := h2.2.1
  have hnl : news.length = ys.length * s := by simpa using hR.1
  have hmul : (xs.length + ys.length) * s ≤ c * s := Nat.mul_le_mul_right s hroom
  rw [Nat.add_mul] at hmul
  have hB := oneB_setRow w b (arr.toList.take (k + xs.length * s) ++ news ++ arr.toList.drop (k + xs.length * s + ys.length * s)).toArray
  have hnew := setRow_heap w b arr (arr.toList.take (k + xs.length * s) ++ news ++ arr.toList.drop (k + xs.length * s + ys.length * s)).toArray e (0, 0) hb
  have hss := seg_size arr (k + xs.length * s) (ys.length * s) news hnl (by omega)
  have hgg := seg_get arr (k + xs.length * s) (ys.length * s) news hnl (by omega)
  generalize hw1 : w.setRow b (arr.toList.take (k + xs.length * s) ++ news ++ arr.toList.drop (k + xs.length * s + ys.length * s)).toArray = w1 at hB hnew ⊢
  generalize (arr.toList.take (k + xs.length * s) ++ news ++ arr.toList.drop (k + xs.length * s + ys.length * s)).toArray = arr1 at hnew hss hgg
  let φ' : Nat → Nat := fun q => if q = b then k + (xs.length + ys.length) * s else g.φ q
  have hφb : φ' b = k + (xs.length + ys.length) * s := by simp [φ']
  have hX : Ext w g ow w1 { g with φ := φ' } ow := hB.ext (by rw [hob]; simp) (fun arr' e' fr h' => by
      rw [hb] at h'
      cases h'
      refine ⟨arr1, hnew, hss, fun j hj => ?_⟩
      rw [hgg, if_neg (by omega)]) φ' (fun q hq => by simp [φ', hq]) (by rw [hφb, hφ, Nat.add_mul]; omega) (fun _ h => h)
  have hφ' : ∀ q, q ≠ b → ({ g with φ := φ' } : Gm).φ q = g.φ q := fun q hq => by simp [φ', hq]
  have hne : ∀ q oo, ow q = some oo → (∀ path, oo ≠ .acc path) → q ≠ b := fun q oo hq hoo e => by
    subst e; rw [hob] at hq; simp only [Option.some.injEq] at hq; exact hoo _ hq.symm
  refine ⟨{ g with φ := φ' }, ow, hX, ⟨hI.sz, hI.df, fun i => hB.repA hX hφ' (hI.env i) fun path q hq => ⟨hq, hne q _ hq (by simp)⟩, fun i ee he => ?_, hI.N, fun q hq => by rw [hB.size]; exact hI.lt q hq⟩, ?_⟩
  · have hiN : i < g.N := by rw [hI.N]; exact (List.getElem?_eq_some_iff.1 he).1
    exact hB.repE hX hφ' hiN rfl (hI.ent i ee he) (by rw [hob]; simp) (fun q _ hq => hq) (fun q path hq => ⟨hq, hne q _ hq (by simp)⟩)
  · have hxl : (xs ++ ys).length = xs.length + ys.length := by simp
    rw [← hxl] at hφb ⊢
    refine .ownX s (xs ++ ys) b k c arr1 e hob hs hφb hnew (by omega) (by rw [hxl]; exact hroom) ?_
    by_cases h0 : xs ++ ys = []
    · rw [h0]; exact .nil _ _ _
    -- what stood, what came
    have hold : ∀ (i : Nat) x (j : Nat) z, xs[i]? = some x → x.cells[j]? = some z → x.cells.length = s ∧ ∃ u, arr1[k + i * s + j]? = some u ∧ u.oneCell' = true ∧ RepP w1 φ' z u := by
      intro i x j z hx hz
      generalize hxx : Value.slice (some ⟨b, k, none⟩) xs.length c = xv at hr
      cases hr with
      | nil => cases hx
      | sl _ _ b' k' c' val h0' hs' hc' hφ0 hl hv h1 hrr =>
        cases hxx
        have hc1 := hv i x j z hx hz
        rw [cell_of_block hb] at hc1
        have hlt := PV.cell_idx hl hx hz
        exact ⟨hl i x hx, val i j, by rw [hgg, if_neg (by omega)]; exact hc1, h1 i x j z hx hz, (hrr i x j z hx hz).keep hX.stab⟩
    have hlx : ∀ (i : Nat) x, xs[i]? = some x → x.cells.length = s := by
      intro i x hx
      generalize hxx : Value.slice (some ⟨b, k, none⟩) xs.length c = xv at hr
      cases hr with
      | nil => cases hx
      | sl _ _ b' k' c' val h0' hs' hc' hφ0 hl hv h1 hrr => exact hl i x hx
    have hall : ∀ (i : Nat) x (j : Nat) z, (xs ++ ys)[i]? = some x → x.cells[j]? = some z → ∃ u, arr1[k + i * s + j]? = some u ∧ u.oneCell' = true ∧ RepP w1 φ' z u := by
      intro i x j z hx hz
      rw [List.getElem?_append] at hx
      split at hx
      · exact (hold i x j z hx hz).2
      · rename_i hi
        obtain ⟨u, hu, h1u, hru⟩ := hR.2.2 _ x j z hx hz
        have hlt := (Array.getElem?_eq_some_iff.1 hu).1
        simp only [List.size_toArray] at hlt
        have hmul2 : (i - xs.length) * s + xs.length * s = i * s := by rw [← Nat.add_mul]; congr 1; omega
        refine ⟨u, ?_, h1u, hru.keep hX.stab⟩
        rw [hgg, if_pos (by omega), show k + i * s + j - (k + xs.length * s) = (i - xs.length) * s + j by omega]
        simpa using hu
    refine .sl s (xs ++ ys) b k c (fun i j => arr1.getD (k + i * s + j) undef) h0 hs (by rw [hxl]; exact hroom) (Nat.le_of_eq hφb.symm) (fun i x hx => ?_) (fun i x j z hx hz => ?_) (fun i x j z hx hz => ?_) (fun i x j z hx hz => ?_)
    · rw [List.getElem?_append] at hx
      split at hx
      · exact hlx i x hx
      · exact hR.2.1 _ x hx
    all_goals
      obtain ⟨u, hu, h1u, hru⟩ := hall i x j z hx hz
      have hd : arr1.getD (k + i * s + j) undef = u := by simp [Array.getD_eq_getD_getElem?, hu]
      simp only [hd]
    · rw [cell_of_block hnew]; exact hu
    · exact h1u
    · exact hru

/-- append to a row: memory and value. -/
theorem appO_ok {t t' ty e : TypeId} {s bb : Nat} {z : List Value} (hT : slT P t = some (e, s, bb, z)) {q : TypeId × Nat × Nat × List Value} (hT' : slT P t' = some q) (hs : 0 < s) (hb128 : bb ≤ 128)
    (hI : Inv w g ow n a st) {u u' : AV} {x y : Value} {σ' : List Ent} (hr : RepA w g (fun path b => ow b = some (.acc path)) u x) {ys : List PV} {news : List Value} (hsrc : Src P w g.φ s ys y news)
    (h : appO s ys u st.σ = some (u', σ')) :
    σ' = st.σ ∧ ∃ x' w' g' ow', (Builtin.append_ #[t, t'] ty #[x, y]).run P w = .ok x' w' ∧ Ext w g ow w' g' ow' ∧ Inv w' g' ow' n a st ∧ RepA w' g' (fun path b => ow' b = some (.acc path)) u' x' := by
  unfold appO at h
  split at h
  · rename_i s0 xs
    split at h
    · cases h
    · rename_i hc
      simp only [Option.some.injEq, Prod.mk.injEq] at h
      obtain ⟨rfl, rfl⟩ := h
      have hs0 : s0 = s := by omega
      have hlim : xs.length + ys.length ≤ limit := by omega
      subst hs0
      refine ⟨rfl, ?_⟩
      cases hr with
      | own0 _ ad =>
        by_cases hy : ys = []
        · subst hy
          exact ⟨_, w, g, ow, run_app_none hT hT' ad hsrc, Ext.refl w g ow, hI, .own0 _ ad⟩
        · have hyl : 0 < ys.length := List.length_pos_iff.2 hy
          have hrun := run_app_grow (ty := ty) hT hT' hb128 (rep_nil (P := P) (g := g) hs ad) ⟨ad, rfl⟩ hsrc (by simpa using hyl) hlim
          obtain ⟨g', ow', hG, hI', hr'⟩ := grow_own hT hs hI (rep_nil (P := P) (g := g) hs ad) hsrc 0
          exact ⟨_, _, g', ow', hrun, hG.ext, hI', hr'⟩
      | ownX _ _ b k c arr e' hob hs' hφ hb hz hcc hrr =>
        by_cases hroom : xs.length + ys.length ≤ c
        · have hrun := run_app_room (ty := ty) hT hT' (m0 := xs.length) hb hsrc hroom hz
          obtain ⟨g', ow', hX, hI', hr'⟩ := room_own hs hI hob hφ hb hz hrr hsrc hroom
          exact ⟨_, _, g', ow', hrun, hX, hI', hr'⟩
        · obtain ⟨olds, hold⟩ := src_of_rep (P := P) hs hrr
          have hrun := run_app_grow (ty := ty) hT hT' hb128 hold ⟨_, rfl⟩ hsrc (by omega) hlim
          obtain ⟨g', ow', hG, hI', hr'⟩ := grow_own hT hs hI hold hsrc c
          exact ⟨_, _, g', ow', hrun, hG.ext, hI', hr'⟩
  · rename_i s0 xs
    split at h
    · cases h
    · rename_i hc
      simp only [Option.some.injEq, Prod.mk.injEq] at h
      obtain ⟨rfl, rfl⟩ := h
      have hs0 : s0 = s := by omega
      have hlim : xs.length + ys.length ≤ limit := by omega
      subst hs0
      refine ⟨rfl, ?_⟩
      have hel := hr.elems rfl
      generalize hxx : x = xv at hr
      cases hr with
      | tgt _ _ ad hrr =>
        subst hxx
        by_cases hy : ys = []
        · have hx0 : xs = [] := by
            cases xs with
            | nil => rfl
            | cons q qs => exact absurd (.inr (.inr ⟨by simp, hy⟩)) hc
          subst hy hx0
          exact ⟨_, w, g, ow, run_app_none hT hT' ad hsrc, Ext.refl w g ow, hI, .own0 _ ad⟩
        · have hyl : 0 < ys.length := List.length_pos_iff.2 hy
          obtain ⟨olds, hold⟩ := src_of_rep (P := P) hs hel
          have hrun := run_app_grow (ty := ty) hT hT' hb128 hold ⟨_, rfl⟩ hsrc (by omega) hlim
          obtain ⟨g', ow', hG, hI', hr'⟩ := grow_own hT hs hI hold hsrc xs.length
          exact ⟨_, _, g', ow', hrun, hG.ext, hI', hr'⟩
  · cases h

end
end Go.Ab
