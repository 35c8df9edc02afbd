/- append to an array that stays one; builtins. -/
import Derived.Test.YtipepkfioecbmaaDoorAb13
set_option linter.unusedVariables false
set_option linter.unusedSimpArgs false
namespace Go.Ab
section
variable {P : Program} {H : Hint} {o : Oper} {w w' : World} {g : Gm} {ow ow' : Ow} {n : Nat} {a : Act} {st st' : St} {v : AV}

/-- A new version of entry id: where it lies. -/
def Gm.next (g : Gm) (id ver : Nat) (β : Option (Nat × Nat)) : Gm :=
  { g with V := fun i => if i = id then ver else g.V i, β := fun i v => if i = id ∧ v = ver then β else g.β i v }

theorem Gm.next_β {g : Gm} {id ver i v : Nat} {β : Option (Nat × Nat)} (h : v ≤ g.V i) (hv : g.V id < ver) : (g.next id ver β).β i v = g.β i v := by
  simp only [Gm.next]
  split
  · rename_i hh; obtain ⟨rfl, rfl⟩ := hh; omega
  · rfl
theorem Gm.next_V {g : Gm} {id ver i : Nat} {β : Option (Nat × Nat)} (hi : i ≠ id) : (g.next id ver β).V i = g.V i := by simp [Gm.next, hi]

theorem next_ext {w w' : World} {g g' : Gm} {ow ow' : Ow} (hX : Ext w g ow w' g' ow') (hV : ∀ i, i < g.N → g'.V i = g.V i) {id : Nat} (hid : id < g.N) (β : Option (Nat × Nat)) : Ext w g ow w' (g'.next id (g.V id + 1) β) ow' where
  os := hX.os
  tape := hX.tape
  output := hX.output
  size := hX.size
  stab := hX.stab
  shape := hX.shape
  same := hX.same
  N := hX.N
  V := fun i hi => by
    by_cases h : i = id
    · subst h; simp [Gm.next]
    · rw [Gm.next_V h]; exact hX.V i hi
  β := fun i ver hi hv => by
    rw [Gm.next_β (by rw [hV i hi]; exact hv) (by rw [hV id hid]; omega)]
    exact hX.β i ver hi hv

theorem appR_ok {t t' ty e : TypeId} {s bb : Nat} {z : List Value} (hT : slT P t = some (e, s, bb, z)) {q : TypeId × Nat × Nat × List Value} (hT' : slT P t' = some q) (hs : 0 < s) (hb128 : bb ≤ 128)
    (hI : Inv w g ow n a st) {own : List Nat → Nat → Prop} {u u' : AV} {x y : Value} {σ' : List Ent} (hr : RepA w g own u x) {ys : List PV} {news : List Value} (hsrc : Src P w g.φ s ys y news)
    (h : appR s ys u st.σ = some (u', σ')) :
    ∃ x' w' g' ow', (Builtin.append_ #[t, t'] ty #[x, y]).run P w = .ok x' w' ∧ Ext w g ow w' g' ow' ∧ Inv w' g' ow' n a { st with σ := σ' } ∧ RepA w' g' Free u' x' := by
  unfold appR at h
  split at h
  · rename_i s0 id ver off len
    split at h
    · cases h
    · rename_i hc
      have hs0 : s0 = s := by omega
      have hs1 : s0 = 1 := by omega
      have hoff : off = 0 := by omega
      have hlim : len + ys.length ≤ limit := by omega
      have hone : ys.all PV.one = true := by
        cases hh : ys.all PV.one with
        | true => rfl
        | false => exact absurd (.inr (.inr (.inr (.inr hh)))) hc
      split at h
      · rename_i ver' cs hent
        split at h
        · cases h
        · rename_i hc2
          have hver : ver' = ver := by omega
          have hlen : cs.length = len := by omega
          simp only [Option.some.injEq, Prod.mk.injEq] at h
          obtain ⟨rfl, rfl⟩ := h
          subst hver hoff hs0 hs1
          have hidσ := (List.getElem?_eq_some_iff.1 hent).1
          have hidN : id < g.N := by rw [hI.N]; exact hidσ
          have hVid : g.V id = ver' := (hI.ent id _ hent).1
          have hRy := hsrc.2.1
          have hys : ∀ (i : Nat) y, ys[i]? = some y → y.cells = [y] := fun i y hy => one_cells (List.all_eq_true.1 hone y (List.mem_of_getElem? hy))
          have hyc : ∀ (i : Nat) y, ys[i]? = some y → ∃ u, news[i]? = some u ∧ u.oneCell' = true ∧ RepP w g.φ y u := by
            intro i y hy
            obtain ⟨u, hu, h1u, hru⟩ := hRy.2.2 i y 0 y hy (by rw [hys i y hy]; rfl)
            exact ⟨u, by simpa using hu, h1u, hru⟩
          -- entries of other numbers keep, whatever is done to V and β of this one
          have others : ∀ {w1 : World} {g1 : Gm} {ow1 : Ow} (β : Option (Nat × Nat)), (∀ i, i < g.N → g1.V i = g.V i) → (∀ (i : Nat) e, i ≠ id → st.σ[i]? = some e → RepE w1 g1 ow1 i e) → Ext w g ow w1 g1 ow1 →
              ∀ (i : Nat) e, i ≠ id → st.σ[i]? = some e → RepE w1 (g1.next id (ver' + 1) β) ow1 i e := by
            intro w1 g1 ow1 β hV1 hE hX i e hi he
            have hN1 : g1.V id = ver' := (hV1 id hidN).trans hVid
            have hkeep : ∀ {own : List Nat → Nat → Prop} {y : AV} {u : Value}, RepA w1 g1 own y u → RepA w1 (g1.next id (ver' + 1) β) own y u := by
              intro own y u hr
              refine hr.keep (g := g1) (g' := g1.next id (ver' + 1) β) (Stab.refl _ _) (Shape.refl _) (Nat.le_refl _) (fun k _ => ?_) (fun k v _ hv => Gm.next_β (id := id) (ver := ver' + 1) hv (by omega)) own (fun _ _ h => ⟨h, rfl, rfl⟩)
              by_cases hk : k = id
              · subst hk; simp [Gm.next]; omega
              · rw [Gm.next_V hk]; exact Nat.le_refl _
            have hr := hE i e hi he
            cases e with
            | cells ver cs =>
              obtain ⟨hv, hr⟩ := hr
              refine ⟨by rw [Gm.next_V hi]; exact hv, ?_⟩
              rcases hr with ⟨c, k, arr, e, h1, h2, h3, h4, h5, h6⟩ | h1
              · refine .inl ⟨c, k, arr, e, by simpa [Gm.next, hi] using h1, h2, h3, h4, h5, fun j y hy => ?_⟩
                obtain ⟨u, hu, h1u, hru⟩ := h6 j y hy
                exact ⟨u, hu, h1u, hkeep hru⟩
              · exact .inr ⟨by simpa [Gm.next, hi] using h1.1, h1.2⟩
            | map kvs =>
              obtain ⟨c, k, es, clock, h1, h2, h3, h4, h5⟩ := hr
              refine ⟨c, k, es, clock, by simpa [Gm.next, hi] using h1, h2, h3, h4, fun j kk y e hk he => ?_⟩
              obtain ⟨hkey, hru⟩ := h5 j kk y e hk he
              exact ⟨hkey, hkeep hru⟩
            | dead => trivial
          -- what is left of the state
          have close : ∀ {w1 : World} {g1 : Gm} {ow1 : Ow} (β : Option (Nat × Nat)), (∀ i, i < g.N → g1.V i = g.V i) → g1.N = g.N → Ext w g ow w1 g1 ow1 →
              (∀ i, RepA w1 g1 (fun path b => ow1 b = some (.slot i path)) (st.env i) (a.tmps.getD i undef)) → (∀ (i : Nat) e, i ≠ id → st.σ[i]? = some e → RepE w1 g1 ow1 i e) → (∀ b, ow1 b ≠ none → b < w1.heap.size) →
              RepE w1 (g1.next id (ver' + 1) β) ow1 id (.cells (ver' + 1) (cs ++ ys.map .p)) →
              Ext w g ow w1 (g1.next id (ver' + 1) β) ow1 ∧ Inv w1 (g1.next id (ver' + 1) β) ow1 n a { st with σ := st.σ.set id (.cells (ver' + 1) (cs ++ ys.map .p)) } := by
            intro w1 g1 ow1 β hV1 hN1 hX henv hE hlt hnew
            have hX' := next_ext hX hV1 hidN β
            rw [hVid] at hX'
            have hg1V : g1.V id = ver' := (hV1 id hidN).trans hVid
            refine ⟨hX', hI.sz, hI.df, fun i => ?_, fun i e he => ?_, by simpa [Gm.next, hN1] using hI.N, hlt⟩
            · refine (henv i).keep (g := g1) (g' := g1.next id (ver' + 1) β) (Stab.refl _ _) (Shape.refl _) (Nat.le_refl _) (fun k _ => ?_) (fun k v _ hv => Gm.next_β (id := id) (ver := ver' + 1) hv (by omega)) _ (fun _ _ h => ⟨h, rfl, rfl⟩)
              by_cases hk : k = id
              · subst hk; simp [Gm.next]; omega
              · rw [Gm.next_V hk]; exact Nat.le_refl _
            · rw [List.getElem?_set] at he
              split at he
              · rename_i hi
                subst hi
                cases he
                exact hnew
              · rename_i hi
                exact others β hV1 hE hX i e (Ne.symm hi) he
          have arrRep : ∀ {w1 : World} {g1 : Gm} {b k c : Nat} {arr : Array Value} {e : TypeId}, g1.N = g.N → w1.heap[b]? = some (.cells arr e (0, 0)) → k + c ≤ arr.size → len + ys.length ≤ c →
              RepA w1 (g1.next id (ver' + 1) (some (b, k))) Free (.arr 1 id (ver' + 1) 0 (len + ys.length)) (.slice (some ⟨b, k, none⟩) (len + ys.length) c) := by
            intro w1 g1 b k c arr e hN1 hb hsz hc
            have : RepA w1 (g1.next id (ver' + 1) (some (b, k))) Free (.arr 1 id (ver' + 1) 0 (len + ys.length)) (.slice (some ⟨b, k + 0, none⟩) (len + ys.length) c) :=
              .arr 1 id (ver' + 1) 0 (len + ys.length) b k c arr e (by simpa [Gm.next, hN1] using hidN) (by simp [Gm.next]) (by simp [Gm.next]) hb (by omega) hc
            simpa using this
          -- the block that grew
          have grown : ∀ {xs : List PV} {olds : List Value} {c : Nat} (ad : Option Addr), xs.length = len → Src P w g.φ 1 xs x olds → x = .slice ad len c → c < len + ys.length → (∀ (j : Nat) y, cs[j]? = some y → ∃ u, olds[j]? = some u ∧ u.oneCell' = true ∧ ∃ own, RepA w g own y u) →
              (∀ (j : Nat) y, cs[j]? = some y → y.dem = y ∨ True) → (∀ (j : Nat) y u, cs[j]? = some y → olds[j]? = some u → RepA w g (fun path b' => ow b' = some (.ent id (j :: path))) y u) →
              ∃ x' w' g' ow', (Builtin.append_ #[t, t'] ty #[x, y]).run P w = .ok x' w' ∧ Ext w g ow w' g' ow' ∧ Inv w' g' ow' n a { st with σ := st.σ.set id (.cells (ver' + 1) (cs ++ ys.map .p)) } ∧ RepA w' g' Free (.arr 1 id (ver' + 1) 0 (len + ys.length)) x' := by
            intro xs olds c ad hxl hold hx hcl hcs0 _ hcs
            have hrun := run_app_grow (ty := ty) hT hT' hb128 hold ⟨ad, by rw [hxl]; exact hx⟩ hsrc (by omega) (by omega)
            have hge := grownCap_ge w (xs.length + ys.length) c e
            have hz := slT_len hT
            have hol : olds.length = xs.length := by simpa using hold.2.1.1
            have hnl : news.length = ys.length := by simpa using hRy.1
            generalize hcells : (olds.toArray ++ news.toArray ++ Builtin.zeroCells z.toArray (grownCap w (xs.length + ys.length) c e - (xs.length + ys.length))) = cells at hrun
            have hsize : cells.size = grownCap w (xs.length + ys.length) c e := by
              rw [← hcells, Array.size_append, Array.size_append, size_zeroCells, List.size_toArray, List.size_toArray, List.size_toArray, hz]; omega
            have hG := (Gro.refl w g ow).drew.trans (gro_alloc w.drew g ow (.cells cells e) 0 (.box id))
            have hnewb : (w.drew.alloc (.cells cells e)).heap[w.heap.size]? = some (.cells cells e (0, 0)) := heap_alloc_new w.drew _
            have hI1 := hI
            obtain ⟨hX', hI'⟩ := close (w1 := w.drew.alloc (.cells cells e)) (g1 := g.fresh w.heap.size 0) (ow1 := ow.new w.heap.size (.box id)) (some (w.heap.size, 0)) (fun _ _ => rfl) rfl hG.ext
              (fun i => hG.repA hI.lt (o := fun path => .slot i path) (hI.env i)) (fun i e hi he => hG.repE hI.lt (by rw [hI.N]; exact (List.getElem?_eq_some_iff.1 he).1) (hI.ent i e he)) (new_lt (w := w.drew) hI.lt _ _) (by
                refine ⟨by simp [Gm.next], .inl ⟨w.heap.size, 0, cells, e, by simp [Gm.next], by simp [Ow.new], by simp [Gm.next, Gm.fresh], hnewb, by simp; omega, fun j y hy => ?_⟩⟩
                have hXn := next_ext hG.ext (fun _ _ => rfl) hidN (some (w.heap.size, 0))
                rw [hVid] at hXn
                rw [List.getElem?_append] at hy
                split at hy
                · rename_i hj
                  obtain ⟨u, hu, h1u, _⟩ := hcs0 j y hy
                  have hju := (List.getElem?_eq_some_iff.1 hu).1
                  refine ⟨u, ?_, h1u, RepA.ext hXn (hcs j y u hy hu) fun path b hb => ?_⟩
                  · rw [← hcells, Nat.zero_add, Array.getElem?_append_left (by simp; omega), Array.getElem?_append_left (by simpa using hju)]
                    simpa using hu
                  · have hl := hI.lt b (by simp [hb])
                    exact ⟨(hG.ow b hl).trans hb, hG.heap b hl, hG.φ b hl⟩
                · rename_i hj
                  rw [List.getElem?_map, Option.map_eq_some_iff] at hy
                  obtain ⟨y', hy', rfl⟩ := hy
                  obtain ⟨u, hu, h1u, hru⟩ := hyc _ y' hy'
                  have hju := (List.getElem?_eq_some_iff.1 hu).1
                  refine ⟨u, ?_, h1u, .p (hru.keep hXn.stab)⟩
                  rw [← hcells, Nat.zero_add, Array.getElem?_append_left (by simp; omega), Array.getElem?_append_right (by simp; omega)]
                  simp only [List.size_toArray]
                  rw [show j - olds.length = j - cs.length by omega]
                  simpa using hu)
            refine ⟨_, _, _, _, hrun, hX', hI', ?_⟩
            rw [hxl] at hsize hge hrun ⊢
            exact arrRep rfl hnewb (by omega) hge
          cases x with
          | slice ad l c =>
            cases hr with
            | arr0 _ _ _ _ hi hV hβ =>
              have hcs : cs = [] := List.eq_nil_of_length_eq_zero hlen
              subst hcs
              by_cases hy : ys = []
              · subst hy
                have hrun := run_app_none (ty := ty) hT hT' ad hsrc
                obtain ⟨hX', hI'⟩ := close (w1 := w) (g1 := g) (ow1 := ow) none (fun _ _ => rfl) rfl (Ext.refl w g ow) hI.env (fun i e _ he => hI.ent i e he) hI.lt ⟨by simp [Gm.next], .inr ⟨by simp [Gm.next], by simp⟩⟩
                refine ⟨_, _, _, _, hrun, hX', hI', ?_⟩
                exact .arr0 1 id (ver' + 1) ad (by simpa [Gm.next] using hidN) (by simp [Gm.next]) (by simp [Gm.next])
              · have hyl : 0 < ys.length := List.length_pos_iff.2 hy
                exact grown (xs := []) ad rfl (rep_nil (P := P) (g := g) (by omega) ad) rfl (by omega) (fun j y hy => by simp at hy) (fun _ _ _ => .inr trivial) (fun j y u hy => by simp at hy)
            | arr _ _ _ _ _ b k _ arr e' hi hV hβ hb hz hcc =>
              obtain ⟨_, _, hbox, hφ, arr0, e0, hb0, hsz, hcells⟩ := ent_cells hI hent hβ
              rw [hb] at hb0
              cases hb0
              by_cases hroom : len + ys.length ≤ c
              · have hrun := run_app_room (ty := ty) (k := k) (m0 := len) hT hT' hb hsrc hroom (by omega)
                have hnl : news.length = ys.length := by simpa using hRy.1
                simp only [Nat.mul_one] at hrun
                have hB := oneB_setRow w b (arr.toList.take (k + len) ++ news ++ arr.toList.drop (k + len + ys.length)).toArray
                have hnew := setRow_heap w b arr (arr.toList.take (k + len) ++ news ++ arr.toList.drop (k + len + ys.length)).toArray e' (0, 0) hb
                have hss := seg_size arr (k + len) ys.length news hnl (by omega)
                have hgg := seg_get arr (k + len) ys.length news hnl (by omega)
                generalize w.setRow b (arr.toList.take (k + len) ++ news ++ arr.toList.drop (k + len + ys.length)).toArray = w1 at hB hnew hrun
                generalize (arr.toList.take (k + len) ++ news ++ arr.toList.drop (k + len + ys.length)).toArray = arr1 at hnew hss hgg
                have hX : Ext w g ow w1 g ow := hB.ext (by rw [hbox]; simp) (fun arr' e' fr h' => by
                    rw [hb] at h'
                    cases h'
                    refine ⟨arr1, hnew, hss, fun j hj => ?_⟩
                    rw [hgg, if_neg (by omega)]) g.φ (fun _ _ => rfl) (Nat.le_refl _) (fun _ h => h)
                have hne : ∀ q oo, ow q = some oo → oo ≠ .box id → q ≠ b := fun q oo hq hoo e => by
                  subst e; rw [hbox] at hq; cases hq; exact hoo rfl
                obtain ⟨hX', hI'⟩ := close (w1 := w1) (g1 := g) (ow1 := ow) (some (b, k)) (fun _ _ => rfl) rfl hX (fun i => hB.repA hX (fun _ _ => rfl) (hI.env i) fun path q hq => ⟨hq, hne q _ hq (by simp)⟩)
                  (fun i e hi he => hB.repE hX (fun _ _ => rfl) (by rw [hI.N]; exact (List.getElem?_eq_some_iff.1 he).1) rfl (hI.ent i e he) (by rw [hbox]; simpa using Ne.symm hi) (fun q _ hq => hq) (fun q path hq => ⟨hq, hne q _ hq (by simp)⟩))
                  (fun q hq => by rw [hB.size]; exact hI.lt q hq) (by
                    have hXn := next_ext hX (fun _ _ => rfl) hidN (some (b, k))
                    rw [hVid] at hXn
                    refine ⟨by simp [Gm.next], .inl ⟨b, k, arr1, e', by simp [Gm.next], hbox, hφ, hnew, by simp; omega, fun j y hy => ?_⟩⟩
                    rw [List.getElem?_append] at hy
                    split at hy
                    · rename_i hj
                      obtain ⟨u, hu, h1u, hru⟩ := hcells j y hy
                      refine ⟨u, by rw [hgg, if_neg (by omega)]; exact hu, h1u, RepA.ext hXn hru fun path q hq => ?_⟩
                      have := hne q _ hq (by simp)
                      exact ⟨hq, hB.other q this, rfl⟩
                    · rename_i hj
                      rw [List.getElem?_map, Option.map_eq_some_iff] at hy
                      obtain ⟨y', hy', rfl⟩ := hy
                      obtain ⟨u, hu, h1u, hru⟩ := hyc _ y' hy'
                      have hju := (List.getElem?_eq_some_iff.1 hu).1
                      refine ⟨u, ?_, h1u, .p (hru.keep hXn.stab)⟩
                      rw [hgg, if_pos (by omega), show k + j - (k + len) = j - cs.length by omega]
                      exact hu)
                exact ⟨_, _, _, _, hrun, hX', hI', arrRep rfl hnew (by omega) hroom⟩
              · -- a new block: the old one's cells as a row that is read
                have hpv : ∀ (j : Nat) y, cs[j]? = some y → ∃ u, arr[k + j]? = some u ∧ u.oneCell' = true ∧ RepA w g (fun path b' => ow b' = some (.ent id (j :: path))) y u := hcells
                let olds := (arr.toList.drop k).take len
                have hol : olds.length = len := by simp [olds]; omega
                have hog : ∀ j, j < len → olds[j]? = arr[k + j]? := by
                  intro j hj
                  simp only [olds, List.getElem?_take, hj, if_true, List.getElem?_drop]
                  simp
                have hone' : ∀ u ∈ olds, u.oneCell' = true := by
                  intro u hu
                  obtain ⟨j, hj, rfl⟩ := List.getElem_of_mem hu
                  have hjl : j < len := by omega
                  obtain ⟨u, hu, h1u, _⟩ := hpv j cs[j] (by simp)
                  have := hog j hjl
                  rw [List.getElem?_eq_getElem hj, hu] at this
                  cases this
                  exact h1u
                have hsrcO : Src P w g.φ 1 (olds.map .sc) (.slice (some ⟨b, k + 0, none⟩) len c) olds := by
                  refine ⟨⟨some ⟨b, k + 0, none⟩, c, by simp [hol]⟩, ⟨by simp, fun i x hx => ?_, fun i x j y hx hy => ?_⟩, fun w1 hw1 => ?_, hone'⟩
                  · rw [List.getElem?_map, Option.map_eq_some_iff] at hx
                    obtain ⟨u, _, rfl⟩ := hx
                    rfl
                  · rw [List.getElem?_map, Option.map_eq_some_iff] at hx
                    obtain ⟨u, hu, rfl⟩ := hx
                    cases j with
                    | zero =>
                      simp [PV.cells] at hy
                      subst hy
                      exact ⟨u, by simpa using hu, hone' u (List.mem_of_getElem? hu), .sc u⟩
                    | succ j => simp [PV.cells] at hy
                  · refine run_firstCells_some (P := P) w1 1 _ ⟨b, k + 0, none⟩ len c olds (by simp) (fun q u hu => ?_)
                    have hq : q < len := by rw [← hol]; exact (List.getElem?_eq_some_iff.1 hu).1
                    rw [add_at, cell_of_block (w := w1) (by rw [hw1]; exact hb), Nat.add_zero, ← hog q hq, hu]
                refine grown (xs := olds.map .sc) (olds := olds) _ (by simp [hol]) hsrcO rfl (by omega) (fun j y hy => ?_) (fun _ _ _ => .inr trivial) (fun j y u hy hu => ?_)
                · have hj : j < len := by rw [← hlen]; exact (List.getElem?_eq_some_iff.1 hy).1
                  obtain ⟨u, hu, h1u, hru⟩ := hpv j y hy
                  exact ⟨u, by rw [hog j hj]; exact hu, h1u, _, hru⟩
                · have hj : j < len := by rw [← hlen]; exact (List.getElem?_eq_some_iff.1 hy).1
                  obtain ⟨u', hu', _, hru⟩ := hpv j y hy
                  rw [hog j hj, hu'] at hu
                  cases hu
                  exact hru
          | _ => cases hr
      · cases h
  · cases h

/-! ### Builtins -/
theorem exec_builtin {b : Builtin} {c : Call} (ho : o.op = .call c) (hc : c.callee = .builtin b) :
    execOp a.eval o = builtin b c.argTypes o.type (c.args.map fun | .const _ => true | _ => false) (c.args.map a.eval) := by
  simp only [execOp, ho, resolve, hc]
  rfl

theorem run_builtin {x : Value} {r : Sem Value} (h : r.run P w = .ok x w') : (do pure (Next.value (← r)) : Sem Next).run P w = .ok (.value x) w' := by
  simp only [Sem.run_bind, h, Result.andThen_ok, Sem.run_pure]

theorem len_ok {c : Call} (hI : Inv w g ow n a st) (ho : o.op = .call c) (hc : c.callee = .builtin .len) (h : bltF P H .len o c st = some (v, st')) : OpOk P o w g ow n a st' v := by
  simp only [bltF] at h
  split at h
  · rename_i x t hx ht
    obtain ⟨own, hr⟩ := rd_ok hI x
    split at h
    · rename_i id hm
      rw [hm] at hr
      obtain ⟨b, k, hid, hβ, he⟩ := hr.mp_inv
      split at h
      · rename_i z kvs hT hent
        simp only [Option.some.injEq, Prod.mk.injEq] at h
        obtain ⟨rfl, rfl⟩ := h
        obtain ⟨hbox, es, clock, hb, hsz, _⟩ := ent_map hI hent hβ
        obtain ⟨kt, et, i, hu, _⟩ := mpT_eq hT
        refine OpOk.pure hI (x := .int .i64 kvs.length) ?_ (.p (.sc _))
        rw [exec_builtin ho hc]
        have hx' : (c.args.map a.eval)[0]? = some (.map (some b)) := by simp [hx, he]
        refine run_builtin ?_
        simp only [Builtin.len_, ht, hx', Sem.run_bind, run_underlying hu, Result.andThen_ok, run_getObj hb, hsz]
        rfl
      · cases h
    · rename_i u hnm hru
      split at h
      · rename_i q len hT hl
        simp only [Option.some.injEq, Prod.mk.injEq] at h
        obtain ⟨rfl, rfl⟩ := h
        obtain ⟨e, s, bb, z⟩ := q
        obtain ⟨hut, _⟩ := slT_eq hT
        obtain ⟨ad, cc, he, hcc⟩ := lenA_rep hr hl
        refine OpOk.pure hI (x := .int .i64 len) ?_ (.p (.sc _))
        rw [exec_builtin ho hc]
        have hx' : (c.args.map a.eval)[0]? = some (.slice ad len cc) := by simp [hx, he]
        refine run_builtin ?_
        simp only [Builtin.len_, ht, hx', Sem.run_bind, run_underlying hut, Result.andThen_ok]
        rfl
      · cases h
  · cases h

theorem mm_ok {mx : Bool} {c : Call} (hI : Inv w g ow n a st) (ho : o.op = .call c) (hc : c.callee = .builtin (if mx then .max else .min)) (h : bltF P H (if mx then .max else .min) o c st = some (v, st')) : OpOk P o w g ow n a st' v := by
  have h' : (match c.args.toList.mapM fun x => (rd st.env x).sc? with
    | some vs => only st ((mm mx vs).map fun v => .p (.sc v))
    | none => none) = some (v, st') := by cases mx <;> exact h
  split at h'
  · rename_i vs hvs
    simp only [only, Option.map_map, Option.map_eq_some_iff, Function.comp, Prod.mk.injEq] at h'
    obtain ⟨r, hr, rfl, rfl⟩ := h'
    -- the operands
    have hl : ∀ (xs : List Operand) (vs : List Value), (xs.mapM fun x => (rd st.env x).sc?) = some vs → xs.map a.eval = vs := by
      intro xs
      induction xs with
      | nil => intro vs h; simp at h; simp [h]
      | cons x xs ih =>
        intro vs h
        simp only [List.mapM_cons, Option.bind_eq_bind, Option.bind_eq_some_iff, Option.pure_def, Option.some.injEq] at h
        obtain ⟨p, hp, q, hq, rfl⟩ := h
        simp only [List.map_cons]
        rw [rd_sc hI (AV.sc?_eq hp), ih q hq]
    have hargs : c.args.map a.eval = vs.toArray := by
      have := hl _ _ hvs
      apply Array.ext'
      simpa using this
    unfold mm at hr
    split at hr
    · rename_i k p k' q
      simp only [Option.some.injEq] at hr
      subst hr
      refine OpOk.pure hI (x := .int k (if mx then (if p < q then q else p) else (if q < p then q else p))) ?_ (.p (.sc _))
      rw [exec_builtin ho hc, hargs]
      cases mx with
      | true => simp [builtin, Builtin.max_, Builtin.max2]
      | false => simp [builtin, Builtin.min_, Builtin.min2]
    · cases hr
  · cases h'

theorem append_ok {c : Call} (hI : Inv w g ow n a st) (ho : o.op = .call c) (hc : c.callee = .builtin .append) (h : bltF P H .append o c st = some (v, st')) : OpOk P o w g ow n a st' v := by
  simp only [bltF] at h
  split at h
  · rename_i x y t t' hx hy ht ht'
    split at h
    · cases h
    · rename_i q hT'
      cases hg : grab true x st with
      | mk u st1 =>
        rw [hg] at h
        dsimp only at h
        split at h
        case isFalse => cases h
        rename_i hfz
        simp only [withσ, Option.map_eq_some_iff] at h
        obtain ⟨⟨r, σ'⟩, hs, h⟩ := h
        simp only [Prod.mk.injEq] at h
        obtain ⟨rfl, rfl⟩ := h
        obtain ⟨ow1, hI1, hr, hn, hσ⟩ := grab_ok hI hg
        obtain ⟨owny, hry⟩ := rd_ok hI y
        have hr := RepA.nz (P := P) (t := t) hr
        have hry := RepA.nz (P := P) (t := t') hry
        unfold appA at hs
        split at hs
        · rename_i e s bb z s2 ys hT hseen
          split at hs
          · cases hs
          · rename_i hcond
            have hs2 : s2 = s := by omega
            have hs0 : 0 < s := by omega
            have hb128 : bb ≤ 128 := by omega
            subst hs2
            obtain ⟨news, hsrc⟩ := src_of_seen (P := P) hI1 hs0 hry (by simpa [hσ] using hseen)
            have hargs : ∀ xv yv, a.eval x = xv → a.eval y = yv → (c.args.map a.eval)[0]? = some xv ∧ (c.args.map a.eval)[1]? = some yv := by
              intro xv yv h1 h2
              exact ⟨by simp [hx, h1], by simp [hy, h2]⟩
            have fin : ∀ {x' : Value} {w2 : World}, (Builtin.append_ #[t, t'] o.type #[a.eval x, a.eval y]).run P w = .ok x' w2 → (execOp a.eval o).run P w = .ok (.value x') w2 := by
              intro x' w2 h2
              rw [exec_builtin ho hc]
              refine run_builtin ?_
              obtain ⟨hx', hy'⟩ := hargs _ _ rfl rfl
              have : Builtin.append_ c.argTypes o.type (c.args.map a.eval) = Builtin.append_ #[t, t'] o.type #[a.eval x, a.eval y] := by
                simp only [Builtin.append_, ht, ht', hx', hy']
                rfl
              rw [this]
              exact h2
            split at hs
            · -- an array stays one
              split at hs
              · rename_i s0 hxu
                simp only [newArr] at hs
                rw [hxu] at hr
                obtain ⟨g1, ow2, hX1, hI2, hr2⟩ := thaw_empty hI1 hr
                have hs' : appR s2 ys (.arr s0 st1.σ.length 0 0 0) (st1.σ ++ [.cells 0 []]) = some (r, σ') := hs
                have hsrc2 : Src P w g1.φ s2 ys (a.eval y) news := ⟨hsrc.1, ⟨hsrc.2.1.1, hsrc.2.1.2.1, fun i x j z hx hz => by
                    obtain ⟨u, hu, h1u, hru⟩ := hsrc.2.1.2.2 i x j z hx hz
                    exact ⟨u, hu, h1u, hru.keep hX1.stab⟩⟩, hsrc.2.2.1, hsrc.2.2.2⟩
                obtain ⟨x', w2, g2, ow3, hrun, hX2, hI3, hr3⟩ := appR_ok (ty := o.type) hT hT' hs0 hb128 hI2 hr2 hsrc2 hs'
                exact ⟨x', w2, g2, ow3, .inl (fin hrun), ((Ext.ow hn).trans hX1).trans hX2, hI3, hr3.free⟩
              · obtain ⟨x', w2, g2, ow3, hrun, hX2, hI3, hr3⟩ := appR_ok (ty := o.type) hT hT' hs0 hb128 hI1 hr hsrc hs
                exact ⟨x', w2, g2, ow3, .inl (fin hrun), (Ext.ow hn).trans hX2, hI3, hr3.free⟩
            · split at hs
              · rename_i f σ1 hf
                obtain ⟨g1, ow2, hX1, hI2, hr2⟩ := freeze_ok hI1 hr hf
                have hsrc2 : Src P w g1.φ s2 ys (a.eval y) news := ⟨hsrc.1, ⟨hsrc.2.1.1, hsrc.2.1.2.1, fun i x j z hx hz => by
                    obtain ⟨u, hu, h1u, hru⟩ := hsrc.2.1.2.2 i x j z hx hz
                    exact ⟨u, hu, h1u, hru.keep hX1.stab⟩⟩, hsrc.2.2.1, hsrc.2.2.2⟩
                obtain ⟨hσ', x', w2, g2, ow3, hrun, hX2, hI3, hr3⟩ := appO_ok (ty := o.type) (st := { st1 with σ := σ1 }) hT hT' hs0 hb128 hI2 hr2 hsrc2 hs
                subst hσ'
                exact ⟨x', w2, g2, ow3, .inl (fin hrun), ((Ext.ow hn).trans hX1).trans hX2, hI3, hr3⟩
              · cases hs
        · cases hs
  · cases h

end
end Go.Ab
