/- append; len, min, max. -/
import Derived.Test.YtipepkfioecbmaaDoorAb11
set_option linter.unusedVariables false
set_option linter.unusedSimpArgs false
namespace Go.Ab
section
variable {P : Program} {H : Hint} {o : Oper} {w w' : World} {g : Gm} {ow ow' : Ow} {n : Nat} {a : Act} {st st' : St} {v : AV}

/-- The cells of a slice that is read, one row. -/
def Src (P : Program) (w : World) (φ : Nat → Nat) (s : Nat) (ys : List PV) (y : Value) (news : List Value) : Prop :=
  (∃ ad c, y = .slice ad ys.length c) ∧ Rows w φ s ys news.toArray ∧ (∀ w1 : World, w1.heap = w.heap → (Builtin.firstCells s ys.length y).run P w1 = .ok news.toArray w1) ∧ ∀ u ∈ news, u.oneCell' = true

theorem rows_one {φ : Nat → Nat} {s : Nat} {ys : List PV} {news : List Value} (hs : 0 < s) (hR : Rows w φ s ys news.toArray) : ∀ u ∈ news, u.oneCell' = true := by
  intro u hu
  obtain ⟨q, hq, rfl⟩ := List.getElem_of_mem hu
  have h1 := hR.1
  simp only [List.size_toArray] at h1
  have hdiv : q / s < ys.length := by
    rw [Nat.div_lt_iff_lt_mul hs]; omega
  have hx := hR.2.1 (q / s) ys[q / s] (by simp [hdiv])
  have hmod : q % s < ys[q / s].cells.length := by rw [hx]; exact Nat.mod_lt _ hs
  obtain ⟨u, hu, h1u, _⟩ := hR.2.2 (q / s) ys[q / s] (q % s) (ys[q / s].cells[q % s]) (by simp [hdiv]) (by simp [hmod])
  have : q / s * s + q % s = q := by rw [Nat.mul_comm]; exact Nat.div_add_mod q s
  rw [this] at hu
  simp [hq] at hu
  rw [hu]; exact h1u

theorem src_of_rep {φ : Nat → Nat} {s : Nat} {ys : List PV} {y : Value} (hs : 0 < s) (h : RepP w φ (.sl s ys) y) : ∃ news, Src P w φ s ys y news := by
  cases h with
  | nil s ad c =>
    refine ⟨[], ⟨ad, c, rfl⟩, ⟨by simp, by simp, by simp⟩, fun w1 _ => ?_, by simp⟩
    cases ad <;> simp [Builtin.firstCells, loadCells, loadCellsFrom]
  | sl _ _ b k c val h0 hs' hc hφ hl hv h1 hr =>
    let news := (List.range (ys.length * s)).map fun q => val (q / s) (q % s)
    have hlen : news.length = ys.length * s := by simp [news]
    have hget : ∀ (i : Nat) x (j : Nat) z, ys[i]? = some x → x.cells[j]? = some z → news[i * s + j]? = some (val i j) := by
      intro i x j z hx hz
      have hj : j < s := by rw [← hl i x hx]; exact (List.getElem?_eq_some_iff.1 hz).1
      have hlt := PV.cell_idx hl hx hz
      simp only [news, List.getElem?_map, List.getElem?_range hlt, Option.map_some, Option.some.injEq]
      rw [show (i * s + j) / s = i by rw [Nat.mul_comm, Nat.mul_add_div hs, Nat.div_eq_of_lt hj, Nat.add_zero], show (i * s + j) % s = j by rw [Nat.mul_comm, Nat.mul_add_mod, Nat.mod_eq_of_lt hj]]
    have hR : Rows w φ s ys news.toArray := ⟨by simpa using hlen, hl, fun i x j z hx hz => ⟨val i j, by simpa using hget i x j z hx hz, h1 i x j z hx hz, hr i x j z hx hz⟩⟩
    refine ⟨news, ⟨_, c, rfl⟩, hR, fun w1 hw1 => ?_, rows_one hs hR⟩
    refine run_firstCells_some (P := P) w1 s ys.length ⟨b, k, none⟩ ys.length c news hlen (fun q u hu => ?_)
    have hq : q < ys.length * s := by rw [← hlen]; exact (List.getElem?_eq_some_iff.1 hu).1
    have hdiv : q / s < ys.length := by rw [Nat.div_lt_iff_lt_mul hs]; exact hq
    have hx := hl (q / s) ys[q / s] (by simp [hdiv])
    have hmod : q % s < ys[q / s].cells.length := by rw [hx]; exact Nat.mod_lt _ hs
    have hc := hv (q / s) ys[q / s] (q % s) (ys[q / s].cells[q % s]) (by simp [hdiv]) (by simp [hmod])
    have hqq : q / s * s + q % s = q := by rw [Nat.mul_comm]; exact Nat.div_add_mod q s
    rw [Nat.add_assoc, hqq] at hc
    rw [add_at, cell_block (w := w) (by rw [hw1]), hc]
    simp only [news, List.getElem?_map, List.getElem?_range hq, Option.map_some, Option.some.injEq] at hu
    rw [hu]

theorem src_of_seen {own : List Nat → Nat → Prop} {s : Nat} {ys : List PV} {u : AV} {y : Value} (hI : Inv w g ow n a st) (hs : 0 < s) (hr : RepA w g own u y) (h : seen u st.σ = some (s, ys)) : ∃ news, Src P w g.φ s ys y news := by
  unfold seen at h
  split at h
  · rename_i s' id ver off len
    split at h
    · rename_i ver' cs hent
      split at h
      · rename_i hc
        obtain ⟨rfl, rfl, hle⟩ := hc
        rw [Option.map_eq_some_iff] at h
        obtain ⟨ds, hds, h⟩ := h
        simp only [Prod.mk.injEq] at h
        obtain ⟨rfl, rfl⟩ := h
        obtain ⟨hl, hpv⟩ := pvL_some hds
        have hdl : ds.length = len := by rw [← hl]; simp; omega
        generalize hy : y = yy at hr
        cases hr with
        | arr0 _ _ _ ad =>
          have : ds = [] := List.eq_nil_of_length_eq_zero hdl
          subst this hy
          exact src_of_rep (by omega) (.nil 1 ad 0)
        | arr _ _ _ _ _ b k c arr e hi hV hβ hb hz hcc =>
          subst hy
          obtain ⟨_, _, _, _, arr', e', hb', hsz, hcells⟩ := ent_cells hI hent hβ
          rw [hb] at hb'
          cases hb'
          let news := (arr.toList.drop (k + off)).take len
          have hnl : news.length = len := by simp [news]; omega
          have hnews : ∀ j, j < len → news[j]? = arr[k + off + j]? := by
            intro j hj
            simp only [news, List.getElem?_take, hj, if_true, List.getElem?_drop]
            simp
          have helem : ∀ (i : Nat) x, ds[i]? = some x → ∃ u, news[i]? = some u ∧ u.oneCell' = true ∧ RepP w g.φ x u ∧ x.cells = [x] := by
            intro i x hx
            have hi : i < len := by rw [← hdl]; exact (List.getElem?_eq_some_iff.1 hx).1
            obtain ⟨q, hq, hqp⟩ := hpv i x hx
            rw [List.getElem?_take, if_pos hi, List.getElem?_drop] at hq
            obtain ⟨u, hu, h1u, hru⟩ := hcells _ q hq
            exact ⟨u, by rw [hnews i hi, Nat.add_assoc]; exact hu, h1u, hru.pv hqp, AV.pv_cells hru hqp h1u⟩
          have hR : Rows w g.φ 1 ds news.toArray := ⟨by simp [hnl, hdl], fun i x hx => by rw [(helem i x hx).choose_spec.2.2.2]; rfl, fun i x j z hx hz => by
            obtain ⟨u, hu, h1u, hru, hone⟩ := helem i x hx
            rw [hone] at hz
            cases j with
            | zero => simp at hz; subst hz; exact ⟨u, by simpa using hu, h1u, hru⟩
            | succ j => simp at hz⟩
          refine ⟨news, ⟨_, c, by rw [hdl]⟩, hR, fun w1 hw1 => ?_, rows_one (by omega) hR⟩
          refine run_firstCells_some (P := P) w1 1 ds.length ⟨b, k + off, none⟩ len c news (by omega) (fun q u hu => ?_)
          have hq : q < len := by rw [← hnl]; exact (List.getElem?_eq_some_iff.1 hu).1
          rw [add_at, cell_of_block (w := w1) (by rw [hw1]; exact hb), ← hnews q hq, hu]
      · cases h
    · cases h
  · exact src_of_rep hs (hr.elems h)

/-! ### The machine's append -/
theorem run_app_room {t t' ty e : TypeId} {s bb : Nat} {z : List Value} (hT : slT P t = some (e, s, bb, z)) {q : TypeId × Nat × Nat × List Value} (hT' : slT P t' = some q)
    {b k c m0 : Nat} {arr : Array Value} {e' : TypeId} (hb : w.heap[b]? = some (.cells arr e' (0, 0))) {ys : List PV} {y : Value} {news : List Value} (hsrc : Src P w g.φ s ys y news)
    (hroom : m0 + ys.length ≤ c) (hle : k + c * s ≤ arr.size) :
    (Builtin.append_ #[t, t'] ty #[.slice (some ⟨b, k, none⟩) m0 c, y]).run P w =
      .ok (.slice (some ⟨b, k, none⟩) (m0 + ys.length) c) (w.setRow b (arr.toList.take (k + m0 * s) ++ news ++ arr.toList.drop (k + m0 * s + ys.length * s)).toArray) := by
  obtain ⟨hu, i, zv, hi, hz, hs, hbb, rfl⟩ := slT_eq hT
  obtain ⟨e2, s2, b2, z2⟩ := q
  obtain ⟨hu2, _⟩ := slT_eq hT'
  obtain ⟨⟨ad, yc, rfl⟩, hR, hfc, hone⟩ := hsrc
  have hnl : news.length = ys.length * s := by simpa using hR.1
  have hmul : m0 * s + ys.length * s ≤ c * s := by rw [← Nat.add_mul]; exact Nat.mul_le_mul_right s hroom
  have hst := run_storeCells_at P b (k + m0 * s) e' news 0 arr w hb (by omega) hone
  simp only [Nat.add_zero, hnl] at hst
  subst hs
  simp [Builtin.append_, run_underlying hu, run_underlying hu2, run_sizeOf' w hi, Builtin.lenOf, hroom, hfc w rfl, add_at, hst]

theorem run_app_none {t t' ty e : TypeId} {s bb : Nat} {z : List Value} (hT : slT P t = some (e, s, bb, z)) {q : TypeId × Nat × Nat × List Value} (hT' : slT P t' = some q) (ad : Option Addr)
    {y : Value} {news : List Value} (hsrc : Src P w g.φ s [] y news) : (Builtin.append_ #[t, t'] ty #[.slice ad 0 0, y]).run P w = .ok (.slice ad 0 0) w := by
  obtain ⟨hu, i, zv, hi, hz, hs, hbb, rfl⟩ := slT_eq hT
  obtain ⟨e2, s2, b2, z2⟩ := q
  obtain ⟨hu2, _⟩ := slT_eq hT'
  obtain ⟨⟨yd, yc, rfl⟩, hR, hfc, hone⟩ := hsrc
  have hnl : news = [] := by have := hR.1; simp at this; exact this
  subst hnl hs
  have := hfc w rfl
  simp only [List.length_nil] at this
  cases ad <;> simp [Builtin.append_, run_underlying hu, run_underlying hu2, run_sizeOf' w hi, Builtin.lenOf, this, storeCells]

theorem run_app_grow {t t' ty e : TypeId} {s bb : Nat} {z : List Value} (hT : slT P t = some (e, s, bb, z)) {q : TypeId × Nat × Nat × List Value} (hT' : slT P t' = some q) (hb128 : bb ≤ 128)
    {xs : List PV} {x : Value} {olds : List Value} (hold : Src P w g.φ s xs x olds) {c : Nat} (hx : ∃ ad, x = .slice ad xs.length c) {ys : List PV} {y : Value} {news : List Value} (hsrc : Src P w g.φ s ys y news)
    (hgrow : c < xs.length + ys.length) (hlim : xs.length + ys.length ≤ limit) :
    (Builtin.append_ #[t, t'] ty #[x, y]).run P w = .ok (.slice (some ⟨w.heap.size, 0, none⟩) (xs.length + ys.length) (grownCap w (xs.length + ys.length) c e))
      (w.drew.alloc (.cells (olds.toArray ++ news.toArray ++ Builtin.zeroCells z.toArray (grownCap w (xs.length + ys.length) c e - (xs.length + ys.length))) e)) := by
  obtain ⟨hu, i, zv, hi, hz, hs, hbb, rfl⟩ := slT_eq hT
  obtain ⟨e2, s2, b2, z2⟩ := q
  obtain ⟨hu2, _⟩ := slT_eq hT'
  obtain ⟨⟨yd, yc, rfl⟩, hR, hfc, hone⟩ := hsrc
  obtain ⟨_, hR0, hfc0, _⟩ := hold
  obtain ⟨ad, rfl⟩ := hx
  unfold limit at hlim
  subst hs hbb
  have hfit : Builtin.nextslicecap (xs.length + ys.length) c * i.bytes ≤ 281474976710656 := growslice_fits hgrow (by
    have : (xs.length + ys.length) * i.bytes ≤ 1099511627776 * 128 := Nat.mul_le_mul hlim hb128
    omega)
  have h1 : ¬ (xs.length + ys.length ≤ c) := by omega
  have h2 : ¬ (9223372036854775807 < ((xs.length : Int) + (ys.length : Int))) := by omega
  have h3 : ¬ (281474976710656 < Builtin.nextslicecap (xs.length + ys.length) c * i.bytes) := by omega
  have hf0 := hfc0 w.drew rfl
  have hf1 := hfc w.drew rfl
  simp [Builtin.append_, run_underlying hu, run_underlying hu2, sizeOf, typeInfo, zeroValue, hi, hz, Builtin.lenOf, h1, h2, h3, Question.forced, hf0, hf1, newRow, grownCap]
  congr 2
  apply Array.ext'
  simp [List.append_assoc]

end
end Go.Ab
