/- The law AdderLeastMonotone, its contract. -/
import Derived.Test.YtipepkfioecbmaaDoorFr
set_option maxRecDepth 20000
set_option maxHeartbeats 4000000
set_option linter.unusedVariables false
set_option linter.unusedSimpArgs false
namespace Go.Proofs.Tryd
open Go.Ab Go.Adder

theorem leastF_ok {l : List Int} (hl : l.length ≤ 60) (hb : ∀ x ∈ l, -60 ≤ x ∧ x ≤ 60) {k : Int} (hk : 0 ≤ k ∧ k ≤ 4503599627370496) : ∃ c, leastF l k = (c, 0) := by
  unfold leastF
  have : l.any oddK = false := by
    simp only [List.any_eq_false]
    intro x hx
    have := hb x hx
    simp [oddK]; omega
  rw [if_neg (by rw [this]; simp; omega), if_neg (by omega)]
  exact ⟨_, rfl⟩
theorem leastF_nz {l : List Int} {k : Int} {out : List (List Int)} {er : Int} (h : leastF l k = (out, er)) : ∀ r ∈ out, ∀ x ∈ r, x ≠ 0 := by
  unfold leastF at h
  split at h
  · cases h; simp
  · split at h
    · cases h; simp
    · cases h
      intro r hr x hx
      obtain ⟨p, _, rfl⟩ := List.mem_map.1 hr
      unfold clauF at hx
      obtain ⟨y, hy, rfl⟩ := List.mem_map.1 hx
      have := (List.mem_filter.1 hy).2
      simp only [pickF, Bool.and_eq_true, decide_eq_true_eq] at this
      exact this.1
theorem least_check {l : List Int} (hl : l.length ≤ 60) (hb : ∀ x ∈ l, -60 ≤ x ∧ x ≤ 60) {k : Int} {c : List (List Int)} (h : leastF l k = (c, 0)) (a : List Bool) : valueF 60 c a = decide (k ≤ (numF l a : Int)) := by
  obtain ⟨h1, h2, h3⟩ := least_correct hl h a
  have hm := leastF_mem h
  have hz := leastF_nz h
  have hany : (c.any fun l => l.any fun x => !mayF x 60) = false := by
    simp only [List.any_eq_false]
    intro r hr
    simp only [Bool.not_eq_true, List.any_eq_false]
    intro x hx
    have h4 := hb x (hm r hr x hx)
    have h5 := hz r hr x hx
    simp [mayF, h4, h5]
  have hch : checkF 60 c = 0 := by
    have h6 : ¬ 65536 < c.length := by omega
    simp only [checkF, hany, Bool.false_eq_true, if_false, h6]
    decide
  rw [valueF, hch, h1]
  simp

theorem ret10 (l : List Int) (k b pick : Int) (hl : l.length ≤ maxLen) (hlr : ∀ n ∈ l, -9223372036854775808 ≤ n ∧ n < 9223372036854775808) (hk : -9223372036854775808 ≤ k ∧ k < 9223372036854775808) (hby : -9223372036854775808 ≤ b ∧ b < 9223372036854775808) (hpick : -9223372036854775808 ≤ pick ∧ pick < 9223372036854775808) :
    Ret Tryd.prog 10 [.p (.sl 1 (ints l)), iv k, iv b, iv pick] [] (bv true) [] := by
  refine ret_of_walkG (H := {}) (dr := commB {}) Tryd.func10 rfl (by kernel_rfl) (Nat.le_of_ble_eq_true rfl) (by kernel_rfl) (DrOk.comm mix) (Nat.le_refl _) ?_
  simp -implicitDefEqProofs (disch := first | assumption | omega | (simp only [ints_len, rows_len, icells_len, List.length_cons, List.length_nil, List.length_append, List.length_map, List.length_replicate, List.length_set, List.length_take, List.length_drop, limit]; omega) | (simp only [List.length_cons, List.length_nil])) only [go_sem, List.elem, ↓reduceIte, reduceCtorEq, Nat.reduceEqDiff, Nat.reduceBEq, Nat.reduceAdd, Int.reduceAdd, Int.reduceSub, Int.reduceToNat, Int.reduceNeg]
  refine callG_pure ret12 rfl rfl ?_
  by_cases h1 : 60 < (l.length : Int)
  · simp -implicitDefEqProofs (disch := first | assumption | omega | (simp only [ints_len, rows_len, icells_len, List.length_cons, List.length_nil, List.length_append, List.length_map, List.length_replicate, List.length_set, List.length_take, List.length_drop, limit]; omega) | (simp only [List.length_cons, List.length_nil])) only [go_sem, List.elem, ↓reduceIte, reduceCtorEq, Nat.reduceEqDiff, Nat.reduceBEq, Nat.reduceAdd, Int.reduceAdd, Int.reduceSub, Int.reduceToNat, Int.reduceNeg, h1]
    exact end_one0 (.inl rfl) rfl (by simp -implicitDefEqProofs (disch := first | assumption | omega | (simp only [ints_len, rows_len, icells_len, List.length_cons, List.length_nil, List.length_append, List.length_map, List.length_replicate, List.length_set, List.length_take, List.length_drop, limit]; omega) | (simp only [List.length_cons, List.length_nil])) only [go_sem, List.elem, ↓reduceIte, reduceCtorEq, Nat.reduceEqDiff, Nat.reduceBEq, Nat.reduceAdd, Int.reduceAdd, Int.reduceSub, Int.reduceToNat, Int.reduceNeg]) (.inl rfl) rfl
  by_cases h2 : b < 0
  · simp -implicitDefEqProofs (disch := first | assumption | omega | (simp only [ints_len, rows_len, icells_len, List.length_cons, List.length_nil, List.length_append, List.length_map, List.length_replicate, List.length_set, List.length_take, List.length_drop, limit]; omega) | (simp only [List.length_cons, List.length_nil])) only [go_sem, List.elem, ↓reduceIte, reduceCtorEq, Nat.reduceEqDiff, Nat.reduceBEq, Nat.reduceAdd, Int.reduceAdd, Int.reduceSub, Int.reduceToNat, Int.reduceNeg, h1, h2]
    exact end_one0 (.inl rfl) rfl (by simp -implicitDefEqProofs (disch := first | assumption | omega | (simp only [ints_len, rows_len, icells_len, List.length_cons, List.length_nil, List.length_append, List.length_map, List.length_replicate, List.length_set, List.length_take, List.length_drop, limit]; omega) | (simp only [List.length_cons, List.length_nil])) only [go_sem, List.elem, ↓reduceIte, reduceCtorEq, Nat.reduceEqDiff, Nat.reduceBEq, Nat.reduceAdd, Int.reduceAdd, Int.reduceSub, Int.reduceToNat, Int.reduceNeg]) (.inl rfl) rfl
  by_cases h3 : 1099511627776 < b
  · simp -implicitDefEqProofs (disch := first | assumption | omega | (simp only [ints_len, rows_len, icells_len, List.length_cons, List.length_nil, List.length_append, List.length_map, List.length_replicate, List.length_set, List.length_take, List.length_drop, limit]; omega) | (simp only [List.length_cons, List.length_nil])) only [go_sem, List.elem, ↓reduceIte, reduceCtorEq, Nat.reduceEqDiff, Nat.reduceBEq, Nat.reduceAdd, Int.reduceAdd, Int.reduceSub, Int.reduceToNat, Int.reduceNeg, h1, h2, h3]
    exact end_one0 (.inl rfl) rfl (by simp -implicitDefEqProofs (disch := first | assumption | omega | (simp only [ints_len, rows_len, icells_len, List.length_cons, List.length_nil, List.length_append, List.length_map, List.length_replicate, List.length_set, List.length_take, List.length_drop, limit]; omega) | (simp only [List.length_cons, List.length_nil])) only [go_sem, List.elem, ↓reduceIte, reduceCtorEq, Nat.reduceEqDiff, Nat.reduceBEq, Nat.reduceAdd, Int.reduceAdd, Int.reduceSub, Int.reduceToNat, Int.reduceNeg]) (.inl rfl) rfl
  by_cases h4 : 1099511627776 < k
  · simp -implicitDefEqProofs (disch := first | assumption | omega | (simp only [ints_len, rows_len, icells_len, List.length_cons, List.length_nil, List.length_append, List.length_map, List.length_replicate, List.length_set, List.length_take, List.length_drop, limit]; omega) | (simp only [List.length_cons, List.length_nil])) only [go_sem, List.elem, ↓reduceIte, reduceCtorEq, Nat.reduceEqDiff, Nat.reduceBEq, Nat.reduceAdd, Int.reduceAdd, Int.reduceSub, Int.reduceToNat, Int.reduceNeg, h1, h2, h3, h4]
    exact end_one0 (.inl rfl) rfl (by simp -implicitDefEqProofs (disch := first | assumption | omega | (simp only [ints_len, rows_len, icells_len, List.length_cons, List.length_nil, List.length_append, List.length_map, List.length_replicate, List.length_set, List.length_take, List.length_drop, limit]; omega) | (simp only [List.length_cons, List.length_nil])) only [go_sem, List.elem, ↓reduceIte, reduceCtorEq, Nat.reduceEqDiff, Nat.reduceBEq, Nat.reduceAdd, Int.reduceAdd, Int.reduceSub, Int.reduceToNat, Int.reduceNeg]) (.inl rfl) rfl
  simp -implicitDefEqProofs (disch := first | assumption | omega | (simp only [ints_len, rows_len, icells_len, List.length_cons, List.length_nil, List.length_append, List.length_map, List.length_replicate, List.length_set, List.length_take, List.length_drop, limit]; omega) | (simp only [List.length_cons, List.length_nil])) only [go_sem, List.elem, ↓reduceIte, reduceCtorEq, Nat.reduceEqDiff, Nat.reduceBEq, Nat.reduceAdd, Int.reduceAdd, Int.reduceSub, Int.reduceToNat, Int.reduceNeg, h1, h2, h3, h4]
  refine loopK_inv (fun m st => ∃ j : Nat, j + m = l.length ∧ (∀ i, i < j → ∀ x, l[i]? = some x → -60 ≤ x ∧ x ≤ 60) ∧ st.env 0 = .p (.sl 1 (ints l)) ∧ st.env 1 = iv k ∧ st.env 2 = iv b ∧ st.env 3 = iv pick ∧ st.env 9 = iv j ∧ st.σ = []) l.length ?_
    ⟨0, by omega, by omega, by simp -implicitDefEqProofs (disch := first | assumption | omega | (simp only [ints_len, rows_len, icells_len, List.length_cons, List.length_nil, List.length_append, List.length_map, List.length_replicate, List.length_set, List.length_take, List.length_drop, limit]; omega) | (simp only [List.length_cons, List.length_nil])) only [go_sem, List.elem, ↓reduceIte, reduceCtorEq, Nat.reduceEqDiff, Nat.reduceBEq, Nat.reduceAdd, Int.reduceAdd, Int.reduceSub, Int.reduceToNat, Int.reduceNeg], by simp -implicitDefEqProofs (disch := first | assumption | omega | (simp only [ints_len, rows_len, icells_len, List.length_cons, List.length_nil, List.length_append, List.length_map, List.length_replicate, List.length_set, List.length_take, List.length_drop, limit]; omega) | (simp only [List.length_cons, List.length_nil])) only [go_sem, List.elem, ↓reduceIte, reduceCtorEq, Nat.reduceEqDiff, Nat.reduceBEq, Nat.reduceAdd, Int.reduceAdd, Int.reduceSub, Int.reduceToNat, Int.reduceNeg], by simp -implicitDefEqProofs (disch := first | assumption | omega | (simp only [ints_len, rows_len, icells_len, List.length_cons, List.length_nil, List.length_append, List.length_map, List.length_replicate, List.length_set, List.length_take, List.length_drop, limit]; omega) | (simp only [List.length_cons, List.length_nil])) only [go_sem, List.elem, ↓reduceIte, reduceCtorEq, Nat.reduceEqDiff, Nat.reduceBEq, Nat.reduceAdd, Int.reduceAdd, Int.reduceSub, Int.reduceToNat, Int.reduceNeg], by simp -implicitDefEqProofs (disch := first | assumption | omega | (simp only [ints_len, rows_len, icells_len, List.length_cons, List.length_nil, List.length_append, List.length_map, List.length_replicate, List.length_set, List.length_take, List.length_drop, limit]; omega) | (simp only [List.length_cons, List.length_nil])) only [go_sem, List.elem, ↓reduceIte, reduceCtorEq, Nat.reduceEqDiff, Nat.reduceBEq, Nat.reduceAdd, Int.reduceAdd, Int.reduceSub, Int.reduceToNat, Int.reduceNeg], by simp -implicitDefEqProofs (disch := first | assumption | omega | (simp only [ints_len, rows_len, icells_len, List.length_cons, List.length_nil, List.length_append, List.length_map, List.length_replicate, List.length_set, List.length_take, List.length_drop, limit]; omega) | (simp only [List.length_cons, List.length_nil])) only [go_sem, List.elem, ↓reduceIte, reduceCtorEq, Nat.reduceEqDiff, Nat.reduceBEq, Nat.reduceAdd, Int.reduceAdd, Int.reduceSub, Int.reduceToNat, Int.reduceNeg], rfl⟩
  rintro Q m ⟨e, σ⟩ hQ ⟨j, hj, hok, h0, h1', h2', h3', h9, hσ⟩
  simp only at h0 h1' h2' h3' h9 hσ
  subst hσ
  by_cases hjl : (j : Int) < l.length
  · have hv : l[j]? = some l[j] := by simp
    generalize hx : l[j] = x at *
    simp -implicitDefEqProofs (disch := first | assumption | omega | (simp only [ints_len, rows_len, icells_len, List.length_cons, List.length_nil, List.length_append, List.length_map, List.length_replicate, List.length_set, List.length_take, List.length_drop, limit]; omega) | (simp only [List.length_cons, List.length_nil])) only [go_sem, List.elem, ↓reduceIte, reduceCtorEq, Nat.reduceEqDiff, Nat.reduceBEq, Nat.reduceAdd, Int.reduceAdd, Int.reduceSub, Int.reduceToNat, Int.reduceNeg, h0, h1', h9, hjl, hv]
    refine drawK_lex (by kernel_rfl) ?_
    by_cases b1 : 60 < max x (IntKind.i64.wrap (0 - x))
    · simp -implicitDefEqProofs (disch := first | assumption | omega | (simp only [ints_len, rows_len, icells_len, List.length_cons, List.length_nil, List.length_append, List.length_map, List.length_replicate, List.length_set, List.length_take, List.length_drop, limit]; omega) | (simp only [List.length_cons, List.length_nil])) only [go_sem, List.elem, ↓reduceIte, reduceCtorEq, Nat.reduceEqDiff, Nat.reduceBEq, Nat.reduceAdd, Int.reduceAdd, Int.reduceSub, Int.reduceToNat, Int.reduceNeg, b1]
      exact end_one0 (.inl rfl) rfl (by simp -implicitDefEqProofs (disch := first | assumption | omega | (simp only [ints_len, rows_len, icells_len, List.length_cons, List.length_nil, List.length_append, List.length_map, List.length_replicate, List.length_set, List.length_take, List.length_drop, limit]; omega) | (simp only [List.length_cons, List.length_nil])) only [go_sem, List.elem, ↓reduceIte, reduceCtorEq, Nat.reduceEqDiff, Nat.reduceBEq, Nat.reduceAdd, Int.reduceAdd, Int.reduceSub, Int.reduceToNat, Int.reduceNeg]) (.inl rfl) rfl
    by_cases b2 : x < -60
    · simp -implicitDefEqProofs (disch := first | assumption | omega | (simp only [ints_len, rows_len, icells_len, List.length_cons, List.length_nil, List.length_append, List.length_map, List.length_replicate, List.length_set, List.length_take, List.length_drop, limit]; omega) | (simp only [List.length_cons, List.length_nil])) only [go_sem, List.elem, ↓reduceIte, reduceCtorEq, Nat.reduceEqDiff, Nat.reduceBEq, Nat.reduceAdd, Int.reduceAdd, Int.reduceSub, Int.reduceToNat, Int.reduceNeg, h0, h9, hv, b1, b2]
      exact end_one0 (.inl rfl) rfl (by simp -implicitDefEqProofs (disch := first | assumption | omega | (simp only [ints_len, rows_len, icells_len, List.length_cons, List.length_nil, List.length_append, List.length_map, List.length_replicate, List.length_set, List.length_take, List.length_drop, limit]; omega) | (simp only [List.length_cons, List.length_nil])) only [go_sem, List.elem, ↓reduceIte, reduceCtorEq, Nat.reduceEqDiff, Nat.reduceBEq, Nat.reduceAdd, Int.reduceAdd, Int.reduceSub, Int.reduceToNat, Int.reduceNeg]) (.inl rfl) rfl
    simp -implicitDefEqProofs (disch := first | assumption | omega | (simp only [ints_len, rows_len, icells_len, List.length_cons, List.length_nil, List.length_append, List.length_map, List.length_replicate, List.length_set, List.length_take, List.length_drop, limit]; omega) | (simp only [List.length_cons, List.length_nil])) only [go_sem, List.elem, ↓reduceIte, reduceCtorEq, Nat.reduceEqDiff, Nat.reduceBEq, Nat.reduceAdd, Int.reduceAdd, Int.reduceSub, Int.reduceToNat, Int.reduceNeg, h0, h9, hv, b1, b2]
    refine hQ (m - 1) _ (by omega) ⟨j + 1, by omega, fun i hi y hy => ?_, by simp -implicitDefEqProofs (disch := first | assumption | omega | (simp only [ints_len, rows_len, icells_len, List.length_cons, List.length_nil, List.length_append, List.length_map, List.length_replicate, List.length_set, List.length_take, List.length_drop, limit]; omega) | (simp only [List.length_cons, List.length_nil])) only [go_sem, List.elem, ↓reduceIte, reduceCtorEq, Nat.reduceEqDiff, Nat.reduceBEq, Nat.reduceAdd, Int.reduceAdd, Int.reduceSub, Int.reduceToNat, Int.reduceNeg, h0], by simp -implicitDefEqProofs (disch := first | assumption | omega | (simp only [ints_len, rows_len, icells_len, List.length_cons, List.length_nil, List.length_append, List.length_map, List.length_replicate, List.length_set, List.length_take, List.length_drop, limit]; omega) | (simp only [List.length_cons, List.length_nil])) only [go_sem, List.elem, ↓reduceIte, reduceCtorEq, Nat.reduceEqDiff, Nat.reduceBEq, Nat.reduceAdd, Int.reduceAdd, Int.reduceSub, Int.reduceToNat, Int.reduceNeg, h1'], by simp -implicitDefEqProofs (disch := first | assumption | omega | (simp only [ints_len, rows_len, icells_len, List.length_cons, List.length_nil, List.length_append, List.length_map, List.length_replicate, List.length_set, List.length_take, List.length_drop, limit]; omega) | (simp only [List.length_cons, List.length_nil])) only [go_sem, List.elem, ↓reduceIte, reduceCtorEq, Nat.reduceEqDiff, Nat.reduceBEq, Nat.reduceAdd, Int.reduceAdd, Int.reduceSub, Int.reduceToNat, Int.reduceNeg, h2'], by simp -implicitDefEqProofs (disch := first | assumption | omega | (simp only [ints_len, rows_len, icells_len, List.length_cons, List.length_nil, List.length_append, List.length_map, List.length_replicate, List.length_set, List.length_take, List.length_drop, limit]; omega) | (simp only [List.length_cons, List.length_nil])) only [go_sem, List.elem, ↓reduceIte, reduceCtorEq, Nat.reduceEqDiff, Nat.reduceBEq, Nat.reduceAdd, Int.reduceAdd, Int.reduceSub, Int.reduceToNat, Int.reduceNeg, h3'], by simp -implicitDefEqProofs (disch := first | assumption | omega | (simp only [ints_len, rows_len, icells_len, List.length_cons, List.length_nil, List.length_append, List.length_map, List.length_replicate, List.length_set, List.length_take, List.length_drop, limit]; omega) | (simp only [List.length_cons, List.length_nil])) only [go_sem, List.elem, ↓reduceIte, reduceCtorEq, Nat.reduceEqDiff, Nat.reduceBEq, Nat.reduceAdd, Int.reduceAdd, Int.reduceSub, Int.reduceToNat, Int.reduceNeg] <;> rfl, rfl⟩
    by_cases hij : i = j
    · subst hij; rw [hv] at hy; cases hy; omega
    · exact hok i (by omega) y hy
  have hall : ∀ x ∈ l, -60 ≤ x ∧ x ≤ 60 := by
    intro x hx
    obtain ⟨i, hi, rfl⟩ := List.getElem_of_mem hx
    exact hok i (by omega) _ (List.getElem?_eq_getElem hi)
  have hI : ∀ x ∈ l, I64 x := fun x hx => hlr x hx
  obtain ⟨c, er, hc⟩ : ∃ c er, leastF l k = (c, er) := ⟨_, _, rfl⟩
  obtain ⟨d, fr, hd⟩ : ∃ d fr, leastF l (k + b) = (d, fr) := ⟨_, _, rfl⟩
  simp -implicitDefEqProofs (disch := first | assumption | omega | (simp only [ints_len, rows_len, icells_len, List.length_cons, List.length_nil, List.length_append, List.length_map, List.length_replicate, List.length_set, List.length_take, List.length_drop, limit]; omega) | (simp only [List.length_cons, List.length_nil])) only [go_sem, List.elem, ↓reduceIte, reduceCtorEq, Nat.reduceEqDiff, Nat.reduceBEq, Nat.reduceAdd, Int.reduceAdd, Int.reduceSub, Int.reduceToNat, Int.reduceNeg, h0, h1', h2', h3', h9, hjl]
  refine callG_pure (ret17 l k (by omega) c er hc) rfl rfl ?_
  simp -implicitDefEqProofs (disch := first | assumption | omega | (simp only [ints_len, rows_len, icells_len, List.length_cons, List.length_nil, List.length_append, List.length_map, List.length_replicate, List.length_set, List.length_take, List.length_drop, limit]; omega) | (simp only [List.length_cons, List.length_nil])) only [go_sem, List.elem, ↓reduceIte, reduceCtorEq, Nat.reduceEqDiff, Nat.reduceBEq, Nat.reduceAdd, Int.reduceAdd, Int.reduceSub, Int.reduceToNat, Int.reduceNeg, h0, h1', h2', h3']
  refine callG_pure (ret17 l (k + b) (by omega) d fr hd) rfl rfl ?_
  by_cases hk0 : k < 0
  · have he : er = 1 := by
      unfold leastF at hc
      rw [if_pos (.inl hk0)] at hc
      cases hc; rfl
    subst he
    simp -implicitDefEqProofs (disch := first | assumption | omega | (simp only [ints_len, rows_len, icells_len, List.length_cons, List.length_nil, List.length_append, List.length_map, List.length_replicate, List.length_set, List.length_take, List.length_drop, limit]; omega) | (simp only [List.length_cons, List.length_nil])) only [go_sem, List.elem, ↓reduceIte, reduceCtorEq, Nat.reduceEqDiff, Nat.reduceBEq, Nat.reduceAdd, Int.reduceAdd, Int.reduceSub, Int.reduceToNat, Int.reduceNeg, h1', hk0]
    exact end_one0 (.inl rfl) rfl (by simp -implicitDefEqProofs (disch := first | assumption | omega | (simp only [ints_len, rows_len, icells_len, List.length_cons, List.length_nil, List.length_append, List.length_map, List.length_replicate, List.length_set, List.length_take, List.length_drop, limit]; omega) | (simp only [List.length_cons, List.length_nil])) only [go_sem, List.elem, ↓reduceIte, reduceCtorEq, Nat.reduceEqDiff, Nat.reduceBEq, Nat.reduceAdd, Int.reduceAdd, Int.reduceSub, Int.reduceToNat, Int.reduceNeg]) (.inl rfl) rfl
  obtain ⟨c', hc'⟩ := leastF_ok (by omega) hall (k := k) (by omega)
  rw [hc] at hc'
  cases hc'
  obtain ⟨d', hd'⟩ := leastF_ok (by omega) hall (k := k + b) (by omega)
  rw [hd] at hd'
  cases hd'
  obtain ⟨c1, c2⟩ := leastF_bound hc
  obtain ⟨d1, d2⟩ := leastF_bound hd
  simp -implicitDefEqProofs (disch := first | assumption | omega | (simp only [ints_len, rows_len, icells_len, List.length_cons, List.length_nil, List.length_append, List.length_map, List.length_replicate, List.length_set, List.length_take, List.length_drop, limit]; omega) | (simp only [List.length_cons, List.length_nil])) only [go_sem, List.elem, ↓reduceIte, reduceCtorEq, Nat.reduceEqDiff, Nat.reduceBEq, Nat.reduceAdd, Int.reduceAdd, Int.reduceSub, Int.reduceToNat, Int.reduceNeg, h3']
  refine callG_pure (ret19 60 (by omega) pick) rfl rfl ?_
  have htl := truthsF_len 60 pick
  generalize truthsF 60 pick = a at *
  have hv1 := least_check (by omega) hall hc a
  have hv2 := least_check (by omega) hall hd a
  simp -implicitDefEqProofs (disch := first | assumption | omega | (simp only [ints_len, rows_len, icells_len, List.length_cons, List.length_nil, List.length_append, List.length_map, List.length_replicate, List.length_set, List.length_take, List.length_drop, limit]; omega) | (simp only [List.length_cons, List.length_nil])) only [go_sem, List.elem, ↓reduceIte, reduceCtorEq, Nat.reduceEqDiff, Nat.reduceBEq, Nat.reduceAdd, Int.reduceAdd, Int.reduceSub, Int.reduceToNat, Int.reduceNeg]
  refine callG_pure (ret25 60 c a (by omega) (fun x hx => by have := c2 x hx; omega) (by omega) fun r hr x hx => hI x (leastF_mem hc r hr x hx)) rfl rfl ?_
  simp -implicitDefEqProofs (disch := first | assumption | omega | (simp only [ints_len, rows_len, icells_len, List.length_cons, List.length_nil, List.length_append, List.length_map, List.length_replicate, List.length_set, List.length_take, List.length_drop, limit]; omega) | (simp only [List.length_cons, List.length_nil])) only [go_sem, List.elem, ↓reduceIte, reduceCtorEq, Nat.reduceEqDiff, Nat.reduceBEq, Nat.reduceAdd, Int.reduceAdd, Int.reduceSub, Int.reduceToNat, Int.reduceNeg]
  refine callG_pure (ret25 60 d a (by omega) (fun x hx => by have := d2 x hx; omega) (by omega) fun r hr x hx => hI x (leastF_mem hd r hr x hx)) rfl rfl ?_
  rw [hv1, hv2]
  have fin : ∀ v : Bool, (k ≤ 0 → c = []) → True := fun _ _ => trivial
  by_cases hp : 0 < k
  · by_cases hN : k + b ≤ (numF l a : Int)
    · have hN2 : k ≤ (numF l a : Int) := by omega
      simp -implicitDefEqProofs (disch := first | assumption | omega | (simp only [ints_len, rows_len, icells_len, List.length_cons, List.length_nil, List.length_append, List.length_map, List.length_replicate, List.length_set, List.length_take, List.length_drop, limit]; omega) | (simp only [List.length_cons, List.length_nil])) only [go_sem, List.elem, ↓reduceIte, reduceCtorEq, Nat.reduceEqDiff, Nat.reduceBEq, Nat.reduceAdd, Int.reduceAdd, Int.reduceSub, Int.reduceToNat, Int.reduceNeg, h1', hN, hN2, hp]
      exact end_one0 (.inl rfl) rfl (by simp -implicitDefEqProofs (disch := first | assumption | omega | (simp only [ints_len, rows_len, icells_len, List.length_cons, List.length_nil, List.length_append, List.length_map, List.length_replicate, List.length_set, List.length_take, List.length_drop, limit]; omega) | (simp only [List.length_cons, List.length_nil])) only [go_sem, List.elem, ↓reduceIte, reduceCtorEq, Nat.reduceEqDiff, Nat.reduceBEq, Nat.reduceAdd, Int.reduceAdd, Int.reduceSub, Int.reduceToNat, Int.reduceNeg]) (.inl rfl) rfl
    · simp -implicitDefEqProofs (disch := first | assumption | omega | (simp only [ints_len, rows_len, icells_len, List.length_cons, List.length_nil, List.length_append, List.length_map, List.length_replicate, List.length_set, List.length_take, List.length_drop, limit]; omega) | (simp only [List.length_cons, List.length_nil])) only [go_sem, List.elem, ↓reduceIte, reduceCtorEq, Nat.reduceEqDiff, Nat.reduceBEq, Nat.reduceAdd, Int.reduceAdd, Int.reduceSub, Int.reduceToNat, Int.reduceNeg, h1', hN, hp]
      exact end_one0 (.inl rfl) rfl (by simp -implicitDefEqProofs (disch := first | assumption | omega | (simp only [ints_len, rows_len, icells_len, List.length_cons, List.length_nil, List.length_append, List.length_map, List.length_replicate, List.length_set, List.length_take, List.length_drop, limit]; omega) | (simp only [List.length_cons, List.length_nil])) only [go_sem, List.elem, ↓reduceIte, reduceCtorEq, Nat.reduceEqDiff, Nat.reduceBEq, Nat.reduceAdd, Int.reduceAdd, Int.reduceSub, Int.reduceToNat, Int.reduceNeg]) (.inl rfl) rfl
  · have hk1 : k = 0 := by omega
    have hc0 : c = [] := by
      subst hk1
      unfold leastF at hc
      split at hc
      · cases hc
      · split at hc
        · cases hc
        · simp only [Int.toNat_zero, bitsF_zero, List.map_nil, Prod.mk.injEq] at hc; exact hc.1.symm
    subst hc0
    by_cases hN : k + b ≤ (numF l a : Int)
    · have hN2 : k ≤ (numF l a : Int) := by omega
      simp -implicitDefEqProofs (disch := first | assumption | omega | (simp only [ints_len, rows_len, icells_len, List.length_cons, List.length_nil, List.length_append, List.length_map, List.length_replicate, List.length_set, List.length_take, List.length_drop, limit]; omega) | (simp only [List.length_cons, List.length_nil])) only [go_sem, List.elem, ↓reduceIte, reduceCtorEq, Nat.reduceEqDiff, Nat.reduceBEq, Nat.reduceAdd, Int.reduceAdd, Int.reduceSub, Int.reduceToNat, Int.reduceNeg, h1', hN, hN2, hp]
      exact end_one0 (.inl rfl) rfl (by simp -implicitDefEqProofs (disch := first | assumption | omega | (simp only [ints_len, rows_len, icells_len, List.length_cons, List.length_nil, List.length_append, List.length_map, List.length_replicate, List.length_set, List.length_take, List.length_drop, limit]; omega) | (simp only [List.length_cons, List.length_nil])) only [go_sem, List.elem, ↓reduceIte, reduceCtorEq, Nat.reduceEqDiff, Nat.reduceBEq, Nat.reduceAdd, Int.reduceAdd, Int.reduceSub, Int.reduceToNat, Int.reduceNeg] <;> rfl) (.inl rfl) rfl
    · simp -implicitDefEqProofs (disch := first | assumption | omega | (simp only [ints_len, rows_len, icells_len, List.length_cons, List.length_nil, List.length_append, List.length_map, List.length_replicate, List.length_set, List.length_take, List.length_drop, limit]; omega) | (simp only [List.length_cons, List.length_nil])) only [go_sem, List.elem, ↓reduceIte, reduceCtorEq, Nat.reduceEqDiff, Nat.reduceBEq, Nat.reduceAdd, Int.reduceAdd, Int.reduceSub, Int.reduceToNat, Int.reduceNeg, h1', hN, hp]
      exact end_one0 (.inl rfl) rfl (by simp -implicitDefEqProofs (disch := first | assumption | omega | (simp only [ints_len, rows_len, icells_len, List.length_cons, List.length_nil, List.length_append, List.length_map, List.length_replicate, List.length_set, List.length_take, List.length_drop, limit]; omega) | (simp only [List.length_cons, List.length_nil])) only [go_sem, List.elem, ↓reduceIte, reduceCtorEq, Nat.reduceEqDiff, Nat.reduceBEq, Nat.reduceAdd, Int.reduceAdd, Int.reduceSub, Int.reduceToNat, Int.reduceNeg] <;> rfl) (.inl rfl) rfl
end Go.Proofs.Tryd
