/- The law AdderOrder, its contract. -/
import Derived.Test.YtipepkfioecbmaaDoorF9
set_option maxRecDepth 20000
set_option maxHeartbeats 40000000
set_option linter.unusedVariables false
set_option linter.unusedSimpArgs false
namespace Go.Proofs.Tryd
open Go.Ab Go.Adder

theorem drop_rev {l : List Int} {k : Nat} {x : Int} (h : l[k]? = some x) : (l.drop k).reverse = (l.drop (k + 1)).reverse ++ [x] := by
  obtain ⟨h1, h2⟩ := List.getElem?_eq_some_iff.1 h
  rw [List.drop_eq_getElem_cons h1, h2, List.reverse_cons]

theorem ret8 (coef l : List Int) (next pick : Int) (hc : coef.length ≤ maxLen) (hcr : ∀ n ∈ coef, -9223372036854775808 ≤ n ∧ n < 9223372036854775808) (hl : l.length ≤ maxLen) (hlr : ∀ n ∈ l, -9223372036854775808 ≤ n ∧ n < 9223372036854775808) (hn : -9223372036854775808 ≤ next ∧ next < 9223372036854775808) (hp : -9223372036854775808 ≤ pick ∧ pick < 9223372036854775808) :
    Ret Tryd.prog 8 [.p (.sl 1 (ints coef)), .p (.sl 1 (ints l)), iv next, iv pick] [] (bv true) [] := by
  refine ret_of_walkG (H := { tk := [45, 52] }) (dr := commB { tk := [45, 52] }) Tryd.func8 rfl (by kernel_rfl) (Nat.le_of_ble_eq_true rfl) (by kernel_rfl) (DrOk.comm mix) (Nat.le_refl _) ?_
  simp -implicitDefEqProofs (disch := first | assumption | omega | (simp only [ints_len, rows_len, icells_len, List.length_cons, List.length_nil, List.length_append, List.length_map, List.length_replicate, List.length_set, List.length_take, List.length_drop, limit]; omega) | (simp only [List.length_cons, List.length_nil])) only [go_sem, List.elem, ↓reduceIte, reduceCtorEq, Nat.reduceEqDiff, Nat.reduceBEq, Nat.reduceAdd, Int.reduceAdd, Int.reduceSub, Int.reduceToNat, Int.reduceNeg]
  refine callG_pure ret12 rfl rfl ?_
  simp -implicitDefEqProofs (disch := first | assumption | omega | (simp only [ints_len, rows_len, icells_len, List.length_cons, List.length_nil, List.length_append, List.length_map, List.length_replicate, List.length_set, List.length_take, List.length_drop, limit]; omega) | (simp only [List.length_cons, List.length_nil])) only [go_sem, List.elem, ↓reduceIte, reduceCtorEq, Nat.reduceEqDiff, Nat.reduceBEq, Nat.reduceAdd, Int.reduceAdd, Int.reduceSub, Int.reduceToNat, Int.reduceNeg]
  refine callG_pure (ret22 coef l next) rfl rfl ?_
  cases hsm : smallF coef l next with
  | false =>
    simp -implicitDefEqProofs (disch := first | assumption | omega | (simp only [ints_len, rows_len, icells_len, List.length_cons, List.length_nil, List.length_append, List.length_map, List.length_replicate, List.length_set, List.length_take, List.length_drop, limit]; omega) | (simp only [List.length_cons, List.length_nil])) only [go_sem, List.elem, ↓reduceIte, reduceCtorEq, Nat.reduceEqDiff, Nat.reduceBEq, Nat.reduceAdd, Int.reduceAdd, Int.reduceSub, Int.reduceToNat, Int.reduceNeg]
    exact end_one0 (.inl rfl) rfl (by simp -implicitDefEqProofs (disch := first | assumption | omega | (simp only [ints_len, rows_len, icells_len, List.length_cons, List.length_nil, List.length_append, List.length_map, List.length_replicate, List.length_set, List.length_take, List.length_drop, limit]; omega) | (simp only [List.length_cons, List.length_nil])) only [go_sem, List.elem, ↓reduceIte, reduceCtorEq, Nat.reduceEqDiff, Nat.reduceBEq, Nat.reduceAdd, Int.reduceAdd, Int.reduceSub, Int.reduceToNat, Int.reduceNeg]) (.inl rfl) rfl
  | true =>
  have hc8 := (small_iff hsm).1
  have hl8 := (small_iff hsm).2.1
  have hn40 := (small_iff hsm).2.2
  clear hsm hcr hc hl
  by_cases hlen : (coef.length : Int) = l.length
  case neg =>
    simp -implicitDefEqProofs (disch := first | assumption | omega | (simp only [ints_len, rows_len, icells_len, List.length_cons, List.length_nil, List.length_append, List.length_map, List.length_replicate, List.length_set, List.length_take, List.length_drop, limit]; omega) | (simp only [List.length_cons, List.length_nil])) only [go_sem, List.elem, ↓reduceIte, reduceCtorEq, Nat.reduceEqDiff, Nat.reduceBEq, Nat.reduceAdd, Int.reduceAdd, Int.reduceSub, Int.reduceToNat, Int.reduceNeg, hlen]
    exact end_one0 (.inl rfl) rfl (by simp -implicitDefEqProofs (disch := first | assumption | omega | (simp only [ints_len, rows_len, icells_len, List.length_cons, List.length_nil, List.length_append, List.length_map, List.length_replicate, List.length_set, List.length_take, List.length_drop, limit]; omega) | (simp only [List.length_cons, List.length_nil])) only [go_sem, List.elem, ↓reduceIte, reduceCtorEq, Nat.reduceEqDiff, Nat.reduceBEq, Nat.reduceAdd, Int.reduceAdd, Int.reduceSub, Int.reduceToNat, Int.reduceNeg]) (.inl rfl) rfl
  have hlen' : coef.length = l.length := by omega
  have hw : IntKind.i64.wrap ((l.length : Int) - 1) = (l.length : Int) - 1 := wrap_i64 (by omega)
  have hd0 : (ints ((coef.drop l.length).reverse)) = [] := by rw [List.drop_of_length_le (by omega)]; rfl
  have hd1 : (ints ((l.drop l.length).reverse)) = [] := by rw [List.drop_of_length_le (by omega)]; rfl
  simp -implicitDefEqProofs (disch := first | assumption | omega | (simp only [ints_len, rows_len, icells_len, List.length_cons, List.length_nil, List.length_append, List.length_map, List.length_replicate, List.length_set, List.length_take, List.length_drop, limit]; omega) | (simp only [List.length_cons, List.length_nil])) only [go_sem, List.elem, ↓reduceIte, reduceCtorEq, Nat.reduceEqDiff, Nat.reduceBEq, Nat.reduceAdd, Int.reduceAdd, Int.reduceSub, Int.reduceToNat, Int.reduceNeg, hlen, hw]
  refine loopK_inv (fun m st => m ≤ l.length ∧ st.env 0 = .p (.sl 1 (ints coef)) ∧ st.env 1 = .p (.sl 1 (ints l)) ∧ st.env 2 = iv next ∧ st.env 3 = iv pick ∧ st.env 9 = .own 1 (ints (coef.drop m).reverse) ∧ st.env 10 = .own 1 (ints (l.drop m).reverse) ∧ st.env 11 = iv ((m : Int) - 1) ∧ st.σ = []) l.length ?_
    ⟨by omega, by simp -implicitDefEqProofs (disch := first | assumption | omega | (simp only [ints_len, rows_len, icells_len, List.length_cons, List.length_nil, List.length_append, List.length_map, List.length_replicate, List.length_set, List.length_take, List.length_drop, limit]; omega) | (simp only [List.length_cons, List.length_nil])) only [go_sem, List.elem, ↓reduceIte, reduceCtorEq, Nat.reduceEqDiff, Nat.reduceBEq, Nat.reduceAdd, Int.reduceAdd, Int.reduceSub, Int.reduceToNat, Int.reduceNeg], by simp -implicitDefEqProofs (disch := first | assumption | omega | (simp only [ints_len, rows_len, icells_len, List.length_cons, List.length_nil, List.length_append, List.length_map, List.length_replicate, List.length_set, List.length_take, List.length_drop, limit]; omega) | (simp only [List.length_cons, List.length_nil])) only [go_sem, List.elem, ↓reduceIte, reduceCtorEq, Nat.reduceEqDiff, Nat.reduceBEq, Nat.reduceAdd, Int.reduceAdd, Int.reduceSub, Int.reduceToNat, Int.reduceNeg], by simp -implicitDefEqProofs (disch := first | assumption | omega | (simp only [ints_len, rows_len, icells_len, List.length_cons, List.length_nil, List.length_append, List.length_map, List.length_replicate, List.length_set, List.length_take, List.length_drop, limit]; omega) | (simp only [List.length_cons, List.length_nil])) only [go_sem, List.elem, ↓reduceIte, reduceCtorEq, Nat.reduceEqDiff, Nat.reduceBEq, Nat.reduceAdd, Int.reduceAdd, Int.reduceSub, Int.reduceToNat, Int.reduceNeg], by simp -implicitDefEqProofs (disch := first | assumption | omega | (simp only [ints_len, rows_len, icells_len, List.length_cons, List.length_nil, List.length_append, List.length_map, List.length_replicate, List.length_set, List.length_take, List.length_drop, limit]; omega) | (simp only [List.length_cons, List.length_nil])) only [go_sem, List.elem, ↓reduceIte, reduceCtorEq, Nat.reduceEqDiff, Nat.reduceBEq, Nat.reduceAdd, Int.reduceAdd, Int.reduceSub, Int.reduceToNat, Int.reduceNeg], by rw [hd0]; simp -implicitDefEqProofs (disch := first | assumption | omega | (simp only [ints_len, rows_len, icells_len, List.length_cons, List.length_nil, List.length_append, List.length_map, List.length_replicate, List.length_set, List.length_take, List.length_drop, limit]; omega) | (simp only [List.length_cons, List.length_nil])) only [go_sem, List.elem, ↓reduceIte, reduceCtorEq, Nat.reduceEqDiff, Nat.reduceBEq, Nat.reduceAdd, Int.reduceAdd, Int.reduceSub, Int.reduceToNat, Int.reduceNeg] <;> rfl, by rw [hd1]; simp -implicitDefEqProofs (disch := first | assumption | omega | (simp only [ints_len, rows_len, icells_len, List.length_cons, List.length_nil, List.length_append, List.length_map, List.length_replicate, List.length_set, List.length_take, List.length_drop, limit]; omega) | (simp only [List.length_cons, List.length_nil])) only [go_sem, List.elem, ↓reduceIte, reduceCtorEq, Nat.reduceEqDiff, Nat.reduceBEq, Nat.reduceAdd, Int.reduceAdd, Int.reduceSub, Int.reduceToNat, Int.reduceNeg] <;> rfl, by simp -implicitDefEqProofs (disch := first | assumption | omega | (simp only [ints_len, rows_len, icells_len, List.length_cons, List.length_nil, List.length_append, List.length_map, List.length_replicate, List.length_set, List.length_take, List.length_drop, limit]; omega) | (simp only [List.length_cons, List.length_nil])) only [go_sem, List.elem, ↓reduceIte, reduceCtorEq, Nat.reduceEqDiff, Nat.reduceBEq, Nat.reduceAdd, Int.reduceAdd, Int.reduceSub, Int.reduceToNat, Int.reduceNeg], rfl⟩
  clear hd0 hd1 hw hlen
  rintro Q m ⟨e, σ⟩ hQ ⟨hm, h0, h1, h2, h3, h9, h10, h11, hσ⟩
  simp only at h0 h1 h2 h3 h9 h10 h11 hσ
  subst hσ
  cases m with
  | succ k =>
    have hv : l[k]? = some (l[k]'(by omega)) := by simp
    have hvc : coef[k]? = some (coef[k]'(by omega)) := by simp
    have hr := drop_rev hv
    have hrc := drop_rev hvc
    generalize l[k]'(by omega) = x at *
    generalize coef[k]'(by omega) = y at *
    have hi : ((k + 1 : Nat) : Int) - 1 = (k : Int) := by omega
    rw [hi] at h11
    have g1 : ((l.drop (k + 1)).reverse).length ≤ 8 := by simp; omega
    have g2 : ((coef.drop (k + 1)).reverse).length ≤ 8 := by simp; omega
    generalize (l.drop (k + 1)).reverse = u at *
    generalize (coef.drop (k + 1)).reverse = w at *
    have b1 : (ints u).length + (ints [x]).length ≤ limit := by simp [ints_len, limit]; omega
    have b2 : (ints w).length + (ints [y]).length ≤ limit := by simp [ints_len, limit]; omega
    have hwk : IntKind.i64.wrap ((k : Int) - 1) = (k : Int) - 1 := wrap_i64 (by omega)
    simp -implicitDefEqProofs (disch := first | assumption | omega | (simp only [ints_len, rows_len, icells_len, List.length_cons, List.length_nil, List.length_append, List.length_map, List.length_replicate, List.length_set, List.length_take, List.length_drop, limit]; omega) | (simp only [List.length_cons, List.length_nil])) only [go_sem, List.elem, ↓reduceIte, reduceCtorEq, Nat.reduceEqDiff, Nat.reduceBEq, Nat.reduceAdd, Int.reduceAdd, Int.reduceSub, Int.reduceToNat, Int.reduceNeg, h0, h1, h9, h10, h11, hv, hvc, hwk]
    exact hQ k _ (by omega) ⟨by omega, by simp -implicitDefEqProofs (disch := first | assumption | omega | (simp only [ints_len, rows_len, icells_len, List.length_cons, List.length_nil, List.length_append, List.length_map, List.length_replicate, List.length_set, List.length_take, List.length_drop, limit]; omega) | (simp only [List.length_cons, List.length_nil])) only [go_sem, List.elem, ↓reduceIte, reduceCtorEq, Nat.reduceEqDiff, Nat.reduceBEq, Nat.reduceAdd, Int.reduceAdd, Int.reduceSub, Int.reduceToNat, Int.reduceNeg, h0], by simp -implicitDefEqProofs (disch := first | assumption | omega | (simp only [ints_len, rows_len, icells_len, List.length_cons, List.length_nil, List.length_append, List.length_map, List.length_replicate, List.length_set, List.length_take, List.length_drop, limit]; omega) | (simp only [List.length_cons, List.length_nil])) only [go_sem, List.elem, ↓reduceIte, reduceCtorEq, Nat.reduceEqDiff, Nat.reduceBEq, Nat.reduceAdd, Int.reduceAdd, Int.reduceSub, Int.reduceToNat, Int.reduceNeg, h1], by simp -implicitDefEqProofs (disch := first | assumption | omega | (simp only [ints_len, rows_len, icells_len, List.length_cons, List.length_nil, List.length_append, List.length_map, List.length_replicate, List.length_set, List.length_take, List.length_drop, limit]; omega) | (simp only [List.length_cons, List.length_nil])) only [go_sem, List.elem, ↓reduceIte, reduceCtorEq, Nat.reduceEqDiff, Nat.reduceBEq, Nat.reduceAdd, Int.reduceAdd, Int.reduceSub, Int.reduceToNat, Int.reduceNeg, h2], by simp -implicitDefEqProofs (disch := first | assumption | omega | (simp only [ints_len, rows_len, icells_len, List.length_cons, List.length_nil, List.length_append, List.length_map, List.length_replicate, List.length_set, List.length_take, List.length_drop, limit]; omega) | (simp only [List.length_cons, List.length_nil])) only [go_sem, List.elem, ↓reduceIte, reduceCtorEq, Nat.reduceEqDiff, Nat.reduceBEq, Nat.reduceAdd, Int.reduceAdd, Int.reduceSub, Int.reduceToNat, Int.reduceNeg, h3], by rw [hrc]; simp -implicitDefEqProofs (disch := first | assumption | omega | (simp only [ints_len, rows_len, icells_len, List.length_cons, List.length_nil, List.length_append, List.length_map, List.length_replicate, List.length_set, List.length_take, List.length_drop, limit]; omega) | (simp only [List.length_cons, List.length_nil])) only [go_sem, List.elem, ↓reduceIte, reduceCtorEq, Nat.reduceEqDiff, Nat.reduceBEq, Nat.reduceAdd, Int.reduceAdd, Int.reduceSub, Int.reduceToNat, Int.reduceNeg] <;> rfl, by rw [hr]; simp -implicitDefEqProofs (disch := first | assumption | omega | (simp only [ints_len, rows_len, icells_len, List.length_cons, List.length_nil, List.length_append, List.length_map, List.length_replicate, List.length_set, List.length_take, List.length_drop, limit]; omega) | (simp only [List.length_cons, List.length_nil])) only [go_sem, List.elem, ↓reduceIte, reduceCtorEq, Nat.reduceEqDiff, Nat.reduceBEq, Nat.reduceAdd, Int.reduceAdd, Int.reduceSub, Int.reduceToNat, Int.reduceNeg] <;> rfl, by simp -implicitDefEqProofs (disch := first | assumption | omega | (simp only [ints_len, rows_len, icells_len, List.length_cons, List.length_nil, List.length_append, List.length_map, List.length_replicate, List.length_set, List.length_take, List.length_drop, limit]; omega) | (simp only [List.length_cons, List.length_nil])) only [go_sem, List.elem, ↓reduceIte, reduceCtorEq, Nat.reduceEqDiff, Nat.reduceBEq, Nat.reduceAdd, Int.reduceAdd, Int.reduceSub, Int.reduceToNat, Int.reduceNeg] <;> rfl, rfl⟩
  | zero =>
  rw [List.drop_zero] at h9 h10
  have hneg : ¬ (0 : Int) ≤ ((0 : Nat) : Int) - 1 := by omega
  simp -implicitDefEqProofs (disch := first | assumption | omega | (simp only [ints_len, rows_len, icells_len, List.length_cons, List.length_nil, List.length_append, List.length_map, List.length_replicate, List.length_set, List.length_take, List.length_drop, limit]; omega) | (simp only [List.length_cons, List.length_nil])) only [go_sem, List.elem, ↓reduceIte, reduceCtorEq, Nat.reduceEqDiff, Nat.reduceBEq, Nat.reduceAdd, Int.reduceAdd, Int.reduceSub, Int.reduceToNat, Int.reduceNeg, h0, h1, h2, h9, h10, h11, hneg]
  refine Exists.elim (⟨_, _, _, _, rfl⟩ : ∃ bs cl n' er, sumF coef l next = (bs, cl, n', er)) fun bs hs => Exists.elim hs fun cl hs => Exists.elim hs fun n' hs => Exists.elim hs fun er hs => ?_
  have hs2 := sum_rev hs
  refine Exists.elim hs2 fun bs2 hs2 => Exists.elim hs2 fun cl2 hs2 => ?_
  refine callG_pure (ret13 coef l next (by omega) (by omega) bs cl n' er hs) rfl rfl ?_
  simp -implicitDefEqProofs (disch := first | assumption | omega | (simp only [ints_len, rows_len, icells_len, List.length_cons, List.length_nil, List.length_append, List.length_map, List.length_replicate, List.length_set, List.length_take, List.length_drop, limit]; omega) | (simp only [List.length_cons, List.length_nil])) only [go_sem, List.elem, ↓reduceIte, reduceCtorEq, Nat.reduceEqDiff, Nat.reduceBEq, Nat.reduceAdd, Int.reduceAdd, Int.reduceSub, Int.reduceToNat, Int.reduceNeg, h0, h1, h2, h9, h10, h11]
  refine callG_pure (ret13 coef.reverse l.reverse next (by simp; omega) (by simp; omega) bs2 cl2 n' er hs2) rfl rfl ?_
  by_cases her : er = 0
  case neg =>
    simp -implicitDefEqProofs (disch := first | assumption | omega | (simp only [ints_len, rows_len, icells_len, List.length_cons, List.length_nil, List.length_append, List.length_map, List.length_replicate, List.length_set, List.length_take, List.length_drop, limit]; omega) | (simp only [List.length_cons, List.length_nil])) only [go_sem, List.elem, ↓reduceIte, reduceCtorEq, Nat.reduceEqDiff, Nat.reduceBEq, Nat.reduceAdd, Int.reduceAdd, Int.reduceSub, Int.reduceToNat, Int.reduceNeg, her]
    exact end_one0 (.inl rfl) rfl (by simp -implicitDefEqProofs (disch := first | assumption | omega | (simp only [ints_len, rows_len, icells_len, List.length_cons, List.length_nil, List.length_append, List.length_map, List.length_replicate, List.length_set, List.length_take, List.length_drop, limit]; omega) | (simp only [List.length_cons, List.length_nil])) only [go_sem, List.elem, ↓reduceIte, reduceCtorEq, Nat.reduceEqDiff, Nat.reduceBEq, Nat.reduceAdd, Int.reduceAdd, Int.reduceSub, Int.reduceToNat, Int.reduceNeg] <;> rfl) (.inl rfl) rfl
  rw [her] at hs hs2
  have k3 := (sumF_bound hs).2.2
  have k32 := (sumF_bound hs2).2.2
  refine Exists.elim (sumF_size hs) fun q hq => ?_
  have s1 := hq.1
  have s4 := hq.2.2.2.1
  have s5 := hq.2.2.2.2.1
  have s7 := hq.2.2.2.2.2.2.1
  clear hq
  refine Exists.elim (sumF_size hs2) fun q2 hq => ?_
  have s42 := hq.2.2.2.1
  have s52 := hq.2.2.2.2.1
  clear hq
  refine Exists.elim (⟨(next - 1).toNat, by omega⟩ : ∃ N : Nat, next = N + 1) fun N hN => ?_
  refine Exists.elim (⟨_, rfl⟩ : ∃ t, t = truthsF N pick) fun t ht => ?_
  have htl : t.length = N + 1 := by rw [ht]; exact truthsF_len N pick
  have hT := order_told hs hs2 hl8 hn40 t (by omega)
  have bl := (sum_few hs hl8).1
  have bl2 := (sum_few hs2 (by simpa using hl8)).1
  refine Exists.elim hT fun A hT => Exists.elim hT fun B hT => Exists.elim hT fun m hT => ?_
  have a1 := hT.1
  have a2 := hT.2.1
  have a3 := hT.2.2.1
  have a4 := hT.2.2.2.1
  have a5 := hT.2.2.2.2.1
  have a6 := hT.2.2.2.2.2.1
  have a7 := hT.2.2.2.2.2.2.1
  have a8 := hT.2.2.2.2.2.2.2.1
  have a9 := hT.2.2.2.2.2.2.2.2
  clear hT hs hs2
  have hrl : ∀ r ∈ cl, r.length ≤ 1000000000000 := fun r hr => by have := k3 r hr; omega
  have hrl2 : ∀ r ∈ cl2, r.length ≤ 1000000000000 := fun r hr => by have := k32 r hr; omega
  have hrs : ∀ r ∈ cl, ∀ x ∈ r, Sm x := fun r hr x hx => by obtain ⟨_, x1, x2⟩ := s5 r hr x hx; unfold Sm; omega
  have hrs2 : ∀ r ∈ cl2, ∀ x ∈ r, Sm x := fun r hr x hx => by obtain ⟨_, x1, x2⟩ := s52 r hr x hx; unfold Sm; omega
  have hbi : ∀ x ∈ bs, I64 x := fun x hx => by
    unfold I64
    rcases s4 x hx with rfl | ⟨_, x1, x2⟩ <;> omega
  have hbi2 : ∀ x ∈ bs2, I64 x := fun x hx => by
    unfold I64
    rcases s42 x hx with rfl | ⟨_, x1, x2⟩ <;> omega
  clear k3 k32 s4 s5 s42 s52 hlr hQ
  have w2 : IntKind.i64.wrap (next - 1) = (N : Int) := by rw [wrap_i64 (by omega)]; omega
  have c1 : ¬ n' < next := by omega
  have c2 : ¬ next + 2000 < n' := by omega
  simp -implicitDefEqProofs (disch := first | assumption | omega | (simp only [ints_len, rows_len, icells_len, List.length_cons, List.length_nil, List.length_append, List.length_map, List.length_replicate, List.length_set, List.length_take, List.length_drop, limit]; omega) | (simp only [List.length_cons, List.length_nil])) only [go_sem, List.elem, ↓reduceIte, reduceCtorEq, Nat.reduceEqDiff, Nat.reduceBEq, Nat.reduceAdd, Int.reduceAdd, Int.reduceSub, Int.reduceToNat, Int.reduceNeg, h2, h3, her, w2, c1, c2]
  refine callG_pure (ret19 N (by omega) pick) rfl rfl ?_
  rw [← ht]
  simp -implicitDefEqProofs (disch := first | assumption | omega | (simp only [ints_len, rows_len, icells_len, List.length_cons, List.length_nil, List.length_append, List.length_map, List.length_replicate, List.length_set, List.length_take, List.length_drop, limit]; omega) | (simp only [List.length_cons, List.length_nil])) only [go_sem, List.elem, ↓reduceIte, reduceCtorEq, Nat.reduceEqDiff, Nat.reduceBEq, Nat.reduceAdd, Int.reduceAdd, Int.reduceSub, Int.reduceToNat, Int.reduceNeg, h2, h3]
  refine callG_pure (ret23 cl (by omega) hrl hrs m t next n' A true (by omega) (by omega) (by omega) (by omega) a3) rfl rfl ?_
  simp -implicitDefEqProofs (disch := first | assumption | omega | (simp only [ints_len, rows_len, icells_len, List.length_cons, List.length_nil, List.length_append, List.length_map, List.length_replicate, List.length_set, List.length_take, List.length_drop, limit]; omega) | (simp only [List.length_cons, List.length_nil])) only [go_sem, List.elem, ↓reduceIte, reduceCtorEq, Nat.reduceEqDiff, Nat.reduceBEq, Nat.reduceAdd, Int.reduceAdd, Int.reduceSub, Int.reduceToNat, Int.reduceNeg, h2, h3, w2]
  refine callG_pure (ret19 N (by omega) pick) rfl rfl ?_
  rw [← ht]
  simp -implicitDefEqProofs (disch := first | assumption | omega | (simp only [ints_len, rows_len, icells_len, List.length_cons, List.length_nil, List.length_append, List.length_map, List.length_replicate, List.length_set, List.length_take, List.length_drop, limit]; omega) | (simp only [List.length_cons, List.length_nil])) only [go_sem, List.elem, ↓reduceIte, reduceCtorEq, Nat.reduceEqDiff, Nat.reduceBEq, Nat.reduceAdd, Int.reduceAdd, Int.reduceSub, Int.reduceToNat, Int.reduceNeg, h2, h3]
  refine callG_pure (ret23 cl2 (by omega) hrl2 hrs2 m t next n' B true (by omega) (by omega) (by omega) (by omega) a4) rfl rfl ?_
  simp -implicitDefEqProofs (disch := first | assumption | omega | (simp only [ints_len, rows_len, icells_len, List.length_cons, List.length_nil, List.length_append, List.length_map, List.length_replicate, List.length_set, List.length_take, List.length_drop, limit]; omega) | (simp only [List.length_cons, List.length_nil])) only [go_sem, List.elem, ↓reduceIte, reduceCtorEq, Nat.reduceEqDiff, Nat.reduceBEq, Nat.reduceAdd, Int.reduceAdd, Int.reduceSub, Int.reduceToNat, Int.reduceNeg]
  refine callG_pure (ret21 bs A (by omega) (by omega) hbi) rfl rfl ?_
  simp -implicitDefEqProofs (disch := first | assumption | omega | (simp only [ints_len, rows_len, icells_len, List.length_cons, List.length_nil, List.length_append, List.length_map, List.length_replicate, List.length_set, List.length_take, List.length_drop, limit]; omega) | (simp only [List.length_cons, List.length_nil])) only [go_sem, List.elem, ↓reduceIte, reduceCtorEq, Nat.reduceEqDiff, Nat.reduceBEq, Nat.reduceAdd, Int.reduceAdd, Int.reduceSub, Int.reduceToNat, Int.reduceNeg]
  refine callG_pure (ret21 bs2 B (by omega) (by omega) hbi2) rfl rfl ?_
  rw [a7]
  simp -implicitDefEqProofs (disch := first | assumption | omega | (simp only [ints_len, rows_len, icells_len, List.length_cons, List.length_nil, List.length_append, List.length_map, List.length_replicate, List.length_set, List.length_take, List.length_drop, limit]; omega) | (simp only [List.length_cons, List.length_nil])) only [go_sem, List.elem, ↓reduceIte, reduceCtorEq, Nat.reduceEqDiff, Nat.reduceBEq, Nat.reduceAdd, Int.reduceAdd, Int.reduceSub, Int.reduceToNat, Int.reduceNeg]
  exact end_one0 (.inl rfl) rfl (by simp -implicitDefEqProofs (disch := first | assumption | omega | (simp only [ints_len, rows_len, icells_len, List.length_cons, List.length_nil, List.length_append, List.length_map, List.length_replicate, List.length_set, List.length_take, List.length_drop, limit]; omega) | (simp only [List.length_cons, List.length_nil])) only [go_sem, List.elem, ↓reduceIte, reduceCtorEq, Nat.reduceEqDiff, Nat.reduceBEq, Nat.reduceAdd, Int.reduceAdd, Int.reduceSub, Int.reduceToNat, Int.reduceNeg]) (.inl rfl) rfl
end Go.Proofs.Tryd
