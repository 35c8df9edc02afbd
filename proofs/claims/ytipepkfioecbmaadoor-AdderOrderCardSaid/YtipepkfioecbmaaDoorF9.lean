/- The law AdderSumCorrect, its contract. -/
import Derived.Test.YtipepkfioecbmaaDoorFs
set_option maxRecDepth 20000
set_option maxHeartbeats 40000000
set_option linter.unusedVariables false
set_option linter.unusedSimpArgs false
namespace Go.Proofs.Tryd
open Go.Ab Go.Adder

theorem check_ok {n : Int} {c : List (List Int)} (h1 : 1 ≤ n) (h2 : n ≤ 65537) (hc : LiC n c) (hl : c.length ≤ 65536) : checkF (n - 1) c = 0 := by
  unfold checkF
  have hany : (c.any fun l => l.any fun x => !mayF x (n - 1)) = false := by
    rw [List.any_eq_false]
    intro l hlc
    rw [Bool.not_eq_true, List.any_eq_false]
    intro x hx
    obtain ⟨x0, x1, x2⟩ := hc l hlc x hx
    have : mayF x (n - 1) = true := by simp [mayF, x0]; omega
    rw [this]
    simp
  rw [if_neg (by omega), hany, if_neg (by simp), if_neg (by omega)]

theorem small_iff {coef l : List Int} {n : Int} (h : smallF coef l n = true) : coef.length ≤ 8 ∧ l.length ≤ 8 ∧ n ≤ 40 := by
  simp only [smallF, Bool.and_eq_true, decide_eq_true_eq] at h
  omega

theorem ret9 (coef l : List Int) (next pick : Int) (hc : coef.length ≤ maxLen) (hcr : ∀ n ∈ coef, -9223372036854775808 ≤ n ∧ n < 9223372036854775808) (hl : l.length ≤ maxLen) (hlr : ∀ n ∈ l, -9223372036854775808 ≤ n ∧ n < 9223372036854775808) (hn : -9223372036854775808 ≤ next ∧ next < 9223372036854775808) (hp : -9223372036854775808 ≤ pick ∧ pick < 9223372036854775808) :
    Ret Tryd.prog 9 [.p (.sl 1 (ints coef)), .p (.sl 1 (ints l)), iv next, iv pick] [] (bv true) [] := by
  refine ret_of_walkG (H := {}) (dr := commB {}) Tryd.func9 rfl (by kernel_rfl) (Nat.le_of_ble_eq_true rfl) (by kernel_rfl) (DrOk.comm mix) (Nat.le_refl _) ?_
  simp -implicitDefEqProofs (disch := first | assumption | omega | (simp only [ints_len, rows_len, icells_len, List.length_cons, List.length_nil, List.length_append, List.length_map, List.length_replicate, List.length_set, List.length_take, List.length_drop, limit]; omega) | (simp only [List.length_cons, List.length_nil])) only [go_sem, List.elem, ↓reduceIte, reduceCtorEq, Nat.reduceEqDiff, Nat.reduceBEq, Nat.reduceAdd, Int.reduceAdd, Int.reduceSub, Int.reduceToNat, Int.reduceNeg]
  refine callG_pure ret12 rfl rfl ?_
  simp -implicitDefEqProofs (disch := first | assumption | omega | (simp only [ints_len, rows_len, icells_len, List.length_cons, List.length_nil, List.length_append, List.length_map, List.length_replicate, List.length_set, List.length_take, List.length_drop, limit]; omega) | (simp only [List.length_cons, List.length_nil])) only [go_sem, List.elem, ↓reduceIte, reduceCtorEq, Nat.reduceEqDiff, Nat.reduceBEq, Nat.reduceAdd, Int.reduceAdd, Int.reduceSub, Int.reduceToNat, Int.reduceNeg]
  refine callG_pure (ret22 coef l next) rfl rfl ?_
  cases hsm : smallF coef l next with
  | false =>
    simp -implicitDefEqProofs (disch := first | assumption | omega | (simp only [ints_len, rows_len, icells_len, List.length_cons, List.length_nil, List.length_append, List.length_map, List.length_replicate, List.length_set, List.length_take, List.length_drop, limit]; omega) | (simp only [List.length_cons, List.length_nil])) only [go_sem, List.elem, ↓reduceIte, reduceCtorEq, Nat.reduceEqDiff, Nat.reduceBEq, Nat.reduceAdd, Int.reduceAdd, Int.reduceSub, Int.reduceToNat, Int.reduceNeg]
    exact end_one0 (.inl rfl) rfl (by simp -implicitDefEqProofs (disch := first | assumption | omega | (simp only [ints_len, rows_len, icells_len, List.length_cons, List.length_nil, List.length_append, List.length_map, List.length_replicate, List.length_set, List.length_take, List.length_drop, limit]; omega) | (simp only [List.length_cons, List.length_nil])) only [go_sem, List.elem, ↓reduceIte, reduceCtorEq, Nat.reduceEqDiff, Nat.reduceBEq, Nat.reduceAdd, Int.reduceAdd, Int.reduceSub, Int.reduceToNat, Int.reduceNeg]) (.inl rfl) rfl
  | true =>
  obtain ⟨hc8, hl8, hn40⟩ := small_iff hsm
  simp -implicitDefEqProofs (disch := first | assumption | omega | (simp only [ints_len, rows_len, icells_len, List.length_cons, List.length_nil, List.length_append, List.length_map, List.length_replicate, List.length_set, List.length_take, List.length_drop, limit]; omega) | (simp only [List.length_cons, List.length_nil])) only [go_sem, List.elem, ↓reduceIte, reduceCtorEq, Nat.reduceEqDiff, Nat.reduceBEq, Nat.reduceAdd, Int.reduceAdd, Int.reduceSub, Int.reduceToNat, Int.reduceNeg]
  obtain ⟨bs, cl, n', er, hs⟩ : ∃ bs cl n' er, sumF coef l next = (bs, cl, n', er) := ⟨_, _, _, _, rfl⟩
  obtain ⟨k1, k2, k3⟩ := sumF_bound hs
  refine callG_pure (ret13 coef l next (by omega) (by omega) bs cl n' er hs) rfl rfl ?_
  by_cases her : er = 0
  case neg =>
    obtain ⟨rfl, rfl, rfl⟩ := sumF_err hs her
    simp -implicitDefEqProofs (disch := first | assumption | omega | (simp only [ints_len, rows_len, icells_len, List.length_cons, List.length_nil, List.length_append, List.length_map, List.length_replicate, List.length_set, List.length_take, List.length_drop, limit]; omega) | (simp only [List.length_cons, List.length_nil])) only [go_sem, List.elem, ↓reduceIte, reduceCtorEq, Nat.reduceEqDiff, Nat.reduceBEq, Nat.reduceAdd, Int.reduceAdd, Int.reduceSub, Int.reduceToNat, Int.reduceNeg, her]
    exact end_one0 (.inl rfl) rfl (by simp -implicitDefEqProofs (disch := first | assumption | omega | (simp only [ints_len, rows_len, icells_len, List.length_cons, List.length_nil, List.length_append, List.length_map, List.length_replicate, List.length_set, List.length_take, List.length_drop, limit]; omega) | (simp only [List.length_cons, List.length_nil])) only [go_sem, List.elem, ↓reduceIte, reduceCtorEq, Nat.reduceEqDiff, Nat.reduceBEq, Nat.reduceAdd, Int.reduceAdd, Int.reduceSub, Int.reduceToNat, Int.reduceNeg] <;> rfl) (.inl rfl) rfl
  subst her
  refine Exists.elim (sumF_size hs) fun q hq => ?_
  have s1 := hq.1
  have s2 := hq.2.1
  have s3 := hq.2.2.1
  have s4 := hq.2.2.2.1
  have s5 := hq.2.2.2.2.1
  have s7 := hq.2.2.2.2.2.2.1
  have s8 := hq.2.2.2.2.2.2.2.1
  have s9 := hq.2.2.2.2.2.2.2.2
  clear hq
  refine Exists.elim (⟨(next - 1).toNat, by omega⟩ : ∃ N : Nat, next = N + 1) fun N hN => ?_
  refine Exists.elim (⟨_, rfl⟩ : ∃ t, t = truthsF N pick) fun t ht => ?_
  have htl : t.length = N + 1 := by rw [ht]; exact truthsF_len N pick
  have hT := sum_told hs hl8 hn40 t (by omega)
  refine Exists.elim hT fun A hT => Exists.elim hT fun m hT => ?_
  have a1 := hT.1
  have a2 := hT.2.1
  have a3 := hT.2.2.1
  have a4 := hT.2.2.2.1
  have a5 := hT.2.2.2.2.1
  have a6 := hT.2.2.2.2.2.1
  have a8 := hT.2.2.2.2.2.2.2
  clear hT
  have hck := check_ok (n := n') (by omega) (by omega) s5 (by omega)
  have hval : valueF (n' - 1) cl A = true := by simp [valueF, hck, a5]
  have hrl : ∀ r ∈ cl, r.length ≤ 1000000000000 := fun r hr => by have := k3 r hr; omega
  have hrs : ∀ r ∈ cl, ∀ x ∈ r, Sm x := fun r hr x hx => by obtain ⟨_, x1, x2⟩ := s5 r hr x hx; unfold Sm; omega
  have hri : ∀ r ∈ cl, ∀ x ∈ r, I64 x := fun r hr x hx => by obtain ⟨_, x1, x2⟩ := s5 r hr x hx; unfold I64; omega
  have hbi : ∀ x ∈ bs, I64 x := fun x hx => by
    unfold I64
    rcases s4 x hx with rfl | ⟨_, x1, x2⟩ <;> omega
  have w1 : IntKind.i64.wrap (n' - 1) = n' - 1 := wrap_i64 (by omega)
  have w2 : IntKind.i64.wrap (next - 1) = (N : Int) := by rw [wrap_i64 (by omega)]; omega
  have c1 : ¬ n' < next := by omega
  have c2 : ¬ next + 2000 < n' := by omega
  simp -implicitDefEqProofs (disch := first | assumption | omega | (simp only [ints_len, rows_len, icells_len, List.length_cons, List.length_nil, List.length_append, List.length_map, List.length_replicate, List.length_set, List.length_take, List.length_drop, limit]; omega) | (simp only [List.length_cons, List.length_nil])) only [go_sem, List.elem, ↓reduceIte, reduceCtorEq, Nat.reduceEqDiff, Nat.reduceBEq, Nat.reduceAdd, Int.reduceAdd, Int.reduceSub, Int.reduceToNat, Int.reduceNeg, w1, c1, c2]
  refine callG_pure (ret24 (n' - 1) cl (by omega) hrl) rfl rfl ?_
  rw [hck]
  simp -implicitDefEqProofs (disch := first | assumption | omega | (simp only [ints_len, rows_len, icells_len, List.length_cons, List.length_nil, List.length_append, List.length_map, List.length_replicate, List.length_set, List.length_take, List.length_drop, limit]; omega) | (simp only [List.length_cons, List.length_nil])) only [go_sem, List.elem, ↓reduceIte, reduceCtorEq, Nat.reduceEqDiff, Nat.reduceBEq, Nat.reduceAdd, Int.reduceAdd, Int.reduceSub, Int.reduceToNat, Int.reduceNeg, w2]
  refine callG_pure (ret19 N (by omega) pick) rfl rfl ?_
  rw [← ht]
  clear ht
  simp -implicitDefEqProofs (disch := first | assumption | omega | (simp only [ints_len, rows_len, icells_len, List.length_cons, List.length_nil, List.length_append, List.length_map, List.length_replicate, List.length_set, List.length_take, List.length_drop, limit]; omega) | (simp only [List.length_cons, List.length_nil])) only [go_sem, List.elem, ↓reduceIte, reduceCtorEq, Nat.reduceEqDiff, Nat.reduceBEq, Nat.reduceAdd, Int.reduceAdd, Int.reduceSub, Int.reduceToNat, Int.reduceNeg]
  refine callG_pure (ret23 cl (by omega) hrl hrs m t next n' A true (by omega) (by omega) (by omega) (by omega) a3) rfl rfl ?_
  simp -implicitDefEqProofs (disch := first | assumption | omega | (simp only [ints_len, rows_len, icells_len, List.length_cons, List.length_nil, List.length_append, List.length_map, List.length_replicate, List.length_set, List.length_take, List.length_drop, limit]; omega) | (simp only [List.length_cons, List.length_nil])) only [go_sem, List.elem, ↓reduceIte, reduceCtorEq, Nat.reduceEqDiff, Nat.reduceBEq, Nat.reduceAdd, Int.reduceAdd, Int.reduceSub, Int.reduceToNat, Int.reduceNeg, w1]
  refine callG_pure (ret25 (n' - 1) cl A (by omega) hrl (by omega) hri) rfl rfl ?_
  rw [hval]
  simp -implicitDefEqProofs (disch := first | assumption | omega | (simp only [ints_len, rows_len, icells_len, List.length_cons, List.length_nil, List.length_append, List.length_map, List.length_replicate, List.length_set, List.length_take, List.length_drop, limit]; omega) | (simp only [List.length_cons, List.length_nil])) only [go_sem, List.elem, ↓reduceIte, reduceCtorEq, Nat.reduceEqDiff, Nat.reduceBEq, Nat.reduceAdd, Int.reduceAdd, Int.reduceSub, Int.reduceToNat, Int.reduceNeg]
  refine callG_pure (ret21 bs A (by omega) (by omega) hbi) rfl rfl ?_
  rw [a6]
  simp -implicitDefEqProofs (disch := first | assumption | omega | (simp only [ints_len, rows_len, icells_len, List.length_cons, List.length_nil, List.length_append, List.length_map, List.length_replicate, List.length_set, List.length_take, List.length_drop, limit]; omega) | (simp only [List.length_cons, List.length_nil])) only [go_sem, List.elem, ↓reduceIte, reduceCtorEq, Nat.reduceEqDiff, Nat.reduceBEq, Nat.reduceAdd, Int.reduceAdd, Int.reduceSub, Int.reduceToNat, Int.reduceNeg]
  refine callG_pure (ret26 coef l A hc8 hl8 (by omega) s9 hlr) rfl rfl ?_
  simp -implicitDefEqProofs (disch := first | assumption | omega | (simp only [ints_len, rows_len, icells_len, List.length_cons, List.length_nil, List.length_append, List.length_map, List.length_replicate, List.length_set, List.length_take, List.length_drop, limit]; omega) | (simp only [List.length_cons, List.length_nil])) only [go_sem, List.elem, ↓reduceIte, reduceCtorEq, Nat.reduceEqDiff, Nat.reduceBEq, Nat.reduceAdd, Int.reduceAdd, Int.reduceSub, Int.reduceToNat, Int.reduceNeg]
  exact end_one0 (.inl rfl) rfl (by simp -implicitDefEqProofs (disch := first | assumption | omega | (simp only [ints_len, rows_len, icells_len, List.length_cons, List.length_nil, List.length_append, List.length_map, List.length_replicate, List.length_set, List.length_take, List.length_drop, limit]; omega) | (simp only [List.length_cons, List.length_nil])) only [go_sem, List.elem, ↓reduceIte, reduceCtorEq, Nat.reduceEqDiff, Nat.reduceBEq, Nat.reduceAdd, Int.reduceAdd, Int.reduceSub, Int.reduceToNat, Int.reduceNeg]) (.inl rfl) rfl
end Go.Proofs.Tryd
