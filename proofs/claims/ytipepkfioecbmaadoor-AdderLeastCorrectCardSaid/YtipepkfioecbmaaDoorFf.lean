/- Contracts: OnesCount, Clone. -/
import Derived.Test.YtipepkfioecbmaaDoorFe
set_option maxRecDepth 20000
set_option maxHeartbeats 4000000
set_option linter.unusedVariables false
set_option linter.unusedSimpArgs false
namespace Go.Proofs.Tryd
open Go.Ab

def popc (n : Nat) : Nat := n % 2 + n / 2 % 2 + n / 4 % 2

theorem ret80 (n : Nat) (h : n < 8) (σ : List Ent) : Ret Tryd.prog 80 [.p (.sc (.int .u64 n))] σ (iv (popc n)) σ := by
  refine ret_of_walk (H := {}) (dr := commB {}) Tryd.func80 rfl (by kernel_rfl) (Nat.le_of_ble_eq_true rfl) (by kernel_rfl) (DrOk.comm mix) ?_
  simp -implicitDefEqProofs (disch := omega) only [go_sem, List.elem, ↓reduceIte, reduceCtorEq, Nat.reduceEqDiff, Nat.reduceBEq, beq_self_eq_true, List.getElem?_toArray, Nat.reduceAdd, Nat.zero_add, List.set_cons_succ, List.set_cons_zero, List.getElem?_cons_zero, List.getElem?_cons_succ, List.getElem?_nil, Option.getD_some, Option.getD_none, Option.map_some, Option.map_none, Int.toNat_natCast, List.map_cons, List.map_nil, List.cons_append, List.nil_append, List.append_nil, Bool.not_true, Bool.not_false, Bool.false_eq_true, Bool.true_eq_false, Bool.false_beq, Bool.true_beq, if_true, if_false, decide_true, decide_false, Go.Ab.dec_t, Go.Ab.dec_f]
  have hn : n = 0 ∨ n = 1 ∨ n = 2 ∨ n = 3 ∨ n = 4 ∨ n = 5 ∨ n = 6 ∨ n = 7 := by omega
  refine end_one (.inl rfl) rfl ?_ rfl
  simp -implicitDefEqProofs only [go_sem, List.elem, ↓reduceIte, reduceCtorEq, Nat.reduceEqDiff, Nat.reduceBEq, beq_self_eq_true, List.getElem?_toArray, Nat.reduceAdd, Nat.zero_add, List.set_cons_succ, List.set_cons_zero, List.getElem?_cons_zero, List.getElem?_cons_succ, List.getElem?_nil, Option.getD_some, Option.getD_none, Option.map_some, Option.map_none, Int.toNat_natCast, List.map_cons, List.map_nil, List.cons_append, List.nil_append, List.append_nil, Bool.not_true, Bool.not_false, Bool.false_eq_true, Bool.true_eq_false, Bool.false_beq, Bool.true_beq, if_true, if_false, decide_true, decide_false, Go.Ab.dec_t, Go.Ab.dec_f]
  rcases hn with rfl | rfl | rfl | rfl | rfl | rfl | rfl | rfl <;> exact congrArg iv (by decide +kernel)

theorem ret65 (n : Nat) (h : n < 8) (σ : List Ent) : Ret Tryd.prog 65 [.p (.sc (.int .u64 n))] σ (iv (popc n)) σ := by
  refine ret_of_walk (H := {}) (dr := commB {}) Tryd.func65 rfl (by kernel_rfl) (Nat.le_of_ble_eq_true rfl) (by kernel_rfl) (DrOk.comm mix) ?_
  simp -implicitDefEqProofs (disch := omega) only [go_sem, List.elem, ↓reduceIte, reduceCtorEq, Nat.reduceEqDiff, Nat.reduceBEq, beq_self_eq_true, List.getElem?_toArray, Nat.reduceAdd, Nat.zero_add, List.set_cons_succ, List.set_cons_zero, List.getElem?_cons_zero, List.getElem?_cons_succ, List.getElem?_nil, Option.getD_some, Option.getD_none, Option.map_some, Option.map_none, Int.toNat_natCast, List.map_cons, List.map_nil, List.cons_append, List.nil_append, List.append_nil, Bool.not_true, Bool.not_false, Bool.false_eq_true, Bool.true_eq_false, Bool.false_beq, Bool.true_beq, if_true, if_false, decide_true, decide_false, Go.Ab.dec_t, Go.Ab.dec_f]
  refine callG_keep (ret80 n h _) rfl ?_
  simp -implicitDefEqProofs (disch := omega) only [go_sem, List.elem, ↓reduceIte, reduceCtorEq, Nat.reduceEqDiff, Nat.reduceBEq, beq_self_eq_true, List.getElem?_toArray, Nat.reduceAdd, Nat.zero_add, List.set_cons_succ, List.set_cons_zero, List.getElem?_cons_zero, List.getElem?_cons_succ, List.getElem?_nil, Option.getD_some, Option.getD_none, Option.map_some, Option.map_none, Int.toNat_natCast, List.map_cons, List.map_nil, List.cons_append, List.nil_append, List.append_nil, Bool.not_true, Bool.not_false, Bool.false_eq_true, Bool.true_eq_false, Bool.false_beq, Bool.true_beq, if_true, if_false, decide_true, decide_false, Go.Ab.dec_t, Go.Ab.dec_f]
  exact end_one (.inl rfl) rfl rfl rfl

/-- Clone of a list that is not empty. -/
theorem ret64 (l : List Int) (h0 : 0 < l.length) (hl : l.length ≤ 1000000000000) (σ : List Ent) : Ret Tryd.prog 64 [.p (.sl 1 (ints l))] σ (.own 1 (ints l)) σ := by
  refine ret_of_walk (H := {}) (dr := commB {}) Tryd.func64 rfl (by kernel_rfl) (Nat.le_of_ble_eq_true rfl) (by kernel_rfl) (DrOk.comm mix) ?_
  simp -implicitDefEqProofs (disch := first | assumption | omega | (simp only [Go.Ab.ints_len, Go.Ab.rows_len, Go.Ab.icells_len, List.length_cons, List.length_nil, List.length_append, List.length_map, List.length_replicate, List.length_set, List.length_take, List.length_drop, Go.Ab.limit]; omega) | (simp only [List.length_cons, List.length_nil])) only [go_sem, List.elem, ↓reduceIte, reduceCtorEq, Nat.reduceEqDiff, Nat.reduceBEq, beq_self_eq_true, List.getElem?_toArray, Nat.reduceAdd, Nat.zero_add, List.set_cons_succ, List.set_cons_zero, List.getElem?_cons_zero, List.getElem?_cons_succ, List.getElem?_nil, Option.getD_some, Option.getD_none, Option.map_some, Option.map_none, Int.toNat_natCast, List.map_cons, List.map_nil, List.cons_append, List.nil_append, List.append_nil, Bool.not_true, Bool.not_false, Bool.false_eq_true, Bool.true_eq_false, Bool.false_beq, Bool.true_beq, if_true, if_false, decide_true, decide_false, Go.Ab.dec_t, Go.Ab.dec_f, Nat.mul_one, Nat.add_zero, Go.Ab.wrap_i64, Int.reduceAdd, Int.reduceSub, Int.reduceToNat, Int.reduceNeg, List.length_cons, List.length_nil, Int.cast_ofNat_Int, Int.toNat_zero, Int.toNat_one]
  exact end_one (.inl rfl) rfl rfl rfl
end Go.Proofs.Tryd
