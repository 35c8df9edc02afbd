/- Contracts: OnesCount, Clone. -/
import Derived.Test.YtipepkfioecbmaaDoorFe
set_option maxRecDepth 20000
set_option maxHeartbeats 4000000
set_option linter.unusedVariables false
set_option linter.unusedSimpArgs false
namespace Go.Proofs.Tryd
open Go.Ab

def popc (n : Nat) : Nat := n % 2 + n / 2 % 2 + n / 4 % 2

theorem ret80 (n : Nat) (h : n < 8) (σ : List Ent) : Ret Tryd.prog 80 [.p (.sc (.int .u64 n))] σ (iv (popc n)) σ := by
  refine ret_of_walk (H := {}) (dr := commB {}) Tryd.func80 rfl (by kernel_rfl) (Nat.le_of_ble_eq_true rfl) (by kernel_rfl) (DrOk.comm mix) ?_
  simp -implicitDefEqProofs (disch := omega) only [go_sem, List.elem, ↓reduceIte, reduceCtorEq, Nat.reduceEqDiff, Nat.reduceBEq, Nat.reduceAdd]
  have hn : n = 0 ∨ n = 1 ∨ n = 2 ∨ n = 3 ∨ n = 4 ∨ n = 5 ∨ n = 6 ∨ n = 7 := by omega
  refine end_one (.inl rfl) rfl ?_ rfl
  simp -implicitDefEqProofs only [go_sem, List.elem, ↓reduceIte, reduceCtorEq, Nat.reduceEqDiff, Nat.reduceBEq, Nat.reduceAdd]
  rcases hn with rfl | rfl | rfl | rfl | rfl | rfl | rfl | rfl <;> exact congrArg iv (by decide +kernel)

theorem ret65 (n : Nat) (h : n < 8) (σ : List Ent) : Ret Tryd.prog 65 [.p (.sc (.int .u64 n))] σ (iv (popc n)) σ := by
  refine ret_of_walk (H := {}) (dr := commB {}) Tryd.func65 rfl (by kernel_rfl) (Nat.le_of_ble_eq_true rfl) (by kernel_rfl) (DrOk.comm mix) ?_
  simp -implicitDefEqProofs (disch := omega) only [go_sem, List.elem, ↓reduceIte, reduceCtorEq, Nat.reduceEqDiff, Nat.reduceBEq, Nat.reduceAdd]
  refine callG_keep (ret80 n h _) rfl ?_
  simp -implicitDefEqProofs (disch := omega) only [go_sem, List.elem, ↓reduceIte, reduceCtorEq, Nat.reduceEqDiff, Nat.reduceBEq, Nat.reduceAdd]
  exact end_one (.inl rfl) rfl rfl rfl

/-- Clone of a list that is not empty. -/
theorem ret64 (l : List Int) (h0 : 0 < l.length) (hl : l.length ≤ 1000000000000) (σ : List Ent) : Ret Tryd.prog 64 [.p (.sl 1 (ints l))] σ (.own 1 (ints l)) σ := by
  refine ret_of_walk (H := {}) (dr := commB {}) Tryd.func64 rfl (by kernel_rfl) (Nat.le_of_ble_eq_true rfl) (by kernel_rfl) (DrOk.comm mix) ?_
  simp -implicitDefEqProofs (disch := first | assumption | omega | (simp only [ints_len, rows_len, icells_len, List.length_cons, List.length_nil, List.length_append, List.length_map, List.length_replicate, List.length_set, List.length_take, List.length_drop, limit]; omega) | (simp only [List.length_cons, List.length_nil])) only [go_sem, List.elem, ↓reduceIte, reduceCtorEq, Nat.reduceEqDiff, Nat.reduceBEq, Nat.reduceAdd, Int.reduceAdd, Int.reduceSub, Int.reduceToNat, Int.reduceNeg]
  exact end_one (.inl rfl) rfl rfl rfl
end Go.Proofs.Tryd
