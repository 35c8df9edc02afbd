/- Contracts: the adder's work. -/
import Derived.Test.YtipepkfioecbmaaDoorFc
set_option maxRecDepth 20000
set_option maxHeartbeats 4000000
set_option linter.unusedVariables false
set_option linter.unusedSimpArgs false
namespace Go.Proofs.Tryd
open Go.Ab

theorem ret63 (id ver : Nat) (m c : AV) (n : Int) (σ : List Ent) (hn : 0 ≤ n ∧ n < 1000000000000) (hσ : σ[id]? = some (.cells ver [m, c, iv n])) :
    Ret Tryd.prog 63 [.ref id ver 0] σ (iv n) (σ.set id (.cells ver [m, c, iv (n + 1)])) := by
  have hid : id < σ.length := (List.getElem?_eq_some_iff.1 hσ).1
  refine ret_of_walk (H := {}) (dr := commB {}) Tryd.func63 rfl (by kernel_rfl) (Nat.le_of_ble_eq_true rfl) (by kernel_rfl) (DrOk.comm mix) ?_
  have h1 : IntKind.i64.wrap (n + 1) = n + 1 := wrap_i64 (by omega)
  have h2 : IntKind.i64.wrap (n + 1 - 1) = n := by rw [wrap_i64 (by omega)]; omega
  simp -implicitDefEqProofs (disch := first | omega | (refine _root_.id ?_; with_unfolding_all rfl) | (refine _root_.id ?_; with_unfolding_all exact Nat.le_of_ble_eq_true rfl)) only [go_sem, List.elem, ↓reduceIte, reduceCtorEq, Nat.reduceEqDiff, Nat.reduceBEq, Nat.reduceAdd, hσ, h1, h2, List.getElem?_set, hid]
  refine end_one (.inl rfl) rfl ?_ rfl
  simp -implicitDefEqProofs only [go_sem, List.elem, ↓reduceIte, reduceCtorEq, Nat.reduceEqDiff, Nat.reduceBEq, Nat.reduceAdd]

theorem ret66 (id ver : Nat) (m n : AV) (cl : List (List Int)) (l : List Int) (σ : List Ent) (hc : cl.length < 1000000000000) (hσ : σ[id]? = some (.cells ver [m, .own 1 (rows cl), n])) :
    Ret Tryd.prog 66 [.ref id ver 0, .p (.sl 1 (ints l))] σ (.tu []) (σ.set id (.cells ver [m, .own 1 (rows (cl ++ [l])), n])) := by
  have hid : id < σ.length := (List.getElem?_eq_some_iff.1 hσ).1
  have hcl : (rows cl).length + (rows [l]).length ≤ limit := by simp [rows_len, limit]; omega
  refine ret_of_walk (H := { tk := [8] }) (dr := commB { tk := [8] }) Tryd.func66 rfl (by kernel_rfl) (Nat.le_of_ble_eq_true rfl) (by kernel_rfl) (DrOk.comm mix) ?_
  simp -implicitDefEqProofs (disch := omega) only [go_sem, List.elem, ↓reduceIte, reduceCtorEq, Nat.reduceEqDiff, Nat.reduceBEq, Nat.reduceAdd, hσ, List.getElem?_set, hid]
  refine end_n [] (.inr rfl) rfl (by simp) (by simp) rfl ?_
  simp -implicitDefEqProofs only [go_sem, List.elem, ↓reduceIte, reduceCtorEq, Nat.reduceEqDiff, Nat.reduceBEq, Nat.reduceAdd, List.set_set]

/-- do(x, y): its clause; the boxes of w and c. -/
theorem ret68 (wb cb vb vc id ver : Nat) (m n : AV) (c x y : Int) (cl : List (List Int)) (σ : List Ent) (hc : cl.length < 1000000000000) (hx : Sm x) (hy : Sm y)
    (hw : σ[wb]? = some (.cells vb [.ref id ver 0])) (hcb : σ[cb]? = some (.cells vc [iv c])) (hσ : σ[id]? = some (.cells ver [m, .own 1 (rows cl), n])) :
    Ret Tryd.prog 68 [iv x, iv y, .ref wb vb 0, .ref cb vc 0] σ (.tu []) (σ.set id (.cells ver [m, .own 1 (rows (cl ++ [[-x, -y, c]])), n])) := by
  refine ret_of_walk (H := {}) (dr := commB {}) Tryd.func68 rfl (by kernel_rfl) (Nat.le_of_ble_eq_true rfl) (by kernel_rfl) (DrOk.comm mix) ?_
  simp -implicitDefEqProofs (disch := omega) only [go_sem, List.elem, ↓reduceIte, reduceCtorEq, Nat.reduceEqDiff, Nat.reduceBEq, Nat.reduceAdd, hσ, hw, hcb, wrap_neg hx, wrap_neg hy]
  refine callG_upd (ret66 id ver m n cl _ σ hc hσ) rfl (by simp) ?_
  simp -implicitDefEqProofs (disch := omega) only [go_sem, List.elem, ↓reduceIte, reduceCtorEq, Nat.reduceEqDiff, Nat.reduceBEq, Nat.reduceAdd]
  exact end_n [] (.inr rfl) rfl (by simp) (by simp) rfl rfl

theorem ret69 (wb cb vb vc id ver : Nat) (m n : AV) (c x y : Int) (cl : List (List Int)) (σ : List Ent) (hc : cl.length < 1000000000000) (hcc : Sm c)
    (hw : σ[wb]? = some (.cells vb [.ref id ver 0])) (hcb : σ[cb]? = some (.cells vc [iv c])) (hσ : σ[id]? = some (.cells ver [m, .own 1 (rows cl), n])) :
    Ret Tryd.prog 69 [iv x, iv y, .ref wb vb 0, .ref cb vc 0] σ (.tu []) (σ.set id (.cells ver [m, .own 1 (rows (cl ++ [[x, y, -c]])), n])) := by
  refine ret_of_walk (H := {}) (dr := commB {}) Tryd.func69 rfl (by kernel_rfl) (Nat.le_of_ble_eq_true rfl) (by kernel_rfl) (DrOk.comm mix) ?_
  simp -implicitDefEqProofs (disch := omega) only [go_sem, List.elem, ↓reduceIte, reduceCtorEq, Nat.reduceEqDiff, Nat.reduceBEq, Nat.reduceAdd, hσ, hw, hcb, wrap_neg hcc]
  refine callG_upd (ret66 id ver m n cl _ σ hc hσ) rfl (by simp) ?_
  simp -implicitDefEqProofs (disch := omega) only [go_sem, List.elem, ↓reduceIte, reduceCtorEq, Nat.reduceEqDiff, Nat.reduceBEq, Nat.reduceAdd]
  exact end_n [] (.inr rfl) rfl (by simp) (by simp) rfl rfl

end Go.Proofs.Tryd
