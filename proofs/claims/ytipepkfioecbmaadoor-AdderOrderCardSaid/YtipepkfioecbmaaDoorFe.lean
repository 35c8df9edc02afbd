/- Contracts: the adder's pairs. -/
import Derived.Test.YtipepkfioecbmaaDoorFd
set_option maxRecDepth 20000
set_option maxHeartbeats 4000000
set_option linter.unusedVariables false
set_option linter.unusedSimpArgs false
namespace Go.Proofs.Tryd
open Go.Ab

theorem ret67_2 (f : FuncId) (x y : List AV) (a b : Int) (lb vl : Nat) (σ σ1 : List Ent) (hr : AV.ltL 0 (x ++ [iv a, iv b] ++ y) = false)
    (hl : σ[lb]? = some (.cells vl [.p (.sl 1 (ints [a, b]))])) (hl1 : σ1[lb]? = some (.cells vl [.p (.sl 1 (ints [a, b]))]))
    (h1 : Ret Tryd.prog f (x ++ [iv a, iv b] ++ y) σ (.tu []) σ1) (hn : σ1.length = σ.length) :
    Ret Tryd.prog 67 [.fn (.func f) x y, .ref lb vl 0] σ (.tu []) σ1 := by
  refine ret_of_walk (H := {}) (dr := commB {}) Tryd.func67 rfl (by kernel_rfl) (Nat.le_of_ble_eq_true rfl) (by kernel_rfl) (DrOk.comm mix) ?_
  simp -implicitDefEqProofs (disch := omega) only [go_sem, List.elem, ↓reduceIte, reduceCtorEq, Nat.reduceEqDiff, Nat.reduceBEq, Nat.reduceAdd, Int.reduceAdd, Int.reduceSub, Int.reduceToNat, Int.reduceNeg, hl]
  refine loopK_round ?_
  simp -implicitDefEqProofs (disch := omega) only [go_sem, List.elem, ↓reduceIte, reduceCtorEq, Nat.reduceEqDiff, Nat.reduceBEq, Nat.reduceAdd, Int.reduceAdd, Int.reduceSub, Int.reduceToNat, Int.reduceNeg, hl]
  refine loopK_round ?_
  simp -implicitDefEqProofs (disch := omega) only [go_sem, List.elem, ↓reduceIte, reduceCtorEq, Nat.reduceEqDiff, Nat.reduceBEq, Nat.reduceAdd, Int.reduceAdd, Int.reduceSub, Int.reduceToNat, Int.reduceNeg, hl]
  refine drawK_lex (by kernel_rfl) ?_
  refine callG_upd h1 hr hn ?_
  simp -implicitDefEqProofs (disch := omega) only [go_sem, List.elem, ↓reduceIte, reduceCtorEq, Nat.reduceEqDiff, Nat.reduceBEq, Nat.reduceAdd, Int.reduceAdd, Int.reduceSub, Int.reduceToNat, Int.reduceNeg, hl1]
  refine loopK_round ?_
  simp -implicitDefEqProofs (disch := omega) only [go_sem, List.elem, ↓reduceIte, reduceCtorEq, Nat.reduceEqDiff, Nat.reduceBEq, Nat.reduceAdd, Int.reduceAdd, Int.reduceSub, Int.reduceToNat, Int.reduceNeg, hl1]
  refine loopK_round ?_
  simp -implicitDefEqProofs (disch := omega) only [go_sem, List.elem, ↓reduceIte, reduceCtorEq, Nat.reduceEqDiff, Nat.reduceBEq, Nat.reduceAdd, Int.reduceAdd, Int.reduceSub, Int.reduceToNat, Int.reduceNeg, hl1]
  refine loopK_round ?_
  simp -implicitDefEqProofs (disch := omega) only [go_sem, List.elem, ↓reduceIte, reduceCtorEq, Nat.reduceEqDiff, Nat.reduceBEq, Nat.reduceAdd, Int.reduceAdd, Int.reduceSub, Int.reduceToNat, Int.reduceNeg, hl1]
  refine loopK_round ?_
  simp -implicitDefEqProofs (disch := omega) only [go_sem, List.elem, ↓reduceIte, reduceCtorEq, Nat.reduceEqDiff, Nat.reduceBEq, Nat.reduceAdd, Int.reduceAdd, Int.reduceSub, Int.reduceToNat, Int.reduceNeg, hl1]
  exact end_n [] (.inr rfl) rfl (by simp) (by simp) rfl rfl

theorem ret67_3 (f : FuncId) (x y : List AV) (a b c : Int) (lb vl : Nat) (σ σ1 σ2 σ3 : List Ent) (hr1 : AV.ltL 0 (x ++ [iv a, iv b] ++ y) = false) (hr2 : AV.ltL 0 (x ++ [iv a, iv c] ++ y) = false) (hr3 : AV.ltL 0 (x ++ [iv b, iv c] ++ y) = false)
    (hl : σ[lb]? = some (.cells vl [.p (.sl 1 (ints [a, b, c]))])) (hl1 : σ1[lb]? = some (.cells vl [.p (.sl 1 (ints [a, b, c]))])) (hl2 : σ2[lb]? = some (.cells vl [.p (.sl 1 (ints [a, b, c]))])) (hl3 : σ3[lb]? = some (.cells vl [.p (.sl 1 (ints [a, b, c]))]))
    (h1 : Ret Tryd.prog f (x ++ [iv a, iv b] ++ y) σ (.tu []) σ1) (h2 : Ret Tryd.prog f (x ++ [iv a, iv c] ++ y) σ1 (.tu []) σ2) (h3 : Ret Tryd.prog f (x ++ [iv b, iv c] ++ y) σ2 (.tu []) σ3)
    (hn1 : σ1.length = σ.length) (hn2 : σ2.length = σ1.length) (hn3 : σ3.length = σ2.length) :
    Ret Tryd.prog 67 [.fn (.func f) x y, .ref lb vl 0] σ (.tu []) σ3 := by
  refine ret_of_walk (H := {}) (dr := commB {}) Tryd.func67 rfl (by kernel_rfl) (Nat.le_of_ble_eq_true rfl) (by kernel_rfl) (DrOk.comm mix) ?_
  simp -implicitDefEqProofs (disch := omega) only [go_sem, List.elem, ↓reduceIte, reduceCtorEq, Nat.reduceEqDiff, Nat.reduceBEq, Nat.reduceAdd, Int.reduceAdd, Int.reduceSub, Int.reduceToNat, Int.reduceNeg, hl]
  refine loopK_round ?_
  simp -implicitDefEqProofs (disch := omega) only [go_sem, List.elem, ↓reduceIte, reduceCtorEq, Nat.reduceEqDiff, Nat.reduceBEq, Nat.reduceAdd, Int.reduceAdd, Int.reduceSub, Int.reduceToNat, Int.reduceNeg, hl]
  refine loopK_round ?_
  simp -implicitDefEqProofs (disch := omega) only [go_sem, List.elem, ↓reduceIte, reduceCtorEq, Nat.reduceEqDiff, Nat.reduceBEq, Nat.reduceAdd, Int.reduceAdd, Int.reduceSub, Int.reduceToNat, Int.reduceNeg, hl]
  refine drawK_lex (by kernel_rfl) ?_
  refine callG_upd h1 hr1 hn1 ?_
  simp -implicitDefEqProofs (disch := omega) only [go_sem, List.elem, ↓reduceIte, reduceCtorEq, Nat.reduceEqDiff, Nat.reduceBEq, Nat.reduceAdd, Int.reduceAdd, Int.reduceSub, Int.reduceToNat, Int.reduceNeg, hl1]
  refine loopK_round ?_
  simp -implicitDefEqProofs (disch := omega) only [go_sem, List.elem, ↓reduceIte, reduceCtorEq, Nat.reduceEqDiff, Nat.reduceBEq, Nat.reduceAdd, Int.reduceAdd, Int.reduceSub, Int.reduceToNat, Int.reduceNeg, hl1]
  refine drawK_lex (by kernel_rfl) ?_
  refine callG_upd h2 hr2 hn2 ?_
  simp -implicitDefEqProofs (disch := omega) only [go_sem, List.elem, ↓reduceIte, reduceCtorEq, Nat.reduceEqDiff, Nat.reduceBEq, Nat.reduceAdd, Int.reduceAdd, Int.reduceSub, Int.reduceToNat, Int.reduceNeg, hl2]
  refine loopK_round ?_
  simp -implicitDefEqProofs (disch := omega) only [go_sem, List.elem, ↓reduceIte, reduceCtorEq, Nat.reduceEqDiff, Nat.reduceBEq, Nat.reduceAdd, Int.reduceAdd, Int.reduceSub, Int.reduceToNat, Int.reduceNeg, hl2]
  refine loopK_round ?_
  simp -implicitDefEqProofs (disch := omega) only [go_sem, List.elem, ↓reduceIte, reduceCtorEq, Nat.reduceEqDiff, Nat.reduceBEq, Nat.reduceAdd, Int.reduceAdd, Int.reduceSub, Int.reduceToNat, Int.reduceNeg, hl2]
  refine loopK_round ?_
  simp -implicitDefEqProofs (disch := omega) only [go_sem, List.elem, ↓reduceIte, reduceCtorEq, Nat.reduceEqDiff, Nat.reduceBEq, Nat.reduceAdd, Int.reduceAdd, Int.reduceSub, Int.reduceToNat, Int.reduceNeg, hl2]
  refine drawK_lex (by kernel_rfl) ?_
  refine callG_upd h3 hr3 hn3 ?_
  simp -implicitDefEqProofs (disch := omega) only [go_sem, List.elem, ↓reduceIte, reduceCtorEq, Nat.reduceEqDiff, Nat.reduceBEq, Nat.reduceAdd, Int.reduceAdd, Int.reduceSub, Int.reduceToNat, Int.reduceNeg, hl3]
  refine loopK_round ?_
  simp -implicitDefEqProofs (disch := omega) only [go_sem, List.elem, ↓reduceIte, reduceCtorEq, Nat.reduceEqDiff, Nat.reduceBEq, Nat.reduceAdd, Int.reduceAdd, Int.reduceSub, Int.reduceToNat, Int.reduceNeg, hl3]
  refine loopK_round ?_
  simp -implicitDefEqProofs (disch := omega) only [go_sem, List.elem, ↓reduceIte, reduceCtorEq, Nat.reduceEqDiff, Nat.reduceBEq, Nat.reduceAdd, Int.reduceAdd, Int.reduceSub, Int.reduceToNat, Int.reduceNeg, hl3]
  refine loopK_round ?_
  simp -implicitDefEqProofs (disch := omega) only [go_sem, List.elem, ↓reduceIte, reduceCtorEq, Nat.reduceEqDiff, Nat.reduceBEq, Nat.reduceAdd, Int.reduceAdd, Int.reduceSub, Int.reduceToNat, Int.reduceNeg, hl3]
  refine loopK_round ?_
  simp -implicitDefEqProofs (disch := omega) only [go_sem, List.elem, ↓reduceIte, reduceCtorEq, Nat.reduceEqDiff, Nat.reduceBEq, Nat.reduceAdd, Int.reduceAdd, Int.reduceSub, Int.reduceToNat, Int.reduceNeg, hl3]
  exact end_n [] (.inr rfl) rfl (by simp) (by simp) rfl rfl
end Go.Proofs.Tryd
