/- Contracts: Lists, literals. -/
import Derived.Test.YtipepkfioecbmaaDoorFa
set_option maxRecDepth 20000
set_option maxHeartbeats 4000000
set_option linter.unusedVariables false
set_option linter.unusedSimpArgs false
namespace Go.Proofs.Tryd
open Go.Ab

theorem ret16 (l m : List (List Int)) (σ : List Ent) (hl : l.length ≤ 1000000000000) (hll : ∀ x ∈ l, x.length ≤ 1000000000000) : Ret Tryd.prog 16 [.p (.sl 1 (rows l)), .p (.sl 1 (rows m))] σ (bv (l == m)) σ := by
  refine ret_of_walk (H := {}) (dr := commB {}) Tryd.func16 rfl (by kernel_rfl) (Nat.le_of_ble_eq_true rfl) (by kernel_rfl) (DrOk.comm mix) ?_
  by_cases hlm : (l.length : Int) = m.length
  · simp -implicitDefEqProofs (disch := first | omega | (refine _root_.id ?_; with_unfolding_all rfl) | (refine _root_.id ?_; with_unfolding_all exact Nat.le_of_ble_eq_true rfl)) only [go_sem, List.elem, ↓reduceIte, reduceCtorEq, Nat.reduceEqDiff, Nat.reduceBEq, Nat.reduceAdd]
    refine loopK_inv (fun k st => ∃ j : Nat, j + k = l.length ∧ (∀ i, i < j → l[i]? = m[i]?) ∧ st.env 0 = .p (.sl 1 (rows l)) ∧ st.env 1 = .p (.sl 1 (rows m)) ∧ st.env 5 = iv j ∧ st.σ = σ) l.length ?_ ⟨0, by omega, by omega, rfl, rfl, rfl, rfl⟩
    rintro R k ⟨e, σ0⟩ hR ⟨j, hj, hb, h0, h1, h5, hσ⟩
    simp only at h0 h1 h5 hσ
    subst hσ
    by_cases hjl : (j : Int) < l.length
    · have hj' : j < l.length := by omega
      have hjm : j < m.length := by omega
      have hv : l[j]? = some l[j] := by simp [hj']
      have hw : m[j]? = some m[j] := by simp [hjm]
      simp -implicitDefEqProofs (disch := first | omega | (refine _root_.id ?_; with_unfolding_all rfl) | (refine _root_.id ?_; with_unfolding_all exact Nat.le_of_ble_eq_true rfl)) only [go_sem, List.elem, ↓reduceIte, reduceCtorEq, Nat.reduceEqDiff, Nat.reduceBEq, Nat.reduceAdd, h0, h1, h5, hv, hw]
      refine drawK_lex (by kernel_rfl) ?_
      refine callG_keep (ret15 _ _ _ (hll _ (List.getElem_mem hj'))) rfl ?_
      by_cases he : l[j] = m[j]
      · have hw : IntKind.i64.wrap ((j : Int) + 1) = ((j + 1 : Nat) : Int) := wrap_i64 (by omega)
        have hq : (l[j] == m[j]) = true := by simp [he]
        simp -implicitDefEqProofs (disch := first | omega | (refine _root_.id ?_; with_unfolding_all rfl) | (refine _root_.id ?_; with_unfolding_all exact Nat.le_of_ble_eq_true rfl)) only [go_sem, List.elem, ↓reduceIte, reduceCtorEq, Nat.reduceEqDiff, Nat.reduceBEq, Nat.reduceAdd, h0, h1, h5, hq, hw]
        refine hR (k - 1) _ (by omega) ⟨j + 1, by omega, fun i hi => ?_, h0, h1, rfl, rfl⟩
        by_cases hij : i = j
        · subst hij; simp [hj', hjm, he]
        · exact hb i (by omega)
      · have hq : (l[j] == m[j]) = false := by simp [he]
        simp -implicitDefEqProofs (disch := first | omega | (refine _root_.id ?_; with_unfolding_all rfl) | (refine _root_.id ?_; with_unfolding_all exact Nat.le_of_ble_eq_true rfl)) only [go_sem, List.elem, ↓reduceIte, reduceCtorEq, Nat.reduceEqDiff, Nat.reduceBEq, Nat.reduceAdd, h0, h1, h5, hq]
        refine end_one (.inl rfl) rfl ?_ rfl
        have : (l == m) = false := by
          simp only [beq_eq_false_iff_ne, ne_eq]
          intro h
          subst h
          exact he rfl
        simp -implicitDefEqProofs only [go_sem, List.elem, ↓reduceIte, reduceCtorEq, Nat.reduceEqDiff, Nat.reduceBEq, Nat.reduceAdd, this]
    · simp -implicitDefEqProofs (disch := first | omega | (refine _root_.id ?_; with_unfolding_all rfl) | (refine _root_.id ?_; with_unfolding_all exact Nat.le_of_ble_eq_true rfl)) only [go_sem, List.elem, ↓reduceIte, reduceCtorEq, Nat.reduceEqDiff, Nat.reduceBEq, Nat.reduceAdd, h0, h1, h5]
      refine end_one (.inl rfl) rfl ?_ rfl
      have : (l == m) = true := by
        rw [beq_iff_eq]
        apply List.ext_getElem?
        intro i
        by_cases hi : i < j
        · exact hb i hi
        · rw [List.getElem?_eq_none (by omega), List.getElem?_eq_none (by omega)]
      simp -implicitDefEqProofs only [go_sem, List.elem, ↓reduceIte, reduceCtorEq, Nat.reduceEqDiff, Nat.reduceBEq, Nat.reduceAdd, this]
  · simp -implicitDefEqProofs (disch := first | omega | (refine _root_.id ?_; with_unfolding_all rfl) | (refine _root_.id ?_; with_unfolding_all exact Nat.le_of_ble_eq_true rfl)) only [go_sem, List.elem, ↓reduceIte, reduceCtorEq, Nat.reduceEqDiff, Nat.reduceBEq, Nat.reduceAdd]
    refine end_one (.inl rfl) rfl ?_ rfl
    have : (l == m) = false := by
      simp only [beq_eq_false_iff_ne, ne_eq]
      intro h
      subst h
      exact hlm rfl
    simp -implicitDefEqProofs only [go_sem, List.elem, ↓reduceIte, reduceCtorEq, Nat.reduceEqDiff, Nat.reduceBEq, Nat.reduceAdd, this]

/-- Is it a literal of 1 .. n? -/
def mayF (x n : Int) : Bool := decide (x ≠ 0 ∧ -n ≤ x ∧ x ≤ n)

theorem ret42 (x n : Int) (σ : List Ent) (hn : 0 ≤ n ∧ n < 9223372036854775808) : Ret Tryd.prog 42 [iv x, iv n] σ (bv (mayF x n)) σ := by
  refine ret_of_walk (H := {}) (dr := commB {}) Tryd.func42 rfl (by kernel_rfl) (Nat.le_of_ble_eq_true rfl) (by kernel_rfl) (DrOk.comm mix) ?_
  have hw : IntKind.i64.wrap (0 - n) = -n := by rw [wrap_i64 (by omega)]; omega
  by_cases h1 : x = 0
  · simp -implicitDefEqProofs (disch := first | omega | (refine _root_.id ?_; with_unfolding_all rfl) | (refine _root_.id ?_; with_unfolding_all exact Nat.le_of_ble_eq_true rfl)) only [go_sem, List.elem, ↓reduceIte, reduceCtorEq, Nat.reduceEqDiff, Nat.reduceBEq, Nat.reduceAdd]
    refine end_one (.inl rfl) rfl ?_ rfl
    simp -implicitDefEqProofs only [go_sem, List.elem, ↓reduceIte, reduceCtorEq, Nat.reduceEqDiff, Nat.reduceBEq, Nat.reduceAdd, mayF, h1]; try simp
  · by_cases h2 : -n ≤ x
    · simp -implicitDefEqProofs (disch := first | omega | (refine _root_.id ?_; with_unfolding_all rfl) | (refine _root_.id ?_; with_unfolding_all exact Nat.le_of_ble_eq_true rfl)) only [go_sem, List.elem, ↓reduceIte, reduceCtorEq, Nat.reduceEqDiff, Nat.reduceBEq, Nat.reduceAdd, hw]
      refine end_one (.inl rfl) rfl ?_ rfl
      simp -implicitDefEqProofs only [go_sem, List.elem, ↓reduceIte, reduceCtorEq, Nat.reduceEqDiff, Nat.reduceBEq, Nat.reduceAdd, mayF, h1, h2]; try simp
      try (intros; assumption)
    · simp -implicitDefEqProofs (disch := first | omega | (refine _root_.id ?_; with_unfolding_all rfl) | (refine _root_.id ?_; with_unfolding_all exact Nat.le_of_ble_eq_true rfl)) only [go_sem, List.elem, ↓reduceIte, reduceCtorEq, Nat.reduceEqDiff, Nat.reduceBEq, Nat.reduceAdd, hw]
      refine end_one (.inl rfl) rfl ?_ rfl
      simp -implicitDefEqProofs only [go_sem, List.elem, ↓reduceIte, reduceCtorEq, Nat.reduceEqDiff, Nat.reduceBEq, Nat.reduceAdd, mayF, h1, h2]; try simp
      try (intros; assumption)

def absF (x : Int) : Int := max x (-x)

theorem ret72 (x : Int) (σ : List Ent) (hx : -9223372036854775808 < x ∧ x < 9223372036854775808) : Ret Tryd.prog 72 [iv x] σ (iv (absF x)) σ := by
  refine ret_of_walk (H := {}) (dr := commB {}) Tryd.func72 rfl (by kernel_rfl) (Nat.le_of_ble_eq_true rfl) (by kernel_rfl) (DrOk.comm mix) ?_
  have hw : IntKind.i64.wrap (0 - x) = -x := by rw [wrap_i64 (by omega)]; omega
  simp -implicitDefEqProofs (disch := first | omega | (refine _root_.id ?_; with_unfolding_all rfl) | (refine _root_.id ?_; with_unfolding_all exact Nat.le_of_ble_eq_true rfl)) only [go_sem, List.elem, ↓reduceIte, reduceCtorEq, Nat.reduceEqDiff, Nat.reduceBEq, Nat.reduceAdd, hw]
  refine end_one (.inl rfl) rfl ?_ rfl
  have hw2 : IntKind.i64.wrap (max x (-x)) = max x (-x) := wrap_i64 (by omega)
  simp -implicitDefEqProofs only [go_sem, List.elem, ↓reduceIte, reduceCtorEq, Nat.reduceEqDiff, Nat.reduceBEq, Nat.reduceAdd, hw2, absF]

def bls (l : List Bool) : List PV := l.map fun b => .sc (.bool b)

/-- lit.true. -/
def trueF (x : Int) (a : List Bool) : Bool := mayF x 65536 && (((a[(absF x).toNat]?).getD false) == decide (0 < x))

theorem ret38 (x : Int) (a : List Bool) (σ : List Ent) (ha : a.length ≤ 1000000000000) (hx : -9223372036854775808 ≤ x ∧ x < 9223372036854775808) : Ret Tryd.prog 38 [iv x, .p (.sl 1 (bls a))] σ (bv (trueF x a)) σ := by
  refine ret_of_walk (H := {}) (dr := commB {}) Tryd.func38 rfl (by kernel_rfl) (Nat.le_of_ble_eq_true rfl) (by kernel_rfl) (DrOk.comm mix) ?_
  simp -implicitDefEqProofs (disch := first | omega | (refine _root_.id ?_; with_unfolding_all rfl) | (refine _root_.id ?_; with_unfolding_all exact Nat.le_of_ble_eq_true rfl)) only [go_sem, List.elem, ↓reduceIte, reduceCtorEq, Nat.reduceEqDiff, Nat.reduceBEq, Nat.reduceAdd]
  refine callG_keep (ret42 x 65536 _ (by omega)) rfl ?_
  cases hm : mayF x 65536 with
  | false =>
    simp -implicitDefEqProofs (disch := first | omega | (refine _root_.id ?_; with_unfolding_all rfl) | (refine _root_.id ?_; with_unfolding_all exact Nat.le_of_ble_eq_true rfl)) only [go_sem, List.elem, ↓reduceIte, reduceCtorEq, Nat.reduceEqDiff, Nat.reduceBEq, Nat.reduceAdd]
    refine end_one (.inl rfl) rfl ?_ rfl
    simp -implicitDefEqProofs only [go_sem, List.elem, ↓reduceIte, reduceCtorEq, Nat.reduceEqDiff, Nat.reduceBEq, Nat.reduceAdd, trueF, hm, Bool.false_and]
  | true =>
    have hb : -65536 ≤ x ∧ x ≤ 65536 ∧ x ≠ 0 := by simp [mayF] at hm; omega
    simp -implicitDefEqProofs (disch := first | omega | (refine _root_.id ?_; with_unfolding_all rfl) | (refine _root_.id ?_; with_unfolding_all exact Nat.le_of_ble_eq_true rfl)) only [go_sem, List.elem, ↓reduceIte, reduceCtorEq, Nat.reduceEqDiff, Nat.reduceBEq, Nat.reduceAdd]
    refine callG_keep (ret72 x _ (by omega)) rfl ?_
    have h0 : 0 ≤ absF x := by unfold absF; omega
    have hbl : (bls a).length = a.length := by simp [bls]
    have hbi : ∀ i : Nat, (bls a)[i]? = (a[i]?).map fun b => .sc (.bool b) := fun i => by simp [bls]
    by_cases hl : absF x < a.length
    · have hi : a[(absF x).toNat]? = some a[(absF x).toNat] := by simp
      simp -implicitDefEqProofs (disch := first | omega | (refine _root_.id ?_; with_unfolding_all rfl) | (refine _root_.id ?_; with_unfolding_all exact Nat.le_of_ble_eq_true rfl)) only [go_sem, List.elem, ↓reduceIte, reduceCtorEq, Nat.reduceEqDiff, Nat.reduceBEq, Nat.reduceAdd, hbl, hbi, hi]
      refine end_one (.inl rfl) rfl ?_ rfl
      simp -implicitDefEqProofs only [go_sem, List.elem, ↓reduceIte, reduceCtorEq, Nat.reduceEqDiff, Nat.reduceBEq, Nat.reduceAdd, trueF, hm, hi, Bool.true_and]
    · have hi : a[(absF x).toNat]? = none := by simp; omega
      simp -implicitDefEqProofs (disch := first | omega | (refine _root_.id ?_; with_unfolding_all rfl) | (refine _root_.id ?_; with_unfolding_all exact Nat.le_of_ble_eq_true rfl)) only [go_sem, List.elem, ↓reduceIte, reduceCtorEq, Nat.reduceEqDiff, Nat.reduceBEq, Nat.reduceAdd, hbl, hbi, hi]
      refine end_one (.inl rfl) rfl ?_ rfl
      simp -implicitDefEqProofs only [go_sem, List.elem, ↓reduceIte, reduceCtorEq, Nat.reduceEqDiff, Nat.reduceBEq, Nat.reduceAdd, trueF, hm, hi, Bool.true_and]

/-- The test of Holds, over the box that holds a. -/
theorem ret37 (x : Int) (a : List Bool) (id ver : Nat) (σ : List Ent) (ha : a.length ≤ 1000000000000) (hx : -9223372036854775808 ≤ x ∧ x < 9223372036854775808) (hσ : σ[id]? = some (.cells ver [.p (.sl 1 (bls a))])) :
    Ret Tryd.prog 37 [iv x, .ref id ver 0] σ (bv (trueF x a)) σ := by
  refine ret_of_walk (H := {}) (dr := commB {}) Tryd.func37 rfl (by kernel_rfl) (Nat.le_of_ble_eq_true rfl) (by kernel_rfl) (DrOk.comm mix) ?_
  simp -implicitDefEqProofs (disch := first | omega | (refine _root_.id ?_; with_unfolding_all rfl) | (refine _root_.id ?_; with_unfolding_all exact Nat.le_of_ble_eq_true rfl)) only [go_sem, List.elem, ↓reduceIte, reduceCtorEq, Nat.reduceEqDiff, Nat.reduceBEq, Nat.reduceAdd, hσ]
  refine callG_keep (ret38 x a _ ha hx) rfl ?_
  simp -implicitDefEqProofs (disch := first | omega | (refine _root_.id ?_; with_unfolding_all rfl) | (refine _root_.id ?_; with_unfolding_all exact Nat.le_of_ble_eq_true rfl)) only [go_sem, List.elem, ↓reduceIte, reduceCtorEq, Nat.reduceEqDiff, Nat.reduceBEq, Nat.reduceAdd]
  exact end_one (.inl rfl) rfl rfl rfl

def holdsF (l : List Int) (a : List Bool) : Bool := l.any fun x => trueF x a

def I64 (x : Int) : Prop := -9223372036854775808 ≤ x ∧ x < 9223372036854775808

theorem ret20 (l : List Int) (a : List Bool) (σ : List Ent) (hl : l.length ≤ 1000000000000) (ha : a.length ≤ 1000000000000) (hx : ∀ x ∈ l, I64 x) :
    ∃ σ', Ret Tryd.prog 20 [.p (.sl 1 (ints l)), .p (.sl 1 (bls a))] σ (bv (holdsF l a)) σ' := by
  refine ⟨σ ++ [.cells 0 [.p (.sl 1 (bls a))]], ?_⟩
  refine ret_of_walk (H := {}) (dr := commB {}) Tryd.func20 rfl (by kernel_rfl) (Nat.le_of_ble_eq_true rfl) (by kernel_rfl) (DrOk.comm mix) ?_
  simp -implicitDefEqProofs (disch := first | omega | (refine _root_.id ?_; with_unfolding_all rfl) | (refine _root_.id ?_; with_unfolding_all exact Nat.le_of_ble_eq_true rfl)) only [go_sem, List.elem, ↓reduceIte, reduceCtorEq, Nat.reduceEqDiff, Nat.reduceBEq, Nat.reduceAdd]
  refine callG_keep (ret36 l 37 [] [.ref σ.length 0 0] (fun x => trueF x a) _ hl fun v hv => ?_) rfl ?_
  · have h1 : hpA ([] ++ [iv v] ++ [AV.ref σ.length 0 0]) (hpA [AV.p (PV.sl 1 (ints l)), AV.fn (Fn.func 37) [] [AV.ref σ.length 0 0]] (σ ++ [Ent.cells 0 [AV.p (PV.sl 1 (bls a))]])) = σ ++ [Ent.cells 0 [AV.p (PV.sl 1 (bls a))]] := by
      simp [hpA, AV.ltL, AV.lt]
    show Ret _ _ _ (hpA _ (hpA _ _)) _ (hpA _ (hpA _ _))
    have h2 := ret37 v a σ.length 0 (σ ++ [Ent.cells 0 [AV.p (PV.sl 1 (bls a))]]) ha (hx v hv) (by simp)
    rw [← h1] at h2
    exact h2
  · simp -implicitDefEqProofs (disch := first | omega | (refine _root_.id ?_; with_unfolding_all rfl) | (refine _root_.id ?_; with_unfolding_all exact Nat.le_of_ble_eq_true rfl)) only [go_sem, List.elem, ↓reduceIte, reduceCtorEq, Nat.reduceEqDiff, Nat.reduceBEq, Nat.reduceAdd]
    exact end_one (.inl rfl) rfl rfl rfl

end Go.Proofs.Tryd
