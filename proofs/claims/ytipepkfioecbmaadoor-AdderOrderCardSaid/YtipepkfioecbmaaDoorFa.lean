/- Contracts: IndexFunc, ContainsFunc, Ints, Lists. -/
import Derived.Test.YtipepkfioecbmaaDoorFt
set_option maxRecDepth 20000
set_option maxHeartbeats 4000000
set_option linter.unusedVariables false
set_option linter.unusedSimpArgs false
namespace Go.Proofs.Tryd
open Go.Ab

theorem mix : Tryd.prog.follows .mixedOrders = true := by kernel_rfl

/-- f at l[i], for each i. -/
theorem ret71 (l : List Int) (f : FuncId) (x y : List AV) (p : Int → Bool) (σ : List Ent) (hl : l.length ≤ 1000000000000) (hf : ∀ v ∈ l, Ret Tryd.prog f (x ++ [iv v] ++ y) (hpA (x ++ [iv v] ++ y) σ) (bv (p v)) (hpA (x ++ [iv v] ++ y) σ)) :
    Ret Tryd.prog 71 [.p (.sl 1 (ints l)), .fn (.func f) x y] σ (iv (match l.findIdx? p with | some i => i | none => -1)) σ := by
  refine ret_of_walk (H := {}) (dr := fun _ => false) Tryd.func71 rfl (by kernel_rfl) (Nat.le_of_ble_eq_true rfl) (by kernel_rfl) DrOk.none ?_
  simp -implicitDefEqProofs (disch := first | omega | (refine _root_.id ?_; with_unfolding_all rfl) | (refine _root_.id ?_; with_unfolding_all exact Nat.le_of_ble_eq_true rfl)) only [go_sem, List.elem, ↓reduceIte, reduceCtorEq, Nat.reduceEqDiff, Nat.reduceBEq, Nat.reduceAdd]
  refine loopK_inv (fun m st => ∃ j : Nat, j + m = l.length ∧ (∀ i, i < j → ∀ v, l[i]? = some v → p v = false) ∧ st.env 0 = .p (.sl 1 (ints l)) ∧ st.env 1 = .fn (.func f) x y ∧ st.env 7 = iv l.length ∧ st.env 8 = iv j ∧ st.σ = σ) l.length ?_ ⟨0, by omega, by omega, rfl, rfl, rfl, rfl, rfl⟩
  rintro R m ⟨e, σ0⟩ hR ⟨j, hj, hb, h0, h1, h7, h8, hσ⟩
  simp only at h0 h1 h7 h8 hσ
  subst hσ
  by_cases hjl : (j : Int) < l.length
  · have hj' : j < l.length := by omega
    have hv : l[j]? = some l[j] := by simp [hj']
    simp -implicitDefEqProofs (disch := first | omega | (refine _root_.id ?_; with_unfolding_all rfl) | (refine _root_.id ?_; with_unfolding_all exact Nat.le_of_ble_eq_true rfl)) only [go_sem, List.elem, ↓reduceIte, reduceCtorEq, Nat.reduceEqDiff, Nat.reduceBEq, Nat.reduceAdd, h0, h1, h7, h8, hv]
    refine callG_keep (hf _ (List.getElem_mem hj')) rfl ?_
    cases hp : p l[j] with
    | true =>
      simp -implicitDefEqProofs (disch := first | omega | (refine _root_.id ?_; with_unfolding_all rfl) | (refine _root_.id ?_; with_unfolding_all exact Nat.le_of_ble_eq_true rfl)) only [go_sem, List.elem, ↓reduceIte, reduceCtorEq, Nat.reduceEqDiff, Nat.reduceBEq, Nat.reduceAdd, h0, h1, h7, h8, hv]
      refine end_one (.inl rfl) rfl ?_ rfl
      have : l.findIdx? p = some j := by
        rw [List.findIdx?_eq_some_iff_getElem]
        exact ⟨hj', hp, fun i hi => by simpa using hb i hi l[i] (by simp)⟩
      simp only [this]
      rfl
    | false =>
      have hw : IntKind.i64.wrap ((j : Int) + 1) = ((j + 1 : Nat) : Int) := wrap_i64 (by omega)
      simp -implicitDefEqProofs (disch := first | omega | (refine _root_.id ?_; with_unfolding_all rfl) | (refine _root_.id ?_; with_unfolding_all exact Nat.le_of_ble_eq_true rfl)) only [go_sem, List.elem, ↓reduceIte, reduceCtorEq, Nat.reduceEqDiff, Nat.reduceBEq, Nat.reduceAdd, h0, h1, h7, h8, hv, hw]
      refine hR (m - 1) _ (by omega) ⟨j + 1, by omega, fun i hi v hiv => ?_, h0, h1, h7, rfl, rfl⟩
      by_cases hij : i = j
      · subst hij; rw [hv] at hiv; cases hiv; exact hp
      · exact hb i (by omega) v hiv
  · simp -implicitDefEqProofs (disch := first | omega | (refine _root_.id ?_; with_unfolding_all rfl) | (refine _root_.id ?_; with_unfolding_all exact Nat.le_of_ble_eq_true rfl)) only [go_sem, List.elem, ↓reduceIte, reduceCtorEq, Nat.reduceEqDiff, Nat.reduceBEq, Nat.reduceAdd, h0, h1, h7, h8]
    refine end_one (.inl rfl) rfl ?_ rfl
    have : l.findIdx? p = none := by
      rw [List.findIdx?_eq_none_iff_findIdx_eq, List.findIdx_eq_length]
      intro v hv
      obtain ⟨i, hi, rfl⟩ := List.getElem_of_mem hv
      simpa using hb i (by omega) l[i] (by simp)
    simp only [this]
    rfl

theorem ret36 (l : List Int) (f : FuncId) (x y : List AV) (p : Int → Bool) (σ : List Ent) (hl : l.length ≤ 1000000000000) (hf : ∀ v ∈ l, Ret Tryd.prog f (x ++ [iv v] ++ y) (hpA (x ++ [iv v] ++ y) σ) (bv (p v)) (hpA (x ++ [iv v] ++ y) σ)) :
    Ret Tryd.prog 36 [.p (.sl 1 (ints l)), .fn (.func f) x y] σ (bv (l.any p)) σ := by
  refine ret_of_walk (H := {}) (dr := fun _ => false) Tryd.func36 rfl (by kernel_rfl) (Nat.le_of_ble_eq_true rfl) (by kernel_rfl) DrOk.none ?_
  simp -implicitDefEqProofs (disch := first | omega | (refine _root_.id ?_; with_unfolding_all rfl) | (refine _root_.id ?_; with_unfolding_all exact Nat.le_of_ble_eq_true rfl)) only [go_sem, List.elem, ↓reduceIte, reduceCtorEq, Nat.reduceEqDiff, Nat.reduceBEq, Nat.reduceAdd]
  refine callG_keep (ret71 l f x y p _ hl fun v hv => ?_) rfl ?_
  · rw [hpA_hpA (by simp [ltL_app, AV.ltL, AV.lt])]
    exact hf v hv
  · simp -implicitDefEqProofs (disch := first | omega | (refine _root_.id ?_; with_unfolding_all rfl) | (refine _root_.id ?_; with_unfolding_all exact Nat.le_of_ble_eq_true rfl)) only [go_sem, List.elem, ↓reduceIte, reduceCtorEq, Nat.reduceEqDiff, Nat.reduceBEq, Nat.reduceAdd]
    refine end_one (.inl rfl) rfl ?_ rfl
    have hw : IntKind.i64.wrap (-1) = -1 := by decide
    simp -implicitDefEqProofs only [go_sem, List.elem, ↓reduceIte, reduceCtorEq, Nat.reduceEqDiff, Nat.reduceBEq, Nat.reduceAdd]
    cases h : l.findIdx? p with
    | none =>
      have : l.any p = false := by
        rw [List.findIdx?_eq_none_iff] at h
        simp only [List.any_eq_false]
        intro v hv
        simpa using h v hv
      simp [this]
    | some i =>
      have : l.any p = true := by
        rw [List.findIdx?_eq_some_iff_getElem] at h
        obtain ⟨hi, hp, _⟩ := h
        exact List.any_eq_true.2 ⟨_, List.getElem_mem hi, hp⟩
      simp [this]

/-- Least's own test. -/
theorem ret35 (v : Int) (σ : List Ent) : Ret Tryd.prog 35 [iv v] σ (bv (decide (v < -65536) || decide (65536 < v))) σ := by
  refine ret_of_walk (H := {}) (dr := fun _ => false) Tryd.func35 rfl (by kernel_rfl) (Nat.le_of_ble_eq_true rfl) (by kernel_rfl) DrOk.none ?_
  by_cases h : v < -65536
  · simp -implicitDefEqProofs (disch := first | omega | (refine _root_.id ?_; with_unfolding_all rfl) | (refine _root_.id ?_; with_unfolding_all exact Nat.le_of_ble_eq_true rfl)) only [go_sem, List.elem, ↓reduceIte, reduceCtorEq, Nat.reduceEqDiff, Nat.reduceBEq, Nat.reduceAdd]
    refine end_one (.inl rfl) rfl ?_ rfl
    simp -implicitDefEqProofs only [go_sem, List.elem, ↓reduceIte, reduceCtorEq, Nat.reduceEqDiff, Nat.reduceBEq, Nat.reduceAdd, h]
    try simp
  · simp -implicitDefEqProofs (disch := first | omega | (refine _root_.id ?_; with_unfolding_all rfl) | (refine _root_.id ?_; with_unfolding_all exact Nat.le_of_ble_eq_true rfl)) only [go_sem, List.elem, ↓reduceIte, reduceCtorEq, Nat.reduceEqDiff, Nat.reduceBEq, Nat.reduceAdd]
    refine end_one (.inl rfl) rfl ?_ rfl
    simp -implicitDefEqProofs only [go_sem, List.elem, ↓reduceIte, reduceCtorEq, Nat.reduceEqDiff, Nat.reduceBEq, Nat.reduceAdd, h]
    try simp

theorem ret15 (l m : List Int) (σ : List Ent) (hl : l.length ≤ 1000000000000) : Ret Tryd.prog 15 [.p (.sl 1 (ints l)), .p (.sl 1 (ints m))] σ (bv (l == m)) σ := by
  refine ret_of_walk (H := {}) (dr := commB {}) Tryd.func15 rfl (by kernel_rfl) (Nat.le_of_ble_eq_true rfl) (by kernel_rfl) (DrOk.comm mix) ?_
  by_cases hlm : (l.length : Int) = m.length
  · simp -implicitDefEqProofs (disch := first | omega | (refine _root_.id ?_; with_unfolding_all rfl) | (refine _root_.id ?_; with_unfolding_all exact Nat.le_of_ble_eq_true rfl)) only [go_sem, List.elem, ↓reduceIte, reduceCtorEq, Nat.reduceEqDiff, Nat.reduceBEq, Nat.reduceAdd]
    refine loopK_inv (fun k st => ∃ j : Nat, j + k = l.length ∧ (∀ i, i < j → l[i]? = m[i]?) ∧ st.env 0 = .p (.sl 1 (ints l)) ∧ st.env 1 = .p (.sl 1 (ints m)) ∧ st.env 5 = iv j ∧ st.σ = σ) l.length ?_ ⟨0, by omega, by omega, rfl, rfl, rfl, rfl⟩
    rintro R k ⟨e, σ0⟩ hR ⟨j, hj, hb, h0, h1, h5, hσ⟩
    simp only at h0 h1 h5 hσ
    subst hσ
    by_cases hjl : (j : Int) < l.length
    · have hj' : j < l.length := by omega
      have hjm : j < m.length := by omega
      have hv : l[j]? = some l[j] := by simp [hj']
      have hw : m[j]? = some m[j] := by simp [hjm]
      simp -implicitDefEqProofs (disch := first | omega | (refine _root_.id ?_; with_unfolding_all rfl) | (refine _root_.id ?_; with_unfolding_all exact Nat.le_of_ble_eq_true rfl)) only [go_sem, List.elem, ↓reduceIte, reduceCtorEq, Nat.reduceEqDiff, Nat.reduceBEq, Nat.reduceAdd, h0, h1, h5, hv, hw]
      refine drawK_lex (by kernel_rfl) ?_
      by_cases he : l[j] = m[j]
      · have hw : IntKind.i64.wrap ((j : Int) + 1) = ((j + 1 : Nat) : Int) := wrap_i64 (by omega)
        simp -implicitDefEqProofs (disch := first | omega | (refine _root_.id ?_; with_unfolding_all rfl) | (refine _root_.id ?_; with_unfolding_all exact Nat.le_of_ble_eq_true rfl)) only [go_sem, List.elem, ↓reduceIte, reduceCtorEq, Nat.reduceEqDiff, Nat.reduceBEq, Nat.reduceAdd, h0, h1, h5, he, hw]
        refine hR (k - 1) _ (by omega) ⟨j + 1, by omega, fun i hi => ?_, h0, h1, rfl, rfl⟩
        by_cases hij : i = j
        · subst hij; simp [hj', hjm, he]
        · exact hb i (by omega)
      · simp -implicitDefEqProofs (disch := first | omega | (refine _root_.id ?_; with_unfolding_all rfl) | (refine _root_.id ?_; with_unfolding_all exact Nat.le_of_ble_eq_true rfl)) only [go_sem, List.elem, ↓reduceIte, reduceCtorEq, Nat.reduceEqDiff, Nat.reduceBEq, Nat.reduceAdd, h0, h1, h5, he]
        refine end_one (.inl rfl) rfl ?_ rfl
        have : (l == m) = false := by
          simp only [beq_eq_false_iff_ne, ne_eq]
          intro h
          subst h
          exact he rfl
        simp -implicitDefEqProofs only [go_sem, List.elem, ↓reduceIte, reduceCtorEq, Nat.reduceEqDiff, Nat.reduceBEq, Nat.reduceAdd, this]
    · simp -implicitDefEqProofs (disch := first | omega | (refine _root_.id ?_; with_unfolding_all rfl) | (refine _root_.id ?_; with_unfolding_all exact Nat.le_of_ble_eq_true rfl)) only [go_sem, List.elem, ↓reduceIte, reduceCtorEq, Nat.reduceEqDiff, Nat.reduceBEq, Nat.reduceAdd, h0, h1, h5]
      refine end_one (.inl rfl) rfl ?_ rfl
      have : (l == m) = true := by
        rw [beq_iff_eq]
        apply List.ext_getElem?
        intro i
        by_cases hi : i < j
        · exact hb i hi
        · rw [List.getElem?_eq_none (by omega), List.getElem?_eq_none (by omega)]
      simp -implicitDefEqProofs only [go_sem, List.elem, ↓reduceIte, reduceCtorEq, Nat.reduceEqDiff, Nat.reduceBEq, Nat.reduceAdd, this]
  · simp -implicitDefEqProofs (disch := first | omega | (refine _root_.id ?_; with_unfolding_all rfl) | (refine _root_.id ?_; with_unfolding_all exact Nat.le_of_ble_eq_true rfl)) only [go_sem, List.elem, ↓reduceIte, reduceCtorEq, Nat.reduceEqDiff, Nat.reduceBEq, Nat.reduceAdd]
    refine end_one (.inl rfl) rfl ?_ rfl
    have : (l == m) = false := by
      simp only [beq_eq_false_iff_ne, ne_eq]
      intro h
      subst h
      exact hlm rfl
    simp -implicitDefEqProofs only [go_sem, List.elem, ↓reduceIte, reduceCtorEq, Nat.reduceEqDiff, Nat.reduceBEq, Nat.reduceAdd, this]

end Go.Proofs.Tryd
