/- Contracts: the reference's put. -/
import Derived.Test.YtipepkfioecbmaaDoorFk
set_option maxRecDepth 20000
set_option maxHeartbeats 4000000
set_option linter.unusedVariables false
set_option linter.unusedSimpArgs false
namespace Go.Proofs.Tryd
open Go.Ab Go.Adder

/-- The heap of the reference's Sum: before the first put; behind it. -/
def S0 (cl : List (List Int)) (n : Int) : List Ent := [.cells 0 [.own 1 [], .own 1 (rows cl), iv n]]
def S1 (v : Nat) (cs : List AV) (cl : List (List Int)) (n : Int) : List Ent := [.cells 0 [.arr 1 1 v 0 cs.length, .own 1 (rows cl), iv n], .cells v cs]
def nilc : AV := .p (.sc (.slice none 0 0))

theorem ret33 (k : Nat) (x : Int) (cl : List (List Int)) (n : Int) (v : Nat) (cs : List AV) (σ : List Ent) (r : List Int) (hk : k < 1000000) (hc : cs.length < 1000000) (hr : r.length < 1000000)
    (hσ : (v = 0 ∧ cs = [] ∧ σ = S0 cl n) ∨ σ = S1 v cs cl n) (hrow : (cs ++ List.replicate (k + 1 - cs.length) nilc)[k]? = some (.own 1 (ints r)) ∨ ((cs ++ List.replicate (k + 1 - cs.length) nilc)[k]? = some nilc ∧ r = [])) :
    Ret Tryd.prog 33 [.ref 0 0 0, iv k, iv x] σ (.tu []) (S1 (v + (k + 1 - cs.length)) ((cs ++ List.replicate (k + 1 - cs.length) nilc).set k (.own 1 (ints (r ++ [x])))) cl n) := by
  refine ret_of_walk (H := { tk := [17], ar := [19] }) (dr := commB { tk := [17], ar := [19] }) Tryd.func33 rfl (by kernel_rfl) (Nat.le_of_ble_eq_true rfl) (by kernel_rfl) (DrOk.comm mix) ?_
  obtain ⟨p, hp⟩ : ∃ p, p = k + 1 - cs.length := ⟨_, rfl⟩
  rw [← hp] at hrow ⊢
  have hst : ((0 : Nat) = 0 ∧ v = 0 ∧ cs = [] ∧ σ = S0 cl n) ∨ σ = S1 (v + 0) (cs ++ List.replicate 0 nilc) cl n := by
    rcases hσ with ⟨h1, h2, h3⟩ | h3
    · exact .inl ⟨rfl, h1, h2, h3⟩
    · exact .inr (by simpa using h3)
  simp -implicitDefEqProofs (disch := first | assumption | omega | (simp only [ints_len, rows_len, icells_len, List.length_cons, List.length_nil, List.length_append, List.length_map, List.length_replicate, List.length_set, List.length_take, List.length_drop, limit]; omega) | (simp only [List.length_cons, List.length_nil])) only [go_sem, List.elem, ↓reduceIte, reduceCtorEq, Nat.reduceEqDiff, Nat.reduceBEq, Nat.reduceAdd, Int.reduceAdd, Int.reduceSub, Int.reduceToNat, Int.reduceNeg]
  refine loopK_inv (fun m st => ∃ i : Nat, i + m = p ∧ ((i = 0 ∧ v = 0 ∧ cs = [] ∧ st.σ = S0 cl n) ∨ st.σ = S1 (v + i) (cs ++ List.replicate i nilc) cl n) ∧ st.env 0 = .ref 0 0 0 ∧ st.env 1 = iv k ∧ st.env 2 = iv x) p ?_
    ⟨0, by omega, hst, by simp -implicitDefEqProofs (disch := first | assumption | omega | (simp only [ints_len, rows_len, icells_len, List.length_cons, List.length_nil, List.length_append, List.length_map, List.length_replicate, List.length_set, List.length_take, List.length_drop, limit]; omega) | (simp only [List.length_cons, List.length_nil])) only [go_sem, List.elem, ↓reduceIte, reduceCtorEq, Nat.reduceEqDiff, Nat.reduceBEq, Nat.reduceAdd, Int.reduceAdd, Int.reduceSub, Int.reduceToNat, Int.reduceNeg], by simp -implicitDefEqProofs (disch := first | assumption | omega | (simp only [ints_len, rows_len, icells_len, List.length_cons, List.length_nil, List.length_append, List.length_map, List.length_replicate, List.length_set, List.length_take, List.length_drop, limit]; omega) | (simp only [List.length_cons, List.length_nil])) only [go_sem, List.elem, ↓reduceIte, reduceCtorEq, Nat.reduceEqDiff, Nat.reduceBEq, Nat.reduceAdd, Int.reduceAdd, Int.reduceSub, Int.reduceToNat, Int.reduceNeg], by simp -implicitDefEqProofs (disch := first | assumption | omega | (simp only [ints_len, rows_len, icells_len, List.length_cons, List.length_nil, List.length_append, List.length_map, List.length_replicate, List.length_set, List.length_take, List.length_drop, limit]; omega) | (simp only [List.length_cons, List.length_nil])) only [go_sem, List.elem, ↓reduceIte, reduceCtorEq, Nat.reduceEqDiff, Nat.reduceBEq, Nat.reduceAdd, Int.reduceAdd, Int.reduceSub, Int.reduceToNat, Int.reduceNeg]⟩
  rintro Q m ⟨e, τ⟩ hQ ⟨i, hi, hτ, h0, h1, h2⟩
  simp only at hτ h0 h1 h2
  rcases hτ with ⟨rfl, rfl, rfl, rfl⟩ | rfl
  · -- the first
    have hk0 : (0 : Int) ≤ (k : Int) := by omega
    simp -implicitDefEqProofs (disch := first | assumption | omega | (simp only [ints_len, rows_len, icells_len, List.length_cons, List.length_nil, List.length_append, List.length_map, List.length_replicate, List.length_set, List.length_take, List.length_drop, limit]; omega) | (simp only [List.length_cons, List.length_nil])) only [go_sem, List.elem, ↓reduceIte, reduceCtorEq, Nat.reduceEqDiff, Nat.reduceBEq, Nat.reduceAdd, Int.reduceAdd, Int.reduceSub, Int.reduceToNat, Int.reduceNeg, S0, h0, h1, h2]
    refine hQ (m - 1) _ (by simp at hp; omega) ⟨1, by simp at hp; omega, .inr ?_, by simp -implicitDefEqProofs (disch := first | assumption | omega | (simp only [ints_len, rows_len, icells_len, List.length_cons, List.length_nil, List.length_append, List.length_map, List.length_replicate, List.length_set, List.length_take, List.length_drop, limit]; omega) | (simp only [List.length_cons, List.length_nil])) only [go_sem, List.elem, ↓reduceIte, reduceCtorEq, Nat.reduceEqDiff, Nat.reduceBEq, Nat.reduceAdd, Int.reduceAdd, Int.reduceSub, Int.reduceToNat, Int.reduceNeg, h0], by simp -implicitDefEqProofs (disch := first | assumption | omega | (simp only [ints_len, rows_len, icells_len, List.length_cons, List.length_nil, List.length_append, List.length_map, List.length_replicate, List.length_set, List.length_take, List.length_drop, limit]; omega) | (simp only [List.length_cons, List.length_nil])) only [go_sem, List.elem, ↓reduceIte, reduceCtorEq, Nat.reduceEqDiff, Nat.reduceBEq, Nat.reduceAdd, Int.reduceAdd, Int.reduceSub, Int.reduceToNat, Int.reduceNeg, h1], by simp -implicitDefEqProofs (disch := first | assumption | omega | (simp only [ints_len, rows_len, icells_len, List.length_cons, List.length_nil, List.length_append, List.length_map, List.length_replicate, List.length_set, List.length_take, List.length_drop, limit]; omega) | (simp only [List.length_cons, List.length_nil])) only [go_sem, List.elem, ↓reduceIte, reduceCtorEq, Nat.reduceEqDiff, Nat.reduceBEq, Nat.reduceAdd, Int.reduceAdd, Int.reduceSub, Int.reduceToNat, Int.reduceNeg, h2]⟩
    rfl
  · have hlen : (cs ++ List.replicate i nilc).length = cs.length + i := by simp
    generalize hcs : cs ++ List.replicate i nilc = cs2 at *
    by_cases hle : (cs2.length : Int) ≤ k
    · simp -implicitDefEqProofs (disch := first | assumption | omega | (simp only [ints_len, rows_len, icells_len, List.length_cons, List.length_nil, List.length_append, List.length_map, List.length_replicate, List.length_set, List.length_take, List.length_drop, limit]; omega) | (simp only [List.length_cons, List.length_nil])) only [go_sem, List.elem, ↓reduceIte, reduceCtorEq, Nat.reduceEqDiff, Nat.reduceBEq, Nat.reduceAdd, Int.reduceAdd, Int.reduceSub, Int.reduceToNat, Int.reduceNeg, S1, h0, h1, h2, hle]
      refine hQ (m - 1) _ (by omega) ⟨i + 1, by omega, .inr ?_, by simp -implicitDefEqProofs (disch := first | assumption | omega | (simp only [ints_len, rows_len, icells_len, List.length_cons, List.length_nil, List.length_append, List.length_map, List.length_replicate, List.length_set, List.length_take, List.length_drop, limit]; omega) | (simp only [List.length_cons, List.length_nil])) only [go_sem, List.elem, ↓reduceIte, reduceCtorEq, Nat.reduceEqDiff, Nat.reduceBEq, Nat.reduceAdd, Int.reduceAdd, Int.reduceSub, Int.reduceToNat, Int.reduceNeg, h0], by simp -implicitDefEqProofs (disch := first | assumption | omega | (simp only [ints_len, rows_len, icells_len, List.length_cons, List.length_nil, List.length_append, List.length_map, List.length_replicate, List.length_set, List.length_take, List.length_drop, limit]; omega) | (simp only [List.length_cons, List.length_nil])) only [go_sem, List.elem, ↓reduceIte, reduceCtorEq, Nat.reduceEqDiff, Nat.reduceBEq, Nat.reduceAdd, Int.reduceAdd, Int.reduceSub, Int.reduceToNat, Int.reduceNeg, h1], by simp -implicitDefEqProofs (disch := first | assumption | omega | (simp only [ints_len, rows_len, icells_len, List.length_cons, List.length_nil, List.length_append, List.length_map, List.length_replicate, List.length_set, List.length_take, List.length_drop, limit]; omega) | (simp only [List.length_cons, List.length_nil])) only [go_sem, List.elem, ↓reduceIte, reduceCtorEq, Nat.reduceEqDiff, Nat.reduceBEq, Nat.reduceAdd, Int.reduceAdd, Int.reduceSub, Int.reduceToNat, Int.reduceNeg, h2]⟩
      rw [List.replicate_succ', ← List.append_assoc, hcs]
      simp [S1, nilc, Nat.add_assoc]
    · have hm : i = p := by omega
      subst hm
      rw [hcs] at hrow ⊢
      rcases hrow with hrow | ⟨hrow, rfl⟩
      · simp -implicitDefEqProofs (disch := first | assumption | omega | (simp only [ints_len, rows_len, icells_len, List.length_cons, List.length_nil, List.length_append, List.length_map, List.length_replicate, List.length_set, List.length_take, List.length_drop, limit]; omega) | (simp only [List.length_cons, List.length_nil])) only [go_sem, List.elem, ↓reduceIte, reduceCtorEq, Nat.reduceEqDiff, Nat.reduceBEq, Nat.reduceAdd, Int.reduceAdd, Int.reduceSub, Int.reduceToNat, Int.reduceNeg, S1, h0, h1, h2, hle, hrow]
        refine drawK_lex (by kernel_rfl) ?_
        exact end_n [] (.inr rfl) rfl (by simp) (by simp) rfl (by simp)
      · unfold nilc at hrow
        simp -implicitDefEqProofs (disch := first | assumption | omega | (simp only [ints_len, rows_len, icells_len, List.length_cons, List.length_nil, List.length_append, List.length_map, List.length_replicate, List.length_set, List.length_take, List.length_drop, limit]; omega) | (simp only [List.length_cons, List.length_nil])) only [go_sem, List.elem, ↓reduceIte, reduceCtorEq, Nat.reduceEqDiff, Nat.reduceBEq, Nat.reduceAdd, Int.reduceAdd, Int.reduceSub, Int.reduceToNat, Int.reduceNeg, S1, h0, h1, h2, hle, hrow]
        refine drawK_lex (by kernel_rfl) ?_
        exact end_n [] (.inr rfl) rfl (by simp) (by simp) rfl (by simp)
end Go.Proofs.Tryd
