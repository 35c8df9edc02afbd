/- Contracts: put, Sum. -/
import Derived.Test.YtipepkfioecbmaaDoorFg
set_option maxRecDepth 20000
set_option maxHeartbeats 4000000
set_option linter.unusedVariables false
set_option linter.unusedSimpArgs false
namespace Go.Proofs.Tryd
open Go.Ab Go.Adder

/-- A map of rows. -/
structure MapIs (kvs : List (Int × AV)) (R : Nat → List Int) : Prop where
  at_ : ∀ k : Nat, mget k kvs = some (.own 1 (ints (R k))) ∨ (mget k kvs = none ∧ R k = [])
  all : ∀ x ∈ kvs, ∃ r, x.2 = AV.own 1 (ints r)

def updR (R : Nat → List Int) (k : Nat) (r : List Int) : Nat → List Int := fun j => if j = k then r else R j

theorem mem_mset {k : Int} {v : AV} : ∀ {kvs : List (Int × AV)} {x}, x ∈ mset k v kvs → x.2 = v ∨ ∃ y ∈ kvs, y.2 = x.2 := by
  intro kvs
  induction kvs with
  | nil => intro x hx; simp [mset] at hx; subst hx; exact .inl rfl
  | cons y r ih =>
    intro x hx
    obtain ⟨j, u⟩ := y
    simp only [mset] at hx
    split at hx
    · rcases List.mem_cons.1 hx with rfl | hx
      · exact .inl rfl
      · exact .inr ⟨x, List.mem_cons_of_mem _ hx, rfl⟩
    · rcases List.mem_cons.1 hx with rfl | hx
      · exact .inr ⟨_, List.mem_cons_self .., rfl⟩
      · rcases ih hx with h | ⟨y, hy, h⟩
        · exact .inl h
        · exact .inr ⟨y, List.mem_cons_of_mem _ hy, h⟩

theorem MapIs.set {kvs : List (Int × AV)} {R : Nat → List Int} (h : MapIs kvs R) (k : Nat) (r : List Int) : MapIs (mset k (.own 1 (ints r)) kvs) (updR R k r) := by
  refine ⟨fun j => ?_, fun x hx => ?_⟩
  · rw [mget_mset]
    unfold updR
    by_cases hj : j = k
    · subst hj; simp
    · have : ¬ ((k : Int) = j) := by omega
      simp only [this, hj, if_false]
      exact h.at_ j
  · rcases mem_mset hx with h1 | ⟨y, hy, h1⟩
    · exact ⟨r, h1⟩
    · rw [← h1]; exact h.all y hy

theorem mset_mset {k : Int} {u v : AV} : ∀ kvs : List (Int × AV), mset k v (mset k u kvs) = mset k v kvs := by
  intro kvs
  induction kvs with
  | nil => simp [mset]
  | cons y r ih =>
    obtain ⟨j, w⟩ := y
    simp only [mset]
    by_cases h : j = k
    · subst h; simp [mset]
    · simp [mset, h, ih]

/-- The heap of Sum. -/
def SS (kvs : List (Int × AV)) (cl : List (List Int)) (n top : Int) : List Ent := [.map kvs, .cells 0 [.mp 0, .own 1 (rows cl), iv n], .cells 0 [.ref 1 0 0], .cells 0 [iv top]]

theorem ret30 (kvs : List (Int × AV)) (R : Nat → List Int) (hR : MapIs kvs R) (cl : List (List Int)) (n top : Int) (k : Nat) (x : Int) (hk : k < 1000000) (hl : (R k).length < 1000000) :
    Ret Tryd.prog 30 [iv k, iv x, .ref 2 0 0, .ref 3 0 0] (SS kvs cl n top) (.tu []) (SS (mset k (.own 1 (ints (R k ++ [x]))) kvs) cl n (max top (k + 1))) := by
  refine ret_of_walk (H := { tk := [16] }) (dr := commB { tk := [16] }) Tryd.func30 rfl (by kernel_rfl) (Nat.le_of_ble_eq_true rfl) (by kernel_rfl) (DrOk.comm mix) ?_
  rcases hR.at_ k with h | ⟨h, h0⟩
  · simp -implicitDefEqProofs (disch := first | assumption | omega | (simp only [ints_len, rows_len, icells_len, List.length_cons, List.length_nil, List.length_append, List.length_map, List.length_replicate, List.length_set, List.length_take, List.length_drop, limit]; omega) | (simp only [List.length_cons, List.length_nil])) only [go_sem, List.elem, ↓reduceIte, reduceCtorEq, Nat.reduceEqDiff, Nat.reduceBEq, Nat.reduceAdd, Int.reduceAdd, Int.reduceSub, Int.reduceToNat, Int.reduceNeg, SS, h]
    refine drawK_lex (by kernel_rfl) ?_
    refine end_n [] (.inr rfl) rfl (by simp) (by simp) rfl ?_
    simp [mset_mset]
  · simp -implicitDefEqProofs (disch := first | assumption | omega | (simp only [ints_len, rows_len, icells_len, List.length_cons, List.length_nil, List.length_append, List.length_map, List.length_replicate, List.length_set, List.length_take, List.length_drop, limit]; omega) | (simp only [List.length_cons, List.length_nil])) only [go_sem, List.elem, ↓reduceIte, reduceCtorEq, Nat.reduceEqDiff, Nat.reduceBEq, Nat.reduceAdd, Int.reduceAdd, Int.reduceSub, Int.reduceToNat, Int.reduceNeg, SS, h]
    refine drawK_lex (by kernel_rfl) ?_
    refine end_n [] (.inr rfl) rfl (by simp) (by simp) rfl ?_
    simp [h0]
end Go.Proofs.Tryd
