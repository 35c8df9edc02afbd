/- What Least computes, in plain Lean. -/
import Derived.Test.YtipepkfioecbmaaDoorPa
set_option linter.unusedVariables false
namespace Go.Adder

def pickF (k at_ : Nat) (p : Int × Nat) : Bool := decide (p.1 ≠ 0) && (decide (p.2 = at_) || (decide (at_ < p.2) && !k.testBit p.2))
/-- The clause of one bit of k, over the first j bits. -/
def clauTo (l : List Int) (k at_ j : Nat) : List Int := ((l.zipIdx.take j).filter (pickF k at_)).map (·.1)
def clauF (l : List Int) (k at_ : Nat) : List Int := (l.zipIdx.filter (pickF k at_)).map (·.1)

theorem clauTo_zero (l : List Int) (k at_ : Nat) : clauTo l k at_ 0 = [] := by simp [clauTo]
theorem clauTo_succ {l : List Int} {j : Nat} {x : Int} (h : l[j]? = some x) (k at_ : Nat) : clauTo l k at_ (j + 1) = clauTo l k at_ j ++ (if pickF k at_ (x, j) then [x] else []) := by
  unfold clauTo
  have hz : l.zipIdx[j]? = some (x, j) := by simp [h]
  rw [List.take_add_one, hz]
  simp only [Option.toList_some, List.filter_append, List.map_append, List.filter_cons, List.filter_nil]
  split <;> simp
theorem clauTo_all {l : List Int} {j : Nat} (h : l.length ≤ j) (k at_ : Nat) : clauTo l k at_ j = clauF l k at_ := by
  unfold clauTo clauF
  rw [List.take_of_length_le (by simpa using h)]
theorem clauTo_len (l : List Int) (k at_ j : Nat) : (clauTo l k at_ j).length ≤ l.length := by
  unfold clauTo
  rw [List.length_map]
  refine Nat.le_trans (List.length_filter_le _ _) ?_
  simp
  omega

def oddK (x : Int) : Bool := decide (x < -65536) || decide (65536 < x)

/-- Least: clauses, errno. -/
def leastF (l : List Int) (k : Int) : List (List Int) × Int :=
  if k < 0 ∨ 4503599627370496 < k ∨ l.any oddK = true then ([], 1) else
  if 60 < l.length then ([], 2) else ((bitsF k.toNat).map (clauF l k.toNat), 0)


theorem live1 : sumF [1, 1] [1, 2] 3 = ([3, 4], addF [1, 2] 3 4, 5, 0) := by
  have h1 : rowsF (List.zip [1, 1] [1, 2]) [] = [[1, 2]] := by decide
  have h2 : rowF [1, 2] [] 3 [] = some ([3], [[4]], 5, addF [1, 2] 3 4) := by rw [rowF]; simp [bump]
  have h3 : colsF [[1, 2]] 3 [] = some ([3, 4], addF [1, 2] 3 4, 5) := by
    rw [colsF_some h2, colsF_some (rowF_stop (by simp) [] 5 _), colsF_nil]; simp
  unfold sumF
  rw [if_neg (by decide), if_neg (by decide), if_neg (by decide), h1, h3]
theorem live2 : sumF [1] [3] 3 = ([], [], 0, 1) := by
  unfold sumF
  rw [if_neg (by decide), if_pos (by decide)]
theorem live3 : sumF [] [] 1 = ([], [], 1, 0) := by
  unfold sumF
  rw [if_neg (by decide), if_neg (by decide), if_neg (by decide)]
  simp [rowsF, colsF_nil]
theorem live4 : leastF [3, 4] 2 = ([[4]], 0) := by decide +kernel
theorem live5 : leastF [3, 4] 1 = ([[3, 4]], 0) := by decide +kernel
theorem live6 : leastF [3, 4] 3 = ([[3], [4]], 0) := by decide +kernel
theorem live7 : leastF [3, 4] 4 = ([[]], 0) := by decide +kernel

end Go.Adder
