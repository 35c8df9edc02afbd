/- What the adder computes, in plain Lean. -/
import Derived.Test.YtipepkfioecbmaaDoorAb25
import Derived.Lib.TrailingZeros
set_option linter.unusedVariables false
namespace Go.Adder

/-- The clauses of an adder. -/
def addF : List Int → Int → Int → List (List Int)
  | [a, b], s, c => [[a, b, -s], [-a, b, s], [a, -b, s], [-a, -b, -s], [-a, -b, c], [a, -c], [b, -c]]
  | [a, b, d], s, c => [[a, b, d, -s], [-a, b, d, s], [a, -b, d, s], [-a, -b, d, -s], [a, b, -d, s], [-a, b, -d, -s], [a, -b, -d, -s], [-a, -b, -d, s],
      [-a, -b, c], [-a, -d, c], [-b, -d, c], [a, b, -c], [a, d, -c], [b, d, -c]]
  | _, _, _ => []

/-- A carry for the next row. -/
def bump (rest : List (List Int)) (x : Int) : List (List Int) := match rest with
  | [] => [[x]]
  | u :: t => (u ++ [x]) :: t

/-- The adders of one row: what is left of it, the rows above, the next variable, the clauses. -/
def rowF (row : List Int) (rest : List (List Int)) (n : Int) (c : List (List Int)) : Option (List Int × List (List Int) × Int × List (List Int)) :=
  match row with
  | a :: b :: d :: r => if 65537 < n + 2 then none else rowF (r ++ [n]) (bump rest (n + 1)) (n + 2) (c ++ addF [a, b, d] n (n + 1))
  | [a, b] => if 65537 < n + 2 then none else some ([n], bump rest (n + 1), n + 2, c ++ addF [a, b] n (n + 1))
  | [a] => some ([a], rest, n, c)
  | [] => some ([], rest, n, c)
termination_by row.length
decreasing_by simp

theorem bump_len (rest : List (List Int)) (x : Int) : (bump rest x).length = max rest.length 1 := by
  cases rest <;> simp [bump]

theorem rowF_next : ∀ (row : List Int) (rest : List (List Int)) (n : Int) (c : List (List Int)) {row' rest' n' c'}, rowF row rest n c = some (row', rest', n', c') →
    (n' = n ∧ rest' = rest ∧ row.length ≤ 1) ∨ (n + 2 ≤ n' ∧ n' ≤ 65537 ∧ rest'.length = max rest.length 1) := by
  intro row rest n c
  fun_induction rowF row rest n c with
  | case1 rest n c a b d r h => intro row' rest' n' c' he; simp at he
  | case2 rest n c a b d r h ih =>
    intro row' rest' n' c' he
    have := ih he
    rw [bump_len] at this
    rcases this with ⟨rfl, rfl, _⟩ | ⟨h1, h2, h3⟩
    · exact .inr ⟨by omega, by omega, bump_len _ _⟩
    · exact .inr ⟨by omega, h2, by rw [h3]; omega⟩
  | case3 => intro row' rest' n' c' he; simp at he
  | case4 rest n c a b h =>
    intro row' rest' n' c' he
    simp only [Option.some.injEq, Prod.mk.injEq] at he
    obtain ⟨rfl, rfl, rfl, rfl⟩ := he
    exact .inr ⟨by omega, by omega, bump_len _ _⟩
  | case5 =>
    intro row' rest' n' c' he
    simp only [Option.some.injEq, Prod.mk.injEq] at he
    obtain ⟨rfl, rfl, rfl, rfl⟩ := he
    exact .inl ⟨rfl, rfl, by simp⟩
  | case6 =>
    intro row' rest' n' c' he
    simp only [Option.some.injEq, Prod.mk.injEq] at he
    obtain ⟨rfl, rfl, rfl, rfl⟩ := he
    exact .inl ⟨rfl, rfl, by simp⟩

def meas (n : Int) (L : List (List Int)) : Nat := (65537 - n).toNat * 2 + L.length

theorem meas_lt {row : List Int} {rest : List (List Int)} {n : Int} {c : List (List Int)} {row' rest' n' c'} (h : rowF row rest n c = some (row', rest', n', c')) : meas n' rest' < meas n (row :: rest) := by
  unfold meas
  simp only [List.length_cons]
  rcases rowF_next row rest n c h with ⟨rfl, rfl, _⟩ | ⟨h1, h2, h3⟩ <;> omega

/-- All rows: the bits, the clauses, the next variable. -/
def colsF (L : List (List Int)) (n : Int) (c : List (List Int)) : Option (List Int × List (List Int) × Int) :=
  match L with
  | [] => some ([], c, n)
  | row :: rest => match h : rowF row rest n c with
    | none => none
    | some (row', rest', n', c') => (colsF rest' n' c').map fun x => (row'.headD 0 :: x.1, x.2)
termination_by meas n L
decreasing_by exact meas_lt h

theorem colsF_nil (n : Int) (c : List (List Int)) : colsF [] n c = some ([], c, n) := by rw [colsF]
theorem colsF_none {row : List Int} {rest : List (List Int)} {n : Int} {c : List (List Int)} (h : rowF row rest n c = none) : colsF (row :: rest) n c = none := by
  rw [colsF]; split <;> simp_all
theorem colsF_some {row : List Int} {rest : List (List Int)} {n : Int} {c : List (List Int)} {row' rest' n' c'} (h : rowF row rest n c = some (row', rest', n', c')) :
    colsF (row :: rest) n c = (colsF rest' n' c').map fun x => (row'.headD 0 :: x.1, x.2) := by
  rw [colsF]; split
  · simp_all
  · rename_i h2; rw [h] at h2; simp only [Option.some.injEq, Prod.mk.injEq] at h2; obtain ⟨rfl, rfl, rfl, rfl⟩ := h2; rfl

theorem colsF_step {row row2 : List Int} {rest rest2 : List (List Int)} {n n2 : Int} {c c2 : List (List Int)} (h : rowF row rest n c = rowF row2 rest2 n2 c2) : colsF (row :: rest) n c = colsF (row2 :: rest2) n2 c2 := by
  cases h2 : rowF row2 rest2 n2 c2 with
  | none => rw [colsF_none h2, colsF_none (h.trans h2)]
  | some x => obtain ⟨a, b, d, f⟩ := x; rw [colsF_some h2, colsF_some (h.trans h2)]

/-- A literal put into a row. -/
def putF (L : List (List Int)) (k : Nat) (x : Int) : List (List Int) :=
  (L ++ List.replicate (k + 1 - L.length) []).set k (((L[k]?).getD []) ++ [x])

/-- The places of a number's ones, from below. -/
def bitsF (n : Nat) : List Nat := (List.range 64).filter n.testBit

def putsF (L : List (List Int)) (bs : List Nat) (x : Int) : List (List Int) := bs.foldl (fun L k => putF L k x) L
def rowsF : List (Int × Int) → List (List Int) → List (List Int)
  | [], L => L
  | (a, x) :: r, L => rowsF r (putsF L (bitsF a.toNat) x)

def badF (next : Int) (p : Int × Int) : Bool := decide (p.1 < 0) || decide (1099511627776 < p.1) || decide (p.2 = 0) || decide (next ≤ p.2) || decide (p.2 ≤ -next)

/-- Sum: bits, clauses, after, errno. -/
def sumF (coef l : List Int) (next : Int) : List Int × List (List Int) × Int × Int :=
  if next < 1 ∨ 65537 < next ∨ coef.length ≠ l.length then ([], [], 0, 1) else
  if (coef.zip l).any (badF next) then ([], [], 0, 1) else
  if 4096 < l.length then ([], [], 0, 2) else
  match colsF (rowsF (coef.zip l) []) next [] with
  | none => ([], [], 0, 2)
  | some (b, c, n) => (b, c, n, 0)

theorem putF_len (L : List (List Int)) (k : Nat) (x : Int) : (putF L k x).length = max L.length (k + 1) := by
  simp [putF]; omega
theorem putF_at (L : List (List Int)) (k : Nat) (x : Int) (i : Nat) : ((putF L k x)[i]?).getD [] = if i = k then ((L[k]?).getD []) ++ [x] else (L[i]?).getD [] := by
  unfold putF
  rw [List.getElem?_set]
  by_cases h : k = i
  · subst h
    have : k < (L ++ List.replicate (k + 1 - L.length) []).length := by simp; omega
    rw [if_pos rfl, if_pos this, if_pos rfl]; rfl
  · have h' : ¬ i = k := fun e => h e.symm
    rw [if_neg h, if_neg h']
    by_cases hi : i < L.length
    · rw [List.getElem?_append_left hi]
    · rw [List.getElem?_append_right (by omega), List.getElem?_eq_none (l := L) (by omega)]
      simp only [List.getElem?_replicate]
      split <;> rfl


theorem filter_first (p q : Nat → Bool) (k : Nat) (hk : p k = true) (hlo : ∀ i, i < k → p i = false) (hq : ∀ i, q i = (p i && i != k)) : ∀ n, (n ≤ k → (List.range n).filter p = [] ∧ (List.range n).filter q = []) ∧ (k < n → (List.range n).filter p = k :: (List.range n).filter q) := by
  intro n
  induction n with
  | zero => simp
  | succ n ih =>
    rw [List.range_succ, List.filter_append, List.filter_append]
    refine ⟨fun h => ?_, fun h => ?_⟩
    · have h1 := ih.1 (by omega)
      have h2 := hlo n (by omega)
      simp [h1, h2, hq]
    · by_cases hn : n = k
      · subst hn
        have h1 := ih.1 (by omega)
        simp [h1, hk, hq]
      · have h1 := ih.2 (by omega)
        rw [h1]
        have : q n = p n := by rw [hq]; simp [hn]
        simp only [List.cons_append, List.filter_cons, List.filter_nil, this]

theorem clear_bit (x : Nat) (h0 : x ≠ 0) (h : x < 2 ^ 64) : x.testBit (Lib.ctz 64 x) = true ∧ (∀ i, i < Lib.ctz 64 x → x.testBit i = false) ∧ (∀ i, (x &&& (x - 1)).testBit i = (x.testBit i && i != Lib.ctz 64 x)) ∧ Lib.ctz 64 x < 64 := by
  have e : Lib.ctz 64 x = Lib.ctzFrom 64 x := by simp [Lib.ctz, h0]
  obtain ⟨m, hm, hk⟩ := Lib.ctzFrom_spec 64 x (by omega) h
  rw [e]
  generalize Lib.ctzFrom 64 x = k at *
  have hp : 0 < 2 ^ k := Nat.two_pow_pos k
  have hx : ∀ i, x.testBit i = (decide (k ≤ i) && (2 * m + 1).testBit (i - k)) := by
    intro i
    rw [hm, Nat.mul_comm, Nat.testBit_mul_two_pow]
  have hx1 : x - 1 = 2 ^ k * (2 * m) + (2 ^ k - 1) := by
    rw [hm, Nat.mul_add, Nat.mul_one]; omega
  refine ⟨by rw [hx]; simp, fun i hi => by rw [hx]; simp; omega, fun i => ?_, hk⟩
  rw [Nat.testBit_and]
  by_cases hik : i < k
  · have : x.testBit i = false := by rw [hx]; simp; omega
    simp [this]
  · have h1 : (x - 1).testBit i = (2 * m).testBit (i - k) := by
      rw [hx1, Nat.testBit_two_pow_mul_add _ (by omega), if_neg hik]
    rw [h1]
    by_cases he : i = k
    · subst he; simp
    · obtain ⟨j, hj⟩ : ∃ j, i - k = j + 1 := ⟨i - k - 1, by omega⟩
      rw [hx, hj]
      have d1 : (2 * m + 1) / 2 = m := by omega
      have d2 : 2 * m / 2 = m := by omega
      rw [Nat.testBit_succ, Nat.testBit_succ, d1, d2]
      simp [he]

theorem bitsF_zero : bitsF 0 = [] := by simp [bitsF]
theorem bitsF_step (x : Nat) (h0 : x ≠ 0) (h : x < 2 ^ 64) : bitsF x = Lib.ctz 64 x :: bitsF (x &&& (x - 1)) := by
  obtain ⟨h1, h2, h3, h4⟩ := clear_bit x h0 h
  exact (filter_first _ _ _ h1 h2 h3 64).2 h4
theorem bitsF_cut (x k : Nat) (hk : k ≤ 64) (h : x >>> k = 0) : bitsF x = (List.range k).filter x.testBit := by
  unfold bitsF
  have hz : ∀ i, k ≤ i → x.testBit i = false := by
    intro i hi
    have := Nat.testBit_shiftRight (i := k) (j := i - k) x
    rw [h, Nat.zero_testBit, show k + (i - k) = i by omega] at this
    exact this.symm
  have : ∀ d, k + d ≤ 64 → (List.range (k + d)).filter x.testBit = (List.range k).filter x.testBit := by
    intro d
    induction d with
    | zero => intro _; rfl
    | succ d ih =>
      intro hd
      rw [show k + (d + 1) = k + d + 1 by omega, List.range_succ, List.filter_append, ih (by omega)]
      simp [hz (k + d) (by omega)]
  have := this (64 - k) (by omega)
  rwa [show k + (64 - k) = 64 by omega] at this
theorem bitsF_mem {x k : Nat} (h : k ∈ bitsF x) : k < 64 := by
  simp [bitsF] at h; exact h.1


/-! ### One row, step by step -/
theorem rowF_stop {row : List Int} (h : row.length ≤ 1) (rest : List (List Int)) (n : Int) (c : List (List Int)) : rowF row rest n c = some (row, rest, n, c) := by
  match row, h with
  | [], _ => rw [rowF]
  | [a], _ => rw [rowF]
theorem rowF_fail {row : List Int} (h : 2 ≤ row.length) (rest : List (List Int)) {n : Int} (hn : 65537 < n + 2) (c : List (List Int)) : rowF row rest n c = none := by
  match row, h with
  | [a, b], _ => rw [rowF]; simp [hn]
  | a :: b :: d :: r, _ => rw [rowF]; simp [hn]
theorem rowF_step {row : List Int} {q : Nat} (h : 2 ≤ row.length) (hq : q = min 3 row.length) (rest : List (List Int)) {n : Int} (hn : n + 2 ≤ 65537) (c : List (List Int)) :
    rowF row rest n c = rowF (row.drop q ++ [n]) (bump rest (n + 1)) (n + 2) (c ++ addF (row.take q) n (n + 1)) := by
  have hn' : ¬ 65537 < n + 2 := by omega
  match row, h with
  | [a, b], _ =>
    have : q = 2 := by rw [hq]; rfl
    subst this
    rw [rowF_stop (row := List.drop 2 [a, b] ++ [n]) (by simp), rowF]
    simp [hn']
  | a :: b :: d :: r, _ =>
    have : q = 3 := by rw [hq]; simp
    subst this
    rw [rowF, if_neg hn']
    rfl

theorem addF_len (l : List Int) (s c : Int) : (addF l s c).length ≤ 14 := by
  unfold addF; split <;> simp

/-- Bounds. -/
structure Wf (k : Nat) (L : List (List Int)) (n : Int) (c : List (List Int)) : Prop where
  rl : ∀ r ∈ L, (r.length : Int) ≤ 300000 + n
  sm : ∀ r ∈ L, ∀ x ∈ r, Go.Ab.Sm x
  cl : (c.length : Int) ≤ 7 * n
  kl : (k : Int) + L.length ≤ 64 + n
  n1 : 1 ≤ n
  n2 : n ≤ 65537

theorem mem_bump {rest : List (List Int)} {x : Int} {r : List Int} (h : r ∈ bump rest x) : r = [x] ∨ r ∈ rest ∨ ∃ u ∈ rest, r = u ++ [x] := by
  cases rest with
  | nil => simp [bump] at h; exact .inl h
  | cons u t =>
    simp only [bump, List.mem_cons] at h
    rcases h with rfl | h
    · exact .inr (.inr ⟨u, by simp, rfl⟩)
    · exact .inr (.inl (by simp [h]))

theorem Wf.step {k : Nat} {row : List Int} {rest : List (List Int)} {n : Int} {c : List (List Int)} {q : Nat} (h : Wf k (row :: rest) n c) (hn : n + 2 ≤ 65537) (h2 : 2 ≤ row.length) (hq : q = min 3 row.length) :
    Wf k ((row.drop q ++ [n]) :: bump rest (n + 1)) (n + 2) (c ++ addF (row.take q) n (n + 1)) := by
  have hn1 := h.n1
  have sn : Go.Ab.Sm n := by unfold Go.Ab.Sm; omega
  have sn1 : Go.Ab.Sm (n + 1) := by unfold Go.Ab.Sm; omega
  refine ⟨fun r hr => ?_, fun r hr x hx => ?_, ?_, ?_, by omega, hn⟩
  · rcases List.mem_cons.1 hr with rfl | hr
    · have := h.rl row (by simp)
      simp; omega
    · rcases mem_bump hr with rfl | hr | ⟨u, hu, rfl⟩
      · simp; omega
      · have := h.rl r (by simp [hr]); omega
      · have := h.rl u (by simp [hu]); simp; omega
  · rcases List.mem_cons.1 hr with rfl | hr
    · rcases List.mem_append.1 hx with hx | hx
      · exact h.sm row (by simp) x (List.mem_of_mem_drop hx)
      · simp at hx; subst hx; exact sn
    · rcases mem_bump hr with rfl | hr | ⟨u, hu, rfl⟩
      · simp at hx; subst hx; exact sn1
      · exact h.sm r (by simp [hr]) x hx
      · rcases List.mem_append.1 hx with hx | hx
        · exact h.sm u (by simp [hu]) x hx
        · simp at hx; subst hx; exact sn1
  · have := addF_len (row.take q) n (n + 1)
    have := h.cl
    simp; omega
  · have := h.kl
    simp only [List.length_cons, bump_len] at this ⊢
    omega
theorem Wf.tail {k : Nat} {row : List Int} {rest : List (List Int)} {n : Int} {c : List (List Int)} (h : Wf k (row :: rest) n c) : Wf (k + 1) rest n c := by
  refine ⟨fun r hr => h.rl r (by simp [hr]), fun r hr => h.sm r (by simp [hr]), h.cl, ?_, h.n1, h.n2⟩
  have := h.kl
  simp only [List.length_cons] at this
  omega

end Go.Adder
