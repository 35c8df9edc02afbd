/- Least is correct, in plain Lean. -/
import Derived.Test.YtipepkfioecbmaaDoorPc
import Derived.Test.YtipepkfioecbmaaDoorFb
set_option linter.unusedVariables false
set_option linter.unusedSimpArgs false
namespace Go.Adder
open Go.Proofs.Tryd (trueF holdsF mayF absF)

theorem leastF_bound {l : List Int} {k : Int} {out : List (List Int)} {er : Int} (h : leastF l k = (out, er)) : out.length ≤ 64 ∧ ∀ x ∈ out, x.length ≤ l.length := by
  unfold leastF at h
  split at h
  · cases h; simp
  · split at h
    · cases h; simp
    · cases h
      refine ⟨by have := bitsF_len' k.toNat; simpa using this, fun x hx => ?_⟩
      obtain ⟨p, _, rfl⟩ := List.mem_map.1 hx
      have := clauTo_len l k.toNat p l.length
      rwa [clauTo_all (Nat.le_refl _)] at this

/-! ### Comparing numbers by their bits -/
theorem le_of_bits {x y : Nat} (h : ∀ i, x.testBit i = true → y.testBit i = true) : x ≤ y := by
  have : x &&& y = x := by
    apply Nat.eq_of_testBit_eq
    intro i
    rw [Nat.testBit_and]
    cases hx : x.testBit i with
    | false => rfl
    | true => rw [h i hx]; rfl
  rw [← this]
  exact Nat.and_le_right
theorem bit_half (x i : Nat) : (x / 2).testBit i = x.testBit (i + 1) := (Nat.testBit_succ ..).symm
theorem lt_of_bits : ∀ (p : Nat) {x y : Nat}, y.testBit p = true → x.testBit p = false → (∀ i, p < i → x.testBit i = true → y.testBit i = true) → x < y := by
  intro p
  induction p with
  | zero =>
    intro x y hy hx h
    have h1 : x / 2 ≤ y / 2 := le_of_bits fun i hi => by rw [bit_half] at *; exact h (i + 1) (by omega) hi
    simp only [Nat.testBit_zero, decide_eq_true_eq, decide_eq_false_iff_not] at hx hy
    omega
  | succ p ih =>
    intro x y hy hx h
    have := ih (x := x / 2) (y := y / 2) (by rw [bit_half]; exact hy) (by rw [bit_half]; exact hx) fun i hi hxi => by rw [bit_half] at *; exact h (i + 1) (by omega) hxi
    omega
theorem bits_of_lt : ∀ (y : Nat) {x : Nat}, x < y → ∃ p, y.testBit p = true ∧ x.testBit p = false ∧ ∀ i, p < i → x.testBit i = y.testBit i := by
  intro y
  induction y using Nat.strongRecOn with
  | _ y ih =>
    intro x h
    by_cases h2 : x / 2 < y / 2
    · obtain ⟨p, h3, h4, h5⟩ := ih (y / 2) (by omega) h2
      refine ⟨p + 1, by rw [← bit_half]; exact h3, by rw [← bit_half]; exact h4, fun i hi => ?_⟩
      obtain ⟨j, rfl⟩ : ∃ j, i = j + 1 := ⟨i - 1, by omega⟩
      rw [← bit_half, ← bit_half]
      exact h5 j (by omega)
    · have h3 : x / 2 = y / 2 := by omega
      refine ⟨0, by simp; omega, by simp; omega, fun i hi => ?_⟩
      obtain ⟨j, rfl⟩ : ∃ j, i = j + 1 := ⟨i - 1, by omega⟩
      rw [← bit_half, ← bit_half, h3]
theorem le_iff_bits (k n : Nat) : k ≤ n ↔ ∀ p, k.testBit p = true → n.testBit p = true ∨ ∃ i, p < i ∧ n.testBit i = true ∧ k.testBit i = false := by
  constructor
  · intro h p hp
    apply Classical.byContradiction
    intro hc
    simp only [not_or, not_exists, not_and, Bool.not_eq_true, Bool.not_eq_false] at hc
    have := lt_of_bits p hp hc.1 fun i hi hn => hc.2 i hi hn
    omega
  · intro h
    apply Nat.le_of_not_lt
    intro hlt
    obtain ⟨p, h1, h2, h3⟩ := bits_of_lt k hlt
    rcases h p h1 with h4 | ⟨i, h5, h6, h7⟩
    · rw [h2] at h4; cases h4
    · rw [h3 i h5, h7] at h6; cases h6

/-! ### The number of a bit vector -/
def bitAt (l : List Int) (a : List Bool) (i : Nat) : Bool := match l[i]? with | some x => decide (x ≠ 0) && trueF x a | none => false
def numTo (l : List Int) (a : List Bool) : Nat → Nat
  | 0 => 0
  | j + 1 => numTo l a j + (if bitAt l a j then 2 ^ j else 0)
theorem numTo_lt (l : List Int) (a : List Bool) : ∀ j, numTo l a j < 2 ^ j := by
  intro j
  induction j with
  | zero => simp [numTo]
  | succ j ih => rw [numTo, Nat.pow_succ]; split <;> omega
theorem numTo_bit (l : List Int) (a : List Bool) : ∀ j i, (numTo l a j).testBit i = (decide (i < j) && bitAt l a i) := by
  intro j
  induction j with
  | zero => intro i; simp [numTo]
  | succ j ih =>
    intro i
    have h1 : numTo l a (j + 1) = 2 ^ j * (if bitAt l a j then 1 else 0) + numTo l a j := by rw [numTo]; split <;> omega
    rw [h1, Nat.testBit_two_pow_mul_add _ (numTo_lt l a j)]
    by_cases hi : i < j
    · rw [if_pos hi, ih i]
      have : i < j + 1 := by omega
      simp [hi, this]
    · rw [if_neg hi]
      by_cases he : i = j
      · subst he
        cases h : bitAt l a i <;> simp [h]
      · have h2 : ¬ i < j + 1 := by omega
        obtain ⟨m, hm⟩ : ∃ m, i - j = m + 1 := ⟨i - j - 1, by omega⟩
        rw [hm]
        cases h : bitAt l a j <;> simp [h2, Nat.testBit_succ]
def numF (l : List Int) (a : List Bool) : Nat := numTo l a (min l.length 60)

theorem clau_holds (l : List Int) (a : List Bool) (k p : Nat) : holdsF (clauF l k p) a = true ↔ bitAt l a p = true ∨ ∃ i, p < i ∧ bitAt l a i = true ∧ k.testBit i = false := by
  unfold holdsF clauF
  simp only [List.any_eq_true, List.mem_map, List.mem_filter, pickF]
  constructor
  · rintro ⟨x, ⟨⟨y, i⟩, ⟨hm, hp⟩, rfl⟩, ht⟩
    have hy : l[i]? = some y := by simpa [List.mem_zipIdx_iff_getElem?] using hm
    simp only [Bool.and_eq_true, Bool.or_eq_true, decide_eq_true_eq, Bool.not_eq_true'] at hp
    obtain ⟨h0, h1⟩ := hp
    have hb : bitAt l a i = true := by simp only [bitAt, hy]; simp only at ht; simp [h0, ht]
    rcases h1 with rfl | ⟨h2, h3⟩
    · exact .inl hb
    · exact .inr ⟨i, h2, hb, h3⟩
  · have key : ∀ i, bitAt l a i = true → (decide (i = p) || (decide (p < i) && !k.testBit i)) = true → ∃ x, (∃ y, (y ∈ l.zipIdx ∧ (decide (y.1 ≠ 0) && (decide (y.2 = p) || (decide (p < y.2) && !k.testBit y.2))) = true) ∧ y.1 = x) ∧ trueF x a = true := by
      intro i hb hc
      unfold bitAt at hb
      cases hy : l[i]? with
      | none => rw [hy] at hb; cases hb
      | some y =>
        rw [hy] at hb
        simp only [Bool.and_eq_true] at hb
        exact ⟨y, ⟨(y, i), ⟨by simpa [List.mem_zipIdx_iff_getElem?] using hy, by simp only [hb.1, hc, Bool.and_self]⟩, rfl⟩, hb.2⟩
    rintro (h | ⟨i, h1, h2, h3⟩)
    · exact key p h (by simp)
    · exact key i h2 (by simp [h1, h3])

/-- Least is correct. -/
theorem least_correct {l : List Int} {k : Int} {c : List (List Int)} (hl : l.length ≤ 60) (h : leastF l k = (c, 0)) (a : List Bool) : (c.all fun x => holdsF x a) = decide (k ≤ (numF l a : Int)) ∧ 0 ≤ k ∧ c.length ≤ 53 := by
  unfold leastF at h
  split at h
  · cases h
  · rename_i h1
    split at h
    · cases h
    · cases h
      have hk : 0 ≤ k ∧ k ≤ 4503599627370496 := by omega
      obtain ⟨n, rfl⟩ : ∃ n : Nat, k = n := ⟨k.toNat, by omega⟩
      simp only [Int.toNat_natCast]
      have hcut : bitsF n = (List.range 53).filter n.testBit := bitsF_cut n 53 (by omega) (by
        rw [Nat.shiftRight_eq_div_pow]
        exact Nat.div_eq_of_lt (by omega))
      refine ⟨?_, by omega, ?_⟩
      · rw [Bool.eq_iff_iff]
        simp only [List.all_eq_true, List.mem_map, decide_eq_true_eq]
        have h2 : ((n : Int) ≤ (numF l a : Int)) ↔ n ≤ numF l a := by omega
        rw [h2, le_iff_bits]
        have hmin : min l.length 60 = l.length := by omega
        have hbit : ∀ i, (numF l a).testBit i = bitAt l a i := by
          intro i
          unfold numF
          rw [hmin, numTo_bit]
          by_cases hi : i < l.length
          · simp [hi]
          · have : l[i]? = none := List.getElem?_eq_none (by omega)
            simp [hi, bitAt, this]
        simp only [hbit]
        constructor
        · intro h p hp
          have hpm : p ∈ bitsF n := by
            simp only [bitsF, List.mem_filter, List.mem_range]
            refine ⟨?_, hp⟩
            apply Nat.lt_of_not_le
            intro h64
            have h1 := Nat.ge_two_pow_of_testBit hp
            have h2 : 2 ^ 64 ≤ 2 ^ p := Nat.pow_le_pow_right (by decide) h64
            omega
          exact (clau_holds l a n p).1 (h _ ⟨p, hpm, rfl⟩)
        · rintro h x ⟨p, hp, rfl⟩
          refine (clau_holds l a n p).2 (h p ?_)
          simp only [bitsF, List.mem_filter] at hp
          exact hp.2
      · rw [hcut, List.length_map]
        exact Nat.le_trans (List.length_filter_le _ _) (by simp)

theorem leastF_mem {l : List Int} {k : Int} {out : List (List Int)} {er : Int} (h : leastF l k = (out, er)) : ∀ r ∈ out, ∀ x ∈ r, x ∈ l := by
  unfold leastF at h
  split at h
  · cases h; simp
  · split at h
    · cases h; simp
    · cases h
      intro r hr x hx
      obtain ⟨p, _, rfl⟩ := List.mem_map.1 hr
      unfold clauF at hx
      obtain ⟨y, hy, rfl⟩ := List.mem_map.1 hx
      have := (List.mem_filter.1 hy).1
      exact List.mem_of_getElem? (by simpa [List.mem_zipIdx_iff_getElem?] using this)

end Go.Adder
