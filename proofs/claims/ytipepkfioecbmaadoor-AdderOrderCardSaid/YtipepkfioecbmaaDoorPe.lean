/- Doubling the coefficients shifts the bits, in plain Lean. -/
import Derived.Test.YtipepkfioecbmaaDoorPc
set_option linter.unusedVariables false
set_option linter.unusedSimpArgs false
namespace Go.Adder

theorem filter_shift (p q : Nat → Bool) (h0 : q 0 = false) (hs : ∀ i, q (i + 1) = p i) : ∀ n, (List.range (n + 1)).filter q = ((List.range n).filter p).map (· + 1) := by
  intro n
  induction n with
  | zero => simp [h0]
  | succ n ih =>
    rw [List.range_succ, List.filter_append, ih, List.range_succ (n := n), List.filter_append, List.map_append]
    simp only [List.filter_cons, List.filter_nil, hs]
    cases p n <;> simp

theorem bitsF_double (x : Nat) (h : x < 2 ^ 63) : bitsF (2 * x) = (bitsF x).map (· + 1) := by
  have h1 : bitsF x = (List.range 63).filter x.testBit := bitsF_cut x 63 (by omega) (by
    rw [Nat.shiftRight_eq_div_pow]; exact Nat.div_eq_of_lt h)
  have h2 := filter_shift x.testBit (2 * x).testBit (by simp) (fun i => by rw [Nat.testBit_succ]; congr 1; omega) 63
  rw [h1, ← h2]
  rfl

/-- The rows, shifted. -/
def shR (L : List (List Int)) : List (List Int) := match L with | [] => [] | L => [] :: L

theorem shR_nil : shR [] = [] := rfl
theorem shR_ne {L : List (List Int)} (h : L ≠ []) : shR L = [] :: L := by cases L <;> simp_all [shR]
theorem putF_ne (L : List (List Int)) (k : Nat) (x : Int) : putF L k x ≠ [] := by
  intro h
  have := congrArg List.length h
  rw [putF_len] at this
  simp at this
theorem putF_shift (L : List (List Int)) (k : Nat) (x : Int) : putF (shR L) (k + 1) x = shR (putF L k x) := by
  rw [shR_ne (putF_ne L k x)]
  cases L with
  | nil =>
    unfold putF shR
    simp only [List.nil_append, List.length_nil, Nat.sub_zero, List.getElem?_nil, Option.getD_none, List.replicate_succ (n := k + 1), List.set_cons_succ]
  | cons r L =>
    unfold putF
    simp only [shR, List.length_cons, List.getElem?_cons_succ, List.cons_append, List.set_cons_succ]
    rw [show k + 1 + 1 - (L.length + 1 + 1) = k + 1 - (L.length + 1) by omega]
theorem putsF_shift (x : Int) : ∀ (bs : List Nat) (L : List (List Int)), putsF (shR L) (bs.map (· + 1)) x = shR (putsF L bs x) := by
  intro bs
  induction bs with
  | nil => intro L; rfl
  | cons k bs ih =>
    intro L
    show putsF (putF (shR L) (k + 1) x) (bs.map (· + 1)) x = _
    rw [putF_shift, ih]
    rfl

def dbl (z : List (Int × Int)) : List (Int × Int) := z.map fun p => (2 * p.1, p.2)

theorem rowsF_shift : ∀ (z : List (Int × Int)) (L : List (List Int)), (∀ p ∈ z, 0 ≤ p.1 ∧ p.1 ≤ 1099511627776) → rowsF (dbl z) (shR L) = shR (rowsF z L) := by
  intro z
  induction z with
  | nil => intro L _; rfl
  | cons p z ih =>
    intro L h
    obtain ⟨a, x⟩ := p
    have ha := h (a, x) (by simp)
    simp only at ha
    have hd : (2 * a).toNat = 2 * a.toNat := by omega
    have hb := bitsF_double a.toNat (by omega)
    show rowsF (dbl z) (putsF (shR L) (bitsF (2 * a).toNat) x) = shR (rowsF z (putsF L (bitsF a.toNat) x))
    rw [hd, hb, putsF_shift, ih _ fun p hp => h p (by simp [hp])]

theorem colsF_shift (L : List (List Int)) (n : Int) (c : List (List Int)) : colsF ([] :: L) n c = (colsF L n c).map fun x => (0 :: x.1, x.2) := by
  rw [colsF_some (rowF_stop (by simp) L n c)]; rfl

theorem bitsF_pos {x : Nat} (h0 : x ≠ 0) (h : x < 2 ^ 64) : bitsF x ≠ [] := by
  rw [bitsF_step x h0 h]; simp
theorem putsF_ne {x : Int} : ∀ (bs : List Nat) {L : List (List Int)}, L ≠ [] ∨ bs ≠ [] → putsF L bs x ≠ [] := by
  intro bs
  induction bs with
  | nil => intro L h; rcases h with h | h; exact h; exact absurd rfl h
  | cons k bs ih => intro L _; exact ih (.inl (putF_ne L k x))
theorem rowsF_ne : ∀ (z : List (Int × Int)) {L : List (List Int)}, (∀ p ∈ z, 0 ≤ p.1 ∧ p.1 ≤ 1099511627776) → (L ≠ [] ∨ ∃ p ∈ z, 0 < p.1) → rowsF z L ≠ [] := by
  intro z
  induction z with
  | nil => intro L _ h; rcases h with h | ⟨p, hp, _⟩; exact h; cases hp
  | cons p z ih =>
    intro L hz h
    obtain ⟨a, x⟩ := p
    have ha := hz (a, x) (by simp)
    simp only at ha
    refine ih (L := putsF L (bitsF a.toNat) x) (fun p hp => hz p (by simp [hp])) ?_
    rcases h with h | ⟨p, hp, h⟩
    · exact .inl (putsF_ne _ (.inl h))
    · rcases List.mem_cons.1 hp with rfl | hp
      · simp only at h
        exact .inl (putsF_ne _ (.inr (bitsF_pos (by omega) (by omega))))
      · exact .inr ⟨p, hp, h⟩
theorem rowsF_nil : ∀ (z : List (Int × Int)), (∀ p ∈ z, p.1 = 0) → rowsF z [] = [] := by
  intro z
  induction z with
  | nil => intro _; rfl
  | cons p z ih =>
    intro h
    obtain ⟨a, x⟩ := p
    have ha : a = 0 := h (a, x) (by simp)
    subst ha
    show rowsF z (putsF [] (bitsF (0 : Int).toNat) x) = []
    rw [show (0 : Int).toNat = 0 from rfl, bitsF_zero]
    exact ih fun p hp => h p (by simp [hp])

/-- The law. -/
theorem sumF_shift {coef l : List Int} {next : Int} (hc : ∀ c ∈ coef, 0 ≤ c ∧ c ≤ 549755813888) :
    sumF (coef.map (2 * ·)) l next = (match sumF coef l next with | (b, c, n, e) => if e = 0 then (if coef.any (fun c => decide (0 < c)) then (0 :: b, c, n, e) else (b, c, n, e)) else (b, c, n, e)) ∧
    ((sumF coef l next).2.2.2 = 0 → coef.any (fun c => decide (0 < c)) = false → (sumF coef l next).1 = []) ∧ ((sumF coef l next).2.2.2 = 0 ∨ (sumF coef l next).2.2.2 = 1 ∨ (sumF coef l next).2.2.2 = 2) := by
  have hz : (coef.map (2 * ·)).zip l = dbl (coef.zip l) := by
    unfold dbl
    rw [List.zip_map_left]
    rfl
  have hcz : ∀ p ∈ coef.zip l, 0 ≤ p.1 ∧ p.1 ≤ 549755813888 := fun p hp => hc p.1 (List.of_mem_zip hp).1
  have hbad : (dbl (coef.zip l)).any (badF next) = (coef.zip l).any (badF next) := by
    unfold dbl
    rw [List.any_map]
    rw [Bool.eq_iff_iff]
    simp only [List.any_eq_true, Function.comp]
    constructor
    · rintro ⟨p, hp, h⟩
      have := hcz p hp
      refine ⟨p, hp, ?_⟩
      simp only [badF, Bool.or_eq_true, decide_eq_true_eq] at h ⊢
      omega
    · rintro ⟨p, hp, h⟩
      have := hcz p hp
      refine ⟨p, hp, ?_⟩
      simp only [badF, Bool.or_eq_true, decide_eq_true_eq] at h ⊢
      omega
  unfold sumF
  rw [List.length_map, hz, hbad]
  split
  · simp
  · rename_i h1
    split
    · simp
    · split
      · simp
      · have hlen : coef.length = l.length := by omega
        have hsh : rowsF (dbl (coef.zip l)) [] = shR (rowsF (coef.zip l) []) := by
          have := rowsF_shift (coef.zip l) [] fun p hp => by have := hcz p hp; omega
          rwa [shR_nil] at this
        rw [hsh]
        cases hany : coef.any (fun c => decide (0 < c)) with
        | true =>
          obtain ⟨c, hcm, hcp⟩ := List.any_eq_true.1 hany
          have hcp : 0 < c := by simpa using hcp
          obtain ⟨i, hi, hic⟩ := List.getElem_of_mem hcm
          have hne : rowsF (coef.zip l) [] ≠ [] := by
            refine rowsF_ne _ (fun p hp => by have := hcz p hp; omega) (.inr ⟨(coef[i], l[i]), ?_, by simp only [hic]; exact hcp⟩)
            exact List.mem_of_getElem? (i := i) (by simp [List.getElem?_zip_eq_some])
          rw [shR_ne hne, colsF_shift]
          cases colsF (rowsF (coef.zip l) []) next [] with
          | none => simp
          | some x => obtain ⟨b, c, n⟩ := x; simp
        | false =>
          have hz0 : rowsF (coef.zip l) [] = [] := rowsF_nil _ fun p hp => by
            have h1 := hcz p hp
            have h2 := List.any_eq_false.1 hany p.1 (List.of_mem_zip hp).1
            simp at h2
            omega
          rw [hz0, shR_nil, colsF_nil]
          simp

end Go.Adder
