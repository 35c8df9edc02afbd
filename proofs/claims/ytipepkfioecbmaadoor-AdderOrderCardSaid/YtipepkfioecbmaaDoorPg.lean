/- The adders' meaning, in plain Lean: values under an assignment, each new variable forced, few adders for small sums, the literals' order. -/
import Derived.Test.YtipepkfioecbmaaDoorPf
import Derived.Test.YtipepkfioecbmaaDoorPd
set_option linter.unusedVariables false
set_option linter.unusedSimpArgs false
namespace Go.Adder
open Go.Proofs.Tryd (trueF holdsF mayF absF)

/-- The clauses of a list of adders: each with its inputs and its first variable. -/
def flatD (D : List (List Int × Int)) : List (List Int) := D.flatMap fun d => addF d.1 d.2 (d.2 + 1)
/-- Adders one behind the other, from variable n on. -/
def WfD : Int → List (List Int × Int) → Prop
  | _, [] => True
  | n, d :: D => d.2 = n ∧ (d.1.length = 2 ∨ d.1.length = 3) ∧ LiL n d.1 ∧ WfD (n + 2) D

def cnt (A : List Bool) (l : List Int) : Nat := (l.map fun x => if trueF x A then 1 else 0).sum
theorem cnt_append (A : List Bool) (l m : List Int) : cnt A (l ++ m) = cnt A l + cnt A m := by simp [cnt]
theorem cnt_one (A : List Bool) (x : Int) : cnt A [x] = if trueF x A then 1 else 0 := by simp [cnt]
theorem cnt_split (A : List Bool) (l : List Int) (q : Nat) : cnt A (l.take q) + cnt A (l.drop q) = cnt A l := by
  rw [← cnt_append, List.take_append_drop]

/-- The assignment obeys the adders: sum and carry. -/
def Agree (A : List Bool) (D : List (List Int × Int)) : Prop :=
  ∀ d ∈ D, trueF d.2 A = decide (cnt A d.1 % 2 = 1) ∧ trueF (d.2 + 1) A = decide (2 ≤ cnt A d.1)

theorem cnt_le (A : List Bool) (l : List Int) : cnt A l ≤ l.length := by
  unfold cnt
  induction l with
  | nil => simp
  | cons x l ih => simp only [List.map_cons, List.sum_cons, List.length_cons]; split <;> omega

/-- The rows' value. -/
def valL (A : List Bool) : List (List Int) → Nat
  | [] => 0
  | r :: L => cnt A r + 2 * valL A L
theorem valL_bump (A : List Bool) (rest : List (List Int)) (x : Int) : valL A (bump rest x) = valL A rest + (if trueF x A then 1 else 0) := by
  cases rest with
  | nil => simp [bump, valL, cnt_one]
  | cons u t => simp only [bump, valL, cnt_append, cnt_one]; omega

theorem flatD_cons (d : List Int × Int) (D : List (List Int × Int)) : flatD (d :: D) = addF d.1 d.2 (d.2 + 1) ++ flatD D := by simp [flatD]
theorem flatD_append (D E : List (List Int × Int)) : flatD (D ++ E) = flatD D ++ flatD E := by simp [flatD]
theorem WfD_append : ∀ (D : List (List Int × Int)) {n : Int} {E : List (List Int × Int)}, WfD n D → WfD (n + 2 * D.length) E → WfD n (D ++ E) := by
  intro D
  induction D with
  | nil => intro n E _ h; simpa using h
  | cons d D ih =>
    intro n E h hE
    obtain ⟨h1, h2, h3, h4⟩ := h
    refine ⟨h1, h2, h3, ih h4 ?_⟩
    simp only [List.length_cons] at hE
    rw [show n + 2 + 2 * (D.length : Int) = n + 2 * ((D.length + 1 : Nat) : Int) by omega]
    exact hE
theorem Agree_append {A : List Bool} {D E : List (List Int × Int)} : Agree A (D ++ E) ↔ Agree A D ∧ Agree A E := by
  unfold Agree
  constructor
  · intro h; exact ⟨fun d hd => h d (by simp [hd]), fun d hd => h d (by simp [hd])⟩
  · rintro ⟨h1, h2⟩ d hd
    rcases List.mem_append.1 hd with hd | hd
    · exact h1 d hd
    · exact h2 d hd

theorem rowF_val : ∀ (m : Nat) (row : List Int), row.length = m → ∀ {rest : List (List Int)} {n : Int} {c : List (List Int)} {row' rest' n' c'}, 1 ≤ n → LiL n row → rowF row rest n c = some (row', rest', n', c') →
    ∃ D, c' = c ++ flatD D ∧ WfD n D ∧ n' = n + 2 * D.length ∧ D.length = row.length / 2 ∧ row'.length = (if row.length = 0 then 0 else 1) ∧ (D.length = 0 → rest' = rest) ∧ (D.length ≠ 0 → rest'.length = max rest.length 1 ∧ (∃ u t, rest' = u :: t ∧ u.length = (rest.headD []).length + D.length ∧ t = rest.tail)) ∧
      ∀ A, Agree A D → cnt A row' + 2 * valL A rest' = cnt A row + 2 * valL A rest := by
  intro m
  induction m using Nat.strongRecOn with
  | _ m ih =>
    intro row hm rest n c row' rest' n' c' hn hr h
    by_cases h2 : 2 ≤ row.length
    · by_cases hb : 65537 < n + 2
      · rw [rowF_fail h2 rest hb c] at h; cases h
      · rw [rowF_step h2 rfl rest (by omega) c] at h
        generalize hq : min 3 row.length = q at h
        have hq23 : (q = 2 ∨ q = 3) ∧ q ≤ row.length := by omega
        have hlr : ∀ x ∈ row.drop q ++ [n], Li (n + 2) x := by
          intro x hx
          rcases List.mem_append.1 hx with hx | hx
          · exact (hr x (List.mem_of_mem_drop hx)).mono (by omega)
          · simp at hx; subst hx; exact ⟨by omega, by omega, by omega⟩
        obtain ⟨D, k1, k2, k3, k4, k5, k6, k7, k8⟩ := ih _ (by simp; omega) (row.drop q ++ [n]) rfl (n := n + 2) (by omega) hlr h
        have hlen : (row.drop q ++ [n]).length = row.length - q + 1 := by simp
        rw [hlen] at k4 k5
        have e1 : n' = n + 2 * (((row.take q, n) :: D).length : Nat) := by clear k7 k8 k6; rw [k3]; simp only [List.length_cons]; omega
        have e2 : ((row.take q, n) :: D).length = row.length / 2 := by clear k7 k8 k6; simp only [List.length_cons]; omega
        have e3 : row'.length = (if row.length = 0 then 0 else 1) := by clear k7 k8 k6; rw [k5, if_neg (by omega), if_neg (by omega)]
        have e4 : (row.take q).length = 2 ∨ (row.take q).length = 3 := by clear k7 k8 k6; simp only [List.length_take]; omega
        refine ⟨(row.take q, n) :: D, by rw [flatD_cons, k1, List.append_assoc], ⟨rfl, e4, fun x hx => hr x (List.mem_of_mem_take hx), k2⟩, e1, e2, e3, fun h => by simp at h, fun _ => ?_, fun A hA => ?_⟩
        · by_cases hD : D.length = 0
          · rw [k6 hD, bump_len]
            refine ⟨rfl, ?_⟩
            cases rest with
            | nil => exact ⟨_, _, rfl, by simp only [List.length_cons, List.length_nil, List.headD_nil, hD], rfl⟩
            | cons u t => exact ⟨_, _, rfl, by simp only [List.length_cons, List.length_nil, List.headD_cons, List.length_append, hD], rfl⟩
          · obtain ⟨j1, u, t, j2, j3, j4⟩ := k7 hD
            rw [bump_len] at j1
            refine ⟨by rw [j1]; omega, u, t, j2, ?_, ?_⟩
            · rw [j3]
              cases rest with
              | nil => simp [bump]; omega
              | cons u t => simp [bump]; omega
            · rw [j4]
              cases rest <;> rfl
        · have h1 : Agree A D := fun d hd => hA d (by simp [hd])
          obtain ⟨a1, a2⟩ := hA (row.take q, n) (by simp)
          simp only at a1 a2
          have hc := cnt_le A (row.take q)
          rw [List.length_take] at hc
          have hv := k8 A h1
          rw [cnt_append, cnt_one, valL_bump, a1, a2] at hv
          have hs := cnt_split A row q
          rw [hv]
          generalize cnt A (row.take q) = t at *
          clear k6 k7 k8
          have ht : t = 0 ∨ t = 1 ∨ t = 2 ∨ t = 3 := by omega
          rcases ht with rfl | rfl | rfl | rfl <;> simp <;> omega
    · rw [rowF_stop (by omega)] at h
      cases h
      exact ⟨[], by simp [flatD], trivial, by simp, by simp; omega, by split <;> omega, fun _ => rfl, fun h => absurd rfl h, fun _ _ => rfl⟩

/-- A bit vector's value. -/
def bitV (A : List Bool) : List Int → Nat
  | [] => 0
  | x :: b => (if decide (x ≠ 0) && trueF x A then 1 else 0) + 2 * bitV A b

theorem colsF_val : ∀ (m : Nat) {L : List (List Int)} {n : Int} {c : List (List Int)} {b c' n'}, meas n L = m → 1 ≤ n → LiC n L → LiC n c → colsF L n c = some (b, c', n') →
    ∃ D, c' = c ++ flatD D ∧ WfD n D ∧ n' = n + 2 * D.length ∧ ∀ A, Agree A D → bitV A b = valL A L := by
  intro m
  induction m using Nat.strongRecOn with
  | _ m ih =>
    intro L n c b c' n' hm hn hL hc h
    cases L with
    | nil =>
      rw [colsF_nil] at h
      cases h
      exact ⟨[], by simp [flatD], trivial, by simp, fun A _ => rfl⟩
    | cons row rest =>
      cases hr : rowF row rest n c with
      | none => rw [colsF_none hr] at h; cases h
      | some x =>
        obtain ⟨row', rest', n2, c2⟩ := x
        rw [colsF_some hr, Option.map_eq_some_iff] at h
        obtain ⟨⟨b2, c3, n3⟩, h1, h2⟩ := h
        cases h2
        have hlr : LiL n row := fun x hx => hL row (by simp) x hx
        obtain ⟨q, s1, s2, s3, s4, s5, s6, s7⟩ := rowF_size _ row rfl hn hlr (fun r hr => hL r (by simp [hr])) hc hr
        obtain ⟨D, k1, k2, k3, k4, k5, k6, k7, k8⟩ := rowF_val _ row rfl hn hlr hr
        obtain ⟨E, j1, j2, j3, j4⟩ := ih _ (by have := meas_lt hr; omega) rfl (by omega) s5 s6 h1
        refine ⟨D ++ E, by rw [j1, k1, flatD_append, List.append_assoc], WfD_append D k2 (by rw [← k3]; exact j2), by rw [j3, k3]; simp; omega, fun A hA => ?_⟩
        obtain ⟨hA1, hA2⟩ := Agree_append.1 hA
        have h3 := k8 A hA1
        have h4 := j4 A hA2
        simp only [bitV, valL, h4]
        have h5 : cnt A row' = (if decide (row'.headD 0 ≠ 0) && trueF (row'.headD 0) A then 1 else 0) := by
          match row', k5, s4 with
          | [], _, _ => simp [cnt]
          | [x], _, s4 =>
            have := (s4 x (by simp)).1
            simp [cnt_one, this]
          | x :: y :: r, k5, _ => exfalso; simp only [List.length_cons] at k5; split at k5 <;> omega
        omega

theorem numTo_bitV (A : List Bool) : ∀ (b : List Int) (j : Nat), j = b.length → numTo b A j = bitV A b := by
  have key : ∀ (b : List Int) (x : Int) (j : Nat), numTo (x :: b) A (j + 1) = (if decide (x ≠ 0) && trueF x A then 1 else 0) + 2 * numTo b A j := by
    intro b x j
    induction j with
    | zero => simp [numTo, bitAt]
    | succ j ih =>
      rw [numTo, ih, numTo]
      have : bitAt (x :: b) A (j + 1) = bitAt b A j := by simp [bitAt]
      rw [this, Nat.pow_succ]
      cases bitAt b A j <;> simp <;> omega
  intro b
  induction b with
  | nil => intro j hj; subst hj; rfl
  | cons x b ih =>
    intro j hj
    subst hj
    rw [List.length_cons, key, ih _ rfl]
    rfl
theorem numF_bitV {b : List Int} (h : b.length ≤ 60) (A : List Bool) : numF b A = bitV A b := by
  unfold numF
  rw [show min b.length 60 = b.length by omega]
  exact numTo_bitV A b _ rfl

/-! ### The value of the first rows -/
theorem valL_set : ∀ (L : List (List Int)) (A : List Bool) (k : Nat) (r : List Int), k < L.length → valL A (L.set k r) + 2 ^ k * cnt A ((L[k]?).getD []) = valL A L + 2 ^ k * cnt A r := by
  intro L
  induction L with
  | nil => intro A k r h; simp at h
  | cons x L ih =>
    intro A k r h
    cases k with
    | zero => simp [valL]; omega
    | succ k =>
      have := ih A k r (by simpa using h)
      simp only [List.set_cons_succ, valL, List.getElem?_cons_succ, Nat.pow_succ]
      have e1 : 2 ^ k * 2 * cnt A ((L[k]?).getD []) = 2 * (2 ^ k * cnt A ((L[k]?).getD [])) := by rw [Nat.mul_comm (2 ^ k) 2, Nat.mul_assoc]
      have e2 : 2 ^ k * 2 * cnt A r = 2 * (2 ^ k * cnt A r) := by rw [Nat.mul_comm (2 ^ k) 2, Nat.mul_assoc]
      rw [e1, e2]
      omega
theorem valL_pad (A : List Bool) : ∀ (L : List (List Int)) (p : Nat), valL A (L ++ List.replicate p []) = valL A L := by
  intro L
  induction L with
  | nil =>
    intro p
    induction p with
    | zero => rfl
    | succ p ih => rw [List.nil_append] at *; simp [List.replicate_succ, valL, cnt, ih]
  | cons x L ih => intro p; simp [valL, ih]
theorem valL_put (A : List Bool) (L : List (List Int)) (k : Nat) (x : Int) : valL A (putF L k x) = valL A L + 2 ^ k * (if trueF x A then 1 else 0) := by
  unfold putF
  have hk : k < (L ++ List.replicate (k + 1 - L.length) []).length := by simp; omega
  have h1 := valL_set (L ++ List.replicate (k + 1 - L.length) []) A k ((L[k]?).getD [] ++ [x]) hk
  have h2 : ((L ++ List.replicate (k + 1 - L.length) [])[k]?).getD [] = (L[k]?).getD [] := by
    by_cases hl : k < L.length
    · rw [List.getElem?_append_left hl]
    · rw [List.getElem?_append_right (by omega), List.getElem?_eq_none (l := L) (by omega)]
      simp only [List.getElem?_replicate]
      split <;> rfl
  rw [h2, valL_pad, cnt_append, cnt_one, Nat.mul_add] at h1
  omega
theorem valL_puts (A : List Bool) (x : Int) : ∀ (bs : List Nat) (L : List (List Int)), valL A (putsF L bs x) = valL A L + (bs.map (2 ^ ·)).sum * (if trueF x A then 1 else 0) := by
  intro bs
  induction bs with
  | nil => intro L; simp [putsF]
  | cons k bs ih =>
    intro L
    show valL A (putsF (putF L k x) bs x) = _
    rw [ih, valL_put]
    simp only [List.map_cons, List.sum_cons, Nat.add_mul]
    omega

/-- The bits of a number sum up to it. -/
theorem bits_sum : ∀ (n : Nat) (x : Nat) (p : Nat → Bool), x < 2 ^ n → (∀ i, p i = x.testBit i) → (((List.range n).filter p).map (2 ^ ·)).sum = x := by
  intro n
  induction n with
  | zero => intro x p hx _; simp at hx; subst hx; rfl
  | succ n ih =>
    intro x p hx hp
    rw [List.range_succ, List.filter_append, List.map_append, List.sum_append]
    have h1 : x % 2 ^ n < 2 ^ n := Nat.mod_lt _ (Nat.two_pow_pos n)
    have h2 : ((List.range n).filter p) = ((List.range n).filter (x % 2 ^ n).testBit) := by
      apply List.filter_congr
      intro i hi
      rw [List.mem_range] at hi
      rw [hp, Nat.testBit_mod_two_pow]
      simp [hi]
    rw [h2, ih (x % 2 ^ n) (x % 2 ^ n).testBit h1 fun i => rfl]
    have h3 : x = 2 ^ n * (x / 2 ^ n) + x % 2 ^ n := (Nat.div_add_mod x (2 ^ n)).symm
    have h4 : x / 2 ^ n < 2 := by
      rw [Nat.div_lt_iff_lt_mul (Nat.two_pow_pos n)]
      rw [Nat.pow_succ, Nat.mul_comm] at hx
      exact hx
    have h5 : p n = decide (x / 2 ^ n % 2 = 1) := by rw [hp, Nat.testBit_eq_decide_div_mod_eq]
    have h6 : x / 2 ^ n = 0 ∨ x / 2 ^ n = 1 := by
      generalize x / 2 ^ n = y at h4
      omega
    rcases h6 with h6 | h6
    · rw [h6] at h3 h5
      simp at h5
      simp [h5]
      omega
    · rw [h6] at h3 h5
      simp at h5
      simp [h5]
      omega
theorem bitsF_sum {x : Nat} (h : x < 2 ^ 64) : ((bitsF x).map (2 ^ ·)).sum = x := bits_sum 64 x _ h fun i => rfl

/-- The weighted sum of the true literals. -/
def wsum (A : List Bool) (z : List (Int × Int)) : Nat := (z.map fun p => p.1.toNat * (if trueF p.2 A then 1 else 0)).sum
theorem valL_rows (A : List Bool) : ∀ (z : List (Int × Int)) (L : List (List Int)), (∀ p ∈ z, p.1 ≤ 1099511627776) → valL A (rowsF z L) = valL A L + wsum A z := by
  intro z
  induction z with
  | nil => intro L _; simp [rowsF, wsum]
  | cons p z ih =>
    intro L h
    obtain ⟨a, x⟩ := p
    have ha := h (a, x) (by simp)
    simp only at ha
    show valL A (rowsF z (putsF L (bitsF a.toNat) x)) = _
    rw [ih _ fun p hp => h p (by simp [hp]), valL_puts, bitsF_sum (by omega)]
    simp [wsum]
    omega

/-- What Sum says: its clauses are adders, and whoever obeys them reads the sum off the bits. -/
theorem sumF_val {coef l : List Int} {next : Int} {b : List Int} {c : List (List Int)} {n : Int} (h : sumF coef l next = (b, c, n, 0)) :
    ∃ D, c = flatD D ∧ WfD next D ∧ n = next + 2 * D.length ∧ ∀ A, Agree A D → bitV A b = wsum A (coef.zip l) := by
  obtain ⟨h1, h2, h3, h4, h5, h6⟩ := sumF_ok h
  have hli : LiC next (rowsF (coef.zip l) []) := rowsF_li _ (fun r hr => by cases hr) fun p hp => (li_of_ok (h4 p hp)).1
  obtain ⟨D, k1, k2, k3, k4⟩ := colsF_val _ rfl h1 hli (fun r hr => by cases hr) h6
  refine ⟨D, by simpa using k1, k2, k3, fun A hA => ?_⟩
  rw [k4 A hA, valL_rows A _ _ fun p hp => (li_of_ok (h4 p hp)).2.2]
  simp [valL]


/-- Is x the literal, or a false literal of a variable below known? -/
def tst (lit : Int) (a : List Bool) (known : Int) (x : Int) : Bool :=
  decide (x = lit) || (decide (1 ≤ max x (-x)) && decide (max x (-x) < known) && decide (max x (-x) < a.length) && !(((a[(max x (-x)).toNat]?).getD false) == decide (0 < x)))
def otherF (l : List Int) (lit : Int) (a : List Bool) (known : Int) : Bool := l.all (tst lit a known)
def hasF (l : List Int) (n : Int) : Bool := l.any fun x => decide (x = n)
def yesF (c : List (List Int)) (lit : Int) (a : List Bool) (v : Int) : Bool := c.any fun r => hasF r lit && otherF r lit a v
/-- told. -/
def toldF (c : List (List Int)) : Nat → List Bool → Int → List Bool × Bool
  | 0, a, _ => (a, true)
  | m + 1, a, v => if yesF c v a v = yesF c (-v) a v then (a, false) else toldF c m (a ++ [yesF c v a v]) (v + 1)

theorem trueF_li {x : Int} {a : List Bool} (hx : Li (a.length : Int) x) (ha : a.length ≤ 65537) : trueF x a = (((a[(max x (-x)).toNat]?).getD false) == decide (0 < x)) := by
  obtain ⟨h0, h1, h2⟩ := hx
  have : mayF x 65536 = true := by simp [mayF, h0]; omega
  simp only [trueF, this, Bool.true_and, absF]
theorem tst_li {x lit : Int} {a : List Bool} (hx : Li (a.length : Int) x) (ha : a.length ≤ 65537) : tst lit a (a.length : Int) x = (decide (x = lit) || !trueF x a) := by
  rw [trueF_li hx ha]
  obtain ⟨h0, h1, h2⟩ := hx
  have e1 : decide (1 ≤ max x (-x)) = true := by simp; omega
  have e2 : decide (max x (-x) < (a.length : Int)) = true := by simp; omega
  simp only [tst, e1, e2, Bool.true_and, Bool.and_true]
theorem tst_far {x lit known : Int} {a : List Bool} (h : x ≠ lit) (hx : known ≤ max x (-x)) : tst lit a known x = false := by
  have e2 : decide (max x (-x) < known) = false := by simp; omega
  simp [tst, h, e2]
theorem trueF_neg {x : Int} {a : List Bool} (hx : Li (a.length : Int) x) (ha : a.length ≤ 65537) : trueF (-x) a = !trueF x a := by
  have hn : Li (a.length : Int) (-x) := hx.neg
  rw [trueF_li hx ha, trueF_li hn ha]
  obtain ⟨h0, h1, h2⟩ := hx
  rw [show max (-x) (- -x) = max x (-x) by omega]
  by_cases hp : 0 < x
  · have h3 : decide (0 < -x) = false := by simp; omega
    have h4 : decide (0 < x) = true := by simp; omega
    rw [h3, h4]
    cases (a[(max x (-x)).toNat]?).getD false <;> rfl
  · have h3 : decide (0 < -x) = true := by simp; omega
    have h4 : decide (0 < x) = false := by simp; omega
    rw [h3, h4]
    cases (a[(max x (-x)).toNat]?).getD false <;> rfl
theorem trueF_ext {x : Int} {a t : List Bool} (hx : Li (a.length : Int) x) (ha : (a ++ t).length ≤ 65537) : trueF x (a ++ t) = trueF x a := by
  rw [trueF_li (hx.mono (by simp; omega)) ha, trueF_li hx (by simp at ha; omega)]
  obtain ⟨h0, h1, h2⟩ := hx
  rw [List.getElem?_append_left (by omega)]
theorem cnt_ext {l : List Int} {a t : List Bool} (hl : LiL (a.length : Int) l) (ha : (a ++ t).length ≤ 65537) : cnt (a ++ t) l = cnt a l := by
  unfold cnt
  congr 1
  exact List.map_congr_left fun x hx => by rw [trueF_ext (hl x hx) ha]
theorem trueF_at {a : List Bool} {b : Bool} {t : List Bool} (ha : (a ++ b :: t).length ≤ 65537) (h0 : 1 ≤ a.length) : trueF (a.length : Int) (a ++ b :: t) = b := by
  rw [trueF_li ⟨by omega, by simp; omega, by simp; omega⟩ ha]
  rw [show (max (a.length : Int) (-(a.length : Int))).toNat = a.length by omega]
  have : decide ((0 : Int) < (a.length : Int)) = true := by simp; omega
  rw [this]
  simp

theorem any_app (c d : List (List Int)) (lit : Int) (a : List Bool) (v : Int) : yesF (c ++ d) lit a v = (yesF c lit a v || yesF d lit a v) := by simp [yesF]
theorem yes_low {c : List (List Int)} {n lit : Int} (h : LiC n c) (hl : lit ≤ -n ∨ n ≤ lit) (a : List Bool) (v : Int) : yesF c lit a v = false := by
  unfold yesF
  simp only [List.any_eq_false]
  intro r hr
  have : hasF r lit = false := by
    simp only [hasF, List.any_eq_false, decide_eq_true_eq]
    intro x hx he
    have := h r hr x hx
    obtain ⟨_, h1, h2⟩ := this
    omega
  simp [this]
theorem high_of : ∀ (D : List (List Int × Int)) {m : Int}, 0 ≤ m → WfD m D → ∀ r ∈ flatD D, ∃ x ∈ r, m ≤ max x (-x) := by
  intro D
  induction D with
  | nil => intro m _ _ r hr; simp [flatD] at hr
  | cons d D ih =>
    intro m hm h r hr
    obtain ⟨h1, h2, h3, h4⟩ := h
    rw [flatD_cons] at hr
    rcases List.mem_append.1 hr with hr | hr
    · obtain ⟨l, v⟩ := d
      simp only at h1 h2 hr
      subst h1
      match l, h2 with
      | [p, q], _ =>
        simp only [addF, List.mem_cons, List.not_mem_nil, or_false] at hr
        rcases hr with h | h | h | h | h | h | h <;> subst h
        all_goals first | (refine ⟨-v, ?_, by omega⟩; simp; done) | (refine ⟨v, ?_, by omega⟩; simp; done) | (refine ⟨v + 1, ?_, by omega⟩; simp; done) | (refine ⟨-(v + 1), ?_, by omega⟩; simp; done)
      | [p, q, u], _ =>
        simp only [addF, List.mem_cons, List.not_mem_nil, or_false] at hr
        rcases hr with h | h | h | h | h | h | h | h | h | h | h | h | h | h <;> subst h
        all_goals first | (refine ⟨-v, ?_, by omega⟩; simp; done) | (refine ⟨v, ?_, by omega⟩; simp; done) | (refine ⟨v + 1, ?_, by omega⟩; simp; done) | (refine ⟨-(v + 1), ?_, by omega⟩; simp; done)
    · obtain ⟨x, hx, hxm⟩ := ih (m := m + 2) (by omega) h4 r hr
      exact ⟨x, hx, by omega⟩
theorem yes_high {D : List (List Int × Int)} {m lit known : Int} (hm : 0 ≤ m) (h : WfD m D) (hl : -m < lit ∧ lit < m) (hk : known ≤ m) (a : List Bool) : yesF (flatD D) lit a known = false := by
  unfold yesF
  simp only [List.any_eq_false]
  intro r hr
  obtain ⟨x, hx, hxm⟩ := high_of D hm h r hr
  have : otherF r lit a known = false := by
    unfold otherF
    simp only [List.all_eq_false]
    exact ⟨x, hx, by rw [tst_far (by omega) (by omega)]; simp⟩
  simp [this]

theorem dec_ne {x y : Int} (h : x ≠ y) : decide (x = y) = false := by simp [h]

/-- One adder: its sum and its carry are forced. -/
theorem adder_told (l : List Int) (hl : l.length = 2 ∨ l.length = 3) (a : List Bool) (n : Int) (hn : n = a.length) (h1 : 1 ≤ n) (h2 : n + 2 ≤ 65537) (hli : LiL n l) :
    yesF (addF l n (n + 1)) n a n = decide (cnt a l % 2 = 1) ∧ yesF (addF l n (n + 1)) (-n) a n = !decide (cnt a l % 2 = 1) ∧
    ∀ s : Bool, yesF (addF l n (n + 1)) (n + 1) (a ++ [s]) (n + 1) = decide (2 ≤ cnt a l) ∧ yesF (addF l n (n + 1)) (-(n + 1)) (a ++ [s]) (n + 1) = !decide (2 ≤ cnt a l) := by
  have hlen : a.length ≤ 65537 := by omega
  have T : ∀ (lit : Int) x, Li n x → (lit = n ∨ lit = -n) → tst lit a n x = !trueF x a := by
    intro lit x hx hlit
    subst hn
    rw [tst_li hx hlen, dec_ne (by obtain ⟨_, h3, h4⟩ := hx; omega), Bool.false_or]
  have T2 : ∀ (s : Bool) (lit : Int) x, Li n x → (lit = n + 1 ∨ lit = -(n + 1)) → tst lit (a ++ [s]) (n + 1) x = !trueF x a := by
    intro s lit x hx hlit
    subst hn
    have hl1 : ((a ++ [s]).length : Int) = (a.length : Int) + 1 := by simp
    have := tst_li (lit := lit) (a := a ++ [s]) (x := x) (by rw [hl1]; exact hx.mono (by omega)) (by simp; omega)
    rw [hl1] at this
    rw [this, dec_ne (by obtain ⟨_, h3, h4⟩ := hx; omega), Bool.false_or, trueF_ext hx (by simp; omega)]
  have N : ∀ x, Li n x → trueF (-x) a = !trueF x a := by
    intro x hx
    subst hn
    exact trueF_neg hx hlen
  have tself : ∀ (lit known : Int) (b : List Bool), tst lit b known lit = true := by intro lit known b; simp [tst]
  match l, hl, hli with
  | [p, q], _, hli =>
    have hp := hli p (by simp)
    have hq := hli q (by simp)
    obtain ⟨_, p1, p2⟩ := hp
    obtain ⟨_, q1, q2⟩ := hq
    have hp := hli p (by simp)
    have hq := hli q (by simp)
    have c1 : cnt a [p, q] = (if trueF p a then 1 else 0) + (if trueF q a then 1 else 0) := by simp [cnt]
    rw [c1]
    refine ⟨?_, ?_, fun s => ⟨?_, ?_⟩⟩
    · have d1 : decide (p = n) = false := dec_ne (by omega)
      have d2 : decide (q = n) = false := dec_ne (by omega)
      have d3 : decide (-p = n) = false := dec_ne (by omega)
      have d4 : decide (-q = n) = false := dec_ne (by omega)
      have d5 : decide (-n = n) = false := dec_ne (by omega)
      have d6 : decide (n + 1 = n) = false := dec_ne (by omega)
      have d7 : decide (-(n + 1) = n) = false := dec_ne (by omega)
      have d8 : decide (n = n) = true := by simp
      simp only [yesF, addF, hasF, otherF, List.any_cons, List.any_nil, List.all_cons, List.all_nil, d1, d2, d3, d4, d5, d6, d7, d8, T n p hp (.inl rfl), T n q hq (.inl rfl), T n (-p) hp.neg (.inl rfl), T n (-q) hq.neg (.inl rfl), N p hp, N q hq, tself, Bool.or_false, Bool.false_or, Bool.and_true, Bool.true_and, Bool.false_and, Bool.not_not, Bool.or_true]
      cases trueF p a <;> cases trueF q a <;> rfl
    · have d1 : decide (p = -n) = false := dec_ne (by omega)
      have d2 : decide (q = -n) = false := dec_ne (by omega)
      have d3 : decide (-p = -n) = false := dec_ne (by omega)
      have d4 : decide (-q = -n) = false := dec_ne (by omega)
      have d5 : decide (n = -n) = false := dec_ne (by omega)
      have d6 : decide (n + 1 = -n) = false := dec_ne (by omega)
      have d7 : decide (-(n + 1) = -n) = false := dec_ne (by omega)
      have d8 : decide (-n = -n) = true := by simp
      simp only [yesF, addF, hasF, otherF, List.any_cons, List.any_nil, List.all_cons, List.all_nil, d1, d2, d3, d4, d5, d6, d7, d8, T (-n) p hp (.inr rfl), T (-n) q hq (.inr rfl), T (-n) (-p) hp.neg (.inr rfl), T (-n) (-q) hq.neg (.inr rfl), N p hp, N q hq, tself, Bool.or_false, Bool.false_or, Bool.and_true, Bool.true_and, Bool.false_and, Bool.not_not, Bool.or_true]
      cases trueF p a <;> cases trueF q a <;> rfl
    · have d1 : decide (p = n + 1) = false := dec_ne (by omega)
      have d2 : decide (q = n + 1) = false := dec_ne (by omega)
      have d3 : decide (-p = n + 1) = false := dec_ne (by omega)
      have d4 : decide (-q = n + 1) = false := dec_ne (by omega)
      have d5 : decide (-n = n + 1) = false := dec_ne (by omega)
      have d6 : decide (n = n + 1) = false := dec_ne (by omega)
      have d7 : decide (-(n + 1) = n + 1) = false := dec_ne (by omega)
      have d8 : decide (n + 1 = n + 1) = true := by simp
      simp only [yesF, addF, hasF, otherF, List.any_cons, List.any_nil, List.all_cons, List.all_nil, d1, d2, d3, d4, d5, d6, d7, d8, T2 s (n + 1) p hp (.inl rfl), T2 s (n + 1) q hq (.inl rfl), T2 s (n + 1) (-p) hp.neg (.inl rfl), T2 s (n + 1) (-q) hq.neg (.inl rfl), N p hp, N q hq, tself, Bool.or_false, Bool.false_or, Bool.and_true, Bool.true_and, Bool.false_and, Bool.not_not, Bool.or_true]
      cases trueF p a <;> cases trueF q a <;> rfl
    · have d1 : decide (p = -(n + 1)) = false := dec_ne (by omega)
      have d2 : decide (q = -(n + 1)) = false := dec_ne (by omega)
      have d3 : decide (-p = -(n + 1)) = false := dec_ne (by omega)
      have d4 : decide (-q = -(n + 1)) = false := dec_ne (by omega)
      have d5 : decide (-n = -(n + 1)) = false := dec_ne (by omega)
      have d6 : decide (n = -(n + 1)) = false := dec_ne (by omega)
      have d7 : decide (n + 1 = -(n + 1)) = false := dec_ne (by omega)
      have d8 : decide (-(n + 1) = -(n + 1)) = true := by simp
      simp only [yesF, addF, hasF, otherF, List.any_cons, List.any_nil, List.all_cons, List.all_nil, d1, d2, d3, d4, d5, d6, d7, d8, T2 s (-(n + 1)) p hp (.inr rfl), T2 s (-(n + 1)) q hq (.inr rfl), T2 s (-(n + 1)) (-p) hp.neg (.inr rfl), T2 s (-(n + 1)) (-q) hq.neg (.inr rfl), N p hp, N q hq, tself, Bool.or_false, Bool.false_or, Bool.and_true, Bool.true_and, Bool.false_and, Bool.not_not, Bool.or_true]
      cases trueF p a <;> cases trueF q a <;> rfl
  | [p, q, d], _, hli =>
    have hp := hli p (by simp)
    have hq := hli q (by simp)
    have hd := hli d (by simp)
    obtain ⟨_, p1, p2⟩ := hp
    obtain ⟨_, q1, q2⟩ := hq
    obtain ⟨_, r1, r2⟩ := hd
    have hp := hli p (by simp)
    have hq := hli q (by simp)
    have hd := hli d (by simp)
    have c1 : cnt a [p, q, d] = (if trueF p a then 1 else 0) + ((if trueF q a then 1 else 0) + (if trueF d a then 1 else 0)) := by simp [cnt]
    rw [c1]
    refine ⟨?_, ?_, fun s => ⟨?_, ?_⟩⟩
    · have d1 : decide (p = n) = false := dec_ne (by omega)
      have d2 : decide (q = n) = false := dec_ne (by omega)
      have d3 : decide (-p = n) = false := dec_ne (by omega)
      have d4 : decide (-q = n) = false := dec_ne (by omega)
      have d5 : decide (-n = n) = false := dec_ne (by omega)
      have d6 : decide (n + 1 = n) = false := dec_ne (by omega)
      have d7 : decide (-(n + 1) = n) = false := dec_ne (by omega)
      have d8 : decide (n = n) = true := by simp
      have e1 : decide (d = n) = false := dec_ne (by omega)
      have e2 : decide (-d = n) = false := dec_ne (by omega)
      simp only [yesF, addF, hasF, otherF, List.any_cons, List.any_nil, List.all_cons, List.all_nil, d1, d2, d3, d4, d5, d6, d7, d8, e1, e2, T n p hp (.inl rfl), T n q hq (.inl rfl), T n d hd (.inl rfl), T n (-p) hp.neg (.inl rfl), T n (-q) hq.neg (.inl rfl), T n (-d) hd.neg (.inl rfl), N p hp, N q hq, N d hd, tself, Bool.or_false, Bool.false_or, Bool.and_true, Bool.true_and, Bool.false_and, Bool.not_not, Bool.or_true]
      cases trueF p a <;> cases trueF q a <;> cases trueF d a <;> rfl
    · have d1 : decide (p = -n) = false := dec_ne (by omega)
      have d2 : decide (q = -n) = false := dec_ne (by omega)
      have d3 : decide (-p = -n) = false := dec_ne (by omega)
      have d4 : decide (-q = -n) = false := dec_ne (by omega)
      have d5 : decide (n = -n) = false := dec_ne (by omega)
      have d6 : decide (n + 1 = -n) = false := dec_ne (by omega)
      have d7 : decide (-(n + 1) = -n) = false := dec_ne (by omega)
      have d8 : decide (-n = -n) = true := by simp
      have e1 : decide (d = -n) = false := dec_ne (by omega)
      have e2 : decide (-d = -n) = false := dec_ne (by omega)
      simp only [yesF, addF, hasF, otherF, List.any_cons, List.any_nil, List.all_cons, List.all_nil, d1, d2, d3, d4, d5, d6, d7, d8, e1, e2, T (-n) p hp (.inr rfl), T (-n) q hq (.inr rfl), T (-n) d hd (.inr rfl), T (-n) (-p) hp.neg (.inr rfl), T (-n) (-q) hq.neg (.inr rfl), T (-n) (-d) hd.neg (.inr rfl), N p hp, N q hq, N d hd, tself, Bool.or_false, Bool.false_or, Bool.and_true, Bool.true_and, Bool.false_and, Bool.not_not, Bool.or_true]
      cases trueF p a <;> cases trueF q a <;> cases trueF d a <;> rfl
    · have d1 : decide (p = n + 1) = false := dec_ne (by omega)
      have d2 : decide (q = n + 1) = false := dec_ne (by omega)
      have d3 : decide (-p = n + 1) = false := dec_ne (by omega)
      have d4 : decide (-q = n + 1) = false := dec_ne (by omega)
      have d5 : decide (-n = n + 1) = false := dec_ne (by omega)
      have d6 : decide (n = n + 1) = false := dec_ne (by omega)
      have d7 : decide (-(n + 1) = n + 1) = false := dec_ne (by omega)
      have d8 : decide (n + 1 = n + 1) = true := by simp
      have e1 : decide (d = n + 1) = false := dec_ne (by omega)
      have e2 : decide (-d = n + 1) = false := dec_ne (by omega)
      simp only [yesF, addF, hasF, otherF, List.any_cons, List.any_nil, List.all_cons, List.all_nil, d1, d2, d3, d4, d5, d6, d7, d8, e1, e2, T2 s (n + 1) p hp (.inl rfl), T2 s (n + 1) q hq (.inl rfl), T2 s (n + 1) d hd (.inl rfl), T2 s (n + 1) (-p) hp.neg (.inl rfl), T2 s (n + 1) (-q) hq.neg (.inl rfl), T2 s (n + 1) (-d) hd.neg (.inl rfl), N p hp, N q hq, N d hd, tself, Bool.or_false, Bool.false_or, Bool.and_true, Bool.true_and, Bool.false_and, Bool.not_not, Bool.or_true]
      cases trueF p a <;> cases trueF q a <;> cases trueF d a <;> rfl
    · have d1 : decide (p = -(n + 1)) = false := dec_ne (by omega)
      have d2 : decide (q = -(n + 1)) = false := dec_ne (by omega)
      have d3 : decide (-p = -(n + 1)) = false := dec_ne (by omega)
      have d4 : decide (-q = -(n + 1)) = false := dec_ne (by omega)
      have d5 : decide (-n = -(n + 1)) = false := dec_ne (by omega)
      have d6 : decide (n = -(n + 1)) = false := dec_ne (by omega)
      have d7 : decide (n + 1 = -(n + 1)) = false := dec_ne (by omega)
      have d8 : decide (-(n + 1) = -(n + 1)) = true := by simp
      have e1 : decide (d = -(n + 1)) = false := dec_ne (by omega)
      have e2 : decide (-d = -(n + 1)) = false := dec_ne (by omega)
      simp only [yesF, addF, hasF, otherF, List.any_cons, List.any_nil, List.all_cons, List.all_nil, d1, d2, d3, d4, d5, d6, d7, d8, e1, e2, T2 s (-(n + 1)) p hp (.inr rfl), T2 s (-(n + 1)) q hq (.inr rfl), T2 s (-(n + 1)) d hd (.inr rfl), T2 s (-(n + 1)) (-p) hp.neg (.inr rfl), T2 s (-(n + 1)) (-q) hq.neg (.inr rfl), T2 s (-(n + 1)) (-d) hd.neg (.inr rfl), N p hp, N q hq, N d hd, tself, Bool.or_false, Bool.false_or, Bool.and_true, Bool.true_and, Bool.false_and, Bool.not_not, Bool.or_true]
      cases trueF p a <;> cases trueF q a <;> cases trueF d a <;> rfl

theorem LiC_app {n : Int} {c d : List (List Int)} (h1 : LiC n c) (h2 : LiC n d) : LiC n (c ++ d) := by
  intro r hr
  rcases List.mem_append.1 hr with hr | hr
  · exact h1 r hr
  · exact h2 r hr

/-- All new variables are forced, and what they are forced to obeys the adders. -/
theorem told_ok : ∀ (D : List (List Int × Int)) {c0 : List (List Int)} {n : Int} {a : List Bool}, n = a.length → 1 ≤ n → n + 2 * D.length ≤ 65537 → LiC n c0 → WfD n D →
    ∃ A, toldF (c0 ++ flatD D) (2 * D.length) a n = (A, true) ∧ (A.length : Int) = n + 2 * D.length ∧ (∃ t, A = a ++ t) ∧ Agree A D := by
  intro D
  induction D with
  | nil => intro c0 n a hn h1 h2 hc hD; exact ⟨a, rfl, by simp [hn], ⟨[], by simp⟩, fun d hd => by cases hd⟩
  | cons d D ih =>
    intro c0 n a hn h1 h2 hc hD
    obtain ⟨l, n'⟩ := d
    obtain ⟨rfl, hl, hli, hD'⟩ := hD
    simp only at hl hli hD' h1 h2 hc hn
    simp only [List.length_cons] at h2
    obtain ⟨y1, y2, y3⟩ := adder_told l hl a n' hn h1 (by omega) hli
    obtain ⟨y4, y5⟩ := y3 (decide (cnt a l % 2 = 1))
    have hcl : c0 ++ flatD ((l, n') :: D) = (c0 ++ addF l n' (n' + 1)) ++ flatD D := by rw [flatD_cons, List.append_assoc]
    have hadd := addF_li h1 hli
    have hc2 : LiC (n' + 2) (c0 ++ addF l n' (n' + 1)) := LiC_app (fun r hr x hx => (hc r hr x hx).mono (by omega)) hadd
    have s1 : yesF (c0 ++ flatD ((l, n') :: D)) n' a n' = decide (cnt a l % 2 = 1) := by
      rw [hcl, any_app, any_app, yes_low hc (by omega), y1, yes_high (by omega) hD' (by omega) (by omega)]; simp
    have s2 : yesF (c0 ++ flatD ((l, n') :: D)) (-n') a n' = !decide (cnt a l % 2 = 1) := by
      rw [hcl, any_app, any_app, yes_low hc (by omega), y2, yes_high (by omega) hD' (by omega) (by omega)]; simp
    have s3 : yesF (c0 ++ flatD ((l, n') :: D)) (n' + 1) (a ++ [decide (cnt a l % 2 = 1)]) (n' + 1) = decide (2 ≤ cnt a l) := by
      rw [hcl, any_app, any_app, yes_low hc (by omega), y4, yes_high (by omega) hD' (by omega) (by omega)]; simp
    have s4 : yesF (c0 ++ flatD ((l, n') :: D)) (-(n' + 1)) (a ++ [decide (cnt a l % 2 = 1)]) (n' + 1) = !decide (2 ≤ cnt a l) := by
      rw [hcl, any_app, any_app, yes_low hc (by omega), y5, yes_high (by omega) hD' (by omega) (by omega)]; simp
    have hne : ∀ b : Bool, ¬ b = !b := by intro b; cases b <;> simp
    obtain ⟨A, k1, k2, ⟨t, k3⟩, k4⟩ := ih (c0 := c0 ++ addF l n' (n' + 1)) (n := n' + 2) (a := a ++ [decide (cnt a l % 2 = 1)] ++ [decide (2 ≤ cnt a l)]) (by simp; omega) (by omega) (by omega) hc2 hD'
    refine ⟨A, ?_, by rw [k2]; simp only [List.length_cons]; omega, ⟨_, by rw [k3, List.append_assoc, List.append_assoc]⟩, fun d hd => ?_⟩
    · rw [List.length_cons, show 2 * (D.length + 1) = 2 * D.length + 1 + 1 by omega]
      rw [toldF, s1, s2, if_neg (hne _), toldF, s3, s4, if_neg (hne _), hcl]
      rw [show n' + 1 + 1 = n' + 2 by omega]
      exact k1
    · rcases List.mem_cons.1 hd with rfl | hd
      · have hAl : A.length ≤ 65537 := by omega
        have e1 : A = a ++ decide (cnt a l % 2 = 1) :: (decide (2 ≤ cnt a l) :: t) := by rw [k3]; simp
        have e2 : A = (a ++ [decide (cnt a l % 2 = 1)]) ++ decide (2 ≤ cnt a l) :: t := by rw [k3]; simp
        have hc1 : cnt A l = cnt a l := by
          rw [e1] at hAl ⊢
          exact cnt_ext (by rw [← hn]; exact hli) hAl
        refine ⟨?_, ?_⟩
        · simp only [hc1]
          rw [hn, e1]
          exact trueF_at (by rw [← e1]; exact hAl) (by omega)
        · simp only [hc1]
          have hl1 : n' + 1 = ((a ++ [decide (cnt a l % 2 = 1)]).length : Int) := by simp; omega
          rw [hl1, e2]
          exact trueF_at (by rw [← e2]; exact hAl) (by simp)
      · exact k4 d hd

/-- Whoever obeys the adders satisfies their clauses. -/
theorem agree_sat {A : List Bool} (hA : A.length ≤ 65537) : ∀ (D : List (List Int × Int)) {n : Int}, 1 ≤ n → n + 2 * D.length ≤ A.length → WfD n D → Agree A D → ((flatD D).all fun r => holdsF r A) = true := by
  intro D
  induction D with
  | nil => intro n _ _ _ _; rfl
  | cons d D ih =>
    intro n h1 h2 hD hag
    obtain ⟨l, n'⟩ := d
    obtain ⟨rfl, hl, hli, hD'⟩ := hD
    simp only at hl hli hD' h1 h2
    simp only [List.length_cons] at h2
    rw [flatD_cons, List.all_append, ih (n := n' + 2) (by omega) (by omega) hD' fun d hd => hag d (by simp [hd]), Bool.and_true]
    obtain ⟨g1, g2⟩ := hag (l, n') (by simp)
    simp only at g1 g2
    have N : ∀ x, Li (n' + 2) x → trueF (-x) A = !trueF x A := fun x hx => trueF_neg (hx.mono (by omega)) hA
    have ns := N n' ⟨by omega, by omega, by omega⟩
    have nc := N (n' + 1) ⟨by omega, by omega, by omega⟩
    match l, hl, hli with
    | [p, q], _, hli =>
      have np := N p ((hli p (by simp)).mono (by omega))
      have nq := N q ((hli q (by simp)).mono (by omega))
      have c1 : cnt A [p, q] = (if trueF p A then 1 else 0) + (if trueF q A then 1 else 0) := by simp [cnt]
      rw [c1] at g1 g2
      simp only [addF, List.all_cons, List.all_nil, holdsF, List.any_cons, List.any_nil, ns, nc, np, nq, g1, g2]
      cases trueF p A <;> cases trueF q A <;> rfl
    | [p, q, d], _, hli =>
      have np := N p ((hli p (by simp)).mono (by omega))
      have nq := N q ((hli q (by simp)).mono (by omega))
      have nd := N d ((hli d (by simp)).mono (by omega))
      have c1 : cnt A [p, q, d] = (if trueF p A then 1 else 0) + ((if trueF q A then 1 else 0) + (if trueF d A then 1 else 0)) := by simp [cnt]
      rw [c1] at g1 g2
      simp only [addF, List.all_cons, List.all_nil, holdsF, List.any_cons, List.any_nil, ns, nc, np, nq, nd, g1, g2]
      cases trueF p A <;> cases trueF q A <;> cases trueF d A <;> rfl


def ex (m : Nat) : Nat := if m ≤ 1 then 0 else if m ≤ 3 then 1 else if m ≤ 7 then 2 else 3
theorem ex_le (m : Nat) : ex m ≤ 3 := by unfold ex; split <;> (try split) <;> (try split) <;> omega
theorem ex_half {m : Nat} (h : 2 ≤ m) (h2 : m ≤ 15) : ex m = ex (m / 2) + 1 := by
  unfold ex
  have : m = 2 ∨ m = 3 ∨ m = 4 ∨ m = 5 ∨ m = 6 ∨ m = 7 ∨ m = 8 ∨ m = 9 ∨ m = 10 ∨ m = 11 ∨ m = 12 ∨ m = 13 ∨ m = 14 ∨ m = 15 := by omega
  rcases this with rfl | rfl | rfl | rfl | rfl | rfl | rfl | rfl | rfl | rfl | rfl | rfl | rfl | rfl <;> rfl
def exL : List (List Int) → Nat
  | [] => 0
  | [r] => ex r.length
  | _ :: _ :: _ => 3
theorem exL_le (L : List (List Int)) : exL L ≤ 3 := by
  match L with
  | [] => simp [exL]
  | [r] => exact ex_le _
  | _ :: _ :: _ => simp [exL]
/-- The first row short, the others shorter. -/
def Few (L : List (List Int)) : Prop := (L.headD []).length ≤ 15 ∧ ∀ r ∈ L.tail, r.length ≤ 8

theorem colsF_few : ∀ (m : Nat) {L : List (List Int)} {n : Int} {c : List (List Int)} {b c' n'}, meas n L = m → 1 ≤ n → LiC n L → LiC n c → Few L → colsF L n c = some (b, c', n') →
    b.length ≤ L.length + exL L ∧ n' ≤ n + 14 * b.length := by
  intro m
  induction m using Nat.strongRecOn with
  | _ m ih =>
    intro L n c b c' n' hm hn hL hc hf h
    cases L with
    | nil =>
      rw [colsF_nil] at h
      cases h
      exact ⟨by simp, by simp⟩
    | cons row rest =>
      cases hr : rowF row rest n c with
      | none => rw [colsF_none hr] at h; cases h
      | some x =>
        obtain ⟨row', rest', n2, c2⟩ := x
        rw [colsF_some hr, Option.map_eq_some_iff] at h
        obtain ⟨⟨b2, c3, n3⟩, h1, h2⟩ := h
        cases h2
        have hlr : LiL n row := fun x hx => hL row (by simp) x hx
        obtain ⟨q, s1, s2, s3, s4, s5, s6, s7⟩ := rowF_size _ row rfl hn hlr (fun r hr => hL r (by simp [hr])) hc hr
        obtain ⟨D, k1, k2, k3, k4, k5, k6, k7, k8⟩ := rowF_val _ row rfl hn hlr hr
        obtain ⟨f1, f2⟩ := hf
        simp only [List.headD_cons, List.tail_cons] at f1 f2
        have hrec := ih _ (by have := meas_lt hr; omega) (b := b2) (c' := c') (n' := n') rfl (by omega) s5 s6
        have hD7 : D.length ≤ 7 := by clear k7 k8; omega
        have hb0 : (b2.length + 1 : Nat) = (row'.headD 0 :: b2).length := by simp
        by_cases hD : D.length = 0
        · have hre := k6 hD
          subst hre
          have hfew : Few rest' := by
            refine ⟨?_, fun r hr => f2 r (List.mem_of_mem_tail hr)⟩
            cases rest' with
            | nil => simp
            | cons u t => have := f2 u (by simp); simp only [List.headD_cons]; omega
          obtain ⟨j1, j2⟩ := hrec hfew h1
          have he := exL_le rest'
          refine ⟨?_, by rw [← hb0]; clear k7 k8; omega⟩
          cases rest' with
          | nil => simp only [List.length_nil, exL] at j1; simp only [List.length_cons, List.length_nil]; clear k7 k8; omega
          | cons u t =>
            have : exL (row :: u :: t) = 3 := rfl
            simp only [List.length_cons] at j1 ⊢
            clear k7 k8
            omega
        · obtain ⟨g1, u, t, g2, g3, g4⟩ := k7 hD
          subst g2
          have hh : (rest.headD []).length ≤ 8 := by
            cases rest with
            | nil => simp
            | cons u t => exact f2 u (by simp)
          have hfew : Few (u :: t) := by
            refine ⟨?_, fun r hr => ?_⟩
            · simp only [List.headD_cons]; clear k7 k8; omega
            · rw [List.tail_cons, g4] at hr
              exact f2 r (List.mem_of_mem_tail hr)
          obtain ⟨j1, j2⟩ := hrec hfew h1
          have he := exL_le (u :: t)
          refine ⟨?_, by rw [← hb0]; clear k7 k8; omega⟩
          cases rest with
          | nil =>
            simp only [List.headD_nil, List.length_nil, Nat.zero_add] at g3
            simp only [List.tail_nil] at g4
            subst g4
            have hx := ex_half (m := row.length) (by clear k7 k8; omega) f1
            simp only [List.length_cons, List.length_nil, exL, g3, k4] at j1 ⊢
            clear k7 k8
            omega
          | cons r2 rs =>
            simp only [List.tail_cons] at g4
            subst g4
            simp only [List.length_cons] at j1 ⊢
            have : exL (row :: r2 :: t) = 3 := rfl
            clear k7 k8
            omega

/-- A row's size. -/
def ln (L : List (List Int)) (i : Nat) : Nat := ((L[i]?).getD []).length
theorem put_ln (L : List (List Int)) (k : Nat) (x : Int) (i : Nat) : ln (putF L k x) i = ln L i + (if i = k then 1 else 0) := by
  unfold ln
  rw [putF_at]
  by_cases h : i = k
  · subst h; simp
  · simp [h]
theorem puts_ln (x : Int) : ∀ (bs : List Nat) (L : List (List Int)), bs.Nodup → ∀ i, ln (putsF L bs x) i = ln L i + (if i ∈ bs then 1 else 0) := by
  intro bs
  induction bs with
  | nil => intro L _ i; simp [putsF]
  | cons k bs ih =>
    intro L h i
    rw [List.nodup_cons] at h
    show ln (putsF (putF L k x) bs x) i = _
    rw [ih _ h.2, put_ln]
    by_cases hik : i = k
    · subst hik; simp [h.1]
    · simp [hik]
theorem bits_nodup (n : Nat) : (bitsF n).Nodup := List.Pairwise.filter _ List.nodup_range
/-- How many numbers have the bit. -/
def cb (z : List (Int × Int)) (i : Nat) : Nat := (z.map fun p => if i ∈ bitsF p.1.toNat then 1 else 0).sum
theorem rows_ln : ∀ (z : List (Int × Int)) (L : List (List Int)) (i : Nat), ln (rowsF z L) i = ln L i + cb z i := by
  intro z
  induction z with
  | nil => intro L i; simp [rowsF, cb]
  | cons p z ih =>
    intro L i
    obtain ⟨a, x⟩ := p
    show ln (rowsF z (putsF L (bitsF a.toNat) x)) i = _
    rw [ih, puts_ln _ _ _ (bits_nodup _)]
    simp [cb]; omega
theorem cb_le (z : List (Int × Int)) (i : Nat) : cb z i ≤ z.length := by
  unfold cb
  induction z with
  | nil => simp
  | cons p z ih => simp only [List.map_cons, List.sum_cons, List.length_cons]; split <;> omega
theorem puts_length (x : Int) (t : Nat) : ∀ (bs : List Nat) (L : List (List Int)), (∀ k ∈ bs, k < t) → L.length ≤ t → (putsF L bs x).length ≤ t := by
  intro bs
  induction bs with
  | nil => intro L _ h; exact h
  | cons k bs ih =>
    intro L h hL
    refine ih (putF L k x) (fun j hj => h j (by simp [hj])) ?_
    have := h k (by simp)
    rw [putF_len]; omega
theorem bits_small {x : Nat} (h : x ≤ 1099511627776) : ∀ k ∈ bitsF x, k < 41 := by
  intro k hk
  simp only [bitsF, List.mem_filter] at hk
  have h1 := Nat.ge_two_pow_of_testBit hk.2
  apply Nat.lt_of_not_le
  intro h41
  have h2 : 2 ^ 41 ≤ 2 ^ k := Nat.pow_le_pow_right (by decide) h41
  omega
theorem rows_length : ∀ (z : List (Int × Int)) (L : List (List Int)), (∀ p ∈ z, p.1 ≤ 1099511627776) → L.length ≤ 41 → (rowsF z L).length ≤ 41 := by
  intro z
  induction z with
  | nil => intro L _ h; exact h
  | cons p z ih =>
    intro L h hL
    obtain ⟨a, x⟩ := p
    have ha := h (a, x) (by simp)
    simp only at ha
    exact ih _ (fun p hp => h p (by simp [hp])) (puts_length x 41 _ _ (bits_small (by omega)) hL)

theorem sum_few {coef l : List Int} {next : Int} {b : List Int} {c : List (List Int)} {n : Int} (h : sumF coef l next = (b, c, n, 0)) (hl : l.length ≤ 8) : b.length ≤ 44 ∧ n ≤ next + 616 := by
  obtain ⟨h1, h2, h3, h4, h5, h6⟩ := sumF_ok h
  have hli : LiC next (rowsF (coef.zip l) []) := rowsF_li _ (fun r hr => by cases hr) fun p hp => (li_of_ok (h4 p hp)).1
  have hz : (coef.zip l).length ≤ 8 := by simp; omega
  have hrow : ∀ i, ln (rowsF (coef.zip l) []) i ≤ 8 := by
    intro i
    rw [rows_ln]
    have := cb_le (coef.zip l) i
    simp [ln]; omega
  have hlen : (rowsF (coef.zip l) []).length ≤ 41 := rows_length _ _ (fun p hp => (li_of_ok (h4 p hp)).2.2) (by simp)
  generalize rowsF (coef.zip l) [] = L at *
  have hfew : Few L := by
    refine ⟨?_, fun r hr => ?_⟩
    · have := hrow 0
      cases L with
      | nil => simp
      | cons u t => simp [ln] at this; simp; omega
    · obtain ⟨i, hi, he⟩ := List.getElem_of_mem (List.mem_of_mem_tail hr)
      have := hrow i
      unfold ln at this
      rw [List.getElem?_eq_getElem hi, he] at this
      exact this
  obtain ⟨k1, k2⟩ := colsF_few _ rfl h1 hli (fun r hr => by cases hr) hfew h6
  have := exL_le L
  omega

/-- A small sum: each new variable is forced, and the bits say the sum. -/
theorem sum_told {coef l : List Int} {next : Int} {b : List Int} {c : List (List Int)} {n : Int} (h : sumF coef l next = (b, c, n, 0)) (hl : l.length ≤ 8) (hn : next ≤ 40) (a : List Bool) (ha : (a.length : Int) = next) :
    ∃ (A : List Bool) (m : Nat), n = next + m ∧ m ≤ 616 ∧ toldF c m a next = (A, true) ∧ (A.length : Int) = n ∧ (c.all fun r => holdsF r A) = true ∧ numF b A = wsum A (coef.zip l) ∧ (∃ t, A = a ++ t) ∧ c.length ≤ 10000 := by
  obtain ⟨f1, f2⟩ := sum_few h hl
  obtain ⟨q, z1, z2, z3, z4, z5, z6, z7, z8, z9⟩ := sumF_size h
  obtain ⟨D, d1, d2, d3, d4⟩ := sumF_val h
  obtain ⟨A, k1, k2, k3, k4⟩ := told_ok D (c0 := []) (n := next) (a := a) ha.symm z7 (by omega) (fun r hr => by cases hr) d2
  rw [List.nil_append] at k1
  refine ⟨A, 2 * D.length, by omega, by omega, by rw [d1]; exact k1, by omega, ?_, ?_, k3, by omega⟩
  · rw [d1]
    exact agree_sat (by omega) D z7 (by omega) d2 k4
  · rw [numF_bitV (by omega), d4 A k4]


def shp (L : List (List Int)) : List Nat := L.map List.length
theorem bump_shp {r r2 : List (List Int)} (h : shp r2 = shp r) (x y : Int) : shp (bump r2 y) = shp (bump r x) := by
  cases r with
  | nil => cases r2 with
    | nil => rfl
    | cons u t => simp [shp] at h
  | cons u t => cases r2 with
    | nil => simp [shp] at h
    | cons u2 t2 => simp only [shp, List.map_cons, List.cons.injEq] at h; simp [shp, bump, h.1, h.2]
theorem rowF_shp : ∀ (m : Nat) (row : List Int), row.length = m → ∀ {rest : List (List Int)} {n : Int} {c : List (List Int)} {row' rest' n' c'}, rowF row rest n c = some (row', rest', n', c') →
    ∀ (row2 : List Int) (rest2 : List (List Int)) (c2 : List (List Int)), row2.length = row.length → shp rest2 = shp rest → ∃ r2 s2 d2, rowF row2 rest2 n c2 = some (r2, s2, n', d2) ∧ shp s2 = shp rest' := by
  intro m
  induction m using Nat.strongRecOn with
  | _ m ih =>
    intro row hm rest n c row' rest' n' c' h row2 rest2 c2 hl hs
    by_cases h2 : 2 ≤ row.length
    · by_cases hb : 65537 < n + 2
      · rw [rowF_fail h2 rest hb c] at h; cases h
      · rw [rowF_step h2 rfl rest (by omega) c] at h
        rw [rowF_step (row := row2) (by omega) rfl rest2 (by omega) c2]
        exact ih _ (by simp; omega) _ rfl h _ _ _ (by simp; omega) (bump_shp hs _ _)
    · rw [rowF_stop (by omega)] at h
      cases h
      rw [rowF_stop (by omega)]
      exact ⟨_, _, _, rfl, hs⟩
theorem colsF_shp : ∀ (m : Nat) {L : List (List Int)} {n : Int} {c : List (List Int)} {b c' n'}, meas n L = m → colsF L n c = some (b, c', n') → ∀ (L2 c2 : List (List Int)), shp L2 = shp L → ∃ b2 d2, colsF L2 n c2 = some (b2, d2, n') := by
  intro m
  induction m using Nat.strongRecOn with
  | _ m ih =>
    intro L n c b c' n' hm h L2 c2 hs
    cases L with
    | nil =>
      rw [colsF_nil] at h
      cases h
      cases L2 with
      | nil => exact ⟨_, _, colsF_nil _ _⟩
      | cons u t => simp [shp] at hs
    | cons row rest =>
      cases L2 with
      | nil => simp [shp] at hs
      | cons row2 rest2 =>
        simp only [shp, List.map_cons, List.cons.injEq] at hs
        cases hr : rowF row rest n c with
        | none => rw [colsF_none hr] at h; cases h
        | some x =>
          obtain ⟨row', rest', n2, c3⟩ := x
          rw [colsF_some hr, Option.map_eq_some_iff] at h
          obtain ⟨⟨b2, c4, n3⟩, h1, h2⟩ := h
          cases h2
          obtain ⟨r2, s2, d2, k1, k2⟩ := rowF_shp _ row rfl hr row2 rest2 c2 hs.1 hs.2
          obtain ⟨b3, d3, j1⟩ := ih _ (by have := meas_lt hr; omega) rfl h1 s2 d2 k2
          exact ⟨_, _, by rw [colsF_some k1, j1]; rfl⟩

def tp (bs : List Nat) : Nat := bs.foldr (fun k m => max (k + 1) m) 0
theorem puts_len (x : Int) : ∀ (bs : List Nat) (L : List (List Int)), (putsF L bs x).length = max L.length (tp bs) := by
  intro bs
  induction bs with
  | nil => intro L; simp [putsF, tp]
  | cons k bs ih =>
    intro L
    show (putsF (putF L k x) bs x).length = _
    rw [ih, putF_len]
    simp only [tp, List.foldr_cons]
    omega
def top (z : List (Int × Int)) : Nat := z.foldr (fun p m => max (tp (bitsF p.1.toNat)) m) 0
theorem top_append (w : List (Int × Int)) : ∀ z : List (Int × Int), top (z ++ w) = max (top z) (top w) := by
  intro z
  induction z with
  | nil => simp [top]
  | cons p z ih =>
    simp only [top, List.cons_append, List.foldr_cons] at ih ⊢
    rw [ih]; omega
theorem top_rev : ∀ z : List (Int × Int), top z.reverse = top z := by
  intro z
  induction z with
  | nil => rfl
  | cons p z ih =>
    rw [List.reverse_cons, top_append, ih]
    simp only [top, List.foldr_cons, List.foldr_nil]
    omega
theorem rows_len : ∀ (z : List (Int × Int)) (L : List (List Int)), (rowsF z L).length = max L.length (top z) := by
  intro z
  induction z with
  | nil => intro L; simp [rowsF, top]
  | cons p z ih =>
    intro L
    obtain ⟨a, x⟩ := p
    show (rowsF z (putsF L (bitsF a.toNat) x)).length = _
    rw [ih, puts_len]
    simp only [top, List.foldr_cons]
    omega
theorem cb_append (z w : List (Int × Int)) (i : Nat) : cb (z ++ w) i = cb z i + cb w i := by simp [cb]
theorem cb_rev (i : Nat) : ∀ z : List (Int × Int), cb z.reverse i = cb z i := by
  intro z
  induction z with
  | nil => rfl
  | cons p z ih =>
    rw [List.reverse_cons, cb_append, ih]
    simp [cb]; omega
theorem shp_eq {L L2 : List (List Int)} (h : L2.length = L.length) (hl : ∀ i, ln L2 i = ln L i) : shp L2 = shp L := by
  apply List.ext_getElem (by simp [shp, h])
  intro i h1 h2
  have := hl i
  simp only [shp, List.length_map] at h1 h2
  unfold ln at this
  rw [List.getElem?_eq_getElem h1, List.getElem?_eq_getElem h2] at this
  simpa [shp] using this
theorem rows_rev (z : List (Int × Int)) : shp (rowsF z.reverse []) = shp (rowsF z []) :=
  shp_eq (by rw [rows_len, rows_len, top_rev]) fun i => by rw [rows_ln, rows_ln, cb_rev]
theorem zip_rev {a b : List Int} (h : a.length = b.length) : a.reverse.zip b.reverse = (a.zip b).reverse := by
  rw [List.zip_eq_zipWith, List.zip_eq_zipWith, List.reverse_zipWith h]

theorem sum_rev {coef l : List Int} {next : Int} {b : List Int} {c : List (List Int)} {n e : Int} (h : sumF coef l next = (b, c, n, e)) : ∃ b2 c2, sumF coef.reverse l.reverse next = (b2, c2, n, e) := by
  unfold sumF at h ⊢
  rw [List.length_reverse, List.length_reverse]
  split at h
  · rename_i h1
    rw [if_pos h1]
    cases h
    exact ⟨_, _, rfl⟩
  · rename_i h1
    rw [if_neg h1, zip_rev (by omega), List.any_reverse]
    split at h
    · rename_i h2
      rw [if_pos h2]
      cases h
      exact ⟨_, _, rfl⟩
    · rename_i h2
      rw [if_neg h2]
      split at h
      · rename_i h3
        rw [if_pos h3]
        cases h
        exact ⟨_, _, rfl⟩
      · rename_i h3
        rw [if_neg h3]
        cases hcol : colsF (rowsF (coef.zip l) []) next [] with
        | none =>
          rw [hcol] at h
          cases h
          cases hc2 : colsF (rowsF (coef.zip l).reverse []) next [] with
          | none => exact ⟨_, _, rfl⟩
          | some x =>
            obtain ⟨b3, c3, n3⟩ := x
            obtain ⟨b4, c4, h4⟩ := colsF_shp _ rfl hc2 (rowsF (coef.zip l) []) [] (rows_rev _).symm
            rw [h4] at hcol
            cases hcol
        | some x =>
          obtain ⟨b3, c3, n3⟩ := x
          rw [hcol] at h
          cases h
          obtain ⟨b4, c4, h4⟩ := colsF_shp _ rfl hcol (rowsF (coef.zip l).reverse []) [] (rows_rev _)
          rw [h4]
          exact ⟨_, _, rfl⟩

theorem wsum_append (A : List Bool) (z w : List (Int × Int)) : wsum A (z ++ w) = wsum A z + wsum A w := by simp [wsum]
theorem wsum_rev (A : List Bool) : ∀ z : List (Int × Int), wsum A z.reverse = wsum A z := by
  intro z
  induction z with
  | nil => rfl
  | cons p z ih =>
    rw [List.reverse_cons, wsum_append, ih]
    simp [wsum]; omega
theorem wsum_ext {z : List (Int × Int)} {a t : List Bool} (hz : ∀ p ∈ z, Li (a.length : Int) p.2) (ha : (a ++ t).length ≤ 65537) : wsum (a ++ t) z = wsum a z := by
  unfold wsum
  congr 1
  exact List.map_congr_left fun p hp => by rw [trueF_ext (hz p hp) ha]

/-- Both orders: each new variable is forced, and the bits say the same number. -/
theorem order_told {coef l : List Int} {next : Int} {b b2 : List Int} {c c2 : List (List Int)} {n : Int} (h : sumF coef l next = (b, c, n, 0)) (h2 : sumF coef.reverse l.reverse next = (b2, c2, n, 0)) (hl : l.length ≤ 8) (hn : next ≤ 40) (a : List Bool) (ha : (a.length : Int) = next) :
    ∃ (A B : List Bool) (m : Nat), n = next + m ∧ m ≤ 616 ∧ toldF c m a next = (A, true) ∧ toldF c2 m a next = (B, true) ∧ (A.length : Int) = n ∧ (B.length : Int) = n ∧ numF b A = numF b2 B ∧ c.length ≤ 10000 ∧ c2.length ≤ 10000 := by
  obtain ⟨A, m, a1, a2, a3, a4, a5, a6, ⟨t, a7⟩, a8⟩ := sum_told h hl hn a ha
  obtain ⟨B, m2, b1, b2, b3, b4, b5, b6, ⟨u, b7⟩, b8⟩ := sum_told h2 (by simpa using hl) hn a ha
  obtain rfl : m2 = m := by omega
  obtain ⟨_, _, hlen, hz, _⟩ := sumF_ok h
  have hz1 : ∀ p ∈ coef.zip l, Li (a.length : Int) p.2 := fun p hp => by rw [ha]; exact (li_of_ok (hz p hp)).1
  refine ⟨A, B, m2, a1, a2, a3, b3, a4, b4, ?_, a8, b8⟩
  rw [a6, b6, a7, b7, zip_rev hlen, wsum_rev]
  rw [wsum_ext hz1 (by rw [← a7]; omega), wsum_ext hz1 (by rw [← b7]; omega)]

end Go.Adder
