/- How many clauses and variables Sum uses, in plain Lean. -/
import Derived.Test.YtipepkfioecbmaaDoorPe
set_option linter.unusedVariables false
set_option linter.unusedSimpArgs false
namespace Go.Adder

/-- A literal of a variable below n. -/
def Li (n : Int) (x : Int) : Prop := x ≠ 0 ∧ -n < x ∧ x < n
theorem Li.mono {n m x : Int} (h : Li n x) (hm : n ≤ m) : Li m x := ⟨h.1, by have := h.2.1; omega, by have := h.2.2; omega⟩
theorem Li.neg {n x : Int} (h : Li n x) : Li n (-x) := ⟨by have := h.1; omega, by have := h.2.2; omega, by have := h.2.1; omega⟩
def LiL (n : Int) (l : List Int) : Prop := ∀ x ∈ l, Li n x
def LiC (n : Int) (c : List (List Int)) : Prop := ∀ r ∈ c, LiL n r

theorem addF_li {l : List Int} {n : Int} (hn : 1 ≤ n) (hl : LiL n l) : LiC (n + 2) (addF l n (n + 1)) := by
  have ls : Li (n + 2) n := ⟨by omega, by omega, by omega⟩
  have lc : Li (n + 2) (n + 1) := ⟨by omega, by omega, by omega⟩
  have up : ∀ x ∈ l, Li (n + 2) x := fun x hx => (hl x hx).mono (by omega)
  intro r hr x hx
  unfold addF at hr
  split at hr
  · rename_i a b
    have ha := up a (by simp)
    have hb := up b (by simp)
    simp only [List.mem_cons, List.not_mem_nil, or_false] at hr
    rcases hr with h | h | h | h | h | h | h <;> subst h <;> simp only [List.mem_cons, List.not_mem_nil, or_false] at hx
    all_goals (repeat' (refine Or.elim hx (fun hx => ?_) (fun hx => ?_))) <;> subst hx <;> first | exact ha | exact hb | exact ls | exact lc | exact ha.neg | exact hb.neg | exact ls.neg | exact lc.neg
  · rename_i a b d
    have ha := up a (by simp)
    have hb := up b (by simp)
    have hd := up d (by simp)
    simp only [List.mem_cons, List.not_mem_nil, or_false] at hr
    rcases hr with h | h | h | h | h | h | h | h | h | h | h | h | h | h <;> subst h <;> simp only [List.mem_cons, List.not_mem_nil, or_false] at hx
    all_goals (repeat' (refine Or.elim hx (fun hx => ?_) (fun hx => ?_))) <;> subst hx <;> first | exact ha | exact hb | exact hd | exact ls | exact lc | exact ha.neg | exact hb.neg | exact hd.neg | exact ls.neg | exact lc.neg
  · cases hr
theorem addF_len7 {l : List Int} (h : l.length = 2 ∨ l.length = 3) (s c : Int) : 7 ≤ (addF l s c).length ∧ (addF l s c).length ≤ 14 := by
  match l, h with
  | [a, b], _ => simp [addF]
  | [a, b, d], _ => simp [addF]
  | [], h => simp at h
  | [_], h => simp at h
  | _ :: _ :: _ :: _ :: _, h => simp at h

theorem bump_li {rest : List (List Int)} {n x : Int} (h : LiC n rest) (hx : Li (n + 2) x) : LiC (n + 2) (bump rest x) := by
  intro r hr y hy
  rcases mem_bump hr with rfl | hr | ⟨u, hu, rfl⟩
  · simp at hy; subst hy; exact hx
  · exact (h r hr y hy).mono (by omega)
  · rcases List.mem_append.1 hy with hy | hy
    · exact (h u hu y hy).mono (by omega)
    · simp at hy; subst hy; exact hx

theorem rowF_size : ∀ (m : Nat) (row : List Int), row.length = m → ∀ {rest : List (List Int)} {n : Int} {c : List (List Int)} {row' rest' n' c'}, 1 ≤ n → LiL n row → LiC n rest → LiC n c → rowF row rest n c = some (row', rest', n', c') →
    ∃ q : Nat, n' = n + 2 * q ∧ c.length + 7 * q ≤ c'.length ∧ c'.length ≤ c.length + 14 * q ∧ LiL n' row' ∧ LiC n' rest' ∧ LiC n' c' ∧ (q = 0 → row.length ≤ 1 ∧ row' = row ∧ rest' = rest) := by
  intro m
  induction m using Nat.strongRecOn with
  | _ m ih =>
    intro row hm rest n c row' rest' n' c' hn hr hrs hc h
    by_cases h2 : 2 ≤ row.length
    · by_cases hb : 65537 < n + 2
      · rw [rowF_fail h2 rest hb c] at h; cases h
      · rw [rowF_step h2 rfl rest (by omega) c] at h
        have ls : Li (n + 2) n := ⟨by omega, by omega, by omega⟩
        have lc : Li (n + 2) (n + 1) := ⟨by omega, by omega, by omega⟩
        have htl : (row.take (min 3 row.length)).length = 2 ∨ (row.take (min 3 row.length)).length = 3 := by rw [List.length_take]; omega
        have hal := addF_len7 htl n (n + 1)
        have hr2 : LiL (n + 2) (row.drop (min 3 row.length) ++ [n]) := by
          intro x hx
          rcases List.mem_append.1 hx with hx | hx
          · exact (hr x (List.mem_of_mem_drop hx)).mono (by omega)
          · simp at hx; subst hx; exact ls
        have hc2 : LiC (n + 2) (c ++ addF (row.take (min 3 row.length)) n (n + 1)) := by
          intro r hr' x hx
          rcases List.mem_append.1 hr' with hr' | hr'
          · exact (hc r hr' x hx).mono (by omega)
          · exact addF_li hn (fun y hy => hr y (List.mem_of_mem_take hy)) r hr' x hx
        obtain ⟨q, k1, k2, k3, k4, k5, k6, k7⟩ := ih _ (by simp; omega) _ rfl (by omega) hr2 (bump_li hrs lc) hc2 h
        exact ⟨q + 1, by omega, by simp at k2; omega, by simp at k3; omega, k4, k5, k6, fun h => by omega⟩
    · rw [rowF_stop (by omega)] at h
      cases h
      exact ⟨0, by omega, by omega, by omega, hr, hrs, hc, fun _ => ⟨by omega, rfl, rfl⟩⟩

/-- How many literals lie in the rows. -/
def tot (L : List (List Int)) : Nat := (L.map List.length).sum

theorem colsF_size : ∀ (m : Nat) {L : List (List Int)} {n : Int} {c : List (List Int)} {b c' n'}, meas n L = m → 1 ≤ n → LiC n L → LiC n c → colsF L n c = some (b, c', n') →
    ∃ q : Nat, n' = n + 2 * q ∧ c.length + 7 * q ≤ c'.length ∧ c'.length ≤ c.length + 14 * q ∧ (∀ x ∈ b, x = 0 ∨ Li n' x) ∧ LiC n' c' ∧ (q = 0 → tot L ≤ b.length) := by
  intro m
  induction m using Nat.strongRecOn with
  | _ m ih =>
    intro L n c b c' n' hm hn hL hc h
    cases L with
    | nil =>
      rw [colsF_nil] at h
      cases h
      exact ⟨0, by omega, by omega, by omega, by simp, hc, fun _ => by simp [tot]⟩
    | cons row rest =>
      cases hr : rowF row rest n c with
      | none => rw [colsF_none hr] at h; cases h
      | some x =>
        obtain ⟨row', rest', n2, c2⟩ := x
        rw [colsF_some hr, Option.map_eq_some_iff] at h
        obtain ⟨⟨b2, c3, n3⟩, h1, h2⟩ := h
        cases h2
        obtain ⟨q, k1, k2, k3, k4, k5, k6, k7⟩ := rowF_size _ row rfl hn (fun x hx => hL row (by simp) x hx) (fun r hr => hL r (by simp [hr])) hc hr
        obtain ⟨p, j1, j2, j3, j4, j5, j6⟩ := ih _ (by have := meas_lt hr; omega) rfl (by omega) k5 k6 h1
        refine ⟨q + p, by omega, by omega, by omega, fun x hx => ?_, j5, fun h0 => ?_⟩
        · rcases List.mem_cons.1 hx with rfl | hx
          · cases row' with
            | nil => exact .inl rfl
            | cons y ys => exact .inr ((k4 y (by simp)).mono (by omega))
          · exact j4 x hx
        · obtain ⟨l1, l2, l3⟩ := k7 (by omega)
          have := j6 (by omega)
          rw [l3] at this
          simp only [tot, List.map_cons, List.sum_cons, List.length_cons] at this ⊢
          omega

theorem sum_set : ∀ (L : List (List Int)) (k : Nat) (r : List Int), k < L.length → ((L.set k r).map List.length).sum + ((L[k]?).getD []).length = (L.map List.length).sum + r.length := by
  intro L
  induction L with
  | nil => intro k r h; simp at h
  | cons x L ih =>
    intro k r h
    cases k with
    | zero => simp; omega
    | succ k =>
      have := ih k r (by simpa using h)
      simp only [List.set_cons_succ, List.map_cons, List.sum_cons, List.getElem?_cons_succ]
      omega
theorem tot_put (L : List (List Int)) (k : Nat) (x : Int) : tot (putF L k x) = tot L + 1 := by
  unfold tot putF
  have hk : k < (L ++ List.replicate (k + 1 - L.length) []).length := by simp; omega
  have h1 := sum_set (L ++ List.replicate (k + 1 - L.length) []) k ((L[k]?).getD [] ++ [x]) hk
  have h2 : ((L ++ List.replicate (k + 1 - L.length) [])[k]?).getD [] = (L[k]?).getD [] := by
    by_cases hl : k < L.length
    · rw [List.getElem?_append_left hl]
    · rw [List.getElem?_append_right (by omega), List.getElem?_eq_none (l := L) (by omega)]
      simp only [List.getElem?_replicate]
      split <;> rfl
  have h3 : ((L ++ List.replicate (k + 1 - L.length) []).map List.length).sum = (L.map List.length).sum := by simp
  rw [h2, h3] at h1
  simp only [List.length_append, List.length_singleton] at h1
  omega
theorem tot_puts (x : Int) : ∀ (bs : List Nat) (L : List (List Int)), tot (putsF L bs x) = tot L + bs.length := by
  intro bs
  induction bs with
  | nil => intro L; rfl
  | cons k bs ih =>
    intro L
    show tot (putsF (putF L k x) bs x) = _
    rw [ih, tot_put]
    simp only [List.length_cons]; omega
/-- All ones of the coefficients. -/
def ones (cs : List Int) : Nat := (cs.map fun c => (bitsF c.toNat).length).sum
theorem tot_rows : ∀ (z : List (Int × Int)) (L : List (List Int)), tot (rowsF z L) = tot L + ones (z.map (·.1)) := by
  intro z
  induction z with
  | nil => intro L; simp [rowsF, ones]
  | cons p z ih =>
    intro L
    obtain ⟨a, x⟩ := p
    show tot (rowsF z (putsF L (bitsF a.toNat) x)) = _
    rw [ih, tot_puts]
    simp [ones]; omega

theorem putF_li {L : List (List Int)} {n x : Int} (h : LiC n L) (hx : Li n x) (k : Nat) : LiC n (putF L k x) := by
  intro r hr z hz
  rcases mem_putF' hr with hr | rfl | rfl
  · exact h r hr z hz
  · cases hz
  · rcases List.mem_append.1 hz with hz | hz
    · cases hLk : L[k]? with
      | none => rw [hLk] at hz; cases hz
      | some r => rw [hLk] at hz; exact h r (List.mem_of_getElem? hLk) z hz
    · simp at hz; subst hz; exact hx
theorem putsF_li {n x : Int} (hx : Li n x) : ∀ (bs : List Nat) {L : List (List Int)}, LiC n L → LiC n (putsF L bs x) := by
  intro bs
  induction bs with
  | nil => intro L h; exact h
  | cons k bs ih => intro L h; exact ih (putF_li h hx k)
theorem rowsF_li {n : Int} : ∀ (z : List (Int × Int)) {L : List (List Int)}, LiC n L → (∀ p ∈ z, Li n p.2) → LiC n (rowsF z L) := by
  intro z
  induction z with
  | nil => intro L h _; exact h
  | cons p z ih =>
    intro L h hz
    obtain ⟨a, x⟩ := p
    exact ih (putsF_li (hz (a, x) (by simp)) _ h) fun p hp => hz p (by simp [hp])

theorem li_of_ok {next : Int} {p : Int × Int} (h : badF next p = false) : Li next p.2 ∧ 0 ≤ p.1 ∧ p.1 ≤ 1099511627776 := by
  simp only [badF, Bool.or_eq_false_iff, decide_eq_false_iff_not] at h
  exact ⟨⟨by omega, by omega, by omega⟩, by omega, by omega⟩

/-- What Sum says when it succeeds. -/
theorem sumF_ok {coef l : List Int} {next : Int} {b : List Int} {c : List (List Int)} {n : Int} (h : sumF coef l next = (b, c, n, 0)) :
    1 ≤ next ∧ next ≤ 65537 ∧ coef.length = l.length ∧ (∀ p ∈ coef.zip l, badF next p = false) ∧ l.length ≤ 4096 ∧ colsF (rowsF (coef.zip l) []) next [] = some (b, c, n) := by
  unfold sumF at h
  split at h
  · cases h
  · split at h
    · cases h
    · rename_i h2
      split at h
      · cases h
      · split at h
        · cases h
        · rename_i he
          cases h
          refine ⟨by omega, by omega, by omega, fun p hp => ?_, by omega, he⟩
          simp only [Bool.not_eq_true, List.any_eq_false] at h2
          simpa using h2 p hp
theorem sumF_err {coef l : List Int} {next : Int} {b : List Int} {c : List (List Int)} {n er : Int} (h : sumF coef l next = (b, c, n, er)) (he : er ≠ 0) : b = [] ∧ c = [] ∧ n = 0 := by
  unfold sumF at h
  split at h
  · cases h; exact ⟨rfl, rfl, rfl⟩
  · split at h
    · cases h; exact ⟨rfl, rfl, rfl⟩
    · split at h
      · cases h; exact ⟨rfl, rfl, rfl⟩
      · split at h
        · cases h; exact ⟨rfl, rfl, rfl⟩
        · cases h; exact absurd rfl he

theorem zip_fst : ∀ (a b : List Int), a.length = b.length → (a.zip b).map (·.1) = a := by
  intro a
  induction a with
  | nil => intro b _; rfl
  | cons x a ih =>
    intro b h
    cases b with
    | nil => simp at h
    | cons y b => simp [ih b (by simpa using h)]

theorem sumF_size {coef l : List Int} {next : Int} {b : List Int} {c : List (List Int)} {n : Int} (h : sumF coef l next = (b, c, n, 0)) :
    ∃ q : Nat, n = next + 2 * q ∧ 7 * q ≤ c.length ∧ c.length ≤ 14 * q ∧ (∀ x ∈ b, x = 0 ∨ Li n x) ∧ LiC n c ∧ (q = 0 → ones coef ≤ b.length) ∧ 1 ≤ next ∧ next ≤ 65537 ∧ (∀ x ∈ coef, 0 ≤ x ∧ x ≤ 1099511627776) := by
  obtain ⟨h1, h2, h3, h4, h5, h6⟩ := sumF_ok h
  have hli : LiC next (rowsF (coef.zip l) []) := rowsF_li _ (fun r hr => by cases hr) fun p hp => (li_of_ok (h4 p hp)).1
  obtain ⟨q, k1, k2, k3, k4, k5, k6⟩ := colsF_size _ rfl h1 hli (fun r hr => by cases hr) h6
  refine ⟨q, k1, by simpa using k2, by simpa using k3, k4, k5, fun h0 => ?_, h1, h2, fun x hx => ?_⟩
  · have := k6 h0
    rw [tot_rows, zip_fst _ _ h3] at this
    simpa [tot] using this
  · obtain ⟨i, hi, rfl⟩ := List.getElem_of_mem hx
    have := li_of_ok (h4 (coef[i], l[i]) (List.mem_of_getElem? (i := i) (by simp [List.getElem?_zip_eq_some])))
    exact this.2

/-- Ones, bit by bit. -/
theorem ones_half {y : Nat} (h : y < 2 ^ 62) : (bitsF y).length = y % 2 + (bitsF (y / 2)).length := by
  have h1 : bitsF (y / 2) = (List.range 63).filter (y / 2).testBit := bitsF_cut (y / 2) 63 (by omega) (by
    rw [Nat.shiftRight_eq_div_pow]; exact Nat.div_eq_of_lt (by omega))
  have hr : List.range 64 = 0 :: (List.range 63).map (· + 1) := by decide
  have h2 : bitsF y = (if y.testBit 0 then [0] else []) ++ (bitsF (y / 2)).map (· + 1) := by
    rw [h1]
    unfold bitsF
    have hf : (y.testBit ∘ (· + 1)) = (y / 2).testBit := by funext i; exact Nat.testBit_succ y i
    rw [hr, List.filter_cons, List.filter_map, hf]
    split <;> rfl
  rw [h2, List.length_append, List.length_map, Nat.testBit_zero]
  by_cases ho : y % 2 = 1
  · simp [ho]
  · simp [ho]; omega

end Go.Adder
