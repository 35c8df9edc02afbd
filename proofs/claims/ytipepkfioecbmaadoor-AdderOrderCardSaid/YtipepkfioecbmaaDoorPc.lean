/- Bounds of what Sum computes, in plain Lean. -/
import Derived.Test.YtipepkfioecbmaaDoorPb
set_option linter.unusedVariables false
namespace Go.Adder
open Go.Ab (Sm)

/-- Rows within bounds. -/
structure Rw (b : Nat) (L : List (List Int)) : Prop where
  ll : L.length ≤ 64
  rl : ∀ r ∈ L, r.length ≤ b
  sm : ∀ r ∈ L, ∀ x ∈ r, Sm x

theorem mem_putF' {L : List (List Int)} {k : Nat} {x : Int} {r : List Int} (h : r ∈ putF L k x) : r ∈ L ∨ r = [] ∨ r = ((L[k]?).getD []) ++ [x] := by
  unfold putF at h
  rcases List.mem_or_eq_of_mem_set h with h | h
  · rcases List.mem_append.1 h with h | h
    · exact .inl h
    · exact .inr (.inl (List.eq_of_mem_replicate h))
  · exact .inr (.inr h)

theorem Rw.put {b : Nat} {L : List (List Int)} (h : Rw b L) {k : Nat} (hk : k < 64) {x : Int} (hx : Sm x) : Rw (b + 1) (putF L k x) := by
  refine ⟨by rw [putF_len]; have := h.ll; omega, fun r hr => ?_, fun r hr z hz => ?_⟩
  · rcases mem_putF' hr with hr | rfl | rfl
    · have := h.rl r hr; omega
    · simp
    · cases hLk : L[k]? with
      | none => simp
      | some r => have := h.rl r (List.mem_of_getElem? hLk); simp; omega
  · rcases mem_putF' hr with hr | rfl | rfl
    · exact h.sm r hr z hz
    · cases hz
    · rcases List.mem_append.1 hz with hz | hz
      · cases hLk : L[k]? with
        | none => rw [hLk] at hz; cases hz
        | some r => rw [hLk] at hz; exact h.sm r (List.mem_of_getElem? hLk) z hz
      · simp at hz; subst hz; exact hx
theorem Rw.puts {x : Int} (hx : Sm x) : ∀ (bs : List Nat) {b : Nat} {L : List (List Int)}, Rw b L → (∀ k ∈ bs, k < 64) → Rw (b + bs.length) (putsF L bs x) := by
  intro bs
  induction bs with
  | nil => intro b L h _; exact h
  | cons k bs ih =>
    intro b L h hk
    have := ih (h.put (hk k (by simp)) hx) fun j hj => hk j (by simp [hj])
    simp only [List.length_cons]
    rw [show b + (bs.length + 1) = b + 1 + bs.length by omega]
    exact this
theorem Rw.mono {b c : Nat} {L : List (List Int)} (h : Rw b L) (hc : b ≤ c) : Rw c L := ⟨h.ll, fun r hr => Nat.le_trans (h.rl r hr) hc, h.sm⟩
theorem bitsF_len' (x : Nat) : (bitsF x).length ≤ 64 := by
  unfold bitsF
  exact Nat.le_trans (List.length_filter_le _ _) (by simp)
theorem Rw.all : ∀ (z : List (Int × Int)) {b : Nat} {L : List (List Int)}, Rw b L → (∀ p ∈ z, Sm p.2) → Rw (b + 64 * z.length) (rowsF z L) := by
  intro z
  induction z with
  | nil => intro b L h _; exact h
  | cons p z ih =>
    intro b L h hz
    obtain ⟨a, x⟩ := p
    have h1 := h.puts (hz (a, x) (by simp)) (bitsF a.toNat) fun k hk => bitsF_mem hk
    have h2 := ih h1 fun p hp => hz p (by simp [hp])
    have := bitsF_len' a.toNat
    simp only [List.length_cons]
    exact h2.mono (by omega)

theorem sm_of_ok {next : Int} (hn : 1 ≤ next ∧ next ≤ 65537) {p : Int × Int} (h : badF next p = false) : Sm p.2 := by
  simp only [badF, Bool.or_eq_false_iff, decide_eq_false_iff_not] at h
  unfold Sm
  omega

theorem rows_wf {next : Int} (hn : 1 ≤ next ∧ next ≤ 65537) {z : List (Int × Int)} (hz : z.length ≤ 4096) (h : z.any (badF next) = false) : Wf 0 (rowsF z []) next [] := by
  have h1 : Rw 0 [] := ⟨by simp, by simp, by simp⟩
  have h2 := Rw.all z h1 fun p hp => sm_of_ok hn (by
    rw [List.any_eq_false] at h
    simpa using h p hp)
  refine ⟨fun r hr => ?_, h2.sm, by simp; omega, by have := h2.ll; omega, hn.1, hn.2⟩
  have := h2.rl r hr
  omega

/-- Every clause is short. -/
def Short (c : List (List Int)) : Prop := ∀ x ∈ c, x.length ≤ 4
theorem addF_short (l : List Int) (s c : Int) : Short (addF l s c) := by
  intro x hx
  unfold addF at hx
  split at hx
  · simp at hx; rcases hx with h | h | h | h | h | h | h <;> subst h <;> simp
  · simp at hx; rcases hx with h | h | h | h | h | h | h | h | h | h | h | h | h | h <;> subst h <;> simp
  · cases hx

theorem rowF_wf : ∀ (m : Nat) (row : List Int), row.length = m → ∀ {k : Nat} {rest : List (List Int)} {n : Int} {c : List (List Int)} {row' rest' n' c'}, Wf k (row :: rest) n c → Short c → rowF row rest n c = some (row', rest', n', c') → Wf k (row' :: rest') n' c' ∧ Short c' := by
  intro m
  induction m using Nat.strongRecOn with
  | _ m ih =>
    intro row hm k rest n c row' rest' n' c' hW hS h
    by_cases h2 : 2 ≤ row.length
    · by_cases hn : 65537 < n + 2
      · rw [rowF_fail h2 rest hn c] at h; cases h
      · rw [rowF_step h2 rfl rest (by omega) c] at h
        refine ih _ ?_ _ rfl (hW.step (by omega) h2 rfl) (fun x hx => ?_) h
        · simp; omega
        · rcases List.mem_append.1 hx with hx | hx
          · exact hS x hx
          · exact addF_short _ _ _ x hx
    · rw [rowF_stop (by omega)] at h
      cases h
      exact ⟨hW, hS⟩

theorem colsF_wf : ∀ (m : Nat) {k : Nat} {L : List (List Int)} {n : Int} {c : List (List Int)} {b c' n'}, meas n L = m → Wf k L n c → Short c → colsF L n c = some (b, c', n') →
    ((k : Int) + b.length ≤ 64 + n') ∧ (c'.length : Int) ≤ 7 * n' ∧ Short c' ∧ n ≤ n' ∧ n' ≤ 65537 := by
  intro m
  induction m using Nat.strongRecOn with
  | _ m ih =>
    intro k L n c b c' n' hm hW hS h
    cases L with
    | nil =>
      rw [colsF_nil] at h
      cases h
      exact ⟨by have := hW.kl; simpa using this, hW.cl, hS, Int.le_refl _, hW.n2⟩
    | cons row rest =>
      cases hr : rowF row rest n c with
      | none => rw [colsF_none hr] at h; cases h
      | some x =>
        obtain ⟨row', rest', n2, c2⟩ := x
        rw [colsF_some hr, Option.map_eq_some_iff] at h
        obtain ⟨⟨b2, c3, n3⟩, h1, h2⟩ := h
        cases h2
        obtain ⟨hW2, hS2⟩ := rowF_wf _ row rfl hW hS hr
        have hlt := meas_lt hr
        obtain ⟨k1, k2, k3, k4, k5⟩ := ih _ (by omega) rfl hW2.tail hS2 h1
        have hnn : n ≤ n2 := by rcases rowF_next row rest n c hr with ⟨h, _⟩ | ⟨h, _⟩ <;> omega
        exact ⟨by simp; omega, k2, k3, by omega, k5⟩

theorem sumF_bound {coef l : List Int} {next : Int} {bs : List Int} {cl : List (List Int)} {n' er : Int} (h : sumF coef l next = (bs, cl, n', er)) : bs.length ≤ 100000 ∧ cl.length ≤ 1000000 ∧ Short cl := by
  unfold sumF at h
  split at h
  · cases h; exact ⟨by simp, by simp, fun x hx => by cases hx⟩
  · rename_i h1
    split at h
    · cases h; exact ⟨by simp, by simp, fun x hx => by cases hx⟩
    · rename_i h2
      split at h
      · cases h; exact ⟨by simp, by simp, fun x hx => by cases hx⟩
      · rename_i h3
        split at h
        · cases h; exact ⟨by simp, by simp, fun x hx => by cases hx⟩
        · rename_i b c n he
          cases h
          have hW := rows_wf (next := next) (by omega) (z := coef.zip l) (by simp; omega) (by simpa using h2)
          obtain ⟨k1, k2, k3, k4, k5⟩ := colsF_wf _ rfl hW (fun x hx => by cases hx) he
          exact ⟨by omega, by omega, k3⟩

end Go.Adder
