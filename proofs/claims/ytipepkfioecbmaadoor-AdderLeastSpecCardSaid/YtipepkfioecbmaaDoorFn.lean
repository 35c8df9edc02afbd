/- Contracts: the reference's Sum. -/
import Derived.Test.YtipepkfioecbmaaDoorFm
set_option maxRecDepth 20000
set_option maxHeartbeats 4000000
set_option linter.unusedVariables false
set_option linter.unusedSimpArgs false
namespace Go.Proofs.Tryd
open Go.Ab Go.Adder

structure CellsAre (cs : List AV) (L : List (List Int)) : Prop where
  len : cs.length = L.length
  at_ : ∀ (i : Nat) r, L[i]? = some r → cs[i]? = some (.own 1 (ints r)) ∨ (cs[i]? = some nilc ∧ r = [])

/-- The heap of the reference's Sum holds these rows. -/
def SRep (L : List (List Int)) (cl : List (List Int)) (n : Int) (σ : List Ent) : Prop :=
  (L = [] ∧ σ = S0 cl n) ∨ ∃ v cs, σ = S1 v cs cl n ∧ CellsAre cs L

theorem CellsAre.pad {cs : List AV} {L : List (List Int)} (h : CellsAre cs L) (p : Nat) : CellsAre (cs ++ List.replicate p nilc) (L ++ List.replicate p []) := by
  refine ⟨by simp [h.len], fun i r hr => ?_⟩
  by_cases hi : i < L.length
  · rw [List.getElem?_append_left hi] at hr
    rw [List.getElem?_append_left (by rw [h.len]; exact hi)]
    exact h.at_ i r hr
  · rw [List.getElem?_append_right (by omega), List.getElem?_replicate] at hr
    rw [List.getElem?_append_right (by rw [h.len]; omega), List.getElem?_replicate, h.len]
    split at hr
    · rename_i hp
      rw [if_pos hp]
      cases hr
      exact .inr ⟨rfl, rfl⟩
    · cases hr
theorem CellsAre.set {cs : List AV} {L : List (List Int)} (h : CellsAre cs L) (k : Nat) (r : List Int) : CellsAre (cs.set k (.own 1 (ints r))) (L.set k r) := by
  refine ⟨by simp [h.len], fun i r' hr => ?_⟩
  rw [List.getElem?_set] at hr ⊢
  split at hr
  · rename_i hk
    subst hk
    rw [if_pos rfl, h.len]
    split at hr
    · rename_i hl; rw [if_pos hl]; cases hr; exact .inl rfl
    · cases hr
  · rename_i hk
    rw [if_neg hk]
    exact h.at_ i r' hr

theorem put_rep {L : List (List Int)} {cl : List (List Int)} {n : Int} {σ : List Ent} (h : SRep L cl n σ) (k : Nat) (kz x : Int) (hz : kz = k) (hk : k < 1000000) (hL : L.length < 1000000) (hr : ∀ r ∈ L, r.length < 1000000) :
    ∃ v cs, Ret Tryd.prog 33 [.ref 0 0 0, iv kz, iv x] σ (.tu []) (S1 v cs cl n) ∧ CellsAre cs (putF L k x) ∧ gcσ σ.length (.tu []) (S1 v cs cl n) = S1 v cs cl n := by
  subst hz
  obtain ⟨v, cs, hσ, hC⟩ : ∃ v cs, ((v = 0 ∧ cs = [] ∧ σ = S0 cl n) ∨ σ = S1 v cs cl n) ∧ CellsAre cs L := by
    rcases h with ⟨rfl, rfl⟩ | ⟨v, cs, rfl, hC⟩
    · exact ⟨0, [], .inl ⟨rfl, rfl, rfl⟩, ⟨rfl, by simp⟩⟩
    · exact ⟨v, cs, .inr rfl, hC⟩
  have hP := hC.pad (k + 1 - L.length)
  have hkl : k < (L ++ List.replicate (k + 1 - L.length) []).length := by simp; omega
  have hat := hP.at_ k _ (List.getElem?_eq_getElem hkl)
  have hre : (L ++ List.replicate (k + 1 - L.length) [])[k] = (L[k]?).getD [] := by
    by_cases hl : k < L.length
    · rw [List.getElem_append_left hl]; simp [hl]
    · rw [List.getElem_append_right (by omega)]; simp [List.getElem?_eq_none (show L.length ≤ k by omega)]
  rw [hre, ← hC.len] at hat
  have hrl : ((L[k]?).getD []).length < 1000000 := by
    cases hLk : L[k]? with
    | none => simp
    | some r => exact hr r (List.mem_of_getElem? hLk)
  have := ret33 k x cl n v cs σ _ hk (by rw [hC.len]; exact hL) hrl hσ hat
  refine ⟨_, _, this, ?_, ?_⟩
  · unfold putF
    rw [hC.len]
    exact hP.set k _
  · rcases hσ with ⟨_, _, rfl⟩ | rfl
    · simp [gcσ, S0, S1, Ent.below, AV.ltL, AV.lt]
    · simp [gcσ, S1]

theorem callG_put {H : Hint} {ops : Array Oper} {dr : Array Oper → Bool} {k : Kont} {st : St} {args : List AV} {d : Option Tmp} {rest : List Oper} {σ1 : List Ent} (h : Ret Tryd.prog 33 args st.σ (.tu []) σ1) (h1 : AV.ltL 0 args = false) (hg : gcσ st.σ.length (.tu []) σ1 = σ1)
    (hk : opsK Tryd.prog H dr ops rest k (St.put ⟨st.env, σ1⟩ d (.tu []))) : callG Tryd.prog H dr 33 args false false d ops rest k st := by
  refine callG_shared h h1 ?_
  rw [hg]
  exact hk

theorem putF_in {L : List (List Int)} {k : Nat} (h : k < L.length) (x : Int) : putF L k x = L.set k (((L[k]?).getD []) ++ [x]) := by
  unfold putF
  rw [show k + 1 - L.length = 0 by omega]
  simp
theorem ext_getD {A B : List (List Int)} (hl : A.length = B.length) (h : ∀ i : Nat, (A[i]?).getD [] = (B[i]?).getD []) : A = B := by
  apply List.ext_getElem hl
  intro i h1 h2
  have := h i
  simpa [h1, h2] using this
theorem drop_at {L : List (List Int)} {k : Nat} {L' : List (List Int)} (h : L.drop k = L') (i : Nat) : L[k + i]? = L'[i]? := by rw [← h, List.getElem?_drop]
theorem drop_lt {L : List (List Int)} {k : Nat} {row : List Int} {rest : List (List Int)} (h : L.drop k = row :: rest) : L.length = k + 1 + rest.length := by
  have := congrArg List.length h; simp at this; omega
theorem putF_drop0 {L : List (List Int)} {k : Nat} {row : List Int} {rest : List (List Int)} (h : L.drop k = row :: rest) (x : Int) : (putF L k x).drop k = (row ++ [x]) :: rest := by
  have hl := drop_lt h
  refine ext_getD (by simp [putF_len]; omega) fun i => ?_
  rw [List.getElem?_drop, putF_at]
  have h0 := drop_at h 0
  rw [Nat.add_zero] at h0
  cases i with
  | zero => simp [h0]
  | succ i => rw [if_neg (by omega), drop_at h]; simp
theorem putF_drop1 {L : List (List Int)} {k : Nat} {row : List Int} {rest : List (List Int)} (h : L.drop k = row :: rest) (x : Int) : (putF L (k + 1) x).drop k = row :: bump rest x := by
  have hl := drop_lt h
  refine ext_getD (by simp [putF_len, bump_len]; omega) fun i => ?_
  rw [List.getElem?_drop, putF_at]
  have h1 := drop_at h 1
  match i with
  | 0 => rw [if_neg (by omega), drop_at h]; simp
  | 1 =>
    rw [if_pos rfl, h1]
    cases rest <;> simp [bump]
  | i + 2 =>
    rw [if_neg (by omega), drop_at h]
    cases rest <;> simp [bump]
theorem set_drop {L : List (List Int)} {k : Nat} {row : List Int} {rest : List (List Int)} (h : L.drop k = row :: rest) (r : List Int) : (L.set k r).drop k = r :: rest := by
  have hl := drop_lt h
  refine ext_getD (by simp; omega) fun i => ?_
  rw [List.getElem?_drop, List.getElem?_set]
  cases i with
  | zero =>
    rw [Nat.add_zero, if_pos rfl, if_pos (by omega)]; rfl
  | succ i => rw [if_neg (by omega), drop_at h]; simp
theorem mem_set {L : List (List Int)} {k : Nat} {r x : List Int} (h : x ∈ L.set k r) : x ∈ L ∨ x = r := List.mem_or_eq_of_mem_set h
theorem putF_bound {L : List (List Int)} {B : Int} (hB : 0 ≤ B) (h : ∀ r ∈ L, (r.length : Int) ≤ B) (k : Nat) (x : Int) : ∀ r ∈ putF L k x, (r.length : Int) ≤ B + 1 := by
  intro r hr
  rcases mem_putF hr with hr | rfl | rfl
  · have := h r hr; omega
  · simp; omega
  · cases hLk : L[k]? with
    | none => simp; omega
    | some r => have := h r (List.mem_of_getElem? hLk); simp; omega
end Go.Proofs.Tryd
