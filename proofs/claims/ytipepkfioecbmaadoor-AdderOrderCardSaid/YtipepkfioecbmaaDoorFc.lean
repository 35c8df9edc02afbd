/- Contracts: math/bits. -/
import Derived.Test.YtipepkfioecbmaaDoorFb
import Derived.Lib.TrailingZeros
set_option maxRecDepth 20000
set_option maxHeartbeats 4000000
set_option linter.unusedVariables false
set_option linter.unusedSimpArgs false
namespace Go.Proofs.Tryd
open Go.Ab

@[go_sem] theorem tab1 : tabOf Tryd.prog 1 = some tab64 := by kernel_rfl
@[go_sem] theorem tabA64 {kk : IntKind} {i : Int} (h : 0 ≤ i) (h2 : i < 64) : tabA (some (64, false, 1)) (some tab64) (.p (.sc (.int kk i))) = (tab64[i.toNat]?).map fun (v : Nat) => AV.cptr (.sc (.int .u8 (v : Int))) :=
  tabA_some (vs := tab64) h h2

theorem u64_and (a b : Nat) (ha : a < 18446744073709551616) (hb : b < 18446744073709551616) : ((BitVec.ofInt 64 (a : Int) &&& BitVec.ofInt 64 (b : Int)).toNat : Int) = ((a &&& b : Nat) : Int) := by
  simp [BitVec.toNat_and]
  rw [Nat.mod_eq_of_lt (by simpa using ha), Nat.mod_eq_of_lt (by simpa using hb)]

theorem tab64_at {i k : Nat} (hi : i < 64) (h : Lib.deBruijn64tab.getD i 0 = k) : tab64[i]? = some k := by
  have h6 : tab64.length = 64 := by simp [tab64]
  have h7 : Lib.deBruijn64tab.getD i 0 = (tab64[i]?).getD 0 := by rw [List.getD_eq_getElem?_getD]; rfl
  rw [h7] at h
  cases hq : tab64[i]? with
  | none => rw [List.getElem?_eq_none_iff] at hq; omega
  | some v => rw [hq] at h; simp at h; rw [h]

theorem tz_e1 (x : Nat) (hx : x < 18446744073709551616) (h0 : x ≠ 0) : IntKind.u64.wrap (0 - (x : Int)) = ((18446744073709551616 - x : Nat) : Int) := by
  have : IntKind.u64.wrap (0 - (x : Int)) = (0 - (x : Int)) % 18446744073709551616 := by simp [IntKind.wrap, IntKind.signed, IntKind.bits]
  rw [this]; omega
theorem tz_e2 (x y : Nat) (hx : x < 18446744073709551616) (hy : y < 18446744073709551616) (z : Nat) (hz : x &&& y = z) (hz2 : z < 18446744073709551616) : andI .u64 (x : Int) (y : Int) = (z : Int) := by
  unfold andI
  have h2 : ((BitVec.ofInt IntKind.u64.bits (x : Int) &&& BitVec.ofInt IntKind.u64.bits (y : Int)).toNat : Int) = _ := u64_and x y hx hy
  rw [h2, hz]
  exact wrap_u64 ⟨by omega, by omega⟩
theorem tz_e4 (z : Nat) : shrI .u64 (IntKind.u64.wrap ((z : Int) * 285870213051353865)) 58 = ((z * 285870213051353865 % 18446744073709551616 / 288230376151711744 : Nat) : Int) := by
  unfold shrI
  have h3 : IntKind.u64.wrap ((z : Int) * 285870213051353865) = ((z * 285870213051353865 % 18446744073709551616 : Nat) : Int) := by
    simp [IntKind.wrap, IntKind.signed, IntKind.bits]
  rw [h3]
  have h4 : (2 : Int) ^ (min (Int.toNat 58) IntKind.u64.bits) = 288230376151711744 := by
    rw [show min (Int.toNat 58) IntKind.u64.bits = 58 from rfl]; simp
  rw [h4, Int.fdiv_eq_ediv_of_nonneg _ (by omega)]
  omega

theorem tz_walk (x y z idx k : Nat) (σ : List Ent) (h0 : x ≠ 0) (e1 : IntKind.u64.wrap (0 - (x : Int)) = (y : Int)) (e2 : andI .u64 (x : Int) (y : Int) = (z : Int))
    (e4 : shrI .u64 (IntKind.u64.wrap ((z : Int) * 285870213051353865)) 58 = (idx : Int)) (hi : idx < 64) (e5 : tab64[idx]? = some k) (e6 : IntKind.i64.wrap (k : Int) = (k : Int)) :
    Ret Tryd.prog 62 [.p (.sc (.int .u64 x))] σ (iv k) σ := by
  refine ret_of_walk (H := {}) (dr := commB {}) Tryd.func62 rfl (by kernel_rfl) (Nat.le_of_ble_eq_true rfl) (by kernel_rfl) (DrOk.comm mix) ?_
  simp -implicitDefEqProofs (disch := omega) only [go_sem, List.elem, ↓reduceIte, reduceCtorEq, Nat.reduceEqDiff, Nat.reduceBEq, Nat.reduceAdd, e1, e2, e4, e5, e6]
  refine end_one (.inl rfl) rfl ?_ rfl
  simp -implicitDefEqProofs only [go_sem, List.elem, ↓reduceIte, reduceCtorEq, Nat.reduceEqDiff, Nat.reduceBEq, Nat.reduceAdd]

theorem ret62 (x : Nat) (hx : x < 18446744073709551616) (σ : List Ent) : Ret Tryd.prog 62 [.p (.sc (.int .u64 x))] σ (iv (Lib.ctz 64 x)) σ := by
  by_cases h0 : x = 0
  · subst h0
    refine ret_of_walk (H := {}) (dr := commB {}) Tryd.func62 rfl (by kernel_rfl) (Nat.le_of_ble_eq_true rfl) (by kernel_rfl) (DrOk.comm mix) ?_
    simp -implicitDefEqProofs (disch := omega) only [go_sem, List.elem, ↓reduceIte, reduceCtorEq, Nat.reduceEqDiff, Nat.reduceBEq, Nat.reduceAdd]
    exact end_one (.inl rfl) rfl rfl rfl
  · obtain ⟨hlow, hk⟩ := Lib.lowest_bit 64 x h0 hx
    obtain ⟨hi, htab⟩ := Lib.deBruijn64_at _ hk
    have h2 : 2 ^ Lib.ctz 64 x < 2 ^ 64 := Nat.pow_lt_pow_right (by decide) hk
    generalize Lib.ctz 64 x = k at *
    generalize 2 ^ k = z at *
    exact tz_walk x (18446744073709551616 - x) z _ k σ h0 (tz_e1 x hx h0) (tz_e2 x _ hx (by omega) z hlow (by omega)) (tz_e4 z) hi (tab64_at hi htab) (wrap_i64 (by omega))

theorem ret31 (x : Nat) (hx : x < 18446744073709551616) (σ : List Ent) : Ret Tryd.prog 31 [.p (.sc (.int .u64 x))] σ (iv (Lib.ctz 64 x)) σ := by
  refine ret_of_walk (H := {}) (dr := commB {}) Tryd.func31 rfl (by kernel_rfl) (Nat.le_of_ble_eq_true rfl) (by kernel_rfl) (DrOk.comm mix) ?_
  simp -implicitDefEqProofs (disch := omega) only [go_sem, List.elem, ↓reduceIte, reduceCtorEq, Nat.reduceEqDiff, Nat.reduceBEq, Nat.reduceAdd]
  refine callG_keep (ret62 x hx _) rfl ?_
  simp -implicitDefEqProofs (disch := omega) only [go_sem, List.elem, ↓reduceIte, reduceCtorEq, Nat.reduceEqDiff, Nat.reduceBEq, Nat.reduceAdd]
  exact end_one (.inl rfl) rfl rfl rfl

end Go.Proofs.Tryd
