/- The law AdderOrder holds for every input: the call returns true, and each argument reads afterwards as it read before; the tables of math/bits lie as the program lays them. -/
import Derived.Test.YtipepkfioecbmaaDoorF8
import Derived.Test.YtipepkfioecbmaaDoorBa
namespace Go.Proofs.YtipepkfioecbmaaDoor
open Go.Ab Go.Adder Go.ChangeShapes Go.WideShapes Go.RowKit Go.Proofs.Tryd

set_option maxRecDepth 100000 in
theorem contract_adderOrder (H : Type) (enc : TypeId × Value → H) (W : World) (base : Nat) (args : Array Value) (ds gs : List (DataW H)) (before : List MemPlace)
    (hval : ∀ (j : Nat) t v, Tryd.f8.params[j]? = some t → args[j]? = some v → Value.okWide Tryd.prog W .any base t v)
    (hW : DataW.Whole enc Tryd.prog Tryd.f8.params.toList Rows.adderOrderSpec.vars false W args.toList ds gs before) (hL : laidMetH Tryd.prog laids W) :
    Calls Tryd.prog 8 args W fun e W' => ∃ v, e = .returned v ∧ Rows.adderOrderSpec.post enc Tryd.prog Tryd.f8 false true false false W args v W' := by
  have hW' := hW
  obtain ⟨p, q, hA0, hV, rfl, hfz, hnd⟩ := hW
  have hA : DataW.TrodAll enc Tryd.prog W 0 (fun _ => true) true Tryd.f8.params.toList args.toList ds p := hA0
  rw [Tryd.params8] at hA hval
  obtain ⟨v0, vs0, d0, ds0, p0, q0, hargs, rfl, rfl, h0, r0⟩ := trodAll_cons hA
  obtain ⟨v1, vs1, d1, ds1, p1, q1, rfl, rfl, rfl, h1, r1⟩ := trodAll_cons r0
  obtain ⟨v2, vs2, d2, ds2, p2, q2, rfl, rfl, rfl, h2, r2⟩ := trodAll_cons r1
  obtain ⟨v3, vs3, d3, ds3, p3, q3, rfl, rfl, rfl, h3, r3⟩ := trodAll_cons r2
  obtain ⟨rfl, rfl, rfl⟩ := trodAll_nil r3
  obtain rfl : args = #[v0, v1, v2, v3] := by cases args; simp_all
  obtain ⟨rfl, rfl⟩ := trodVars_none hV
  obtain ⟨x0, o0, b0, s0⟩ := opn_ints Tryd.underlying22 Tryd.underlying3 c3 (hval 0 22 v0 rfl rfl) h0
  obtain ⟨x1, o1, b1, s1⟩ := opn_ints Tryd.underlying22 Tryd.underlying3 c3 (hval 1 22 v1 rfl rfl) h1
  obtain ⟨x2, o2, b2, s2⟩ := opn_int Tryd.underlying3 (hval 2 3 v2 rfl rfl) h2
  obtain ⟨x3, o3, b3, s3⟩ := opn_int Tryd.underlying3 (hval 3 3 v3 rfl rfl) h3
  exact post_true (s := Rows.adderOrderSpec) (ret8 x0 x1 x2 x3 b0 s0 b1 s1 ⟨b2, s2⟩ ⟨b3, s3⟩) (tab hL) (by rw [Tryd.params8]; exact .cons o0 (.cons o1 (.cons o2 (.cons o3 .nil)))) hW' rfl rfl Tryd.underlying4 rfl rfl rfl

set_option maxRecDepth 100000 in
theorem lifted_adderOrder (os : Os) (started : os.Started) (H : Type) (enc : TypeId × Value → H) (F : Stop.Interp) :
    ReturnsInHanded {} Tryd.checked os 8 .any ((OpenSpec.ofChange Rows.adderOrderSpec).preRow enc Tryd.prog Tryd.f8 Rows.adderOrderRow.domain false Rows.adderOrderRow.laid) (((OpenSpec.ofChange Rows.adderOrderSpec).at F).post enc Tryd.prog Tryd.f8 false true false false) := by
  obtain ⟨places, hx⟩ : ∃ places, DataW.whole enc Tryd.prog ((laidWorld os).forCall (fun _ _ => 0) ⟨#[], #[.slice none 0 0, .slice none 0 0, .int .i64 0, .int .i64 0], []⟩).memory Tryd.f8.params.toList Rows.adderOrderSpec.vars false (#[.slice none 0 0, .slice none 0 0, .int .i64 0, .int .i64 0] : Array Value).toList 8 = some ([.nil, .nil, .lit (.int .i64 0), .lit (.int .i64 0)], [], places) :=
    ⟨[], by kernel_rfl⟩
  refine returnsInHanded_of_row (C := Tryd.checked) (s := OpenSpec.ofChange Rows.adderOrderSpec) own started (by kernel_rfl) Tryd.func8
    (witness_row_at (enc := enc) (C := Tryd.checked) false (laidWorld os) #[.slice none 0 0, .slice none 0 0, .int .i64 0, .int .i64 0] rfl (by kernel_rfl) (by kernel_rfl) (by kernel_rfl)
      (OpenSpec.preRow_of_cond 8 hx (by kernel_rfl) (fun k hk => by cases hk) (by kernel_rfl) (laid_met os _))) ?_
  intro W base args ds gs before hval hW _ _ _ hL _ _
  exact contract_adderOrder H enc W base args ds gs before hval hW hL

theorem said_adderOrder : Rows.AdderOrderSaid :=
  OpenClaim.holds_of_cond 8 Tryd.f8 rfl rfl rfl rfl rfl rfl rfl ⟨rfl, rfl, rfl, rfl, rfl⟩ rfl rfl rfl rfl rfl (by kernel_rfl) Tryd.func8 (by kernel_rfl)
    (of_decide_eq_true (by kernel_rfl)) (by unfold Func.isWrapper; first | (rw [if_pos (by decide +kernel)]; kernel_rfl) | (rw [if_neg (by decide +kernel)]; exact ⟨rfl, rfl⟩))
    (fun os started H enc _ F => by rw [OpenClaim.pre_eq_preRow]; exact lifted_adderOrder os started H enc F)

theorem plain_adderOrder (f : FuncId) (fn : Func) (hf : Tryd.pinned.checked.prog.funcNamed "chalkline/chalklinelaw17.AdderOrder" = some f) (hfn : Tryd.pinned.checked.prog.funcs[f]? = some fn) :
    false = Tryd.pinned.checked.prog.looks [] ∧ ∀ (j : Nat) t, fn.params[j]? = some t → Tryd.pinned.checked.prog.wantsStandIn t = false := by
  obtain rfl : f = 8 := Option.some.inj ((show Tryd.prog.funcNamed "chalkline/chalklinelaw17.AdderOrder" = some 8 by kernel_rfl).symm.trans hf) |>.symm
  obtain rfl : fn = Tryd.f8 := (Option.some.inj (Tryd.func8.symm.trans hfn)).symm
  refine ⟨by kernel_rfl, fun j t ht => ?_⟩
  have hm : t ∈ Tryd.f8.params.toList := by simpa using Array.mem_of_getElem? ht
  rw [Tryd.params8] at hm
  simp only [List.mem_cons, List.not_mem_nil, or_false] at hm
  rcases hm with rfl | rfl | rfl | rfl
  · exact (show Tryd.prog.wantsStandIn 22 = false by kernel_rfl)
  · exact (show Tryd.prog.wantsStandIn 22 = false by kernel_rfl)
  · exact (show Tryd.prog.wantsStandIn 3 = false by kernel_rfl)
  · exact (show Tryd.prog.wantsStandIn 3 = false by kernel_rfl)

theorem adderOrder_card : Rows.AdderOrderCardSaid :=
  Claim7.holds_tied_plain_at .later [] _ _ _ _ said_adderOrder (fun _ h => by cases h) (by kernel_rfl) (fun _ h => by cases h) adderOrder_row_tie rfl ⟨rfl, rfl⟩ (by kernel_rfl) rfl plain_adderOrder (by kernel_rfl)

#print axioms adderOrder_card
end Go.Proofs.YtipepkfioecbmaaDoor
