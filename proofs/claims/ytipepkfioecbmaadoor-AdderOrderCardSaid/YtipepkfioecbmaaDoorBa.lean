/- The seat's bridge: the tables of math/bits out of what the rows list. -/
import Derived.Test.YtipepkfioecbmaaDoorFk
import Derived.Test.YtipepkfioecbmaaDoorAb26
import Derived.Test.YtipepkfioecbmaaDoorCards
import Derived.Test.YtipepkfioecbmaaDoorTie
namespace Go.Proofs.YtipepkfioecbmaaDoor
open Go.Ab Go.ChangeShapes Go.WideShapes Go.RowKit

theorem own : ownKnob Tryd.prog.godebug = none := by kernel_rfl
theorem g32 : Tryd.prog.globalNamed "math/bits.deBruijn32tab" = some 0 := by kernel_rfl
theorem g64 : Tryd.prog.globalNamed "math/bits.deBruijn64tab" = some 1 := by kernel_rfl
theorem c3 : Tryd.prog.cellsOf 3 = 1 := by kernel_rfl

noncomputable def tabsB : Bool := Tryd.prog.globals.size == 2 && (tabOf Tryd.prog 0 == some tab32) && (tabOf Tryd.prog 1 == some tab64)
theorem tabsB_true : tabsB = true := by kernel_rfl
theorem tab_cases {v : Nat} {vs : List Nat} (h : tabOf Tryd.prog v = some vs) : (v = 0 ∧ vs = tab32) ∨ (v = 1 ∧ vs = tab64) := by
  have hb := tabsB_true
  simp only [tabsB, Bool.and_eq_true, beq_iff_eq] at hb
  obtain ⟨⟨hs, h0⟩, h1⟩ := hb
  match v with
  | 0 => rw [h0] at h; exact .inl ⟨rfl, (Option.some.inj h).symm⟩
  | 1 => rw [h1] at h; exact .inr ⟨rfl, (Option.some.inj h).symm⟩
  | v + 2 =>
    unfold tabOf at h
    rw [Array.getElem?_eq_none (by omega)] at h
    cases h

noncomputable def laids : List (String × DataW Unit) := [("math/bits.deBruijn32tab", Rows.laid_math_bits_deBruijn32tab), ("math/bits.deBruijn64tab", Rows.laid_math_bits_deBruijn64tab)]

theorem tabIs32 {W : World} (h : laidMetH Tryd.prog laids W) : Lib.TabIs Tryd.prog W "math/bits.deBruijn32tab" .u8 (tab32.map fun (n : Nat) => (n : Int)) :=
  Lib.tabIs_of_head (rest := [("math/bits.deBruijn64tab", Rows.laid_math_bits_deBruijn64tab)]) g32 (by kernel_rfl) (t := 103) (e := 5) (n := 32) (by kernel_rfl) (by kernel_rfl) (by kernel_rfl) (by kernel_rfl) h
theorem tabIs64 {W : World} (h : laidMetH Tryd.prog laids W) : Lib.TabIs Tryd.prog W "math/bits.deBruijn64tab" .u8 (tab64.map fun (n : Nat) => (n : Int)) :=
  Lib.tabIs_of_head (rest := []) g64 (by kernel_rfl) (t := 104) (e := 5) (n := 64) (by kernel_rfl) (by kernel_rfl) (by kernel_rfl) (by kernel_rfl) (h.filter fun x => x.1 == "math/bits.deBruijn64tab")

theorem tab {W : World} (h : laidMetH Tryd.prog laids W) : Tab Tryd.prog W (gOf W) (fun _ => none) := by
  have key : ∀ (g : Nat) (name : String) (ns : List Nat), 0 < ns.length → Tryd.prog.globalNamed name = some g → Lib.TabIs Tryd.prog W name .u8 (ns.map fun (n : Nat) => (n : Int)) →
      g < W.heap.size ∧ ns.length ≤ (gOf W).φ g ∧ ∀ (j : Nat) x, ns[j]? = some x → W.cell? ⟨g, j, none⟩ = some (.int .u8 x) := by
    intro g name ns h0 hg ht
    have hc : ∀ j, j < ns.length → W.cell? ⟨g, j, none⟩ = some (.int .u8 ((ns.map fun (n : Nat) => (n : Int)).getD j 0)) := fun j hj => ht.cell hg j (by simpa using hj)
    have hlast := hc (ns.length - 1) (by omega)
    refine ⟨World.block_lt_of_cell? W _ hlast, ?_, fun j x hx => ?_⟩
    · unfold World.cell? at hlast
      simp only at hlast
      simp only [gOf]
      split at hlast
      · rename_i arr _ _ hb
        simp only [Option.isSome_none, Bool.false_eq_true, if_false] at hlast
        have := (Array.getElem?_eq_some_iff.1 hlast).1
        rw [hb]
        simp only
        omega
      · cases hlast
    · have hj := (List.getElem?_eq_some_iff.1 hx).1
      rw [hc j hj]
      have : (ns.map fun (n : Nat) => (n : Int)).getD j 0 = x := by simp [List.getD, hx]
      rw [this]
  intro v vs hv
  rcases tab_cases hv with ⟨rfl, rfl⟩ | ⟨rfl, rfl⟩
  · obtain ⟨k1, k2, k3⟩ := key 0 _ tab32 (by decide) g32 (tabIs32 h)
    exact ⟨rfl, k1, k2, k3⟩
  · obtain ⟨k1, k2, k3⟩ := key 1 _ tab64 (by decide) g64 (tabIs64 h)
    exact ⟨rfl, k1, k2, k3⟩

/-- A world for the witness: the settled one, the tables holding what their initialisers lay. -/
noncomputable def laidWorld (os : Os) : World :=
  let w := World.holding Tryd.prog os ⟨#[], #[], []⟩
  { w with heap := (w.heap.modify 0 (fun o => match o with
      | .cells _ t frozen => .cells (tab32.map fun (n : Nat) => Value.int .u8 (n : Int)).toArray t frozen
      | o => o)).modify 1 (fun o => match o with
      | .cells _ t frozen => .cells (tab64.map fun (n : Nat) => Value.int .u8 (n : Int)).toArray t frozen
      | o => o) }
theorem laid_met (os : Os) (args : Array Value) : laidMet Tryd.prog laids ((laidWorld os).forCall (fun _ _ => 0) ⟨#[], args, []⟩).memory :=
  laidMet_of_run' 70 (by kernel_rfl) (by kernel_rfl)
end Go.Proofs.YtipepkfioecbmaaDoor
