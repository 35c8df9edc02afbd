/- Regions that draw their order: sound. -/
import Derived.Test.YtipepkfioecbmaaDoorAb23
set_option linter.unusedVariables false
set_option linter.unusedSimpArgs false
namespace Go.Ab

section
variable {P : Program} {H : Hint} {ops : Array Oper} {n : Nat}

/-- A region whose operations may change places. -/
theorem DrOk.comm (hm : P.follows .mixedOrders = true) : DrOk P H n (commB H) := by
  intro ops hB hd K st w g ow a h hI hid ht id Q hK
  refine wp_region_any hm ?_
  have h1 : anyC P H .any ops K ops.toList.length (Array.replicate ops.size false) st := anyC_lex ops.toList 0 _ st (fun j => by simp) hB h
  rw [show ops.size = ops.toList.length by simp] at *
  refine anyC_ok hd _ _ st { w with drawn := w.drawn + 1 } g ow a h1 (hI.drawn _) hid (ht.ext (drawn_ext w g ow _)) fun st' w' g' ow' a' hk hI' hid' hX => ?_
  exact hK st' w' g' ow' a' hk hI' hid' ((drawn_ext w g ow _).trans hX)

end
end Go.Ab
