/- path.Null. -/
import Derived.Test.YthfmjiafdfoajaaDoorRgt
set_option linter.unusedVariables false
set_option linter.unusedSimpArgs false
namespace Go.Proofs.YthfmjiafdfoajaaDoor
open Go.RowKit Go.Shelf
set_option maxRecDepth 100000 in
set_option maxHeartbeats 8000000 in
theorem null_any (lo dom : ByteArray) (w : World) : Calls Tryd.prog 17 #[.agg #[.string lo, .string dom]] w fun e w' =>
    e = .returned (.bool (lo.toList.isEmpty && dom.toList.isEmpty)) ∧ Below w.heap.size w w' := by
  go_enter Tryd.func17, Tryd.ntmps17
  have hb1 : Below w.heap.size w (w.alloc (.cells #[.string lo, .string dom] 23)) := (Below.refl _ w).alloc (Nat.le_refl _) _
  go_wp2_with fail
  all_goals
    go_ret
    refine ⟨?_, hb1⟩
    simp [*]
end Go.Proofs.YthfmjiafdfoajaaDoor
