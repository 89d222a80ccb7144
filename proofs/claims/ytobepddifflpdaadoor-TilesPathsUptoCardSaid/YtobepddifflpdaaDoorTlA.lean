import Derived.Test.YtobepddifflpdaaDoorProg
import Derived.Test.YtobepddifflpdaaDoorWd
set_option linter.unusedVariables false
namespace Go.Proofs.YtobepddifflpdaaDoor
open Go Go.RowKit Go.Lib

/-- has a tile a path? -/
def fitT (l i w : Int) : Bool := decide (0 ≤ l) && decide (l ≤ 30) && decide (0 ≤ i) && decide (i ≤ 1099511627776) && decide (1 ≤ w) && decide (w ≤ 4)

set_option maxRecDepth 100000 in
theorem fit_any (l i x : Int) (w : World) : Calls Tryd.prog 37 #[.agg #[.int .i64 l, .int .i64 i, .int .i64 x]] w fun e w' => e = .returned (.bool (fitT l i x)) ∧ Below w.heap.size w w' := by
  go_enter Tryd.func37, Tryd.ntmps37
  go_wp2_with fail
  all_goals
    go_ret
    refine ⟨congrArg (fun b => Ending.returned (Value.bool b)) ?_, (Below.refl _ _).alloc (Nat.le_refl _) _⟩
    rw [Bool.eq_iff_iff]
    simp [fitT]
    try omega

set_option maxRecDepth 100000 in
theorem reffit_any (l i x : Int) (w : World) : Calls Tryd.prog 41 #[.agg #[.int .i64 l, .int .i64 i, .int .i64 x]] w fun e w' => e = .returned (.bool (fitT l i x)) ∧ Below w.heap.size w w' := by
  go_enter Tryd.func41, Tryd.ntmps41
  go_wp2_with fail
  all_goals
    go_ret
    refine ⟨congrArg (fun b => Ending.returned (Value.bool b)) ?_, (Below.refl _ _).alloc (Nat.le_refl _) _⟩
    rw [Bool.eq_iff_iff]
    simp [fitT]
    try omega

end Go.Proofs.YtobepddifflpdaaDoor
