import Derived.Test.YtoeokgpdmagjoaaGreatCF
/-
The closed facts of BlockRefuses.
-/
namespace Go.Proofs.YtoeokgpdmagjoaaGreat
open Go
theorem closedR : joinedFacts Tryz.pinned.checked.prog 7 Tryz.f7 Rows.blockRefusesSpec Rows.blockRefusesRow = true := by
  unfold joinedFacts
  rw [pf_laid, pf_rowed, pf_heard, pf_enter, pf_lifts, pf_make]
  kernel_rfl
end Go.Proofs.YtoeokgpdmagjoaaGreat
