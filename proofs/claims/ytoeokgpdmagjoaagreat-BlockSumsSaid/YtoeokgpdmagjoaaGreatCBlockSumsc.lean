import Derived.Test.YtoeokgpdmagjoaaGreatCF
/-
The closed facts of BlockSums.
-/
namespace Go.Proofs.YtoeokgpdmagjoaaGreat
open Go
theorem closedBlockSums : joinedFacts Tryz.pinned.checked.prog 8 Tryz.f8 Rows.blockSumsSpec Rows.blockSumsRow = true := by
  unfold joinedFacts
  rw [pf_laid, pf_rowed, pf_heard, pf_enter, pf_lifts, pf_make]
  kernel_rfl
end Go.Proofs.YtoeokgpdmagjoaaGreat
