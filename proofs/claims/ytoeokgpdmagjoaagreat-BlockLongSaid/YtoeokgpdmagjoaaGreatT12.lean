import Derived.Test.YtoeokgpdmagjoaaGreatT11
/-
A part of the proof: steps of the walk and plain laws.
-/
set_option linter.unusedVariables false
namespace Go.Proofs.YtoeokgpdmagjoaaGreat
open Go
theorem closedBlockLong:joinedFacts Tryz.pinned.checked.prog 6 Tryz.f6 Rows.blockLongSpec Rows.blockLongRow=true:=by
 unfold joinedFacts
 rw [pf_laid,pf_rowed,pf_heard,pf_enter,pf_lifts,pf_make]
 kernel_rfl
end Go.Proofs.YtoeokgpdmagjoaaGreat
