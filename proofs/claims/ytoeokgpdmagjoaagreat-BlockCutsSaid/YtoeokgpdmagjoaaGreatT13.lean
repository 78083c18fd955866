import Derived.Test.YtoeokgpdmagjoaaGreatT12
/-
A part of the proof: steps of the walk and plain laws.
-/
set_option linter.unusedVariables false
namespace Go.Proofs.YtoeokgpdmagjoaaGreat
open Go
theorem closedBlockCuts:joinedFacts Tryz.pinned.checked.prog 9 Tryz.f9 Rows.blockCutsSpec Rows.blockCutsRow=true:=by
 unfold joinedFacts
 rw [pf_laid,pf_rowed,pf_heard,pf_enter,pf_lifts,pf_make]
 kernel_rfl
end Go.Proofs.YtoeokgpdmagjoaaGreat
