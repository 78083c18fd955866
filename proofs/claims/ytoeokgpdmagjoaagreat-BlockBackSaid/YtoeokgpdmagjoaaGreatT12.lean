import Derived.Test.YtoeokgpdmagjoaaGreatT11
/-
A part of the proof: steps of the walk and plain laws.
-/
set_option linter.unusedVariables false
namespace Go.Proofs.YtoeokgpdmagjoaaGreat
open Go
theorem closedBlockBack:joinedFacts Tryz.pinned.checked.prog 5 Tryz.f5 Rows.blockBackSpec Rows.blockBackRow=true:=by
 unfold joinedFacts
 rw [pf_laid,pf_rowed,pf_heard,pf_enter,pf_lifts,pf_make]
 kernel_rfl
end Go.Proofs.YtoeokgpdmagjoaaGreat
