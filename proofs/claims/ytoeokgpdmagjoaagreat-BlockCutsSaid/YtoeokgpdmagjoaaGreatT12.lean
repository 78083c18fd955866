import Derived.Test.YtoeokgpdmagjoaaGreatRows
import Derived.ProofKit
import Derived.Test.YtoeokgpdmagjoaaGreatT11
/-
A part of the proof: steps of the walk and plain laws.
-/
set_option linter.unusedVariables false
namespace Go.Proofs.YtoeokgpdmagjoaaGreat
open Go
theorem pf_laid:laidOutB Tryz.pinned.checked.prog=true:=by kernel_rfl
theorem pf_rowed:mapsRowed Tryz.pinned.checked.prog=true:=by kernel_rfl
theorem pf_heard:Tryz.pinned.checked.prog.stopsHeard=true:=by kernel_rfl
theorem pf_enter:Tryz.pinned.checked.prog.mayEnter=true:=by kernel_rfl
theorem pf_lifts:Tryz.pinned.checked.prog.liftsFinal=false:=by kernel_rfl
theorem pf_make:Tryz.pinned.checked.prog.make=some Make.cut:=by kernel_rfl
end Go.Proofs.YtoeokgpdmagjoaaGreat
