/- Stream: closed facts of a row, one by one. -/
import Derived.Test.YtkfhjobebhdpoaaGreatRows
import Derived.WalkKit
import Derived.ProofKit
set_option linter.unusedVariables false
set_option autoImplicit false
set_option maxRecDepth 100000
namespace Go.Proofs.YtkfhjobebhdpoaaGreat
theorem rjfO1 : (Rows.streamBothRow.wf (OpenSpec.ofChange Rows.streamBothSpec)) = true := by kernel_rfl
theorem rjfO2 : (laidOutB Tryz.prog) = true := by kernel_rfl
theorem rjfO3 : (mapsRowed Tryz.prog) = true := by kernel_rfl
theorem rjfO4 : (Tryz.f11.params.all (Tryz.prog.readableRec ·)) = true := by kernel_rfl
theorem rjfO5 : (namedTie Tryz.prog Rows.streamBothRow.named Rows.streamBothSpec.vars) = true := by kernel_rfl
theorem rjfO6 : (Rows.streamBothRow.stops == []) = true := by kernel_rfl
theorem rjfO7 : (Tryz.prog.stops == []) = true := by kernel_rfl
theorem rjfO8 : (Rows.streamBothRow.knobs == []) = true := by kernel_rfl
theorem rjfO9 : (Tryz.prog.stopKnobs == []) = true := by kernel_rfl
end Go.Proofs.YtkfhjobebhdpoaaGreat
