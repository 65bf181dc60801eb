/- Stream: closed facts of a row, one by one. -/
import Derived.Test.YtkfhjobebhdpoaaGreatRows
import Derived.WalkKit
import Derived.ProofKit
set_option linter.unusedVariables false
set_option autoImplicit false
set_option maxRecDepth 100000
namespace Go.Proofs.YtkfhjobebhdpoaaGreat
theorem rjfA1 : (Rows.streamAutomataRow.wf (OpenSpec.ofChange Rows.streamAutomataSpec)) = true := by kernel_rfl
theorem rjfA2 : (laidOutB Tryz.prog) = true := by kernel_rfl
theorem rjfA3 : (mapsRowed Tryz.prog) = true := by kernel_rfl
theorem rjfA4 : (Tryz.f6.params.all (Tryz.prog.readableRec ·)) = true := by kernel_rfl
theorem rjfA5 : (namedTie Tryz.prog Rows.streamAutomataRow.named Rows.streamAutomataSpec.vars) = true := by kernel_rfl
theorem rjfA6 : (Rows.streamAutomataRow.stops == []) = true := by kernel_rfl
theorem rjfA7 : (Tryz.prog.stops == []) = true := by kernel_rfl
theorem rjfA8 : (Rows.streamAutomataRow.knobs == []) = true := by kernel_rfl
theorem rjfA9 : (Tryz.prog.stopKnobs == []) = true := by kernel_rfl
end Go.Proofs.YtkfhjobebhdpoaaGreat
