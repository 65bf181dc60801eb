/- Stream: closed facts of a row, one by one. -/
import Derived.Test.YtkfhjobebhdpoaaGreatRows
import Derived.WalkKit
import Derived.ProofKit
set_option linter.unusedVariables false
set_option autoImplicit false
set_option maxRecDepth 100000
namespace Go.Proofs.YtkfhjobebhdpoaaGreat
theorem rjfW1 : (Rows.streamWrongRow.wf (OpenSpec.ofChange Rows.streamWrongSpec)) = true := by kernel_rfl
theorem rjfW2 : (laidOutB Tryz.prog) = true := by kernel_rfl
theorem rjfW3 : (mapsRowed Tryz.prog) = true := by kernel_rfl
theorem rjfW4 : (Tryz.f8.params.all (Tryz.prog.readableRec ·)) = true := by kernel_rfl
theorem rjfW5 : (namedTie Tryz.prog Rows.streamWrongRow.named Rows.streamWrongSpec.vars) = true := by kernel_rfl
theorem rjfW6 : (Rows.streamWrongRow.stops == []) = true := by kernel_rfl
theorem rjfW7 : (Tryz.prog.stops == []) = true := by kernel_rfl
theorem rjfW8 : (Rows.streamWrongRow.knobs == []) = true := by kernel_rfl
theorem rjfW9 : (Tryz.prog.stopKnobs == []) = true := by kernel_rfl
end Go.Proofs.YtkfhjobebhdpoaaGreat
