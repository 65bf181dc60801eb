/- Stream: closed facts of a row, one by one. -/
import Derived.Test.YtkfhjobebhdpoaaGreatRows
import Derived.WalkKit
import Derived.ProofKit
set_option linter.unusedVariables false
set_option autoImplicit false
set_option maxRecDepth 100000
namespace Go.Proofs.YtkfhjobebhdpoaaGreat
theorem rjf1 : (Rows.streamResetsRow.wf (OpenSpec.ofChange Rows.streamResetsSpec)) = true := by kernel_rfl
theorem rjf2 : (laidOutB Tryz.prog) = true := by kernel_rfl
theorem rjf3 : (mapsRowed Tryz.prog) = true := by kernel_rfl
theorem rjf4 : (Tryz.f4.params.all (Tryz.prog.readableRec ·)) = true := by kernel_rfl
theorem rjf5 : (namedTie Tryz.prog Rows.streamResetsRow.named Rows.streamResetsSpec.vars) = true := by kernel_rfl
theorem rjf6 : (Rows.streamResetsRow.stops == []) = true := by kernel_rfl
theorem rjf7 : (Tryz.prog.stops == []) = true := by kernel_rfl
theorem rjf8 : (Rows.streamResetsRow.knobs == []) = true := by kernel_rfl
theorem rjf9 : (Tryz.prog.stopKnobs == []) = true := by kernel_rfl
end Go.Proofs.YtkfhjobebhdpoaaGreat
