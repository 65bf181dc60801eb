/- Stream: closed facts of a row, one by one. -/
import Derived.Test.YtkfhjobebhdpoaaGreatRows
import Derived.WalkKit
import Derived.ProofKit
set_option linter.unusedVariables false
set_option autoImplicit false
set_option maxRecDepth 100000
namespace Go.Proofs.YtkfhjobebhdpoaaGreat
theorem rjfM1 : (Rows.streamMergesRow.wf (OpenSpec.ofChange Rows.streamMergesSpec)) = true := by kernel_rfl
theorem rjfM2 : (laidOutB Tryz.prog) = true := by kernel_rfl
theorem rjfM3 : (mapsRowed Tryz.prog) = true := by kernel_rfl
theorem rjfM4 : (Tryz.f10.params.all (Tryz.prog.readableRec ·)) = true := by kernel_rfl
theorem rjfM5 : (namedTie Tryz.prog Rows.streamMergesRow.named Rows.streamMergesSpec.vars) = true := by kernel_rfl
theorem rjfM6 : (Rows.streamMergesRow.stops == []) = true := by kernel_rfl
theorem rjfM7 : (Tryz.prog.stops == []) = true := by kernel_rfl
theorem rjfM8 : (Rows.streamMergesRow.knobs == []) = true := by kernel_rfl
theorem rjfM9 : (Tryz.prog.stopKnobs == []) = true := by kernel_rfl
end Go.Proofs.YtkfhjobebhdpoaaGreat
