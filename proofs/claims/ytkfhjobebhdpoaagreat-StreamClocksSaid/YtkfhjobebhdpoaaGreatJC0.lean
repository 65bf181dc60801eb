/- Stream: closed facts of a row, one by one. -/
import Derived.Test.YtkfhjobebhdpoaaGreatRows
import Derived.WalkKit
import Derived.ProofKit
set_option linter.unusedVariables false
set_option autoImplicit false
set_option maxRecDepth 100000
namespace Go.Proofs.YtkfhjobebhdpoaaGreat
theorem rjfC1 : (Rows.streamClocksRow.wf (OpenSpec.ofChange Rows.streamClocksSpec)) = true := by kernel_rfl
theorem rjfC2 : (laidOutB Tryz.prog) = true := by kernel_rfl
theorem rjfC3 : (mapsRowed Tryz.prog) = true := by kernel_rfl
theorem rjfC4 : (Tryz.f5.params.all (Tryz.prog.readableRec ·)) = true := by kernel_rfl
theorem rjfC5 : (namedTie Tryz.prog Rows.streamClocksRow.named Rows.streamClocksSpec.vars) = true := by kernel_rfl
theorem rjfC6 : (Rows.streamClocksRow.stops == []) = true := by kernel_rfl
theorem rjfC7 : (Tryz.prog.stops == []) = true := by kernel_rfl
theorem rjfC8 : (Rows.streamClocksRow.knobs == []) = true := by kernel_rfl
theorem rjfC9 : (Tryz.prog.stopKnobs == []) = true := by kernel_rfl
end Go.Proofs.YtkfhjobebhdpoaaGreat
