/- Stream: closed facts of a row, one by one. -/
import Derived.Test.YtkfhjobebhdpoaaGreatRows
import Derived.WalkKit
import Derived.ProofKit
set_option linter.unusedVariables false
set_option autoImplicit false
set_option maxRecDepth 100000
namespace Go.Proofs.YtkfhjobebhdpoaaGreat
theorem rjfX1 : (Rows.streamSumsRow.wf (OpenSpec.ofChange Rows.streamSumsSpec)) = true := by kernel_rfl
theorem rjfX2 : (laidOutB Tryz.prog) = true := by kernel_rfl
theorem rjfX3 : (mapsRowed Tryz.prog) = true := by kernel_rfl
theorem rjfX4 : (Tryz.f3.params.all (Tryz.prog.readableRec ·)) = true := by kernel_rfl
theorem rjfX5 : (namedTie Tryz.prog Rows.streamSumsRow.named Rows.streamSumsSpec.vars) = true := by kernel_rfl
theorem rjfX6 : (Rows.streamSumsRow.stops == []) = true := by kernel_rfl
theorem rjfX7 : (Tryz.prog.stops == []) = true := by kernel_rfl
theorem rjfX8 : (Rows.streamSumsRow.knobs == []) = true := by kernel_rfl
theorem rjfX9 : (Tryz.prog.stopKnobs == []) = true := by kernel_rfl
end Go.Proofs.YtkfhjobebhdpoaaGreat
