/- Stream: closed facts of a row, one by one. -/
import Derived.Test.YtkfhjobebhdpoaaGreatRows
import Derived.WalkKit
import Derived.ProofKit
set_option linter.unusedVariables false
set_option linter.unusedSimpArgs false
set_option autoImplicit false
set_option maxRecDepth 100000
namespace Go.Proofs.YtkfhjobebhdpoaaGreat
theorem rjfR1 : (Rows.streamArraysRow.wf (OpenSpec.ofChange Rows.streamArraysSpec)) = true := by kernel_rfl
theorem rjfR2 : (laidOutB Tryz.prog) = true := by kernel_rfl
theorem rjfR3 : (mapsRowed Tryz.prog) = true := by kernel_rfl
theorem rjfR4 : (Tryz.f7.params.all (Tryz.prog.readableRec ·)) = true := by kernel_rfl
theorem rjfR5 : (namedTie Tryz.prog Rows.streamArraysRow.named Rows.streamArraysSpec.vars) = true := by kernel_rfl
theorem rjfR6 : (Rows.streamArraysRow.stops == []) = true := by kernel_rfl
theorem rjfR7 : (Tryz.prog.stops == []) = true := by kernel_rfl
theorem rjfR8 : (Rows.streamArraysRow.knobs == []) = true := by kernel_rfl
theorem rjfR9 : (Tryz.prog.stopKnobs == []) = true := by kernel_rfl
end Go.Proofs.YtkfhjobebhdpoaaGreat
