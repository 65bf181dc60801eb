/- Stream: closed facts of a row, one by one. -/
import Derived.Test.YtkfhjobebhdpoaaGreatRows
import Derived.WalkKit
import Derived.ProofKit
set_option linter.unusedVariables false
set_option autoImplicit false
set_option maxRecDepth 100000
namespace Go.Proofs.YtkfhjobebhdpoaaGreat
theorem rjfD1 : (Rows.streamDeepRow.wf (OpenSpec.ofChange Rows.streamDeepSpec)) = true := by kernel_rfl
theorem rjfD2 : (laidOutB Tryz.prog) = true := by kernel_rfl
theorem rjfD3 : (mapsRowed Tryz.prog) = true := by kernel_rfl
theorem rjfD4 : (Tryz.f9.params.all (Tryz.prog.readableRec ·)) = true := by kernel_rfl
theorem rjfD5 : (namedTie Tryz.prog Rows.streamDeepRow.named Rows.streamDeepSpec.vars) = true := by kernel_rfl
theorem rjfD6 : (Rows.streamDeepRow.stops == []) = true := by kernel_rfl
theorem rjfD7 : (Tryz.prog.stops == []) = true := by kernel_rfl
theorem rjfD8 : (Rows.streamDeepRow.knobs == []) = true := by kernel_rfl
theorem rjfD9 : (Tryz.prog.stopKnobs == []) = true := by kernel_rfl
end Go.Proofs.YtkfhjobebhdpoaaGreat
