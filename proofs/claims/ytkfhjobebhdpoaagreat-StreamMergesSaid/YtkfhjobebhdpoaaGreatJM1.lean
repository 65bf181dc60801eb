/- Stream: closed facts of a row, one by one. -/
import Derived.Test.YtkfhjobebhdpoaaGreatRows
import Derived.WalkKit
import Derived.ProofKit
set_option linter.unusedVariables false
set_option autoImplicit false
set_option maxRecDepth 100000
namespace Go.Proofs.YtkfhjobebhdpoaaGreat
theorem rjfM10 : (Rows.streamMergesRow.inPlace == Tryz.prog.inPlace 10) = true := by kernel_rfl
theorem rjfM11 : (Rows.streamMergesRow.unfollowed == Tryz.prog.unfollowed 10) = true := by kernel_rfl
end Go.Proofs.YtkfhjobebhdpoaaGreat
