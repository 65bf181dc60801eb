/- Stream: closed facts of a row, one by one. -/
import Derived.Test.YtkfhjobebhdpoaaGreatRows
import Derived.WalkKit
import Derived.ProofKit
set_option linter.unusedVariables false
set_option autoImplicit false
set_option maxRecDepth 100000
namespace Go.Proofs.YtkfhjobebhdpoaaGreat
theorem rjfA10 : (Rows.streamAutomataRow.inPlace == Tryz.prog.inPlace 6) = true := by kernel_rfl
theorem rjfA11 : (Rows.streamAutomataRow.unfollowed == Tryz.prog.unfollowed 6) = true := by kernel_rfl
end Go.Proofs.YtkfhjobebhdpoaaGreat
