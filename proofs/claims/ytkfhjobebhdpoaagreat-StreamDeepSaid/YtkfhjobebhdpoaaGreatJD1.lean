/- Stream: closed facts of a row, one by one. -/
import Derived.Test.YtkfhjobebhdpoaaGreatRows
import Derived.WalkKit
import Derived.ProofKit
set_option linter.unusedVariables false
set_option autoImplicit false
set_option maxRecDepth 100000
namespace Go.Proofs.YtkfhjobebhdpoaaGreat
theorem rjfD10 : (Rows.streamDeepRow.inPlace == Tryz.prog.inPlace 9) = true := by kernel_rfl
theorem rjfD11 : (Rows.streamDeepRow.unfollowed == Tryz.prog.unfollowed 9) = true := by kernel_rfl
end Go.Proofs.YtkfhjobebhdpoaaGreat
