/- Stream: closed facts of a row, one by one. -/
import Derived.Test.YtkfhjobebhdpoaaGreatRows
import Derived.WalkKit
import Derived.ProofKit
set_option linter.unusedVariables false
set_option autoImplicit false
set_option maxRecDepth 100000
namespace Go.Proofs.YtkfhjobebhdpoaaGreat
theorem rjfC10 : (Rows.streamClocksRow.inPlace == Tryz.prog.inPlace 5) = true := by kernel_rfl
theorem rjfC11 : (Rows.streamClocksRow.unfollowed == Tryz.prog.unfollowed 5) = true := by kernel_rfl
end Go.Proofs.YtkfhjobebhdpoaaGreat
