/- Stream: closed facts of a row, one by one. -/
import Derived.Test.YtkfhjobebhdpoaaGreatRows
import Derived.WalkKit
import Derived.ProofKit
set_option linter.unusedVariables false
set_option autoImplicit false
set_option maxRecDepth 100000
namespace Go.Proofs.YtkfhjobebhdpoaaGreat
theorem rjfW10 : (Rows.streamWrongRow.inPlace == Tryz.prog.inPlace 8) = true := by kernel_rfl
theorem rjfW11 : (Rows.streamWrongRow.unfollowed == Tryz.prog.unfollowed 8) = true := by kernel_rfl
end Go.Proofs.YtkfhjobebhdpoaaGreat
