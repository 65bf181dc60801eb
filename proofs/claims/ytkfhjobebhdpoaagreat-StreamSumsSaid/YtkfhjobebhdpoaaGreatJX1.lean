/- Stream: closed facts of a row, one by one. -/
import Derived.Test.YtkfhjobebhdpoaaGreatRows
import Derived.WalkKit
import Derived.ProofKit
set_option linter.unusedVariables false
set_option autoImplicit false
set_option maxRecDepth 100000
namespace Go.Proofs.YtkfhjobebhdpoaaGreat
theorem rjfX10 : (Rows.streamSumsRow.inPlace == Tryz.prog.inPlace 3) = true := by kernel_rfl
theorem rjfX11 : (Rows.streamSumsRow.unfollowed == Tryz.prog.unfollowed 3) = true := by kernel_rfl
end Go.Proofs.YtkfhjobebhdpoaaGreat
