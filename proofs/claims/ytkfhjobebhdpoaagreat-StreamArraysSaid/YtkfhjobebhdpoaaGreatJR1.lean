/- Stream: closed facts of a row, one by one. -/
import Derived.Test.YtkfhjobebhdpoaaGreatRows
import Derived.WalkKit
import Derived.ProofKit
set_option linter.unusedVariables false
set_option linter.unusedSimpArgs false
set_option autoImplicit false
set_option maxRecDepth 100000
namespace Go.Proofs.YtkfhjobebhdpoaaGreat
theorem rjfR10 : (Rows.streamArraysRow.inPlace == Tryz.prog.inPlace 7) = true := by kernel_rfl
theorem rjfR11 : (Rows.streamArraysRow.unfollowed == Tryz.prog.unfollowed 7) = true := by kernel_rfl
end Go.Proofs.YtkfhjobebhdpoaaGreat
