/- Stream: closed facts of a row, one by one. -/
import Derived.Test.YtkfhjobebhdpoaaGreatRows
import Derived.WalkKit
import Derived.ProofKit
set_option linter.unusedVariables false
set_option autoImplicit false
set_option maxRecDepth 100000
namespace Go.Proofs.YtkfhjobebhdpoaaGreat
theorem rjfO12 : (Rows.streamBothRow.recurses == Tryz.prog.recurses 11) = true := by kernel_rfl
theorem rjfO13 : (Rows.streamBothRow.named == Tryz.prog.varsNamed 11) = true := by kernel_rfl
end Go.Proofs.YtkfhjobebhdpoaaGreat
