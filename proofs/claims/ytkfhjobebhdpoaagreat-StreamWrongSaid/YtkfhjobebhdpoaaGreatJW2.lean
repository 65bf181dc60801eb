/- Stream: closed facts of a row, one by one. -/
import Derived.Test.YtkfhjobebhdpoaaGreatRows
import Derived.WalkKit
import Derived.ProofKit
set_option linter.unusedVariables false
set_option autoImplicit false
set_option maxRecDepth 100000
namespace Go.Proofs.YtkfhjobebhdpoaaGreat
theorem rjfW12 : (Rows.streamWrongRow.recurses == Tryz.prog.recurses 8) = true := by kernel_rfl
theorem rjfW13 : (Rows.streamWrongRow.named == Tryz.prog.varsNamed 8) = true := by kernel_rfl
end Go.Proofs.YtkfhjobebhdpoaaGreat
